/- The abstract machine: from operations to instructions; calls; regions in the text's order. -/
import Derived.Test.YtnhgeocdffhkjaaDoorAbsO
namespace Go.Proofs.YtnhgeocdffhkjaaDoor
namespace Abs
open Go.RowKit
set_option linter.unusedVariables false
set_option linter.unusedSimpArgs false

def sameV : Value → Value → Bool
  | .int k a, .int k' b => decide (k = k') && decide (a = b)
  | .bool a, .bool b => a == b
  | .string a, .string b => decide (a.data.toList = b.data.toList)
  | .slice none 0 0, .slice none 0 0 => true
  | _, _ => false
theorem sameV_eq {a b : Value} (h : sameV a b = true) : a = b := by
  unfold sameV at h
  split at h
  · simp at h; obtain ⟨rfl, rfl⟩ := h; rfl
  · simp at h; rw [h]
  · rename_i x y
    have h := of_decide_eq_true h
    obtain ⟨⟨x⟩⟩ := x
    obtain ⟨⟨y⟩⟩ := y
    simp only at h
    rw [h]
  · rfl
  · cases h
def sameVs : List Value → List Value → Bool
  | [], [] => true
  | a :: l, b :: m => sameV a b && sameVs l m
  | _, _ => false
theorem sameVs_eq : ∀ {l m : List Value}, sameVs l m = true → l = m
  | [], [], _ => rfl
  | [], _ :: _, h => by cases h
  | _ :: _, [], h => by cases h
  | a :: l, b :: m, h => by
    rw [sameVs, Bool.and_eq_true] at h
    rw [sameV_eq h.1, sameVs_eq h.2]
/-- What an array holds at last. -/
def baseT (P : Program) : Nat → TypeId → TypeId
  | 0, t => t
  | k + 1, t => match P.underlying t with
    | some (.array _ e) => baseT P k e
    | _ => t
def isArr (P : Program) (t : TypeId) : Bool := match P.underlying t with
  | some (.array _ _) => true
  | _ => false
/-- An array of pointers. -/
def isPtrB (P : Program) (t : TypeId) : Bool := match P.underlying (baseT P 4 t) with
  | some (.pointer _) => true
  | _ => false
def cAlloc (P : Program) (t : TypeId) (z : Value) : Option I :=
  if (isArr P t && !isPtrB P t) = true then match (P.info? (baseT P 4 t)).bind (·.zero) with
    | some b => if sameVs z.cells.toList (flatN b (z.cells.size / b.cells.size)) = true ∧ z.cells.size / b.cells.size ≤ maxLen ∧ 0 < b.cells.size ∧ b.cells.all (·.oneCell') = true then some (.alloca t b.cells.size (z.cells.size / b.cells.size) b) else none
    | none => none
  else if 0 < z.cells.size ∧ z.cells.all (·.oneCell') = true then some (.alloc t z) else none
/-- The two operands of a make are one. -/
def sameOp : Operand → Operand → Bool
  | .tmp a, .tmp b => a == b
  | .const (.int .i64 a), .const (.int .i64 b) => a == b
  | _, _ => false

/-- The places of a struct's, an array's parts. -/
def places (P : Program) (t : TypeId) : Option (List (Nat × Nat)) :=
  match P.underlying t with
  | some (.struct fs) => fs.toList.mapM fun f => (agT P f.type).map fun a => (f.offset, a.2)
  | some (.array n e) => (agT P e).map fun a => (List.range n).map fun i => (i * a.2, a.2)
  | _ => none

def cParts (pl : List (Nat × Nat)) : List (Nat × Operand) → Option (List (Nat × Nat × Opd))
  | [] => some []
  | (i, x) :: r => match pl[i]?, cParts pl r with
    | some (o, s), some l => some ((o, s, cOpd x) :: l)
    | _, _ => none

def isNilC : Operand → Bool
  | .const (.slice none 0 0) => true
  | _ => false
theorem isNilC_eq {y : Operand} (h : isNilC y = true) : y = .const (.slice none 0 0) := by
  unfold isNilC at h
  split at h
  · rfl
  · cases h
def negOf : BinOp → Option Bool
  | .eql => some false
  | .neq => some true
  | _ => none
theorem negOf_eq {op : BinOp} {neg : Bool} (h : negOf op = some neg) : op = (if neg then .neq else .eql) := by
  cases op <;> simp [negOf] at h <;> subst h <;> rfl

def cBin (P : Program) (op : BinOp) (xt : TypeId) (x y : Operand) : Option I :=
  match P.underlying xt with
  | some (.int _) => some (.bin op (cOpd x) (cOpd y))
  | some .string => some (.bin op (cOpd x) (cOpd y))
  | some .bool => (negOf op).map fun neg => .beq neg (cOpd x) (cOpd y)
  | some (.slice _) => if isNilC y then (negOf op).map fun neg => .nilq neg (cOpd x) else none
  | some (.struct fs) => match cmpNest P fs.toList with
    | some l => if P.eqGuardType P.depth xt = false ∧ P.stoodInHeld xt = false then (negOf op).map fun neg => .aeq neg l (cOpd x) (cOpd y) else none
    | none => none
  | _ => none

def cLen (P : Program) : List Operand → List TypeId → Option I
  | [x], [t] => match P.underlying t with
    | some (.slice _) => some (.len (cOpd x))
    | some .string => some (.slen (cOpd x))
    | _ => none
  | _, _ => none
def cApp (P : Program) : List Operand → List TypeId → Option I
  | [s, x], [t, t'] => if t = t' then match P.underlying t with
      | some (.slice et) => match P.info? et with
        | some i => match i.zero with
          | some z => if z.cells.size = i.size ∧ 0 < i.size then some (.app et i.size i.bytes (cOpd s) (cOpd x)) else none
          | none => none
        | none => none
      | _ => none
    else match P.underlying t, P.underlying t' with
      | some (.slice et), some .string => match P.info? et with
        | some i => match i.zero with
          | some z => if z.cells.size = i.size ∧ i.size = 1 then some (.apps et i.bytes (cOpd s) (cOpd x)) else none
          | none => none
        | none => none
      | _, _ => none
  | _, _ => none
def cCopy (P : Program) : List Operand → List TypeId → Option I
  | [d, s], [t, _] => match P.underlying t with
    | some (.slice et) => match P.info? et with
      | some i => if 0 < i.size then some (.copy i.size (cOpd d) (cOpd s)) else none
      | none => none
    | _ => none
  | _, _ => none
def cTwo (mx : Bool) : List Operand → Option I
  | [x, y] => some (if mx then .max2 (cOpd x) (cOpd y) else .min2 (cOpd x) (cOpd y))
  | _ => none
def cBuiltin (P : Program) (b : Builtin) (as : List Operand) (ts : List TypeId) : Option I :=
  match b with
  | .len => cLen P as ts
  | .append => cApp P as ts
  | .copy => cCopy P as ts
  | .min => cTwo false as
  | .max => cTwo true as
  | _ => none
def isPtrT (P : Program) (t : TypeId) : Bool := match P.underlying t with
  | some (.pointer _) => true
  | _ => false
/-- Numbers, truth values, texts. -/
def isScT (P : Program) (t : TypeId) : Bool := match P.underlying t with
  | some (.int _) => true
  | some .bool => true
  | some .string => true
  | _ => false
/-- A function that a call enters. -/
def callable (P : Program) (f : FuncId) : Bool := match P.funcs[f]? with
  | some fn => fn.body.isSome && !(fn.name == "runtime.NumGoroutine")
  | none => false
theorem callable_spec {P : Program} {f : FuncId} (h : callable P f = true) : ∃ fn, P.funcs[f]? = some fn ∧ fn.body.isSome = true ∧ (fn.name == "runtime.NumGoroutine") = false := by
  unfold callable at h
  split at h
  · rename_i fn hfn
    rw [Bool.and_eq_true] at h
    exact ⟨fn, hfn, h.1, by simpa using h.2⟩
  · cases h
def known (P : Program) : Operand → Bool
  | .func f => callable P f
  | _ => true
def cCall (P : Program) (c : Call) : Option I :=
  match c.callee with
  | .builtin b => cBuiltin P b c.args.toList c.argTypes.toList
  | .value x => if known P x = true then some (.call (cOpd x) (c.args.toList.map cOpd)) else none
  | _ => none

/-- An array of two numbers or more. -/
def isArr2 (P : Program) (t : TypeId) : Option IntKind := match P.underlying t with
  | some (.array n e) => if Nat.ble 2 n = true then (match P.underlying e with | some (.int k) => some k | _ => none) else none
  | _ => none
/-- An operation as an instruction. 'lm': a slice's literal is kept for good. -/
def cI (P : Program) (lm : Bool) : Op → Option I
  | .move x => some (.mov (cOpd x))
  | .assign x => some (.mov (cOpd x))
  | .pick c a b => some (.pick (cOpd c) (cOpd a) (cOpd b))
  | .binOp op xt x y _ => cBin P op xt x y
  | .unOp op _ x => some (.un op (cOpd x))
  | .convert s d x => match P.underlying s, P.underlying d with
    | some (.int _), some (.int k) => some (.conv k (cOpd x))
    | some (.slice e), some .string => match P.underlying e with
      | some (.int .u8) => some (.b2s (cOpd x))
      | _ => none
    | some .string, some (.slice e) => match P.underlying e with
      | some (.int .u8) => some (.s2b e (cOpd x))
      | _ => none
    | _, _ => none
  | .field t x f => match P.underlying t with
    | some (.struct fs) => match fs[f]? with
      | some fd => match agT P fd.type with
        | some (ag, sz) => some (.fld fd.offset sz ag (cOpd x))
        | none => none
      | none => none
    | _ => none
  | .extract x i => some (.ext i (cOpd x))
  | .nilCheck x => some (.nck (cOpd x))
  | .fieldAddr t x f => match P.underlying t with
    | some (.struct fs) => match fs[f]? with
      | some fd => match agT P fd.type with
        | some (_, sz) => if sz ≠ 0 then some (.faddr fd.offset (cOpd x)) else none
        | none => none
      | none => none
    | _ => none
  | .indexAddr t x i => match P.underlying t with
    | some (.slice et) => match agT P et with
      | some (_, sz) => some (.iaddr sz (cOpd x) (cOpd i))
      | none => none
    | some (.array n et) => match P.info? et, P.info? (baseT P 4 et) with
      | some e, some b => if e.size = e.size / b.size * b.size then some (.aaddr b.size (e.size / b.size) n (cOpd x) (cOpd i)) else none
      | _, _ => none
    | _ => none
  | .load t x => match agT P t with
    | some (ag, sz) => some (.load sz ag (cOpd x))
    | none => none
  | .store t x y => match agT P t with
    | some (_, sz) => if 0 < sz then some (.store sz (cOpd x) (cOpd y)) else none
    | none => none
  | .slice t x lo hi none => match P.underlying t with
    | some (.slice et) => match agT P et with
      | some (_, sz) => some (.slice sz (cOpd x) (lo.map cOpd) (hi.map cOpd))
      | none => none
    | some .string => some (.sslice (cOpd x) (lo.map cOpd) (hi.map cOpd))
    | some (.array n et) => match P.info? et with
      | some e => if lm = true then (if e.size = 1 then some (.aslf n (cOpd x) (lo.map cOpd) (hi.map cOpd)) else none) else some (.aslice e.size n (cOpd x) (lo.map cOpd) (hi.map cOpd))
      | none => none
    | _ => none
  | .slice t x none (some hi) (some mx) => match P.underlying t with
    | some (.slice et) => match agT P et with
      | some (_, sz) => some (.slice3 sz (cOpd x) (cOpd hi) (cOpd mx))
      | none => none
    | _ => none
  | .index t x i => match P.underlying t with
    | some .string => some (.idx (cOpd x) (cOpd i))
    | some (.array n et) => match agT P et with
      | some (ag, sz) => some (.aidx sz ag n (cOpd x) (cOpd i))
      | none => none
    | _ => none
  | .makeFunc (.func f) first cs => if first = #[] then some (.clo f (cs.toList.map cOpd)) else none
  | .box t x => match agT P t with
    | some (_, sz) => if 0 < sz then (match isArr2 P t with | some k => some (.boxz t sz k (cOpd x)) | none => some (.box t sz (cOpd x))) else none
    | none => none
  | .alloc t => match P.info? t with
    | some i => match i.zero with
      | some z => cAlloc P t z
      | none => none
    | none => none
  | .makeSlice t l c => if sameOp l c then match P.underlying t with
      | some (.slice et) => match P.info? et with
        | some i => match i.zero with
          | some z => if z.cells.size = i.size ∧ 0 < i.size ∧ z.cells.all (·.oneCell') = true then some (.mk et i.size i.bytes z (cOpd l)) else none
          | none => none
        | none => none
      | _ => none
    else match P.underlying t with
      | some (.slice et) => match P.info? et with
        | some i => match i.zero with
          | some z => if z.cells.size = i.size ∧ 0 < i.size ∧ z.cells.all (·.oneCell') = true then some (.mk2 et i.size i.bytes z (cOpd l) (cOpd c)) else none
          | none => none
        | none => none
      | _ => none
  | .makeMap t hint => match P.underlying t with
    | some (.map _ _) => some (.mmk t (hint.map cOpd))
    | _ => none
  | .lookup t x k ok => match P.underlying t with
    | some (.map kt et) => match cKT P kt, P.info? et with
      | some q, some i => match i.zero with
        | some z => if z.oneCell' = true then some (.mget q ok z (cOpd x) (cOpd k)) else none
        | none => none
      | _, _ => none
    | _ => none
  | .mapUpdate t x k y => match P.underlying t with
    | some (.map kt _) => match cKT P kt with
      | some q => some (.mput q (cOpd x) (cOpd k) (cOpd y))
      | none => none
    | _ => none
  | .insert t x k y => match P.underlying t with
    | some (.map kt _) => match cKT P kt with
      | some q => some (.mput q (cOpd x) (cOpd k) (cOpd y))
      | none => none
    | _ => none
  | .buildSlice t n parts => match P.underlying t with
    | some (.slice et) => match P.info? et with
      | some i => match i.zero with
        | some z => if z.cells.size = i.size ∧ 0 < i.size ∧ parts.toList.map (·.1) = List.range parts.size ∧ n = parts.size ∧ parts.size * i.size ≤ 2 ^ 24 then
            (if lm then some (.blist et i.size (parts.toList.map fun p => cOpd p.2)) else if isPtrT P et then (if i.size = 1 then some (.bvec et (parts.toList.map fun p => cOpd p.2)) else none) else if isScT P et && Nat.beq i.size 1 then some (.bsc et (parts.toList.map fun p => cOpd p.2)) else some (.bslice et i.size (parts.toList.map fun p => cOpd p.2)))
          else none
        | none => none
      | none => none
    | _ => none
  | .build t parts => match P.info? t with
    | some i => match i.zero, places P t with
      | some (.agg z), some pl => if z.toList.all (·.oneCell') = true then (cParts pl parts.toList).map fun qs => .build z.toList qs else none
      | _, _ => none
    | none => none
  | .call c => cCall P c
  | _ => none

section
variable {P : Program} {Gl : Nat → Option (List AV)} {F : Addr → Option Value} {own : List Ent} {B : Nat} {w0 : W0} {σ : St} {act : Act} {w : World}

theorem cParts_sound {pl : List (Nat × Nat)} : ∀ (ps : List (Nat × Operand)) (qs : List (Nat × Nat × Opd)), cParts pl ps = some qs → ps.length = qs.length ∧ ∀ (k : Nat) (p : Nat × Operand) (q : Nat × Nat × Opd), ps[k]? = some p → qs[k]? = some q → pl[p.1]? = some (q.1, q.2.1) ∧ q.2.2 = cOpd p.2 := by
  intro ps
  induction ps with
  | nil => intro qs h; cases h; exact ⟨rfl, fun k p q a => by simp at a⟩
  | cons p ps ih =>
    intro qs h
    obtain ⟨i, x⟩ := p
    simp only [cParts] at h
    split at h
    · rename_i o s l h1 h2
      cases h
      obtain ⟨l1, l2⟩ := ih l h2
      refine ⟨by simp [l1], fun k p q a b => ?_⟩
      cases k with
      | zero => simp at a b; subst a b; exact ⟨h1, rfl⟩
      | succ k => simp at a b; exact l2 k p q a b
    · cases h

theorem fill_mono {p q : Nat → Option (Nat × Nat)} (h : ∀ i x, p i = some x → q i = some x) : ∀ (l : List (Nat × Value)) (z ds : Array Value), Instr.fill p z l = some ds → Instr.fill q z l = some ds := by
  intro l
  induction l with
  | nil => intro z ds hf; exact hf
  | cons a l ih =>
    intro z ds hf
    obtain ⟨i, v⟩ := a
    unfold Instr.fill at hf ⊢
    cases hp : p i with
    | none => rw [hp] at hf; cases hf
    | some x =>
      rw [hp] at hf
      rw [h i x hp]
      obtain ⟨off, size⟩ := x
      simp only at hf ⊢
      split at hf
      · cases hf
      · rename_i hc; rw [if_neg hc]; exact ih _ _ hf
theorem run_places {t : TypeId} {ti : TypeInfo} {z : Array Value} (hti : P.info? t = some ti) (hz : ti.zero = some (.agg z)) {pl : List (Nat × Nat)} (hpl : places P t = some pl) (ps : Array (Nat × Value)) (ds : Array Value)
    (hf : Instr.fill (fun i => pl[i]?) z ps.toList = some ds) : (Instr.build t ps).run P w = .ok (.agg ds) w := by
  unfold places at hpl
  split at hpl
  · rename_i fs ht
    have key : ∀ (l : List Field) (pl : List (Nat × Nat)), (l.mapM fun f => (agT P f.type).map fun a => (f.offset, a.2)) = some pl → (l.mapM (m := Sem) fun f => do pure (f.offset, ← sizeOf f.type)).run P w = .ok pl w := by
      intro l
      induction l with
      | nil => intro pl h; cases h; rfl
      | cons f l ih =>
        intro pl h
        rw [List.mapM_cons] at h ⊢
        cases ha : agT P f.type with
        | none => rw [ha] at h; cases h
        | some a =>
          rw [ha] at h
          simp only [Option.map_some, Option.pure_def, Option.bind_eq_bind, Option.bind_some] at h
          cases hl : (l.mapM fun f => (agT P f.type).map fun a => (f.offset, a.2)) with
          | none => rw [hl] at h; cases h
          | some pl' =>
            rw [hl] at h
            cases h
            have := ih pl' hl
            obtain ⟨ag, sz⟩ := a
            simp only [Sem.run_bind, Result.andThen_ok, Sem.run_pure, (run_agT ha w).2, this]
    have hk := key fs.toList pl hpl
    unfold Instr.build
    have e1 : (fs.mapM (m := Sem) fun f => do pure (f.offset, ← sizeOf f.type)).run P w = .ok pl.toArray w := by
      rw [Array.mapM_eq_mapM_toList]
      simp only [Sem.run_map, hk, Result.andThen_ok]
    simp only [Sem.run_bind, zeroValue, typeInfo, run_program, Result.andThen_ok, hti, Sem.run_pure, hz, run_underlying ht, e1]
    have e2 : (fun (i : Nat) => (pl.toArray)[i]?) = fun i => pl[i]? := by funext i; simp
    simp only [Value.cells, e2, hf]
    rfl
  · rename_i n e ht
    cases ha : agT P e with
    | none => rw [ha] at hpl; cases hpl
    | some a =>
      obtain ⟨ag, sz⟩ := a
      rw [ha] at hpl
      simp only [Option.map_some, Option.some.injEq] at hpl
      subst hpl
      have hf' : Instr.fill (fun i => some (i * sz, sz)) z ps.toList = some ds := fill_mono (fun i q hq => by
        rw [List.getElem?_map] at hq
        cases hr : (List.range n)[i]? with
        | none => rw [hr] at hq; cases hq
        | some k =>
          rw [hr] at hq
          have hk : k = i := by
            have := (List.getElem?_eq_some_iff.1 hr).2
            simpa using this.symm
          subst hk
          exact hq) _ _ _ hf
      unfold Instr.build
      simp only [Sem.run_bind, zeroValue, typeInfo, run_program, Result.andThen_ok, hti, Sem.run_pure, hz, run_underlying ht, (run_agT ha w).2]
      simp only [Value.cells, hf']
      rfl
  · cases hpl

theorem zip_parts {α : Type} : ∀ (l : List (Nat × α)) (k : Nat), l.map (·.1) = List.range' k l.length → l = ((l.map (·.2)).zipIdx k).map fun p => (p.2, p.1) := by
  intro l
  induction l with
  | nil => intro k _; rfl
  | cons p l ih =>
    intro k h
    obtain ⟨i, x⟩ := p
    simp only [List.map_cons, List.length_cons, List.range'_succ, List.cons.injEq] at h
    obtain ⟨rfl, h2⟩ := h
    simp only [List.map_cons, List.zipIdx_cons, List.cons.injEq, true_and]
    exact ih (i + 1) h2

/-- Each operation does as its instruction's step says. -/
theorem step_ok (h : Inv Gl F own B w0 σ act w) {lm : Bool} {o : Oper} {i : I} (hc : cI P lm o.op = some i) {p : Prop} {r : AV} {h' : List AObj} (hs : step Gl σ i = some (p, r, h')) (hp : p) : Ok1 P Gl B w0 σ act w o r h' := by
  cases ho : o.op with
  | move x =>
    rw [ho] at hc; cases hc
    obtain ⟨_, h2⟩ := Prod.mk.inj (Option.some.inj hs); obtain ⟨rfl, rfl⟩ := Prod.mk.inj h2
    exact ok_mov h (.inl ho)
  | assign x =>
    rw [ho] at hc; cases hc
    obtain ⟨_, h2⟩ := Prod.mk.inj (Option.some.inj hs); obtain ⟨rfl, rfl⟩ := Prod.mk.inj h2
    exact ok_mov h (.inr ho)
  | pick c a b => rw [ho] at hc; cases hc; exact ok_pick h ho hs hp
  | binOp op xt x y yt =>
    rw [ho] at hc
    simp only [cI, cBin] at hc
    have bin : some (I.bin op (cOpd x) (cOpd y)) = some i → Ok1 P Gl B w0 σ act w o r h' := by
      intro hc
      cases hc
      simp only [step] at hs
      split at hs
      · rename_i a b hx hy
        cases hb : binV op a b with
        | none => rw [hb] at hs; cases hs
        | some q =>
          obtain ⟨p', v⟩ := q
          rw [hb] at hs
          obtain ⟨rfl, h2⟩ := Prod.mk.inj (Option.some.inj hs); obtain ⟨rfl, rfl⟩ := Prod.mk.inj h2
          exact ok_bin h ho hx hy hb hp
      · cases hs
    split at hc
    · exact bin hc
    · exact bin hc
    · rename_i ht
      have key : ∀ neg, op = (if neg then .neq else .eql) → some (I.beq neg (cOpd x) (cOpd y)) = some i → Ok1 P Gl B w0 σ act w o r h' := by
        intro neg hop hc
        cases hc
        simp only [step] at hs
        split at hs
        · rename_i a b hx hy
          obtain ⟨_, h2⟩ := Prod.mk.inj (Option.some.inj hs); obtain ⟨rfl, rfl⟩ := Prod.mk.inj h2
          exact ok_beq h (by rw [ho, hop]) ht hx hy
        · cases hs
      cases hn : negOf op with
      | none => rw [hn] at hc; cases hc
      | some neg => rw [hn] at hc; exact key neg (negOf_eq hn) hc
    · rename_i et ht
      split at hc
      · rename_i hnil
        have hnil := isNilC_eq hnil
        cases hn : negOf op with
        | none => rw [hn] at hc; cases hc
        | some neg =>
          rw [hn] at hc
          cases hc
          exact ok_nilq (neg := neg) h (by rw [ho, hnil, negOf_eq hn]) ht hs hp
      · cases hc
    · rename_i fs ht
      cases hl : cmpNest P fs.toList with
      | none => rw [hl] at hc; cases hc
      | some l =>
        rw [hl] at hc
        simp only at hc
        split at hc
        · rename_i hcond
          have key : ∀ neg, op = (if neg then .neq else .eql) → some (I.aeq neg l (cOpd x) (cOpd y)) = some i → Ok1 P Gl B w0 σ act w o r h' := by
            intro neg hop hc
            cases hc
            simp only [step] at hs
            split at hs
            · rename_i a b hx hy
              cases hq : eqA a b l with
              | none => rw [hq] at hs; cases hs
              | some q =>
                rw [hq] at hs
                obtain ⟨_, h2⟩ := Prod.mk.inj (Option.some.inj hs); obtain ⟨rfl, rfl⟩ := Prod.mk.inj h2
                exact ok_aeq h (by rw [ho, hop]) ht hl hcond.1 hcond.2 hx hy hq
            · cases hs
          cases hn : negOf op with
          | none => rw [hn] at hc; cases hc
          | some neg => rw [hn] at hc; exact key neg (negOf_eq hn) hc
        · cases hc
    · cases hc
  | unOp op xt x =>
    rw [ho] at hc; cases hc
    simp only [step] at hs
    split at hs
    · rename_i a hx
      cases hu : unV op a with
      | none => rw [hu] at hs; cases hs
      | some v =>
        rw [hu] at hs
        obtain ⟨_, h2⟩ := Prod.mk.inj (Option.some.inj hs); obtain ⟨rfl, rfl⟩ := Prod.mk.inj h2
        exact ok_un h ho hx hu
    · cases hs
  | convert s d x =>
    rw [ho] at hc
    simp only [cI] at hc
    split at hc
    · rename_i k1 k hs1 hd1
      cases hc
      simp only [step] at hs
      split at hs
      · rename_i k2 n hx
        obtain ⟨_, h2⟩ := Prod.mk.inj (Option.some.inj hs); obtain ⟨rfl, rfl⟩ := Prod.mk.inj h2
        exact ok_conv h ho hs1 hd1 hx
      · cases hs
    · rename_i e hs1 hd1
      split at hc
      · rename_i he; cases hc; exact ok_b2s h ho hs1 he hd1 hs hp
      · cases hc
    · rename_i e hs1 hd1
      split at hc
      · rename_i he; cases hc; exact ok_s2b h ho hs1 hd1 he hs hp
      · cases hc
    · cases hc
  | field t x f =>
    rw [ho] at hc
    simp only [cI] at hc
    split at hc
    · rename_i fs ht
      split at hc
      · rename_i fd hf
        split at hc
        · rename_i ag sz ha; cases hc; exact ok_fld h ho ht hf ha hs hp
        · cases hc
      · cases hc
    · cases hc
  | extract x k => rw [ho] at hc; cases hc; exact ok_ext h ho hs hp
  | nilCheck x => rw [ho] at hc; cases hc; exact ok_nck h ho hs hp
  | fieldAddr t x f =>
    rw [ho] at hc
    simp only [cI] at hc
    split at hc
    · rename_i fs ht
      split at hc
      · rename_i fd hf
        split at hc
        · rename_i ag sz ha
          split at hc
          · rename_i h0; cases hc; exact ok_faddr h ho ht hf ha h0 hs hp
          · cases hc
        · cases hc
      · cases hc
    · cases hc
  | indexAddr t x k =>
    rw [ho] at hc
    simp only [cI] at hc
    split at hc
    · rename_i et ht
      split at hc
      · rename_i ag sz ha; cases hc; exact ok_iaddr h ho ht ha hs hp
      · cases hc
    · rename_i n et ht
      split at hc
      · rename_i e b he hb
        split at hc
        · rename_i hsz; cases hc; exact ok_aaddr h ho ht he hsz hs hp
        · cases hc
      · cases hc
    · cases hc
  | load t x =>
    rw [ho] at hc
    simp only [cI] at hc
    split at hc
    · rename_i ag sz ha; cases hc; exact ok_load h ho ha hs hp
    · cases hc
  | store t x y =>
    rw [ho] at hc
    simp only [cI] at hc
    split at hc
    · rename_i ag sz ha
      split at hc
      · rename_i h0; cases hc; exact ok_store h ho ha h0 hs hp
      · cases hc
    · cases hc
  | slice t x lo hi mx =>
    rw [ho] at hc
    cases mx with
    | some m =>
      cases lo with
      | some l => cases hi <;> cases hc
      | none =>
        cases hi with
        | none => cases hc
        | some y =>
          simp only [cI] at hc
          split at hc
          · rename_i et ht
            split at hc
            · rename_i ag sz ha; cases hc; exact ok_slice3 h ho ht ha hs hp
            · cases hc
          · cases hc
    | none =>
      simp only [cI] at hc
      split at hc
      · rename_i et ht
        split at hc
        · rename_i ag sz ha; cases hc; exact ok_slice h ho ht ha hs hp
        · cases hc
      · rename_i ht; cases hc; exact ok_sslice h ho ht hs hp
      · rename_i n et ht
        split at hc
        · rename_i e he
          split at hc
          · split at hc
            · rename_i h1; cases hc; exact ok_aslf h ho ht he h1 hs hp
            · cases hc
          · cases hc; exact ok_aslice h ho ht he rfl hs hp
        · cases hc
      · cases hc
  | index t x k =>
    rw [ho] at hc
    simp only [cI] at hc
    split at hc
    · rename_i ht; cases hc; exact ok_idx h ho ht hs hp
    · rename_i n et ht
      split at hc
      · rename_i ag sz ha; cases hc; exact ok_aidx h ho ht ha hs hp
      · cases hc
    · cases hc
  | makeFunc fn first cs =>
    rw [ho] at hc
    cases fn with
    | func f =>
      simp only [cI] at hc
      split at hc
      · rename_i q; subst q; cases hc; exact ok_clo h ho hs hp
      · cases hc
    | _ => cases hc
  | box t x =>
    rw [ho] at hc
    simp only [cI] at hc
    split at hc
    · rename_i ag sz ha
      split at hc
      · rename_i h0
        split at hc
        · cases hc; exact ok_boxz h ho h0 hs hp
        · cases hc; exact ok_box h ho h0 hs hp
      · cases hc
    · cases hc
  | alloc t =>
    rw [ho] at hc
    simp only [cI] at hc
    split at hc
    · rename_i ti hi
      split at hc
      · rename_i z hz
        unfold cAlloc at hc
        split at hc
        · split at hc
          · rename_i b hb
            split at hc
            · rename_i hcond
              cases hc
              obtain ⟨_, h2⟩ := Prod.mk.inj (Option.some.inj hs); obtain ⟨rfl, rfl⟩ := Prod.mk.inj h2
              exact ok_alloca h ho hi hz (sameVs_eq hcond.1) hcond.2.1 hcond.2.2.1 hcond.2.2.2
            · cases hc
          · cases hc
        · split at hc
          · rename_i hcond
            cases hc
            obtain ⟨_, h2⟩ := Prod.mk.inj (Option.some.inj hs); obtain ⟨rfl, rfl⟩ := Prod.mk.inj h2
            exact ok_alloc h ho hi hz hcond.1 hcond.2
          · cases hc
      · cases hc
    · cases hc
  | makeSlice t l c =>
    rw [ho] at hc
    simp only [cI] at hc
    split at hc
    · rename_i hsame
      split at hc
      · rename_i et ht
        split at hc
        · rename_i ti hi
          split at hc
          · rename_i z hz
            split at hc
            · rename_i hcond
              cases hc
              have hlc : l = c := by
                unfold sameOp at hsame
                split at hsame
                · simp at hsame; rw [hsame]
                · simp at hsame; rw [hsame]
                · cases hsame
              subst hlc
              exact ok_mk h ho ht hi hz hcond.1 hcond.2.1 hcond.2.2 hs hp
            · cases hc
          · cases hc
        · cases hc
      · cases hc
    · split at hc
      · rename_i et ht
        split at hc
        · rename_i ti hi
          split at hc
          · rename_i z hz
            split at hc
            · rename_i hcond
              cases hc
              exact ok_mk2 h ho ht hi hz hcond.1 hcond.2.1 hcond.2.2 hs hp
            · cases hc
          · cases hc
        · cases hc
      · cases hc
  | makeMap t hint =>
    rw [ho] at hc
    simp only [cI] at hc
    split at hc
    · rename_i ht; cases hc; exact ok_mmk h ho ht hs hp
    · cases hc
  | lookup t x k ok =>
    rw [ho] at hc
    simp only [cI] at hc
    split at hc
    · rename_i kt et ht
      split at hc
      · rename_i q i hq hi
        split at hc
        · rename_i z hz
          split at hc
          · cases hc; exact ok_mget h ho ht (cKT_ty hq) hi hz hs hp
          · cases hc
        · cases hc
      · cases hc
    · cases hc
  | mapUpdate t x k y =>
    rw [ho] at hc
    simp only [cI] at hc
    split at hc
    · rename_i kt et ht
      split at hc
      · rename_i q hq; cases hc; exact ok_mput h (.inl ho) ht (cKT_ty hq) hs hp
      · cases hc
    · cases hc
  | insert t x k y =>
    rw [ho] at hc
    simp only [cI] at hc
    split at hc
    · rename_i kt et ht
      split at hc
      · rename_i q hq; cases hc; exact ok_mput h (.inr ho) ht (cKT_ty hq) hs hp
      · cases hc
    · cases hc
  | buildSlice t n parts =>
    rw [ho] at hc
    simp only [cI] at hc
    split at hc
    · rename_i et ht
      split at hc
      · rename_i ti hi
        split at hc
        · rename_i z hz
          split at hc
          · rename_i hcond
            obtain ⟨c1, c2, c3, c4, c5⟩ := hcond
            have hps : parts.toList = (parts.toList.map (·.2)).zipIdx.map fun p => (p.2, p.1) := zip_parts parts.toList 0 (by rw [c3, List.range_eq_range']; simp)
            have hm : (parts.toList.map fun p => cOpd p.2) = (parts.toList.map (·.2)).map cOpd := by simp
            cases lm with
            | true =>
              simp only [if_true] at hc
              cases hc
              rw [hm] at hs
              exact ok_blist h ho ht hi hz c1 c2 hps (by simp [c4]) (by simpa using c5) hs hp
            | false =>
              simp only [Bool.false_eq_true, if_false] at hc
              split at hc
              · split at hc
                · rename_i h1
                  cases hc
                  rw [hm] at hs
                  exact ok_bvec h ho ht hi hz c1 h1 hps (by simp [c4]) (by simpa using c5) hs hp
                · cases hc
              split at hc
              · rename_i hsc
                cases hc
                rw [hm] at hs
                simp only [Bool.and_eq_true] at hsc
                have h1 : ti.size = 1 := Nat.eq_of_beq_eq_true hsc.2
                have hs' := step_bsc hs
                rw [← h1] at hs'
                exact ok_bslice h ho ht hi hz c1 c2 hps (by simp [c4]) (by simpa using c5) hs' hp
              cases hc
              rw [hm] at hs
              exact ok_bslice h ho ht hi hz c1 c2 hps (by simp [c4]) (by simpa using c5) hs hp
          · cases hc
        · cases hc
      · cases hc
    · cases hc
  | build t parts =>
    rw [ho] at hc
    simp only [cI] at hc
    split at hc
    · rename_i ti hi
      split at hc
      · rename_i z pl hz hpl
        split at hc
        · rename_i h1
          cases hq : cParts pl parts.toList with
          | none => rw [hq] at hc; cases hc
          | some qs =>
            rw [hq] at hc
            cases hc
            obtain ⟨l1, l2⟩ := cParts_sound parts.toList qs hq
            exact ok_build h ho hi hz h1 (place := fun i => pl[i]?) (fun ps ds hf => run_places hi hz hpl ps ds hf) l1 l2 hs hp
        · cases hc
      · cases hc
    · cases hc
  | call c =>
    rw [ho] at hc
    obtain ⟨callee, ⟨args⟩, ⟨tys⟩⟩ := c
    simp only [cI, cCall] at hc
    split at hc
    · rename_i b
      simp only [cBuiltin] at hc
      split at hc
      · unfold cLen at hc
        split at hc
        · rename_i x t
          split at hc
          · rename_i et ht; cases hc; exact ok_len h ho ht hs hp
          · rename_i ht; cases hc; exact ok_slen h ho ht hs hp
          · cases hc
        · cases hc
      · unfold cApp at hc
        split at hc
        · rename_i s x t t'
          split at hc
          · rename_i htt
            subst htt
            split at hc
            · rename_i et ht
              split at hc
              · rename_i ti hi
                split at hc
                · rename_i z hz
                  split at hc
                  · rename_i hcond; cases hc; exact ok_app h ho ht hi hz hcond.1 hcond.2 hs hp
                  · cases hc
                · cases hc
              · cases hc
            · cases hc
          · split at hc
            · rename_i et ht hu
              split at hc
              · rename_i ti hi
                split at hc
                · rename_i z hz
                  split at hc
                  · rename_i hcond; cases hc; exact ok_apps h ho ht hu hi hz hcond.1 hcond.2 hs hp
                  · cases hc
                · cases hc
              · cases hc
            · cases hc
        · cases hc
      · unfold cCopy at hc
        split at hc
        · split at hc
          · rename_i ht
            split at hc
            · rename_i hi
              split at hc
              · rename_i h0; cases hc; exact ok_copy h ho ht hi h0 hs hp
              · cases hc
            · cases hc
          · cases hc
        · cases hc
      · unfold cTwo at hc
        split at hc
        · rename_i x y; cases hc; exact ok_minmax (mx := false) h ho hs hp
        · cases hc
      · unfold cTwo at hc
        split at hc
        · rename_i x y; cases hc; exact ok_minmax (mx := true) h ho hs hp
        · cases hc
      · cases hc
    · rename_i f
      split at hc
      · cases hc; cases hs
      · cases hc
    · cases hc
  | _ => rw [ho] at hc; cases hc
end
end Abs
end Go.Proofs.YtnhgeocdffhkjaaDoor
