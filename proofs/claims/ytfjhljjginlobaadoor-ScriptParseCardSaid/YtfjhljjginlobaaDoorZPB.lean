/- Merged and trimmed by a program: Abs7 Abs8 Abs9 AbsA AbsD AbsB AbsC AbsL AbsR X0 X1 X2. -/
import Derived.Test.YtfjhljjginlobaaDoorZPA
import Derived.LoopN
import Derived.Scope
import Derived.IntWalk
import Derived.Deep.Slices
import Derived.WideShapes
import Derived.Lib.SmallJoins
set_option linter.unusedVariables false
set_option linter.unusedSimpArgs false
section
namespace Go.Proofs.YtfjhljjginlobaaDoor
namespace Abs
open Go.RowKit
def sameV : Value → Value → Bool
 | .int k a, .int k' b => decide (k = k') && decide (a = b)
 | .bool a, .bool b => a == b
 | .string a, .string b => decide (a.data.toList = b.data.toList)
 | .slice none 0 0, .slice none 0 0 => true
 | _, _ => false
theorem sameV_eq {a b : Value} (h : sameV a b = true) : a = b := by
 unfold sameV at h
 split at h
 ·simp at h; obtain ⟨rfl, rfl⟩ := h; rfl
 ·simp at h; rw [h]
 ·rename_i x y
  have h := of_decide_eq_true h
  obtain ⟨⟨x⟩⟩ := x
  obtain ⟨⟨y⟩⟩ := y
  simp only at h
  rw [h]
 ·rfl
 ·cases h
def sameVs : List Value → List Value → Bool
 | [], [] => true
 | a :: l, b :: m => sameV a b && sameVs l m
 | _, _ => false
theorem sameVs_eq : ∀ {l m : List Value}, sameVs l m = true → l = m
 | [], [], _ => rfl
 | [], _ :: _, h => by cases h
 | _ :: _, [], h => by cases h
 | a :: l, b :: m, h => by
  rw [sameVs, Bool.and_eq_true] at h
  rw [sameV_eq h.1, sameVs_eq h.2]
def baseT (P : Program) : Nat → TypeId → TypeId
 | 0, t => t
 | k + 1, t => match P.underlying t with
  | some (.array _ e) => baseT P k e
  | _ => t
def isArr (P : Program) (t : TypeId) : Bool := match P.underlying t with
 | some (.array _ _) => true
 | _ => false
def isPtrB (P : Program) (t : TypeId) : Bool := match P.underlying (baseT P 4 t) with
 | some (.pointer _) => true
 | _ => false
def cAlloc (P : Program) (t : TypeId) (z : Value) : Option I :=
 if (isArr P t && !isPtrB P t) = true then match (P.info? (baseT P 4 t)).bind (·.zero) with
  | some b => if sameVs z.cells.toList (flatN b (z.cells.size / b.cells.size)) = true ∧ z.cells.size / b.cells.size ≤ maxLen ∧ 0 < b.cells.size ∧ b.cells.all (·.oneCell') = true then some (.alloca t b.cells.size (z.cells.size / b.cells.size) b) else none
  | none => none
 else if 0 < z.cells.size ∧ z.cells.all (·.oneCell') = true then some (.alloc t z) else none
def sameOp : Operand → Operand → Bool
 | .tmp a, .tmp b => a == b
 | .const (.int .i64 a), .const (.int .i64 b) => a == b
 | _, _ => false
def places (P : Program) (t : TypeId) : Option (List (Nat × Nat)) :=
 match P.underlying t with
 | some (.struct fs) => fs.toList.mapM fun f => (agT P f.type).map fun a => (f.offset, a.2)
 | some (.array n e) => (agT P e).map fun a => (List.range n).map fun i => (i * a.2, a.2)
 | _ => none
def cParts (pl : List (Nat × Nat)) : List (Nat × Operand) → Option (List (Nat × Nat × Opd))
 | [] => some []
 | (i, x) :: r => match pl[i]?, cParts pl r with
  | some (o, s), some l => some ((o, s, cOpd x) :: l)
  | _, _ => none
def isNilC : Operand → Bool
 | .const (.slice none 0 0) => true
 | _ => false
theorem isNilC_eq {y : Operand} (h : isNilC y = true) : y = .const (.slice none 0 0) := by
 unfold isNilC at h
 split at h
 ·rfl
 ·cases h
def negOf : BinOp → Option Bool
 | .eql => some false
 | .neq => some true
 | _ => none
theorem negOf_eq {op : BinOp} {neg : Bool} (h : negOf op = some neg) : op = (if neg then .neq else .eql) := by
 cases op <;> simp [negOf] at h <;> subst h <;> rfl
def cBin (P : Program) (op : BinOp) (xt : TypeId) (x y : Operand) : Option I :=
 match P.underlying xt with
 | some (.int _) => some (.bin op (cOpd x) (cOpd y))
 | some .string => some (.bin op (cOpd x) (cOpd y))
 | some .bool => (negOf op).map fun neg => .beq neg (cOpd x) (cOpd y)
 | some (.slice _) => if isNilC y then (negOf op).map fun neg => .nilq neg (cOpd x) else none
 | some (.struct fs) => match cmpNest P fs.toList with
  | some l => if P.eqGuardType P.depth xt = false ∧ P.stoodInHeld xt = false then (negOf op).map fun neg => .aeq neg l (cOpd x) (cOpd y) else none
  | none => none
 | _ => none
def cLen (P : Program) : List Operand → List TypeId → Option I
 | [x], [t] => match P.underlying t with
  | some (.slice _) => some (.len (cOpd x))
  | some .string => some (.slen (cOpd x))
  | _ => none
 | _, _ => none
def cApp (P : Program) : List Operand → List TypeId → Option I
 | [s, x], [t, t'] => if t = t' then match P.underlying t with
   | some (.slice et) => match P.info? et with
    | some i => match i.zero with
     | some z => if z.cells.size = i.size ∧ 0 < i.size then some (.app et i.size i.bytes (cOpd s) (cOpd x)) else none
     | none => none
    | none => none
   | _ => none
  else match P.underlying t, P.underlying t' with
   | some (.slice et), some .string => match P.info? et with
    | some i => match i.zero with
     | some z => if z.cells.size = i.size ∧ i.size = 1 then some (.apps et i.bytes (cOpd s) (cOpd x)) else none
     | none => none
    | none => none
   | _, _ => none
 | _, _ => none
def cCopy (P : Program) : List Operand → List TypeId → Option I
 | [d, s], [t, _] => match P.underlying t with
  | some (.slice et) => match P.info? et with
   | some i => if 0 < i.size then some (.copy i.size (cOpd d) (cOpd s)) else none
   | none => none
  | _ => none
 | _, _ => none
def cTwo (mx : Bool) : List Operand → Option I
 | [x, y] => some (if mx then .max2 (cOpd x) (cOpd y) else .min2 (cOpd x) (cOpd y))
 | _ => none
def cBuiltin (P : Program) (b : Builtin) (as : List Operand) (ts : List TypeId) : Option I :=
 match b with
 | .len => cLen P as ts
 | .append => cApp P as ts
 | .copy => cCopy P as ts
 | .min => cTwo false as
 | .max => cTwo true as
 | _ => none
def isPtrT (P : Program) (t : TypeId) : Bool := match P.underlying t with
 | some (.pointer _) => true
 | _ => false
def callable (P : Program) (f : FuncId) : Bool := match P.funcs[f]? with
 | some fn => fn.body.isSome && !(fn.name == "runtime.NumGoroutine")
 | none => false
theorem callable_spec {P : Program} {f : FuncId} (h : callable P f = true) : ∃ fn, P.funcs[f]? = some fn ∧ fn.body.isSome = true ∧ (fn.name == "runtime.NumGoroutine") = false := by
 unfold callable at h
 split at h
 ·rename_i fn hfn
  rw [Bool.and_eq_true] at h
  exact ⟨fn, hfn, h.1, by simpa using h.2⟩
 ·cases h
def known (P : Program) : Operand → Bool
 | .func f => callable P f
 | _ => true
def cCall (P : Program) (c : Call) : Option I :=
 match c.callee with
 | .builtin b => cBuiltin P b c.args.toList c.argTypes.toList
 | .value x => if known P x = true then some (.call (cOpd x) (c.args.toList.map cOpd)) else none
 | _ => none
def cI (P : Program) (lm : Bool) : Op → Option I
 | .move x => some (.mov (cOpd x))
 | .assign x => some (.mov (cOpd x))
 | .pick c a b => some (.pick (cOpd c) (cOpd a) (cOpd b))
 | .binOp op xt x y _ => cBin P op xt x y
 | .unOp op _ x => some (.un op (cOpd x))
 | .convert s d x => match P.underlying s, P.underlying d with
  | some (.int _), some (.int k) => some (.conv k (cOpd x))
  | some (.slice e), some .string => match P.underlying e with
   | some (.int .u8) => some (.b2s (cOpd x))
   | _ => none
  | some .string, some (.slice e) => match P.underlying e with
   | some (.int .u8) => some (.s2b e (cOpd x))
   | _ => none
  | _, _ => none
 | .field t x f => match P.underlying t with
  | some (.struct fs) => match fs[f]? with
   | some fd => match agT P fd.type with
    | some (ag, sz) => some (.fld fd.offset sz ag (cOpd x))
    | none => none
   | none => none
  | _ => none
 | .extract x i => some (.ext i (cOpd x))
 | .nilCheck x => some (.nck (cOpd x))
 | .fieldAddr t x f => match P.underlying t with
  | some (.struct fs) => match fs[f]? with
   | some fd => match agT P fd.type with
    | some (_, sz) => if sz ≠ 0 then some (.faddr fd.offset (cOpd x)) else none
    | none => none
   | none => none
  | _ => none
 | .indexAddr t x i => match P.underlying t with
  | some (.slice et) => match agT P et with
   | some (_, sz) => some (.iaddr sz (cOpd x) (cOpd i))
   | none => none
  | some (.array n et) => match P.info? et, P.info? (baseT P 4 et) with
   | some e, some b => if e.size = e.size / b.size * b.size then some (.aaddr b.size (e.size / b.size) n (cOpd x) (cOpd i)) else none
   | _, _ => none
  | _ => none
 | .load t x => match agT P t with
  | some (ag, sz) => some (.load sz ag (cOpd x))
  | none => none
 | .store t x y => match agT P t with
  | some (_, sz) => if 0 < sz then some (.store sz (cOpd x) (cOpd y)) else none
  | none => none
 | .slice t x lo hi none => match P.underlying t with
  | some (.slice et) => match agT P et with
   | some (_, sz) => some (.slice sz (cOpd x) (lo.map cOpd) (hi.map cOpd))
   | none => none
  | some .string => some (.sslice (cOpd x) (lo.map cOpd) (hi.map cOpd))
  | some (.array n et) => match P.info? et with
   | some e => if lm = true then (if e.size = 1 then some (.aslf n (cOpd x) (lo.map cOpd) (hi.map cOpd)) else none) else some (.aslice e.size n (cOpd x) (lo.map cOpd) (hi.map cOpd))
   | none => none
  | _ => none
 | .slice t x none (some hi) (some mx) => match P.underlying t with
  | some (.slice et) => match agT P et with
   | some (_, sz) => some (.slice3 sz (cOpd x) (cOpd hi) (cOpd mx))
   | none => none
  | _ => none
 | .index t x i => match P.underlying t with
  | some .string => some (.idx (cOpd x) (cOpd i))
  | some (.array n et) => match agT P et with
   | some (ag, sz) => some (.aidx sz ag n (cOpd x) (cOpd i))
   | none => none
  | _ => none
 | .box t x => match agT P t with
  | some (_, sz) => if 0 < sz then some (.box t sz (cOpd x)) else none
  | none => none
 | .alloc t => match P.info? t with
  | some i => match i.zero with
   | some z => cAlloc P t z
   | none => none
  | none => none
 | .makeSlice t l c => if sameOp l c then match P.underlying t with
   | some (.slice et) => match P.info? et with
    | some i => match i.zero with
     | some z => if z.cells.size = i.size ∧ 0 < i.size ∧ z.cells.all (·.oneCell') = true then some (.mk et i.size i.bytes z (cOpd l)) else none
     | none => none
    | none => none
   | _ => none
  else none
 | .buildSlice t n parts => match P.underlying t with
  | some (.slice et) => match P.info? et with
   | some i => match i.zero with
    | some z => if z.cells.size = i.size ∧ 0 < i.size ∧ parts.toList.map (·.1) = List.range parts.size ∧ n = parts.size ∧ parts.size * i.size ≤ 2 ^ 24 then
      (if lm then some (.blist et i.size (parts.toList.map fun p => cOpd p.2)) else if isPtrT P et then (if i.size = 1 then some (.bvec et (parts.toList.map fun p => cOpd p.2)) else none) else some (.bslice et i.size (parts.toList.map fun p => cOpd p.2)))
     else none
    | none => none
   | none => none
  | _ => none
 | .build t parts => match P.info? t with
  | some i => match i.zero, places P t with
   | some (.agg z), some pl => if z.toList.all (·.oneCell') = true then (cParts pl parts.toList).map fun qs => .build z.toList qs else none
   | _, _ => none
  | none => none
 | .call c => cCall P c
 | _ => none
section
variable {P : Program} {Gl : Nat → Option (List AV)} {F : Addr → Option Value} {own : List Ent} {B : Nat} {w0 : W0} {σ : St} {act : Act} {w : World}
theorem cParts_sound {pl : List (Nat × Nat)} : ∀ (ps : List (Nat × Operand)) (qs : List (Nat × Nat × Opd)), cParts pl ps = some qs → ps.length = qs.length ∧ ∀ (k : Nat) (p : Nat × Operand) (q : Nat × Nat × Opd), ps[k]? = some p → qs[k]? = some q → pl[p.1]? = some (q.1, q.2.1) ∧ q.2.2 = cOpd p.2 := by
 intro ps
 induction ps with
 | nil => intro qs h; cases h; exact ⟨rfl, fun k p q a => by simp at a⟩
 | cons p ps ih =>
  intro qs h
  obtain ⟨i, x⟩ := p
  simp only [cParts] at h
  split at h
  ·rename_i o s l h1 h2
   cases h
   obtain ⟨l1, l2⟩ := ih l h2
   refine ⟨by simp [l1], fun k p q a b => ?_⟩
   cases k with
   | zero => simp at a b; subst a b; exact ⟨h1, rfl⟩
   | succ k => simp at a b; exact l2 k p q a b
  ·cases h
theorem fill_mono {p q : Nat → Option (Nat × Nat)} (h : ∀ i x, p i = some x → q i = some x) : ∀ (l : List (Nat × Value)) (z ds : Array Value), Instr.fill p z l = some ds → Instr.fill q z l = some ds := by
 intro l
 induction l with
 | nil => intro z ds hf; exact hf
 | cons a l ih =>
  intro z ds hf
  obtain ⟨i, v⟩ := a
  unfold Instr.fill at hf ⊢
  cases hp : p i with
  | none => rw [hp] at hf; cases hf
  | some x =>
   rw [hp] at hf
   rw [h i x hp]
   obtain ⟨off, size⟩ := x
   simp only at hf ⊢
   split at hf
   ·cases hf
   ·rename_i hc; rw [if_neg hc]; exact ih _ _ hf
theorem run_places {t : TypeId} {ti : TypeInfo} {z : Array Value} (hti : P.info? t = some ti) (hz : ti.zero = some (.agg z)) {pl : List (Nat × Nat)} (hpl : places P t = some pl) (ps : Array (Nat × Value)) (ds : Array Value)
  (hf : Instr.fill (fun i => pl[i]?) z ps.toList = some ds) : (Instr.build t ps).run P w = .ok (.agg ds) w := by
 unfold places at hpl
 split at hpl
 ·rename_i fs ht
  have key : ∀ (l : List Field) (pl : List (Nat × Nat)), (l.mapM fun f => (agT P f.type).map fun a => (f.offset, a.2)) = some pl → (l.mapM (m := Sem) fun f => do pure (f.offset, ← sizeOf f.type)).run P w = .ok pl w := by
   intro l
   induction l with
   | nil => intro pl h; cases h; rfl
   | cons f l ih =>
    intro pl h
    rw [List.mapM_cons] at h ⊢
    cases ha : agT P f.type with
    | none => rw [ha] at h; cases h
    | some a =>
     rw [ha] at h
     simp only [Option.map_some, Option.pure_def, Option.bind_eq_bind, Option.bind_some] at h
     cases hl : (l.mapM fun f => (agT P f.type).map fun a => (f.offset, a.2)) with
     | none => rw [hl] at h; cases h
     | some pl' =>
      rw [hl] at h
      cases h
      have := ih pl' hl
      obtain ⟨ag, sz⟩ := a
      simp only [Sem.run_bind, Result.andThen_ok, Sem.run_pure, (run_agT ha w).2, this]
  have hk := key fs.toList pl hpl
  unfold Instr.build
  have e1 : (fs.mapM (m := Sem) fun f => do pure (f.offset, ← sizeOf f.type)).run P w = .ok pl.toArray w := by
   rw [Array.mapM_eq_mapM_toList]
   simp only [Sem.run_map, hk, Result.andThen_ok]
  simp only [Sem.run_bind, zeroValue, typeInfo, run_program, Result.andThen_ok, hti, Sem.run_pure, hz, run_underlying ht, e1]
  have e2 : (fun (i : Nat) => (pl.toArray)[i]?) = fun i => pl[i]? := by funext i; simp
  simp only [Value.cells, e2, hf]
  rfl
 ·rename_i n e ht
  cases ha : agT P e with
  | none => rw [ha] at hpl; cases hpl
  | some a =>
   obtain ⟨ag, sz⟩ := a
   rw [ha] at hpl
   simp only [Option.map_some, Option.some.injEq] at hpl
   subst hpl
   have hf' : Instr.fill (fun i => some (i * sz, sz)) z ps.toList = some ds := fill_mono (fun i q hq => by
    rw [List.getElem?_map] at hq
    cases hr : (List.range n)[i]? with
    | none => rw [hr] at hq; cases hq
    | some k =>
     rw [hr] at hq
     have hk : k = i := by
      have := (List.getElem?_eq_some_iff.1 hr).2
      simpa using this.symm
     subst hk
     exact hq) _ _ _ hf
   unfold Instr.build
   simp only [Sem.run_bind, zeroValue, typeInfo, run_program, Result.andThen_ok, hti, Sem.run_pure, hz, run_underlying ht, (run_agT ha w).2]
   simp only [Value.cells, hf']
   rfl
 ·cases hpl
theorem zip_parts {α : Type} : ∀ (l : List (Nat × α)) (k : Nat), l.map (·.1) = List.range' k l.length → l = ((l.map (·.2)).zipIdx k).map fun p => (p.2, p.1) := by
 intro l
 induction l with
 | nil => intro k _; rfl
 | cons p l ih =>
  intro k h
  obtain ⟨i, x⟩ := p
  simp only [List.map_cons, List.length_cons, List.range'_succ, List.cons.injEq] at h
  obtain ⟨rfl, h2⟩ := h
  simp only [List.map_cons, List.zipIdx_cons, List.cons.injEq, true_and]
  exact ih (i + 1) h2
theorem step_ok (h : Inv Gl F own B w0 σ act w) {lm : Bool} {o : Oper} {i : I} (hc : cI P lm o.op = some i) {p : Prop} {r : AV} {h' : List AObj} (hs : step Gl σ i = some (p, r, h')) (hp : p) : Ok1 P Gl B w0 σ act w o r h' := by
 cases ho : o.op with
 | move x =>
  rw [ho] at hc; cases hc
  obtain ⟨_, h2⟩ := Prod.mk.inj (Option.some.inj hs); obtain ⟨rfl, rfl⟩ := Prod.mk.inj h2
  exact ok_mov h (.inl ho)
 | assign x =>
  rw [ho] at hc; cases hc
  obtain ⟨_, h2⟩ := Prod.mk.inj (Option.some.inj hs); obtain ⟨rfl, rfl⟩ := Prod.mk.inj h2
  exact ok_mov h (.inr ho)
 | pick c a b => rw [ho] at hc; cases hc; exact ok_pick h ho hs hp
 | binOp op xt x y yt =>
  rw [ho] at hc
  simp only [cI, cBin] at hc
  have bin : some (I.bin op (cOpd x) (cOpd y)) = some i → Ok1 P Gl B w0 σ act w o r h' := by
   intro hc
   cases hc
   simp only [step] at hs
   split at hs
   ·rename_i a b hx hy
    cases hb : binV op a b with
    | none => rw [hb] at hs; cases hs
    | some q =>
     obtain ⟨p', v⟩ := q
     rw [hb] at hs
     obtain ⟨rfl, h2⟩ := Prod.mk.inj (Option.some.inj hs); obtain ⟨rfl, rfl⟩ := Prod.mk.inj h2
     exact ok_bin h ho hx hy hb hp
   ·cases hs
  split at hc
  ·exact bin hc
  ·exact bin hc
  ·rename_i ht
   have key : ∀ neg, op = (if neg then .neq else .eql) → some (I.beq neg (cOpd x) (cOpd y)) = some i → Ok1 P Gl B w0 σ act w o r h' := by
    intro neg hop hc
    cases hc
    simp only [step] at hs
    split at hs
    ·rename_i a b hx hy
     obtain ⟨_, h2⟩ := Prod.mk.inj (Option.some.inj hs); obtain ⟨rfl, rfl⟩ := Prod.mk.inj h2
     exact ok_beq h (by rw [ho, hop]) ht hx hy
    ·cases hs
   cases hn : negOf op with
   | none => rw [hn] at hc; cases hc
   | some neg => rw [hn] at hc; exact key neg (negOf_eq hn) hc
  ·rename_i et ht
   split at hc
   ·rename_i hnil
    have hnil := isNilC_eq hnil
    cases hn : negOf op with
    | none => rw [hn] at hc; cases hc
    | some neg =>
     rw [hn] at hc
     cases hc
     exact ok_nilq (neg := neg) h (by rw [ho, hnil, negOf_eq hn]) ht hs hp
   ·cases hc
  ·rename_i fs ht
   cases hl : cmpNest P fs.toList with
   | none => rw [hl] at hc; cases hc
   | some l =>
    rw [hl] at hc
    simp only at hc
    split at hc
    ·rename_i hcond
     have key : ∀ neg, op = (if neg then .neq else .eql) → some (I.aeq neg l (cOpd x) (cOpd y)) = some i → Ok1 P Gl B w0 σ act w o r h' := by
      intro neg hop hc
      cases hc
      simp only [step] at hs
      split at hs
      ·rename_i a b hx hy
       cases hq : eqA a b l with
       | none => rw [hq] at hs; cases hs
       | some q =>
        rw [hq] at hs
        obtain ⟨_, h2⟩ := Prod.mk.inj (Option.some.inj hs); obtain ⟨rfl, rfl⟩ := Prod.mk.inj h2
        exact ok_aeq h (by rw [ho, hop]) ht hl hcond.1 hcond.2 hx hy hq
      ·cases hs
     cases hn : negOf op with
     | none => rw [hn] at hc; cases hc
     | some neg => rw [hn] at hc; exact key neg (negOf_eq hn) hc
    ·cases hc
  ·cases hc
 | unOp op xt x =>
  rw [ho] at hc; cases hc
  simp only [step] at hs
  split at hs
  ·rename_i a hx
   cases hu : unV op a with
   | none => rw [hu] at hs; cases hs
   | some v =>
    rw [hu] at hs
    obtain ⟨_, h2⟩ := Prod.mk.inj (Option.some.inj hs); obtain ⟨rfl, rfl⟩ := Prod.mk.inj h2
    exact ok_un h ho hx hu
  ·cases hs
 | convert s d x =>
  rw [ho] at hc
  simp only [cI] at hc
  split at hc
  ·rename_i k1 k hs1 hd1
   cases hc
   simp only [step] at hs
   split at hs
   ·rename_i k2 n hx
    obtain ⟨_, h2⟩ := Prod.mk.inj (Option.some.inj hs); obtain ⟨rfl, rfl⟩ := Prod.mk.inj h2
    exact ok_conv h ho hs1 hd1 hx
   ·cases hs
  ·rename_i e hs1 hd1
   split at hc
   ·rename_i he; cases hc; exact ok_b2s h ho hs1 he hd1 hs hp
   ·cases hc
  ·rename_i e hs1 hd1
   split at hc
   ·rename_i he; cases hc; exact ok_s2b h ho hs1 hd1 he hs hp
   ·cases hc
  ·cases hc
 | field t x f =>
  rw [ho] at hc
  simp only [cI] at hc
  split at hc
  ·rename_i fs ht
   split at hc
   ·rename_i fd hf
    split at hc
    ·rename_i ag sz ha; cases hc; exact ok_fld h ho ht hf ha hs hp
    ·cases hc
   ·cases hc
  ·cases hc
 | extract x k => rw [ho] at hc; cases hc; exact ok_ext h ho hs hp
 | nilCheck x => rw [ho] at hc; cases hc; exact ok_nck h ho hs hp
 | fieldAddr t x f =>
  rw [ho] at hc
  simp only [cI] at hc
  split at hc
  ·rename_i fs ht
   split at hc
   ·rename_i fd hf
    split at hc
    ·rename_i ag sz ha
     split at hc
     ·rename_i h0; cases hc; exact ok_faddr h ho ht hf ha h0 hs hp
     ·cases hc
    ·cases hc
   ·cases hc
  ·cases hc
 | indexAddr t x k =>
  rw [ho] at hc
  simp only [cI] at hc
  split at hc
  ·rename_i et ht
   split at hc
   ·rename_i ag sz ha; cases hc; exact ok_iaddr h ho ht ha hs hp
   ·cases hc
  ·rename_i n et ht
   split at hc
   ·rename_i e b he hb
    split at hc
    ·rename_i hsz; cases hc; exact ok_aaddr h ho ht he hsz hs hp
    ·cases hc
   ·cases hc
  ·cases hc
 | load t x =>
  rw [ho] at hc
  simp only [cI] at hc
  split at hc
  ·rename_i ag sz ha; cases hc; exact ok_load h ho ha hs hp
  ·cases hc
 | store t x y =>
  rw [ho] at hc
  simp only [cI] at hc
  split at hc
  ·rename_i ag sz ha
   split at hc
   ·rename_i h0; cases hc; exact ok_store h ho ha h0 hs hp
   ·cases hc
  ·cases hc
 | slice t x lo hi mx =>
  rw [ho] at hc
  cases mx with
  | some m =>
   cases lo with
   | some l => cases hi <;> cases hc
   | none =>
    cases hi with
    | none => cases hc
    | some y =>
     simp only [cI] at hc
     split at hc
     ·rename_i et ht
      split at hc
      ·rename_i ag sz ha; cases hc; exact ok_slice3 h ho ht ha hs hp
      ·cases hc
     ·cases hc
  | none =>
   simp only [cI] at hc
   split at hc
   ·rename_i et ht
    split at hc
    ·rename_i ag sz ha; cases hc; exact ok_slice h ho ht ha hs hp
    ·cases hc
   ·rename_i ht; cases hc; exact ok_sslice h ho ht hs hp
   ·rename_i n et ht
    split at hc
    ·rename_i e he
     split at hc
     ·split at hc
      ·rename_i h1; cases hc; exact ok_aslf h ho ht he h1 hs hp
      ·cases hc
     ·cases hc; exact ok_aslice h ho ht he rfl hs hp
    ·cases hc
   ·cases hc
 | index t x k =>
  rw [ho] at hc
  simp only [cI] at hc
  split at hc
  ·rename_i ht; cases hc; exact ok_idx h ho ht hs hp
  ·rename_i n et ht
   split at hc
   ·rename_i ag sz ha; cases hc; exact ok_aidx h ho ht ha hs hp
   ·cases hc
  ·cases hc
 | box t x =>
  rw [ho] at hc
  simp only [cI] at hc
  split at hc
  ·rename_i ag sz ha
   split at hc
   ·rename_i h0; cases hc; exact ok_box h ho h0 hs hp
   ·cases hc
  ·cases hc
 | alloc t =>
  rw [ho] at hc
  simp only [cI] at hc
  split at hc
  ·rename_i ti hi
   split at hc
   ·rename_i z hz
    unfold cAlloc at hc
    split at hc
    ·split at hc
     ·rename_i b hb
      split at hc
      ·rename_i hcond
       cases hc
       obtain ⟨_, h2⟩ := Prod.mk.inj (Option.some.inj hs); obtain ⟨rfl, rfl⟩ := Prod.mk.inj h2
       exact ok_alloca h ho hi hz (sameVs_eq hcond.1) hcond.2.1 hcond.2.2.1 hcond.2.2.2
      ·cases hc
     ·cases hc
    ·split at hc
     ·rename_i hcond
      cases hc
      obtain ⟨_, h2⟩ := Prod.mk.inj (Option.some.inj hs); obtain ⟨rfl, rfl⟩ := Prod.mk.inj h2
      exact ok_alloc h ho hi hz hcond.1 hcond.2
     ·cases hc
   ·cases hc
  ·cases hc
 | makeSlice t l c =>
  rw [ho] at hc
  simp only [cI] at hc
  split at hc
  ·rename_i hsame
   split at hc
   ·rename_i et ht
    split at hc
    ·rename_i ti hi
     split at hc
     ·rename_i z hz
      split at hc
      ·rename_i hcond
       cases hc
       have hlc : l = c := by
        unfold sameOp at hsame
        split at hsame
        ·simp at hsame; rw [hsame]
        ·simp at hsame; rw [hsame]
        ·cases hsame
       subst hlc
       exact ok_mk h ho ht hi hz hcond.1 hcond.2.1 hcond.2.2 hs hp
      ·cases hc
     ·cases hc
    ·cases hc
   ·cases hc
  ·cases hc
 | buildSlice t n parts =>
  rw [ho] at hc
  simp only [cI] at hc
  split at hc
  ·rename_i et ht
   split at hc
   ·rename_i ti hi
    split at hc
    ·rename_i z hz
     split at hc
     ·rename_i hcond
      obtain ⟨c1, c2, c3, c4, c5⟩ := hcond
      have hps : parts.toList = (parts.toList.map (·.2)).zipIdx.map fun p => (p.2, p.1) := zip_parts parts.toList 0 (by rw [c3, List.range_eq_range']; simp)
      have hm : (parts.toList.map fun p => cOpd p.2) = (parts.toList.map (·.2)).map cOpd := by simp
      cases lm with
      | true =>
       simp only [if_true] at hc
       cases hc
       rw [hm] at hs
       exact ok_blist h ho ht hi hz c1 c2 hps (by simp [c4]) (by simpa using c5) hs hp
      | false =>
       simp only [Bool.false_eq_true, if_false] at hc
       split at hc
       ·split at hc
        ·rename_i h1
         cases hc
         rw [hm] at hs
         exact ok_bvec h ho ht hi hz c1 h1 hps (by simp [c4]) (by simpa using c5) hs hp
        ·cases hc
       cases hc
       rw [hm] at hs
       exact ok_bslice h ho ht hi hz c1 c2 hps (by simp [c4]) (by simpa using c5) hs hp
     ·cases hc
    ·cases hc
   ·cases hc
  ·cases hc
 | build t parts =>
  rw [ho] at hc
  simp only [cI] at hc
  split at hc
  ·rename_i ti hi
   split at hc
   ·rename_i z pl hz hpl
    split at hc
    ·rename_i h1
     cases hq : cParts pl parts.toList with
     | none => rw [hq] at hc; cases hc
     | some qs =>
      rw [hq] at hc
      cases hc
      obtain ⟨l1, l2⟩ := cParts_sound parts.toList qs hq
      exact ok_build h ho hi hz h1 (place := fun i => pl[i]?) (fun ps ds hf => run_places hi hz hpl ps ds hf) l1 l2 hs hp
    ·cases hc
   ·cases hc
  ·cases hc
 | call c =>
  rw [ho] at hc
  obtain ⟨callee, ⟨args⟩, ⟨tys⟩⟩ := c
  simp only [cI, cCall] at hc
  split at hc
  ·rename_i b
   simp only [cBuiltin] at hc
   split at hc
   ·unfold cLen at hc
    split at hc
    ·rename_i x t
     split at hc
     ·rename_i et ht; cases hc; exact ok_len h ho ht hs hp
     ·rename_i ht; cases hc; exact ok_slen h ho ht hs hp
     ·cases hc
    ·cases hc
   ·unfold cApp at hc
    split at hc
    ·rename_i s x t t'
     split at hc
     ·rename_i htt
      subst htt
      split at hc
      ·rename_i et ht
       split at hc
       ·rename_i ti hi
        split at hc
        ·rename_i z hz
         split at hc
         ·rename_i hcond; cases hc; exact ok_app h ho ht hi hz hcond.1 hcond.2 hs hp
         ·cases hc
        ·cases hc
       ·cases hc
      ·cases hc
     ·split at hc
      ·rename_i et ht hu
       split at hc
       ·rename_i ti hi
        split at hc
        ·rename_i z hz
         split at hc
         ·rename_i hcond; cases hc; exact ok_apps h ho ht hu hi hz hcond.1 hcond.2 hs hp
         ·cases hc
        ·cases hc
       ·cases hc
      ·cases hc
    ·cases hc
   ·unfold cCopy at hc
    split at hc
    ·split at hc
     ·rename_i ht
      split at hc
      ·rename_i hi
       split at hc
       ·rename_i h0; cases hc; exact ok_copy h ho ht hi h0 hs hp
       ·cases hc
      ·cases hc
     ·cases hc
    ·cases hc
   ·unfold cTwo at hc
    split at hc
    ·rename_i x y; cases hc; exact ok_minmax (mx := false) h ho hs hp
    ·cases hc
   ·unfold cTwo at hc
    split at hc
    ·rename_i x y; cases hc; exact ok_minmax (mx := true) h ho hs hp
    ·cases hc
   ·cases hc
  ·rename_i f
   split at hc
   ·cases hc; cases hs
   ·cases hc
  ·cases hc
 | _ => rw [ho] at hc; cases hc
end
end Abs
end Go.Proofs.YtfjhljjginlobaaDoor
end
section
namespace Go.Proofs.YtfjhljjginlobaaDoor
namespace Abs
open Go.RowKit
def snap (w : World) : Addr → Option Value := fun a => w.cell? a
def RPL (F : Addr → Option Value) (xs : Array Value) (as : List AV) : Prop := xs.size = as.length ∧ ∀ (i : Nat) (x : Value) (a : AV), xs[i]? = some x → as[i]? = some a → RP F x a
def Pure (P : Program) (Gl : Nat → Option (List AV)) (f : FuncId) (as : List AV) (res : AV) : Prop :=
 ∀ (w : World) (F : Addr → Option Value) (xs : Array Value), (∀ a x, F a = some x → w.cell? a = some x) → GlOk Gl F → GlW Gl w.heap.size w → RPL F xs as →
  Calls P f xs w fun e w' => ∃ v F', e = .returned v ∧ (∀ ad y, F ad = some y → F' ad = some y) ∧ (∀ ad y, F' ad = some y → w'.cell? ad = some y) ∧ (∀ ad y, F' ad = some y → F ad = some y ∨ w.heap.size ≤ ad.block) ∧ RP F' v res ∧ Below w.heap.size w w'
def RL (F : Addr → Option Value) (own : List Ent) (xs : Array Value) (as : List AV) : Prop := xs.size = as.length ∧ ∀ (i : Nat) (x : Value) (a : AV), xs[i]? = some x → as[i]? = some a → R F own x a
def PureH (P : Program) (Gl : Nat → Option (List AV)) (f : FuncId) (h : List AObj) (as : List AV) (Q : AV → List AObj → Prop) : Prop :=
 ∀ (F : Addr → Option Value) (own : List Ent) (B : Nat) (w0 : W0) (t : List AV) (act : Act) (w : World) (xs : Array Value), Inv Gl F own B w0 ⟨t, h⟩ act w → RL F own xs as →
  Calls P f xs w fun e w' => ∃ v res h' F' own', e = .returned v ∧ Inv Gl F' own' B w0 ⟨t, h'⟩ act w' ∧ R F' own' v res ∧ Q res h'
def aExec (P : Program) (Gl : Nat → Option (List AV)) (d : Bool) (σ : St) (dst : Option Nat) (K : St → Prop) : I → Prop
 | .call fo args => ∃ f, σ.val Gl fo = .v (.func (.func f) #[] #[]) ∧ callable P f = true ∧ ((∃ as res, keepAL σ.h (args.map (σ.val Gl)) = some as ∧ Pure P Gl f as res ∧ (d = true → (if scalar res then σ.h else freeze σ.h ((args.map (σ.val Gl)).flatMap rowsA)) = σ.h) ∧ K (St.put ⟨σ.t, if scalar res then σ.h else freeze σ.h ((args.map (σ.val Gl)).flatMap rowsA)⟩ dst res)) ∨
   (d = false ∧ PureH P Gl f σ.h (args.map (σ.val Gl)) fun res h' => K (St.put ⟨σ.t, h'⟩ dst res)))
 | i => match step Gl σ i with
  | some (p, a, h') => p ∧ K (St.put ⟨σ.t, h'⟩ dst a)
  | none => False
def und : AV := .v (.tuple #[])
def aStep (P : Program) (Gl : Nat → Option (List AV)) (d : Bool) (σ : St) (ins : Ins) (K : St → Prop) : Prop :=
 match ins.gd with
 | none => aExec P Gl d σ ins.dst K ins.i
 | some (s, want) => match σ.t.getD s .any with
  | .v (.bool b) => if b = want then aExec P Gl d σ ins.dst K ins.i else K (σ.put ins.dst und)
  | .v (.tuple _) => K (σ.put ins.dst und)
  | _ => False
def aOps (P : Program) (Gl : Nat → Option (List AV)) (d : Bool) (K : St → Prop) : List Ins → St → Prop
 | [], σ => K σ
 | i :: r, σ => aStep P Gl d σ i (aOps P Gl d K r)
def isBase (P : Program) (ops : Array Oper) (o : Oper) : Bool := ops.toList.any fun q => match cI P false q.op with
 | some (.app _ _ _ (.t d) _) => o.dst == some d
 | _ => false
def isFa (ops : Array Oper) : Operand → Bool
 | .tmp d => ops.toList.any fun q => q.dst == some d && (match q.op with | .fieldAddr .. => true | _ => false)
 | _ => false
def lmOf (P : Program) (lm : Bool) (ops : Array Oper) (o : Oper) : Bool := match o.op with
 | .slice _ x _ _ _ => isFa ops x
 | _ => lm && !isBase P ops o
def cIns (P : Program) (lm : Bool) (ops : Array Oper) (o : Oper) : Option Ins :=
 match cI P (lmOf P lm ops o) o.op with
 | none => none
 | some i => match o.guard with
  | none => some ⟨o.dst, none, i⟩
  | some (j, want) => match (ops[j]?).bind (·.dst) with
   | some s => some ⟨o.dst, some (s, want), i⟩
   | none => none
section
variable {P : Program} {Gl : Nat → Option (List AV)} {F : Addr → Option Value} {own : List Ent} {B : Nat} {w0 : W0} {σ : St} {act : Act} {w : World}
def Some' (Gl : Nat → Option (List AV)) (B : Nat) (w0 : W0) (K : St → Prop) (act : Act) (w : World) : Prop := ∃ F own σ, Inv Gl F own B w0 σ act w ∧ K σ
theorem scalar_RP {F F' : Addr → Option Value} {x : Value} {a : AV} (h : RP F x a) (hs : scalar a = true) : RP F' x a := by
 have one : ∀ {x : Value} {a : AV}, RP F x a → allV a = true → RP F' x a := by
  intro x a h hv
  cases a <;> first | (cases hv; done) | skip
  cases h
  exact .v _
 have two : ∀ {x : Value} {cs : List AV}, RP F x (.agg cs) → cs.all allV = true → RP F' x (.agg cs) := by
  intro x cs h hv
  cases h with
  | agg xs cs hl h1 hR => exact .agg xs cs hl h1 fun j x a p q => one (hR j x a p q) (List.all_eq_true.1 hv a (List.mem_of_getElem? q))
 cases a with
 | v y => cases h; exact .v _
 | agg cs => exact two h hs
 | tup vs =>
  cases h with
  | tup xs cs hl hR =>
   refine .tup xs vs hl fun j x a p q => ?_
   have := List.all_eq_true.1 hs a (List.mem_of_getElem? q)
   cases a with
   | v y => have := hR j x _ p q; cases this; exact .v _
   | agg cs => exact two (hR j x _ p q) this
   | _ => cases this
 | _ => cases hs
theorem Inv.call (h : Inv Gl F own B w0 σ act w) {w' : World} {F' : Addr → Option Value} (hF : ∀ ad y, F ad = some y → F' ad = some y) (hs : ∀ ad y, F' ad = some y → w'.cell? ad = some y) (hn : ∀ ad y, F' ad = some y → F ad = some y ∨ w.heap.size ≤ ad.block) (hb : Below w.heap.size w w') : Inv Gl F' own B w0 σ act w' := by
 refine h.turn (h' := σ.h) hF (Le.refl _) hs h.hl (fun id e o p q => ?_) h.inj ?_ h.base (fun ad y q => ?_)
 ·have hO := h.objs id e o p q
  refine hO.mono hF (Le.refl _) (fun g hg => hb.block g (hO.lt hg)) (fun g j hg hj => ?_)
  cases hq : F' ⟨g, j, none⟩ with
  | none => rfl
  | some y =>
   rcases hn _ _ hq with q | q
   ·rw [hO.fz hg hj] at q; cases q
   ·have := hO.lt hg; simp only at q; omega
 ·exact h.below.trans (hb.mono (Nat.le_trans h.room h.below.size))
 ·rcases hn ad y q with q' | q'
  ·exact .inl q'
  ·exact .inr (Nat.le_trans (Nat.le_trans h.room h.below.size) q')
theorem exec_sound (h : Inv Gl F own B w0 σ act w) {lm : Bool} {o : Oper} {i : I} (hc : cI P lm o.op = some i) {d : Bool} {K : St → Prop} (he : aExec P Gl d σ o.dst K i) (Q : Exit → Act → World → Prop) : o.wp P act w (Some' Gl B w0 K) Q := by
  by_cases hcall : ∃ f args, i = .call f args
  · obtain ⟨f, args, rfl⟩ := hcall
    -- the operation is a call
    obtain ⟨c, x, hop, hcal, hfo, hargs⟩ : ∃ c x, o.op = .call c ∧ c.callee = .value x ∧ f = cOpd x ∧ args = c.args.toList.map cOpd := by
      cases hop : o.op with
      | call c =>
        rw [hop] at hc
        obtain ⟨callee, as', tys⟩ := c
        simp only [cI, cCall] at hc
        split at hc
        · rename_i b
          simp only [cBuiltin] at hc
          split at hc
          · unfold cLen at hc; split at hc
            · split at hc <;> cases hc
            · cases hc
          · unfold cApp at hc; repeat' split at hc
            all_goals cases hc
          · unfold cCopy at hc; repeat' split at hc
            all_goals cases hc
          · unfold cTwo at hc; split at hc <;> cases hc
          · unfold cTwo at hc; split at hc <;> cases hc
          · cases hc
        · rename_i x'
          split at hc
          · cases hc
            exact ⟨_, x', rfl, rfl, rfl, rfl⟩
          · cases hc
        · cases hc
      | binOp op xt x y yt =>
        rw [hop] at hc
        simp only [cI, cBin] at hc
        repeat' split at hc
        all_goals first
          | (cases hc; done)
          | (cases hn : negOf op <;> rw [hn] at hc <;> cases hc; done)
      | makeSlice t l c => rw [hop] at hc; simp only [cI] at hc; repeat' split at hc
                           all_goals cases hc
      | buildSlice t n ps => rw [hop] at hc; simp only [cI] at hc; repeat' split at hc
                             all_goals first | (cases hc; done) | (cases lm <;> cases hc; done)
      | build t ps =>
        rw [hop] at hc
        simp only [cI] at hc
        repeat' split at hc
        all_goals first
          | (cases hc; done)
          | (rw [Option.map_eq_some_iff] at hc; obtain ⟨_, _, q⟩ := hc; cases q)
      | slice t x lo hi mx =>
        rw [hop] at hc
        cases mx with
        | some m =>
          cases lo <;> cases hi <;> simp only [cI] at hc
          all_goals (repeat' split at hc)
          all_goals cases hc
        | none =>
          simp only [cI] at hc
          repeat' split at hc
          all_goals cases hc
      | alloc t =>
        rw [hop] at hc
        simp only [cI, cAlloc] at hc
        repeat' split at hc
        all_goals cases hc
      | _ =>
        rw [hop] at hc
        simp only [cI] at hc
        repeat' split at hc
        all_goals cases hc
    subst hargs hfo
    obtain ⟨f, hfv, hcb, he⟩ := he
    obtain ⟨fn, hfn, hbody, hname⟩ := callable_spec hcb
    have hev : act.eval x = .func (.func f) #[] #[] := by have := h.ev x; rw [hfv] at this; exact this.v_inv
    have hrun : (execOp act.eval o).run P w = .ok (.enter f (c.args.map act.eval)) w := by
      unfold execOp
      simp only [hop]
      have hb' : ¬ fn.body = none := by intro q; rw [q] at hbody; cases hbody
      have hn' : ¬ fn.name = "runtime.NumGoroutine" := by simpa using hname
      simp [resolve, hcal, hev, Deferred.ofValue, invoke, callFunc, hfn, hn', hb']
    unfold Oper.wp
    rw [hrun, Oper.upon_enter]
    rcases he with ⟨as, res, hk, hP, _, hK⟩ | ⟨_, hP⟩
    case inr =>
      have hrl : RL F own (c.args.map act.eval) ((c.args.toList.map cOpd).map (σ.val Gl)) := by
        refine ⟨by simp, fun j x a hx ha => ?_⟩
        have hj : j < c.args.size := by have := (Array.getElem?_eq_some_iff.1 hx).1; simpa using this
        rw [Array.getElem?_map, Array.getElem?_eq_getElem hj] at hx
        cases hx
        simp [List.getElem?_eq_getElem, hj] at ha
        subst ha
        exact h.ev c.args[j]
      refine (hP F own B w0 σ.t act w (c.args.map act.eval) h hrl).mono ?_
      rintro e w' ⟨v, res, h', F', own', rfl, hI, hR, hK⟩
      exact ⟨F', own', _, hI.put hR o.dst, hK⟩
    obtain ⟨F1, hF1, hI1, hkp⟩ := h.freezeL (((c.args.toList.map cOpd).map (σ.val Gl)).flatMap rowsA)
    obtain ⟨l1, l2⟩ := keepAL_sound h hF1 _ as hk hkp
    have hrpl : RPL F1 (c.args.map act.eval) as := by
      refine ⟨by simpa using l1, fun j x a hx ha => ?_⟩
      have hj : j < c.args.size := by have := (Array.getElem?_eq_some_iff.1 hx).1; simpa using this
      rw [Array.getElem?_map, Array.getElem?_eq_getElem hj] at hx
      cases hx
      exact (l2 j (act.eval c.args[j]) (σ.val Gl (cOpd c.args[j])) a (by simp [List.getElem?_eq_getElem, hj]) ha (h.ev c.args[j])).1
    have hgw : GlW Gl w.heap.size w := fun g cs q => by
      obtain ⟨q1, vs, ty, fr, q2, q3⟩ := hI1.gw g cs q
      exact ⟨Nat.lt_of_lt_of_le q1 (Nat.le_trans hI1.room hI1.below.size), vs, ty, fr, by rw [hI1.below.block _ q1]; exact q2, q3⟩
    refine (hP w F1 (c.args.map act.eval) hI1.sub hI1.gl hgw hrpl).mono ?_
    rintro e w' ⟨v, F', rfl, g1, g2, g3, g4, g5⟩
    simp only
    cases hsc : scalar res with
    | true =>
      rw [hsc] at hK
      simp only [if_true] at hK
      have hI2 := h.call (F' := F) (w' := w') (fun _ _ q => q) (fun ad y q => by rw [World.cell?_of_block (w := w) (g5.block _ (h.F_lt q))]; exact h.sub _ _ q) (fun _ _ q => .inl q) g5
      exact ⟨F, own, _, hI2.put (.pure (scalar_RP g4 hsc)) o.dst, hK⟩
    | false =>
      rw [hsc] at hK
      simp only [Bool.false_eq_true, if_false] at hK
      have hI2 := hI1.call g1 g2 g3 g5
      exact ⟨F', own, _, hI2.put (.pure g4) o.dst, hK⟩
  · have he' : (match step Gl σ i with | some (p, a, h') => p ∧ K (St.put ⟨σ.t, h'⟩ o.dst a) | none => False) := by
      cases i <;> first | exact he | exact absurd ⟨_, _, rfl⟩ hcall
    cases hs : step Gl σ i with
    | none => rw [hs] at he'; exact he'.elim
    | some q =>
      obtain ⟨p, a, h'⟩ := q
      rw [hs] at he'
      obtain ⟨hp, hK⟩ := he'
      obtain ⟨nx, x, w', F', own', hrun, hnx, hI, hR⟩ := step_ok h hc hs hp
      unfold Oper.wp
      rw [hrun]
      rcases hnx with rfl | ⟨rfl, rfl⟩
      · exact ⟨F', own', _, hI.put hR o.dst, hK⟩
      · exact ⟨F', own', _, hI.put hR o.dst, hK⟩
theorem step_sound (h : Inv Gl F own B w0 σ act w) {lm : Bool} {ops : Array Oper} {o : Oper} {ins : Ins} (hc : cIns P lm ops o = some ins) {d : Bool} {K : St → Prop} (he : aStep P Gl d σ ins K) (Q : Exit → Act → World → Prop) {k : Nat} (hk : ops[k]? = some o) : wpOp P ops Q k (Some' Gl B w0 K) act w := by
 unfold wpOp
 rw [hk]
 simp only
 unfold cIns at hc
 cases hi : cI P (lmOf P lm ops o) o.op with
 | none => rw [hi] at hc; cases hc
 | some i =>
  rw [hi] at hc
  simp only at hc
  cases hg : o.guard with
  | none =>
   rw [hg] at hc
   cases hc
   rw [if_pos (by simp [Region.wanted, hg])]
   exact .inl (exec_sound h hi he Q)
  | some q =>
   obtain ⟨j, want⟩ := q
   rw [hg] at hc
   simp only at hc
   cases hs : (ops[j]?).bind (·.dst) with
   | none => rw [hs] at hc; cases hc
   | some s =>
    rw [hs] at hc
    cases hc
    simp only [aStep] at he
    split at he
    ·rename_i b hb
     have hy : yielded ops act.tmps j = some b := by
      unfold yielded
      rw [hs]
      have hlt : s < σ.t.length := by
       rcases Nat.lt_or_ge s σ.t.length with q | q
       ·exact q
       ·simp [List.getD, List.getElem?_eq_none q] at hb
      have hlt' : s < act.tmps.size := by rw [h.tl]; exact hlt
      have e1 : σ.t[s]? = some (.v (.bool b)) := by rw [← hb]; simp [List.getD, List.getElem?_eq_getElem hlt]
      have := (h.tr s _ _ (Array.getElem?_eq_getElem hlt') e1).v_inv
      simp only [Option.bind_some, Array.getElem?_eq_getElem hlt', this]
     by_cases hbw : b = want
     ·rw [if_pos hbw] at he
      rw [if_pos (by simp [Region.wanted, hg, hy, hbw])]
      exact .inl (exec_sound h hi he Q)
     ·rw [if_neg hbw] at he
      rw [if_neg (by simp [Region.wanted, hg, hy, hbw])]
      exact ⟨F, own, _, h.put (x := undef) (a := und) (.pure (.v undef)) o.dst, he⟩
    ·rename_i ys hb
     have hy : yielded ops act.tmps j = none := by
      unfold yielded
      rw [hs]
      have hlt : s < σ.t.length := by
       rcases Nat.lt_or_ge s σ.t.length with q | q
       ·exact q
       ·simp [List.getD, List.getElem?_eq_none q] at hb
      have hlt' : s < act.tmps.size := by rw [h.tl]; exact hlt
      have e1 : σ.t[s]? = some (.v (.tuple ys)) := by rw [← hb]; simp [List.getD, List.getElem?_eq_getElem hlt]
      have := (h.tr s _ _ (Array.getElem?_eq_getElem hlt') e1).v_inv
      simp only [Option.bind_some, Array.getElem?_eq_getElem hlt', this]
     rw [if_neg (by simp [Region.wanted, hg, hy])]
     exact ⟨F, own, _, h.put (x := undef) (a := und) (.pure (.v undef)) o.dst, he⟩
    ·exact he.elim
theorem ops_sound {lm d : Bool} {ops : Array Oper} {Q : Exit → Act → World → Prop} {K : St → Prop} (hQ : ∀ a w, Some' Gl B w0 K a w → Q .normal a w) : ∀ (l : List Ins) (k : Nat), (∀ j, k + j < ops.size → ∃ ins o, l[j]? = some ins ∧ ops[k + j]? = some o ∧ cIns P lm ops o = some ins) → k + l.length = ops.size →
  ∀ (σ : St) (F : Addr → Option Value) (own : List Ent) (act : Act) (w : World), aOps P Gl d K l σ → Inv Gl F own B w0 σ act w → wpOps P ops Q (List.range' k l.length) act w := by
 intro l
 induction l with
 | nil => intro k _ _ σ F own act w ha hI; exact hQ act w ⟨F, own, σ, hI, ha⟩
 | cons ins l ih =>
  intro k hl hk σ F own act w ha hI
  obtain ⟨ins', o, e1, e2, e3⟩ := hl 0 (by simp at hk; omega)
  simp at e1
  subst e1
  simp only [Nat.add_zero] at e2
  rw [List.length_cons, List.range'_succ, wpOps_cons]
  refine wpOp_mono ?_ (step_sound hI e3 ha Q e2)
  rintro a w1 ⟨F1, own1, σ1, hI1, hK⟩
  exact ih (k + 1) (fun j hj => by
   obtain ⟨i', o', f1, f2, f3⟩ := hl (j + 1) (by omega)
   exact ⟨i', o', by simpa using f1, by rw [← f2]; congr 1; omega, f3⟩) (by simp at hk; omega) σ1 F1 own1 a w1 hK hI1
end
end Abs
end Go.Proofs.YtfjhljjginlobaaDoor
end
section
namespace Go.Proofs.YtfjhljjginlobaaDoor
namespace Abs
open Go.RowKit
def Opd.slots : Opd → List Nat
 | .t i => [i]
 | _ => []
def optSlots : Option Opd → List Nat
 | some x => x.slots
 | none => []
def I.reads : I → List Nat
 | .mov x | .un _ x | .conv _ x | .fld _ _ _ x | .ext _ x | .faddr _ x | .load _ _ x | .len x | .slen x | .nck x | .b2s x | .s2b _ x | .box _ _ x | .mk _ _ _ _ x | .nilq _ x => x.slots
 | .pick c a b | .slice3 _ c a b => c.slots ++ a.slots ++ b.slots
 | .bin _ x y | .beq _ x y | .aeq _ _ x y | .iaddr _ x y | .aaddr _ _ _ x y | .copy _ x y | .store _ x y | .idx x y | .aidx _ _ _ x y | .app _ _ _ x y | .apps _ _ x y | .min2 x y | .max2 x y => x.slots ++ y.slots
 | .slice _ x lo hi | .sslice x lo hi | .aslice _ _ x lo hi | .aslf _ x lo hi => x.slots ++ optSlots lo ++ optSlots hi
 | .bslice _ _ xs | .blist _ _ xs | .bvec _ xs => xs.flatMap Opd.slots
 | .build _ ps => ps.flatMap fun p => p.2.2.slots
 | .alloc _ _ => []
 | .alloca _ _ _ _ => []
 | .call fo args => fo.slots ++ args.flatMap Opd.slots
def Ins.looks (i : Ins) : List Nat := i.i.reads ++ (match i.gd with | some (s, _) => [s] | none => [])
def I.cls : I → Nat
 | .load .. | .call .. | .aaddr .. | .aslice .. | .b2s .. => 1
 | .store .. | .app .. | .apps .. | .s2b .. | .bslice .. | .bvec .. | .box .. | .alloc .. | .alloca .. | .copy .. | .mk .. | .aslf .. => 2
 | _ => 0
section
variable {P : Program} {Gl : Nat → Option (List AV)}
theorem val_congr {σ τ : St} {x : Opd} (h : ∀ s ∈ x.slots, τ.t.getD s .any = σ.t.getD s .any) : τ.val Gl x = σ.val Gl x := by
 cases x with
 | t i => exact h i (by simp [Opd.slots])
 | k v => rfl
 | g i => rfl
theorem build_congr {σ τ : St} : ∀ (ps : List (Nat × Nat × Opd)) (cs : List AV), (∀ s ∈ ps.flatMap (fun p => p.2.2.slots), τ.t.getD s .any = σ.t.getD s .any) → buildC Gl τ cs ps = buildC Gl σ cs ps := by
 intro ps
 induction ps with
 | nil => intro cs _; rfl
 | cons p ps ih =>
  intro cs h
  obtain ⟨o, s, x⟩ := p
  have hx : τ.val Gl x = σ.val Gl x := val_congr fun s hs => h s (by simp [hs])
  simp only [buildC, hx]
  split
  ·split
   ·exact ih _ fun s hs => h s (by simp only [List.flatMap_cons, List.mem_append]; exact .inr hs)
   ·rfl
  ·rfl
theorem map_congr {σ τ : St} {xs : List Opd} (h : ∀ s ∈ xs.flatMap Opd.slots, τ.t.getD s .any = σ.t.getD s .any) : xs.map (τ.val Gl) = xs.map (σ.val Gl) := by
 apply List.map_congr_left
 intro x hx
 exact val_congr fun s hs => h s (List.mem_flatMap.2 ⟨x, hx, hs⟩)
theorem opt_congr {σ τ : St} {x : Option Opd} (h : ∀ s ∈ optSlots x, τ.t.getD s .any = σ.t.getD s .any) : x.map (τ.val Gl) = x.map (σ.val Gl) := by
 cases x with
 | none => rfl
 | some x => simp only [Option.map_some]; rw [val_congr h]
theorem step_congr {σ τ : St} {i : I} (h : ∀ s ∈ i.reads, τ.t.getD s .any = σ.t.getD s .any) (hh : τ.h = σ.h) : step Gl τ i = step Gl σ i := by
 cases i <;> simp only [I.reads, List.mem_append, or_imp, forall_and] at h <;> first
  | (simp only [step, val_congr h, hh]; done)
  | (simp only [step, val_congr h.1, val_congr h.2, hh]; done)
  | (simp only [step, val_congr h.1.1, val_congr h.1.2, val_congr h.2, hh]; done)
  | (simp only [step, val_congr h.1.1, opt_congr h.1.2, opt_congr h.2, hh]; done)
  | (simp only [step, map_congr h, hh]; done)
  | (simp only [step, build_congr _ _ h, hh]; done)
  | (simp only [step, hh]; done)
theorem keep1_rows {h g : List AObj} {a : AV} (hr : rows1 a = []) : keep1 h a = keep1 g a := by
 cases a <;> first | rfl | cases hr
theorem keepL_rows {h g : List AObj} : ∀ {cs : List AV}, cs.flatMap rows1 = [] → keepL h cs = keepL g cs := by
 intro cs
 induction cs with
 | nil => intro _; rfl
 | cons c cs ih =>
  intro hr
  rw [List.flatMap_cons, List.append_eq_nil_iff] at hr
  simp only [keepL]
  rw [keep1_rows (h := h) (g := g) hr.1, ih hr.2]
theorem keepA_rows {h g : List AObj} {a : AV} (hr : rowsA a = []) : keepA h a = keepA g a := by
 cases a with
 | agg cs => simp only [keepA]; rw [keepL_rows (h := h) (g := g) hr]
 | _ => first | rfl | cases hr
theorem keepAL_rows {h g : List AObj} : ∀ {cs : List AV}, (∀ a ∈ cs, rowsA a = []) → keepAL h cs = keepAL g cs := by
 intro cs
 induction cs with
 | nil => intro _; rfl
 | cons c cs ih =>
  intro hr
  simp only [keepAL]
  rw [keepA_rows (h := h) (g := g) (hr c (by simp)), ih fun a ha => hr a (by simp [ha])]
theorem val_h {t : List AV} {h g : List AObj} (x : Opd) : St.val Gl ⟨t, h⟩ x = St.val Gl ⟨t, g⟩ x := by cases x <;> rfl
theorem mapval_h {t : List AV} {h g : List AObj} (xs : List Opd) : xs.map (St.val Gl ⟨t, h⟩) = xs.map (St.val Gl ⟨t, g⟩) := List.map_congr_left fun x _ => val_h x
theorem optval_h {t : List AV} {h g : List AObj} (x : Option Opd) : x.map (St.val Gl ⟨t, h⟩) = x.map (St.val Gl ⟨t, g⟩) := by cases x <;> simp [val_h (Gl := Gl) (t := t) (h := h) (g := g)]
theorem build_h {t : List AV} {h g : List AObj} (ps : List (Nat × Nat × Opd)) (cs : List AV) : buildC Gl ⟨t, h⟩ cs ps = buildC Gl ⟨t, g⟩ cs ps := build_congr ps cs fun _ _ => rfl
theorem step_h {t : List AV} {h g : List AObj} {i : I} (hc : i.cls = 0) : step Gl ⟨t, g⟩ i = (step Gl ⟨t, h⟩ i).map fun q => (q.1, q.2.1, g) := by
 cases i with
 | blist ty sz xs =>
  simp only [step, mapval_h (Gl := Gl) (t := t) (h := g) (g := h)]
  generalize xs.map (St.val Gl ⟨t, h⟩) = l
  by_cases hr : l.all (fun a => (rowsA a).isEmpty) = true
  ·rw [keepAL_rows (h := g) (g := h) fun a ha => List.isEmpty_iff.1 (List.all_eq_true.1 hr a ha)]
   cases keepAL h l with
   | none => rfl
   | some ys => simp only; split <;> rfl
  ·have : ∀ ys : List AV, (ys.all (fun y => y.cells.length == sz) && l.all (fun a => (rowsA a).isEmpty)) = false := fun ys => by
    simp only [Bool.not_eq_true] at hr; rw [hr, Bool.and_false]
   cases keepAL g l <;> cases keepAL h l <;> simp [this]
 | build z ps => simp only [step, build_h (Gl := Gl) (t := t) (h := g) (g := h)]; cases buildC Gl ⟨t, h⟩ (z.map .v) ps <;> rfl
 | slice sz x lo hi =>
  simp only [step, val_h (Gl := Gl) (t := t) (h := g) (g := h), optval_h (Gl := Gl) (t := t) (h := g) (g := h)]
  split
  ·split
   ·cases cutB _ _ _ <;> rfl
   ·rfl
  ·cases cutB _ _ _ <;> rfl
  ·split
   ·cases cutB _ _ _ <;> rfl
   ·rfl
  ·rfl
 | sslice x lo hi =>
  simp only [step, val_h (Gl := Gl) (t := t) (h := g) (g := h), optval_h (Gl := Gl) (t := t) (h := g) (g := h)]
  split
  ·cases cutB _ _ _ <;> rfl
  ·rfl
 | bin op x y =>
  simp only [step, val_h (Gl := Gl) (t := t) (h := g) (g := h)]
  split
  ·cases binV _ _ _ <;> rfl
  ·rfl
 | un op x =>
  simp only [step, val_h (Gl := Gl) (t := t) (h := g) (g := h)]
  split
  ·cases unV _ _ <;> rfl
  ·rfl
 | aeq n fs x y =>
  simp only [step, val_h (Gl := Gl) (t := t) (h := g) (g := h)]
  split
  ·cases eqA _ _ _ <;> rfl
  ·rfl
 | fld o sz ag x =>
  simp only [step, val_h (Gl := Gl) (t := t) (h := g) (g := h)]
  split
  ·split
   ·split <;> rfl
   ·rename_i cs _ _; cases cs[o]? <;> rfl
  ·rfl
 | ext k x =>
  simp only [step, val_h (Gl := Gl) (t := t) (h := g) (g := h)]
  split
  ·rename_i vs _; cases vs[k]? <;> rfl
  ·rfl
 | slice3 sz x y z =>
  simp only [step, val_h (Gl := Gl) (t := t) (h := g) (g := h)]
  split
  ·split <;> rfl
  ·rfl
 | aidx sz ag n x y =>
  simp only [step, val_h (Gl := Gl) (t := t) (h := g) (g := h)]
  split
  ·split
   ·split <;> rfl
   ·rfl
  ·rfl
 | iaddr sz x y =>
  simp only [step, val_h (Gl := Gl) (t := t) (h := g) (g := h)]
  split
  ·split <;> rfl
  ·split <;> rfl
  ·rfl
 | _ => first
  | (cases hc; done)
  | (simp only [step, val_h (Gl := Gl) (t := t) (h := g) (g := h)]; first | rfl | (split <;> rfl))
theorem step_free {σ τ : St} {i : I} (hc : i.cls = 0) (h : ∀ s ∈ i.reads, τ.t.getD s .any = σ.t.getD s .any) {p : Prop} {a : AV} {h' : List AObj} (hs : step Gl σ i = some (p, a, h')) : h' = σ.h ∧ step Gl τ i = some (p, a, τ.h) := by
 have e1 : step Gl ⟨τ.t, σ.h⟩ i = some (p, a, h') := by rw [step_congr (σ := σ) (τ := ⟨τ.t, σ.h⟩) h rfl]; exact hs
 have e2 := step_h (Gl := Gl) (t := τ.t) (h := σ.h) (g := τ.h) hc
 rw [e1] at e2
 have e3 := step_h (Gl := Gl) (t := σ.t) (h := σ.h) (g := σ.h) hc
 have hs' : step Gl ⟨σ.t, σ.h⟩ i = some (p, a, h') := hs
 rw [hs'] at e3
 simp only [Option.map_some, Option.some.injEq, Prod.mk.injEq, true_and] at e3
 exact ⟨e3, e2⟩
def eOne (P : Program) (Gl : Nat → Option (List AV)) (d : Bool) (σ : St) (a : AV) (h' : List AObj) : I → Prop
 | .call fo args => ∃ f, σ.val Gl fo = .v (.func (.func f) #[] #[]) ∧ callable P f = true ∧ ∃ as, keepAL σ.h (args.map (σ.val Gl)) = some as ∧ Pure P Gl f as a ∧ (d = true → (if scalar a then σ.h else freeze σ.h ((args.map (σ.val Gl)).flatMap rowsA)) = σ.h) ∧ h' = (if scalar a then σ.h else freeze σ.h ((args.map (σ.val Gl)).flatMap rowsA))
 | i => ∃ p, step Gl σ i = some (p, a, h') ∧ p
def aOne (P : Program) (Gl : Nat → Option (List AV)) (d : Bool) (σ : St) (ins : Ins) (a : AV) (h' : List AObj) : Prop :=
 match ins.gd with
 | none => eOne P Gl d σ a h' ins.i
 | some (s, want) => match σ.t.getD s .any with
  | .v (.bool b) => if b = want then eOne P Gl d σ a h' ins.i else a = und ∧ h' = σ.h
  | .v (.tuple _) => a = und ∧ h' = σ.h
  | _ => False
theorem eOne_iff {σ : St} {dst : Option Nat} {K : St → Prop} {i : I} : aExec P Gl true σ dst K i ↔ ∃ a h', eOne P Gl true σ a h' i ∧ K (St.put ⟨σ.t, h'⟩ dst a) := by
 by_cases hcall : ∃ f args, i = .call f args
 ·obtain ⟨f, args, rfl⟩ := hcall
  constructor
  ·rintro ⟨f, hf, hcb, (⟨as, res, h1, h2, h3, h4⟩ | ⟨h1, _⟩)⟩
   ·exact ⟨res, _, ⟨f, hf, hcb, as, h1, h2, h3, rfl⟩, h4⟩
   ·cases h1
  ·rintro ⟨res, h', ⟨f, hf, hcb, as, h1, h2, h3, rfl⟩, h4⟩
   exact ⟨f, hf, hcb, .inl ⟨as, res, h1, h2, h3, h4⟩⟩
 ·have e1 : aExec P Gl true σ dst K i = (match step Gl σ i with | some (p, a, h') => p ∧ K (St.put ⟨σ.t, h'⟩ dst a) | none => False) := by
   cases i <;> first | rfl | exact absurd ⟨_, _, rfl⟩ hcall
  have e2 : ∀ a h', eOne P Gl true σ a h' i = ∃ p, step Gl σ i = some (p, a, h') ∧ p := fun a h' => by
   cases i <;> first | rfl | exact absurd ⟨_, _, rfl⟩ hcall
  rw [e1]
  constructor
  ·intro h
   cases hs : step Gl σ i with
   | none => rw [hs] at h; exact h.elim
   | some q =>
    obtain ⟨p, a, h'⟩ := q
    rw [hs] at h
    exact ⟨a, h', by rw [e2]; exact ⟨p, hs, h.1⟩, h.2⟩
  ·rintro ⟨a, h', h1, h2⟩
   rw [e2] at h1
   obtain ⟨p, hs, hp⟩ := h1
   rw [hs]
   exact ⟨hp, h2⟩
theorem aOne_iff {σ : St} {K : St → Prop} {ins : Ins} : aStep P Gl true σ ins K ↔ ∃ a h', aOne P Gl true σ ins a h' ∧ K (St.put ⟨σ.t, h'⟩ ins.dst a) := by
 unfold aStep aOne
 cases ins.gd with
 | none => exact eOne_iff
 | some q =>
  obtain ⟨s, want⟩ := q
  simp only
  generalize σ.t.getD s .any = g
  have no : ∀ {X : AV → List AObj → Prop}, (False ↔ ∃ a h', False ∧ X a h') := fun {X} => ⟨fun h => h.elim, fun ⟨_, _, h, _⟩ => h.elim⟩
  cases g with
  | v x => cases x with
   | bool b =>
    simp only
    by_cases hb : b = want
    ·simp only [if_pos hb]; exact eOne_iff
    ·simp only [if_neg hb]
     constructor
     ·intro h; exact ⟨und, σ.h, ⟨rfl, rfl⟩, h⟩
     ·rintro ⟨a, h', ⟨rfl, rfl⟩, h⟩; exact h
   | tuple ys =>
    simp only
    constructor
    ·intro h; exact ⟨und, σ.h, ⟨rfl, rfl⟩, h⟩
    ·rintro ⟨a, h', ⟨rfl, rfl⟩, h⟩; exact h
   | _ => exact no
  | _ => exact no
theorem eOne_congr {σ τ : St} {i : I} (h : ∀ s ∈ i.reads, τ.t.getD s .any = σ.t.getD s .any) (hh : i.cls ≠ 0 → τ.h = σ.h) {a : AV} {h' : List AObj} (he : eOne P Gl true σ a h' i) :
  (i.cls ≠ 2 → h' = σ.h) ∧ eOne P Gl true τ a (if i.cls = 2 then h' else τ.h) i := by
 by_cases hcall : ∃ f args, i = .call f args
 ·obtain ⟨f, args, rfl⟩ := hcall
  obtain ⟨f', hf, hcb, as, h1, h2, h3, rfl⟩ := he
  have hτ := hh (by simp [I.cls])
  have hA : ∀ s ∈ args.flatMap Opd.slots, τ.t.getD s .any = σ.t.getD s .any := fun s hs => h s (by simp only [I.reads, List.mem_append]; exact .inr hs)
  have hO : τ.val Gl f = σ.val Gl f := val_congr fun s hs => h s (by simp only [I.reads, List.mem_append]; exact .inl hs)
  refine ⟨fun _ => h3 rfl, f', by rw [hO]; exact hf, hcb, as, ?_, h2, ?_, ?_⟩
  ·rw [map_congr hA, hτ]; exact h1
  ·rw [map_congr hA, hτ]; exact h3
  ·rw [map_congr hA, hτ, h3 rfl]; simp [I.cls]
 ·have e2 : ∀ (ρ : St) a h', eOne P Gl true ρ a h' i = ∃ p, step Gl ρ i = some (p, a, h') ∧ p := fun ρ a h' => by
   cases i <;> first | rfl | exact absurd ⟨_, _, rfl⟩ hcall
  rw [e2] at he
  obtain ⟨p, hs, hp⟩ := he
  rw [e2]
  by_cases hc : i.cls = 0
  ·obtain ⟨q1, q2⟩ := step_free hc h hs
   exact ⟨fun _ => q1, p, by rw [if_neg (by omega)]; exact q2, hp⟩
  ·have hτ := hh hc
   have hs2 := step_congr (Gl := Gl) h hτ
   rw [hs] at hs2
   by_cases hc2 : i.cls = 2
   ·exact ⟨fun q => absurd hc2 q, p, by rw [if_pos hc2]; exact hs2, hp⟩
   ·have hload : h' = σ.h := by
     cases i <;> first | (exact absurd rfl hc) | (exact absurd rfl hc2) | (exact absurd ⟨_, _, rfl⟩ hcall) | skip
     all_goals (simp only [step] at hs)
     all_goals (repeat' split at hs)
     all_goals first
      | (cases hs; done)
      | (cases hs; rfl)
      | (rw [Option.map_eq_some_iff] at hs; obtain ⟨_, _, q⟩ := hs; cases q; rfl)
    refine ⟨fun _ => hload, p, ?_, hp⟩
    rw [if_neg hc2, hτ, ← hload]; exact hs2
theorem aOne_congr {σ τ : St} {ins : Ins} (h : ∀ s ∈ ins.looks, τ.t.getD s .any = σ.t.getD s .any) (hh : ins.i.cls ≠ 0 → τ.h = σ.h) {a : AV} {h' : List AObj} (he : aOne P Gl true σ ins a h') :
  (ins.i.cls ≠ 2 → h' = σ.h) ∧ ∃ h'', aOne P Gl true τ ins a h'' ∧ (ins.i.cls ≠ 2 → h'' = τ.h) ∧ (ins.i.cls = 2 → h'' = h') := by
 have hr : ∀ s ∈ ins.i.reads, τ.t.getD s .any = σ.t.getD s .any := fun s hs => h s (by simp [Ins.looks, hs])
 unfold aOne at he ⊢
 cases hg : ins.gd with
 | none =>
  rw [hg] at he
  obtain ⟨q1, q2⟩ := eOne_congr hr hh he
  exact ⟨q1, _, q2, fun c => if_neg c, fun c => if_pos c⟩
 | some q =>
  obtain ⟨s, want⟩ := q
  rw [hg] at he
  simp only at he ⊢
  rw [h s (by simp [Ins.looks, hg])]
  split at he
  ·rename_i b hb
   split at he
   ·rename_i hbw
    obtain ⟨q1, q2⟩ := eOne_congr hr hh he
    exact ⟨q1, _, by rw [if_pos hbw]; exact q2, fun c => if_neg c, fun c => if_pos c⟩
   ·rename_i hbw
    obtain ⟨rfl, rfl⟩ := he
    refine ⟨fun _ => rfl, τ.h, by rw [if_neg hbw]; exact ⟨rfl, rfl⟩, fun _ => rfl, fun c => hh (by omega)⟩
  ·obtain ⟨rfl, rfl⟩ := he
   exact ⟨fun _ => rfl, τ.h, ⟨rfl, rfl⟩, fun _ => rfl, fun c => hh (by omega)⟩
  ·exact he.elim
def putT (t : List AV) (d : Option Nat) (a : AV) : List AV :=
 match d with
 | some i => t.set i a
 | none => t
theorem put_eq (σ : St) (h : List AObj) (d : Option Nat) (a : AV) : St.put ⟨σ.t, h⟩ d a = ⟨putT σ.t d a, h⟩ := by cases d <;> rfl
theorem putT_len (t : List AV) (d : Option Nat) (a : AV) : (putT t d a).length = t.length := by cases d <;> simp [putT]
theorem putT_ne {t : List AV} {d : Option Nat} {a : AV} {s : Nat} (h : d ≠ some s) : (putT t d a)[s]? = t[s]? := by
 cases d with
 | none => rfl
 | some i => exact List.getElem?_set_ne (fun e => h (by rw [e]))
theorem putT_self {t t' : List AV} {s : Nat} {a : AV} (hl : t.length = t'.length) : (putT t (some s) a)[s]? = (putT t' (some s) a)[s]? := by
 simp [putT, List.getElem?_set, hl]
def dstOf (l : List Ins) (k : Nat) : Option Nat := (l[k]?).bind (·.dst)
def tS (t : List AV) (l : List Ins) (as : Nat → AV) (S : Nat → Bool) : Nat → List AV
 | 0 => t
 | k + 1 => if S k then putT (tS t l as S k) (dstOf l k) (as k) else tS t l as S k
theorem tS_len (t : List AV) (l : List Ins) (as : Nat → AV) (S : Nat → Bool) (k : Nat) : (tS t l as S k).length = t.length := by
  induction k with
  | zero => rfl
  | succ k ih => simp only [tS]; split
                 · rw [putT_len]; exact ih
                 · exact ih
theorem tS_congr {t : List AV} {l : List Ins} {as as' : Nat → AV} {S S' : Nat → Bool} {k : Nat} (h : ∀ j, j < k → as j = as' j ∧ S j = S' j) : tS t l as S k = tS t l as' S' k := by
 induction k with
 | zero => rfl
 | succ k ih =>
  simp only [tS]
  rw [ih fun j hj => h j (by omega), (h k (by omega)).1, (h k (by omega)).2]
theorem tS_at {t : List AV} {l : List Ins} {as : Nat → AV} {S S' : Nat → Bool} {s : Nat} {k : Nat} (h : ∀ j, j < k → dstOf l j = some s → S j = S' j) : (tS t l as S k)[s]? = (tS t l as S' k)[s]? := by
 induction k with
 | zero => rfl
 | succ k ih =>
  have ih' := ih fun j hj => h j (by omega)
  have hl : (tS t l as S k).length = (tS t l as S' k).length := by rw [tS_len, tS_len]
  simp only [tS]
  by_cases hd : dstOf l k = some s
  ·rw [h k (by omega) hd, hd]
   split
   ·exact putT_self hl
   ·exact ih'
  ·split <;> split <;> simp only [putT_ne hd, ih']
theorem tS_stop {t : List AV} {l : List Ins} {as : Nat → AV} {S : Nat → Bool} {j k : Nat} (hjk : j ≤ k) (h : ∀ i, j ≤ i → i < k → S i = false) : tS t l as S k = tS t l as S j := by
  induction k with
  | zero => have : j = 0 := by omega
            subst this; rfl
  | succ k ih =>
    rcases Nat.lt_or_ge k j with q | q
    · have : j = k + 1 := by omega
      subst this; rfl
    · simp only [tS]
      rw [h k q (by omega)]
      exact ih q fun i a b => h i a (by omega)
theorem trace {K : St → Prop} {l : List Ins} {σ : St} (h : aOps P Gl true K l σ) : ∃ (as : Nat → AV) (hs : Nat → List AObj), hs 0 = σ.h ∧
  (∀ i ins, l[i]? = some ins → aOne P Gl true ⟨tS σ.t l as (fun _ => true) i, hs i⟩ ins (as i) (hs (i + 1))) ∧ K ⟨tS σ.t l as (fun _ => true) l.length, hs l.length⟩ := by
 have key : ∀ k, k ≤ l.length → ∃ (as : Nat → AV) (hs : Nat → List AObj), hs 0 = σ.h ∧ (∀ i ins, i < k → l[i]? = some ins → aOne P Gl true ⟨tS σ.t l as (fun _ => true) i, hs i⟩ ins (as i) (hs (i + 1))) ∧ aOps P Gl true K (l.drop k) ⟨tS σ.t l as (fun _ => true) k, hs k⟩ := by
  intro k
  induction k with
  | zero => intro _; exact ⟨fun _ => .any, fun _ => σ.h, rfl, fun i ins hi => by omega, h⟩
  | succ k ih =>
   intro hk
   obtain ⟨as, hs, h0, h1, h2⟩ := ih (by omega)
   have hlt : k < l.length := by omega
   rw [List.drop_eq_getElem_cons hlt] at h2
   obtain ⟨a, h', ha, hr⟩ := aOne_iff.1 h2
   refine ⟨fun i => if i = k then a else as i, fun i => if i = k + 1 then h' else hs i, by simp [h0], fun i ins hi hl => ?_, ?_⟩
   ·have e1 : tS σ.t l (fun i => if i = k then a else as i) (fun _ => true) i = tS σ.t l as (fun _ => true) i := tS_congr fun j hj => ⟨if_neg (by omega), rfl⟩
    simp only [e1]
    by_cases hik : i = k
    ·subst hik
     rw [List.getElem?_eq_getElem hlt] at hl
     cases hl
     simp only [if_true]
     rw [if_neg (by omega)]
     exact ha
    ·rw [if_neg (by omega), if_neg hik, if_neg (by omega)]
     exact h1 i ins (by omega) hl
   ·have e1 : tS σ.t l (fun i => if i = k then a else as i) (fun _ => true) k = tS σ.t l as (fun _ => true) k := tS_congr fun j hj => ⟨if_neg (by omega), rfl⟩
    simp only [tS, if_true, e1]
    rw [put_eq] at hr
    have e2 : dstOf l k = l[k].dst := by simp [dstOf, List.getElem?_eq_getElem hlt]
    rw [e2]
    exact hr
 obtain ⟨as, hs, h0, h1, h2⟩ := key l.length (Nat.le_refl _)
 refine ⟨as, hs, h0, fun i ins hl => h1 i ins (List.getElem?_eq_some_iff.1 hl).1 hl, ?_⟩
 rw [List.drop_length] at h2
 exact h2
end
end Abs
end Go.Proofs.YtfjhljjginlobaaDoor
end
section
namespace Go.Proofs.YtfjhljjginlobaaDoor
namespace Abs
open Go.RowKit
def direct (ops : Array Oper) (i : Nat) : List Nat := match ops[i]? with
 | some o => o.after.toList.filterMap fun e => if Region.binds .any e then some e.on else none
 | none => []
def tb (bm : Array Nat) (i j : Nat) : Bool := (bm.getD i 0).testBit j
def clash (a b : Ins) : Bool :=
 (match a.dst with | some d => b.looks.contains d || b.dst == some d | none => false) || (match b.dst with | some d => a.looks.contains d | none => false) ||
 (a.i.cls == 2 && b.i.cls != 0) || (b.i.cls == 2 && a.i.cls != 0)
def drawOk (ops : Array Oper) (l : List Ins) : Bool :=
 let bm := Region.before ops
 let n := ops.size
 (List.range n).all fun i => (direct ops i).all (fun d => decide (d < i)) &&
  (List.range i).all fun j => (!tb bm i j || (direct ops i).contains j || (direct ops i).any fun d => decide (j < d) && tb bm d j) && (!clash (l.getD j default) (l.getD i default) || tb bm i j)
section
variable {P : Program} {Gl : Nat → Option (List AV)} {F : Addr → Option Value} {own : List Ent} {B : Nat} {w0 : W0} {σ : St} {act : Act} {w : World}
theorem drawOk_spec {ops : Array Oper} {l : List Ins} (h : drawOk ops l = true) :
  (∀ i d, i < ops.size → d ∈ direct ops i → d < i) ∧ (∀ i j, j < i → i < ops.size → tb (Region.before ops) i j = true → j ∈ direct ops i ∨ ∃ d ∈ direct ops i, j < d ∧ tb (Region.before ops) d j = true) ∧
  (∀ i j, j < i → i < ops.size → clash (l.getD j default) (l.getD i default) = true → tb (Region.before ops) i j = true) := by
 unfold drawOk at h
 have h1 : ∀ i, i < ops.size → _ := fun i hi => List.all_eq_true.1 h i (List.mem_range.2 hi)
 refine ⟨fun i d hi hd => ?_, fun i j hj hi ht => ?_, fun i j hj hi hc => ?_⟩
 ·have := h1 i hi
  rw [Bool.and_eq_true] at this
  exact of_decide_eq_true (List.all_eq_true.1 this.1 d hd)
 ·have := h1 i hi
  rw [Bool.and_eq_true] at this
  have := List.all_eq_true.1 this.2 j (List.mem_range.2 hj)
  rw [Bool.and_eq_true] at this
  have := this.1
  simp only [ht, Bool.not_true, Bool.false_or, Bool.or_eq_true] at this
  rcases this with q | q
  ·exact .inl (List.contains_iff_mem.1 q)
  ·obtain ⟨d, hd, hq⟩ := List.any_eq_true.1 q
   rw [Bool.and_eq_true] at hq
   exact .inr ⟨d, hd, of_decide_eq_true hq.1, hq.2⟩
 ·have := h1 i hi
  rw [Bool.and_eq_true] at this
  have := List.all_eq_true.1 this.2 j (List.mem_range.2 hj)
  rw [Bool.and_eq_true] at this
  have := this.2
  rw [hc] at this
  exact this
theorem clash_1 {a b : Ins} (h1 : a.i.cls = 2) (h2 : b.i.cls ≠ 0) : clash a b = true := by simp [clash, h1, h2]
theorem clash_2 {a b : Ins} (h1 : b.i.cls = 2) (h2 : a.i.cls ≠ 0) : clash a b = true := by simp [clash, h1, h2]
theorem clash_d {a b : Ins} {s : Nat} (h1 : a.dst = some s) (h2 : b.dst = some s) : clash a b = true := by simp [clash, h1, h2]
theorem count_pos {n : Nat} {S : Nat → Bool} (h : 0 < (List.range n).countP fun i => !S i) : ∃ i, i < n ∧ S i = false ∧ ∀ j, j < i → S j = true := by
 have ex : ∃ i, i < n ∧ S i = false := by
  obtain ⟨i, hi, hs⟩ := List.countP_pos_iff.1 h
  exact ⟨i, List.mem_range.1 hi, by simpa using hs⟩
 obtain ⟨i, hi⟩ := ex
 induction i using Nat.strongRecOn with
 | _ i ih =>
  by_cases hall : ∀ j, j < i → S j = true
  ·exact ⟨i, hi.1, hi.2, hall⟩
  ·have : ∃ j, j < i ∧ S j = false := by
    apply Classical.byContradiction
    intro q
    exact hall fun j hj => by
     cases hs : S j with
     | true => rfl
     | false => exact absurd ⟨j, hj, hs⟩ q
   obtain ⟨j, hj, hs⟩ := this
   exact ih j hj ⟨by omega, hs⟩
theorem count_set {n : Nat} {S S' : Nat → Bool} {k : Nat} (hk : k < n) (h0 : S k = false) (h1 : S' k = true) (h : ∀ j, j ≠ k → S' j = S j) : ((List.range n).countP fun i => !S i) = ((List.range n).countP fun i => !S' i) + 1 := by
 induction n with
 | zero => omega
 | succ n ih =>
  rw [List.range_succ, List.countP_append, List.countP_append]
  rcases Nat.lt_or_ge k n with q | q
  ·rw [ih q]
   simp only [List.countP_cons, List.countP_nil]
   rw [h n (by omega)]
   omega
  ·have : k = n := by omega
   subst this
   have e : ((List.range k).countP fun i => !S i) = ((List.range k).countP fun i => !S' i) := List.countP_congr fun i hi => by
    rw [h i (by have := List.mem_range.1 hi; omega)]
   rw [e]
   simp [h0, h1]
theorem drawn_sound {lm : Bool} {ops : Array Oper} {l : List Ins} (hl : l.length = ops.size) (hc : ∀ (j : Nat) (o : Oper), ops[j]? = some o → ∃ ins, l[j]? = some ins ∧ cIns P lm ops o = some ins) (hd : drawOk ops l = true) {Q : Exit → Act → World → Prop} {K : St → Prop} (hQ : ∀ a w, Some' Gl B w0 K a w → Q .normal a w)
    (ha : aOps P Gl true K l σ) (hI : Inv Gl F own B w0 σ act w) : wpAny P .any ops Q ops.size (Array.replicate ops.size false) act w := by
  obtain ⟨d1, d2, d3⟩ := drawOk_spec hd
  obtain ⟨as, hs, h0, hone, hK⟩ := trace ha
  generalize hn : ops.size = n at *
  have insAt : ∀ i, i < n → ∃ o ins, ops[i]? = some o ∧ l[i]? = some ins ∧ cIns P lm ops o = some ins ∧ l.getD i default = ins := fun i hi => by
    have ho : ops[i]? = some (ops[i]'(by omega)) := Array.getElem?_eq_getElem (by omega)
    obtain ⟨ins, e1, e2⟩ := hc i _ ho
    exact ⟨_, ins, ho, e1, e2, by simp [List.getD, e1]⟩
  -- the heap turns at writers alone
  have hstep : ∀ i, i < n → (l.getD i default).i.cls ≠ 2 → hs (i + 1) = hs i := fun i hi hne => by
    obtain ⟨o, ins, _, e1, _, e3⟩ := insAt i hi
    rw [e3] at hne
    exact (aOne_congr (τ := ⟨tS σ.t l as (fun _ => true) i, hs i⟩) (fun _ _ => rfl) (fun _ => rfl) (hone i ins e1)).1 hne
  have hconst : ∀ a b, a ≤ b → b ≤ n → (∀ i, a ≤ i → i < b → (l.getD i default).i.cls ≠ 2) → hs b = hs a := by
    intro a b hab hbn
    induction b with
    | zero => intro _; have : a = 0 := by omega
              subst this; rfl
    | succ b ih =>
      intro h
      rcases Nat.lt_or_ge b a with q | q
      · have : a = b + 1 := by omega
        subst this; rfl
      · rw [hstep b (by omega) (h b q (by omega))]
        exact ih q (by omega) fun i p r => h i p (by omega)
  -- what is ahead of a listed or a ready one is listed
  have ahead : ∀ (S : Nat → Bool), (∀ i, i < n → S i = true → ∀ d ∈ direct ops i, S d = true) → ∀ i j, i < n → (∀ d ∈ direct ops i, S d = true) → tb (Region.before ops) i j = true → j < i → S j = true := by
    intro S hcl i
    induction i using Nat.strongRecOn with
    | _ i ih =>
      intro j hi hdir ht hji
      rcases d2 i j hji hi ht with q | ⟨d, hdm, r, q⟩
      · exact hdir j q
      · have hdi := d1 i d hi hdm
        exact ih d hdi j (by omega) (hcl d (by omega) (hdir d hdm)) q r
  have clash_T : ∀ (S : Nat → Bool), (∀ i, i < n → S i = true → ∀ d ∈ direct ops i, S d = true) → ∀ i j, i < n → j < i → S i = true → clash (l.getD j default) (l.getD i default) = true → S j = true := fun S hcl i j hi hji hS hcl' =>
    ahead S hcl i j hi (hcl i hi hS) (d3 i j hji hi hcl') hji
  have clash_R : ∀ (S : Nat → Bool), (∀ i, i < n → S i = true → ∀ d ∈ direct ops i, S d = true) → ∀ i j, i < n → j < i → (∀ d ∈ direct ops i, S d = true) → clash (l.getD j default) (l.getD i default) = true → S j = true := fun S hcl i j hi hji hdir hcl' =>
    ahead S hcl i j hi hdir (d3 i j hji hi hcl') hji
  have mem_ready : ∀ (listed : Array Bool) (i : Nat), listed.size = n → i ∈ Region.ready .any ops listed → i < n ∧ listed.getD i false = false ∧ ∀ d ∈ direct ops i, listed.getD d false = true := by
    intro listed i hsz hi
    unfold Region.ready at hi
    rw [List.mem_filter, List.mem_range, hn] at hi
    obtain ⟨h1, h2⟩ := hi
    rw [Bool.and_eq_true] at h2
    have e0 : listed.getD i false = listed.getD i true := by
      have : i < listed.size := by omega
      simp [Array.getD, this]
    refine ⟨h1, by rw [e0]; simpa using h2.1, fun d hd => ?_⟩
    obtain ⟨o, ins, ho, _⟩ := insAt i h1
    have h3 := h2.2
    rw [ho] at h3
    simp only [Option.map_some, Option.getD_some] at h3
    unfold direct at hd
    rw [ho] at hd
    simp only at hd
    obtain ⟨e, he, hq⟩ := List.mem_filterMap.1 hd
    have := Array.all_eq_true_iff_forall_mem.1 h3 e (by simpa using he)
    split at hq
    · rename_i hb
      cases hq
      simpa [hb] using this
    · cases hq
  have ready_mem : ∀ (listed : Array Bool) (i : Nat), listed.size = n → i < n → listed.getD i false = false → (∀ j, j < i → listed.getD j false = true) → i ∈ Region.ready .any ops listed := by
    intro listed i hsz hi h1 h2
    unfold Region.ready
    rw [List.mem_filter, List.mem_range, hn]
    refine ⟨hi, ?_⟩
    have e0 : listed.getD i false = listed.getD i true := by
      have : i < listed.size := by omega
      simp [Array.getD, this]
    rw [Bool.and_eq_true]
    refine ⟨by rw [← e0, h1]; rfl, ?_⟩
    obtain ⟨o, ins, ho, _⟩ := insAt i hi
    rw [ho]
    simp only [Option.map_some, Option.getD_some]
    refine Array.all_eq_true_iff_forall_mem.2 fun e he => ?_
    cases hb : Region.binds .any e with
    | false => rfl
    | true =>
      have hd : e.on ∈ direct ops i := by
        unfold direct
        rw [ho]
        exact List.mem_filterMap.2 ⟨e, by simpa using he, by simp [hb]⟩
      have := h2 e.on (d1 i e.on hi hd)
      simpa using this
  have main : ∀ (fuel : Nat) (listed : Array Bool) (τ : St) (F : Addr → Option Value) (own : List Ent) (act : Act) (w : World), listed.size = n → (∀ i, i < n → listed.getD i false = true → ∀ d ∈ direct ops i, listed.getD d false = true) →
      ((List.range n).countP fun i => !listed.getD i false) = fuel → (∃ k, k ≤ n ∧ (∀ i, i < n → (l.getD i default).i.cls = 2 → (listed.getD i false = true ↔ i < k)) ∧ τ.h = hs k) → τ.t = tS σ.t l as (fun i => listed.getD i false) n →
      Inv Gl F own B w0 τ act w → wpAny P .any ops Q fuel listed act w := by
    intro fuel
    induction fuel with
    | zero =>
      intro listed τ F own act w hsz hcl hcnt ⟨k, hk, hkw, hh⟩ ht hI
      have hall : ∀ i, i < n → listed.getD i false = true := fun i hi => by
        have := List.countP_eq_zero.1 hcnt i (List.mem_range.2 hi)
        simpa using this
      refine ⟨?_, hQ act w ⟨F, own, τ, hI, ?_⟩⟩
      · apply List.eq_nil_iff_forall_not_mem.2
        intro i hi
        obtain ⟨q1, q2, _⟩ := mem_ready listed i hsz hi
        rw [hall i q1] at q2
        cases q2
      · have e1 : τ.t = tS σ.t l as (fun _ => true) l.length := by
          rw [ht, hl]; exact tS_congr fun j hj => ⟨rfl, hall j hj⟩
        have e2 : τ.h = hs l.length := by
          rw [hh, hl]
          exact (hconst k n hk (Nat.le_refl _) fun i h1 h2 h3 => by have := (hkw i h2 h3).1 (hall i h2); omega).symm
        have : τ = ⟨tS σ.t l as (fun _ => true) l.length, hs l.length⟩ := by cases τ; simp only at e1 e2; rw [e1, e2]
        rw [this]; exact hK
    | succ fuel ih =>
      intro listed τ F own act w hsz hcl hcnt ⟨k, hk, hkw, hh⟩ ht hI
      refine ⟨fun hnil => ?_, fun i hi => ?_⟩
      · obtain ⟨i, h1, h2, h3⟩ := count_pos (n := n) (S := fun i => listed.getD i false) (by omega)
        have := ready_mem listed i hsz h1 h2 h3
        rw [hnil] at this
        simp at this
      · obtain ⟨hin, hiS, hdir⟩ := mem_ready listed i hsz hi
        obtain ⟨o, ins, ho, hli, hci, hgd⟩ := insAt i hin
        -- operands
        have hslot : ∀ s, s ∈ ins.looks → τ.t.getD s .any = (tS σ.t l as (fun _ => true) i).getD s .any := fun s hs' => by
          have e1 : tS σ.t l as (fun _ => true) i = tS σ.t l as (fun j => decide (j < i)) n := by
            rw [tS_stop (S := fun j => decide (j < i)) (j := i) (by omega) fun j h1 h2 => by simp; omega]
            exact tS_congr fun j hj => ⟨rfl, by simp [hj]⟩
          rw [e1, ht]
          have : (tS σ.t l as (fun j => listed.getD j false) n)[s]? = (tS σ.t l as (fun j => decide (j < i)) n)[s]? := tS_at fun j hj hdj => by
            obtain ⟨o', ins', _, hl', _, hg'⟩ := insAt j hj
            have hdst : ins'.dst = some s := by simpa [dstOf, hl'] using hdj
            rcases Nat.lt_trichotomy j i with r | r | r
            · rw [decide_eq_true r]
              refine clash_R _ hcl i j hin r hdir ?_
              rw [hg', hgd]
              simp only [clash, hdst, Bool.or_eq_true, List.contains_iff_mem]
              exact .inl (.inl (.inl (.inl hs')))
            · subst r; simp [hiS]
            · rw [decide_eq_false (by omega)]
              cases hq : listed.getD j false with
              | false => rfl
              | true =>
                have := clash_T _ hcl j i hj r hq (by
                  rw [hg', hgd]
                  simp only [clash, hdst, Bool.or_eq_true, List.contains_iff_mem]
                  exact .inl (.inl (.inr hs')))
                rw [hiS] at this; cases this
          rw [List.getD_eq_getElem?_getD, List.getD_eq_getElem?_getD, this]
        -- the heap
        have hheap : ins.i.cls ≠ 0 → τ.h = hs i := fun hne => by
          rw [hh]
          have lo : ∀ j, j < n → (l.getD j default).i.cls = 2 → j < i → j < k := fun j hj hc2 hji => by
            refine (hkw j hj hc2).1 (clash_R _ hcl i j hin hji hdir ?_)
            rw [hgd]; exact clash_1 hc2 hne
          have up : ∀ j, j < n → (l.getD j default).i.cls = 2 → i < j → ¬ j < k := fun j hj hc2 hij hjk => by
            have hSj := (hkw j hj hc2).2 hjk
            have := clash_T _ hcl j i hj hij hSj (by rw [hgd]; exact clash_2 hc2 hne)
            rw [hiS] at this; cases this
          have self : (l.getD i default).i.cls = 2 → ¬ i < k := fun hc2 hik => by
            have := (hkw i hin hc2).2 hik
            rw [hiS] at this; cases this
          rcases Nat.le_total k i with r | r
          · exact (hconst k i r (by omega) fun j h1 h2 h3 => by have := lo j (by omega) h3 h2; omega).symm
          · refine hconst i k r hk fun j h1 h2 h3 => ?_
            rcases Nat.lt_or_ge i j with q | q
            · exact up j (by omega) h3 q h2
            · have : j = i := by omega
              subst this; exact self h3 h2
        obtain ⟨q0, h'', q1, q2, q3⟩ := aOne_congr (τ := τ) (σ := ⟨tS σ.t l as (fun _ => true) i, hs i⟩) hslot hheap (hone i ins hli)
        have hstepA : aStep P Gl true τ ins (fun ρ => ρ = St.put ⟨τ.t, h''⟩ ins.dst (as i)) := aOne_iff.2 ⟨as i, h'', q1, rfl⟩
        refine wpOp_mono ?_ (step_sound hI hci hstepA Q ho)
        rintro a1 w1 ⟨F1, own1, ρ, hI1, rfl⟩
        rw [put_eq] at hI1
        have hset : ∀ j, (listed.setIfInBounds i true).getD j false = if j = i then true else listed.getD j false := fun j => by
          by_cases hji : j = i
          · subst hji
            have : j < listed.size := by omega
            simp [Array.getD, this]
          · rw [if_neg hji]
            simp only [Array.getD_eq_getD_getElem?]
            rw [Array.getElem?_setIfInBounds_ne (fun e => hji e.symm)]
        refine ih (listed.setIfInBounds i true) ⟨putT τ.t ins.dst (as i), h''⟩ F1 own1 a1 w1 (by simp [hsz]) (fun j hj hS d hdj => ?_) ?_ ?_ ?_ hI1
        · rw [hset] at hS ⊢
          split
          · rfl
          · split at hS
            · rename_i hji; subst hji; exact hdir d hdj
            · exact hcl j hj hS d hdj
        · have := count_set (n := n) (S := fun j => listed.getD j false) (S' := fun j => (listed.setIfInBounds i true).getD j false) hin hiS (by simp only [hset]; simp) (fun j hj => by simp only [hset, if_neg hj])
          omega
        · by_cases hc2 : ins.i.cls = 2
          · refine ⟨i + 1, by omega, fun j hj hcj => ?_, by rw [q3 hc2]⟩
            rw [hset]
            split
            · rename_i hji; subst hji; simp
            · rename_i hji
              rw [hkw j hj hcj]
              constructor
              · intro hjk
                rcases Nat.lt_or_ge i j with r | r
                · have hSj := (hkw j hj hcj).2 hjk
                  have := clash_T _ hcl j i hj r hSj (by rw [hgd]; exact clash_1 hc2 (by omega))
                  rw [hiS] at this; cases this
                · omega
              · intro hji'
                refine (hkw j hj hcj).1 (clash_R _ hcl i j hin (by omega) hdir ?_)
                rw [hgd]; exact clash_1 hcj (by omega)
          · refine ⟨k, hk, fun j hj hcj => ?_, by rw [q2 hc2]; exact hh⟩
            rw [hset]
            split
            · rename_i hji; subst hji; rw [hgd] at hcj; exact absurd hcj hc2
            · exact hkw j hj hcj
        · simp only
          apply List.ext_getElem?
          intro s
          have hdi : dstOf l i = ins.dst := by simp [dstOf, hli]
          by_cases hds : ins.dst = some s
          · -- the slot itself: i is the last of those listed that writes it
            have e1 : (tS σ.t l as (fun j => (listed.setIfInBounds i true).getD j false) n)[s]? = (tS σ.t l as (fun j => decide (j ≤ i)) n)[s]? := tS_at fun j hj hdj => by
              obtain ⟨o', ins', _, hl', _, hg'⟩ := insAt j hj
              have hdst : ins'.dst = some s := by simpa [dstOf, hl'] using hdj
              rw [hset]
              split
              · rename_i hji; subst hji; simp
              · rename_i hji
                rcases Nat.lt_or_ge j i with r | r
                · rw [decide_eq_true (by omega)]
                  refine clash_R _ hcl i j hin r hdir ?_
                  rw [hg', hgd]; exact clash_d hdst hds
                · rw [decide_eq_false (by omega)]
                  cases hq : listed.getD j false with
                  | false => rfl
                  | true =>
                    have := clash_T _ hcl j i hj (by omega) hq (by rw [hg', hgd]; exact clash_d hds hdst)
                    rw [hiS] at this; cases this
            rw [e1, tS_stop (S := fun j => decide (j ≤ i)) (j := i + 1) (by omega) fun j h1 h2 => by simp; omega]
            simp only [tS, decide_eq_true (Nat.le_refl i), if_true, hdi, hds]
            exact putT_self (by rw [ht, tS_len, tS_len])
          · rw [putT_ne hds, ht]
            exact tS_at fun j hj hdj => by
              rw [hset]
              split
              · rename_i hji; subst hji; rw [hdi] at hdj; exact absurd hdj hds
              · rfl
  have hrep : ∀ i, (Array.replicate n false).getD i false = false := fun i => by
    simp only [Array.getD_eq_getD_getElem?, Array.getElem?_replicate]
    split <;> rfl
  refine main n (Array.replicate n false) σ F own act w (by simp) (fun i _ h => by rw [hrep] at h; cases h) ?_ ⟨0, by omega, fun i hi _ => by simp [hrep], h0.symm⟩ ?_ hI
  · have : ((List.range n).countP fun i => !(Array.replicate n false).getD i false) = (List.range n).length := List.countP_eq_length.2 fun i _ => by rw [hrep]; rfl
    rw [this]; simp
  · have : tS σ.t l as (fun i => (Array.replicate n false).getD i false) n = tS σ.t l as (fun i => (Array.replicate n false).getD i false) 0 := tS_stop (by omega) fun i _ _ => hrep i
    rw [this]; rfl
end
end Abs
end Go.Proofs.YtfjhljjginlobaaDoor
end
section
namespace Go.Proofs.YtfjhljjginlobaaDoor
namespace Abs
open Go.RowKit
def I.isCall : I → Bool
 | .call .. => true
 | _ => false
def I.ids (Gl : Nat → Option (List AV)) (σ : St) : I → List Nat
 | .load _ _ x => match σ.val Gl x with | .ptr id _ _ _ => [id] | _ => []
 | .aaddr _ _ _ x _ => match σ.val Gl x with | .ptr id _ _ _ => [id] | _ => []
 | .aslice _ _ x _ _ => match σ.val Gl x with | .ptr id _ _ _ => [id] | _ => []
 | .b2s x => match σ.val Gl x with | .row id _ _ _ _ => [id] | _ => []
 | .call _ args => (args.map (σ.val Gl)).flatMap rowsA
 | _ => []
def agree (N : Nat) (U : List Nat) (h h' : List AObj) : Prop := ∀ id, id < N → id ∉ U → h'[id]? = h[id]?
theorem agree.symm {N : Nat} {U : List Nat} {h h' : List AObj} (a : agree N U h h') : agree N U h' h := fun id p q => (a id p q).symm
def mcls (p : Nat × Ins) : Nat := match p.1 with
 | 0 => p.2.i.cls
 | 1 => 1
 | _ => 2
theorem mcls_0 {p : Nat × Ins} (h : p.1 = 0) : mcls p = p.2.i.cls := by obtain ⟨m, i⟩ := p; simp only at h; subst h; rfl
theorem mcls_1 {p : Nat × Ins} (h : p.1 = 1) : mcls p = 1 := by obtain ⟨m, i⟩ := p; simp only at h; subst h; rfl
theorem mcls_2 {p : Nat × Ins} (h : p.1 = 2) : mcls p = 2 := by obtain ⟨m, i⟩ := p; simp only at h; subst h; rfl
def clashR (a b : Nat × Ins) : Bool :=
 (match a.2.dst with | some d => b.2.looks.contains d || b.2.dst == some d | none => false) || (match b.2.dst with | some d => a.2.looks.contains d | none => false) ||
 (mcls a == 2 && mcls b != 0 && !(a.1 == 2 && b.1 == 1)) || (mcls b == 2 && mcls a != 0 && !(b.1 == 2 && a.1 == 1)) || (a.2.i.isCall && b.2.i.isCall)
def isHc (hc : List Nat) : I → Bool
 | .call (.k (.func (.func f) _ _)) _ => hc.any (Nat.beq f)
 | _ => false
def marks (hc : List Nat) (ops : Array Oper) (l : List Ins) : List (Nat × Ins) :=
 let bm := Region.before ops
 let cl := fun (a : Ins) => if isHc hc a.i then 2 else a.i.cls
 l.zipIdx.map fun (a, i) => (if isHc hc a.i then 2 else if cl a != 0 && l.zipIdx.any (fun (b, j) => cl a + cl b == 3 && cl b != 0 && !(tb bm i j || tb bm j i)) then cl a else 0, a)
def drawOkR (ops : Array Oper) (l : List (Nat × Ins)) : Bool :=
 let bm := Region.before ops
 let n := ops.size
 l.all (fun p => p.1 == 0 || p.1 == 2 || (p.1 == 1 && Nat.ble p.2.i.cls 1)) && (List.range n).all fun i => (direct ops i).all (fun d => decide (d < i)) &&
  (List.range i).all fun j => (!tb bm i j || (direct ops i).contains j || (direct ops i).any fun d => decide (j < d) && tb bm d j) && (!clashR (l.getD j default) (l.getD i default) || tb bm i j)
theorem marks_len (hc : List Nat) (ops : Array Oper) (l : List Ins) : (marks hc ops l).length = l.length := by simp [marks]
theorem marks_at {hc : List Nat} {ops : Array Oper} {l : List Ins} {j : Nat} {i : Ins} (h : l[j]? = some i) : ∃ m, (marks hc ops l)[j]? = some (m, i) := by
 simp only [marks, List.getElem?_map, List.getElem?_zipIdx, h, Option.map_some, Nat.zero_add]
 exact ⟨_, rfl⟩
def wants (σ : St) (ins : Ins) : Prop := match ins.gd with
 | none => True
 | some (s, want) => σ.t.getD s .any = .v (.bool want)
def stepR (P : Program) (Gl : Nat → Option (List AV)) (N : Nat) (U : List Nat) (p : Nat × Ins) (σ : St) (K : St → Prop) : Prop := match p.1 with
 | 0 => aStep P Gl true σ p.2 K
 | 1 => (wants σ p.2 → ∀ id ∈ p.2.i.ids Gl σ, id < N ∧ id ∉ U) ∧ aStep P Gl true σ p.2 K
 | _ => aStep P Gl false σ p.2 fun ρ => agree N U σ.h ρ.h ∧ K ρ
def aOpsR (P : Program) (Gl : Nat → Option (List AV)) (N : Nat) (U : List Nat) (K : St → Prop) : List (Nat × Ins) → St → Prop
 | [], σ => K σ
 | p :: r, σ => stepR P Gl N U p σ (aOpsR P Gl N U K r)
section
variable {P : Program} {Gl : Nat → Option (List AV)} {F : Addr → Option Value} {own : List Ent} {B : Nat} {w0 : W0} {σ τ : St} {act : Act} {w : World} {N : Nat} {U : List Nat}
theorem drawOkR_spec {ops : Array Oper} {l : List (Nat × Ins)} (h : drawOkR ops l = true) :
  (∀ i d, i < ops.size → d ∈ direct ops i → d < i) ∧ (∀ i j, j < i → i < ops.size → tb (Region.before ops) i j = true → j ∈ direct ops i ∨ ∃ d ∈ direct ops i, j < d ∧ tb (Region.before ops) d j = true) ∧
  (∀ i j, j < i → i < ops.size → clashR (l.getD j default) (l.getD i default) = true → tb (Region.before ops) i j = true) ∧ ∀ p ∈ l, p.1 = 0 ∨ p.1 = 2 ∨ (p.1 = 1 ∧ p.2.i.cls ≤ 1) := by
 unfold drawOkR at h
 rw [Bool.and_eq_true] at h
 obtain ⟨hm, h⟩ := h
 have h1 : ∀ i, i < ops.size → _ := fun i hi => List.all_eq_true.1 h i (List.mem_range.2 hi)
 refine ⟨fun i d hi hd => ?_, fun i j hj hi ht => ?_, fun i j hj hi hc => ?_, fun p hp => ?_⟩
 ·have := h1 i hi
  rw [Bool.and_eq_true] at this
  exact of_decide_eq_true (List.all_eq_true.1 this.1 d hd)
 ·have := h1 i hi
  rw [Bool.and_eq_true] at this
  have := List.all_eq_true.1 this.2 j (List.mem_range.2 hj)
  rw [Bool.and_eq_true] at this
  have := this.1
  simp only [ht, Bool.not_true, Bool.false_or, Bool.or_eq_true] at this
  rcases this with q | q
  ·exact .inl (List.contains_iff_mem.1 q)
  ·obtain ⟨d, hd, hq⟩ := List.any_eq_true.1 q
   rw [Bool.and_eq_true] at hq
   exact .inr ⟨d, hd, of_decide_eq_true hq.1, hq.2⟩
 ·have := h1 i hi
  rw [Bool.and_eq_true] at this
  have := List.all_eq_true.1 this.2 j (List.mem_range.2 hj)
  rw [Bool.and_eq_true] at this
  have := this.2
  rw [hc] at this
  exact this
 ·have := List.all_eq_true.1 hm p hp
  simp only [Bool.or_eq_true, Bool.and_eq_true, beq_iff_eq] at this
  rcases this with (q | q) | ⟨q, r⟩
  ·exact .inl q
  ·exact .inr (.inl q)
  ·exact .inr (.inr ⟨q, Nat.le_of_ble_eq_true r⟩)
theorem noclash {a b : Nat × Ins} (h : clashR a b = false) :
  (∀ d, a.2.dst = some d → d ∉ b.2.looks ∧ b.2.dst ≠ some d) ∧ (∀ d, b.2.dst = some d → d ∉ a.2.looks) ∧
  (mcls a = 2 → mcls b = 0 ∨ (a.1 = 2 ∧ b.1 = 1)) ∧ (mcls b = 2 → mcls a = 0 ∨ (b.1 = 2 ∧ a.1 = 1)) ∧ (a.2.i.isCall = true → b.2.i.isCall = false) := by
 unfold clashR at h
 simp only [Bool.or_eq_false_iff] at h
 obtain ⟨⟨⟨⟨h1, h2⟩, h3⟩, h4⟩, h5⟩ := h
 refine ⟨fun d hd => ?_, fun d hd => ?_, fun hm => ?_, fun hm => ?_, fun hm => ?_⟩
 ·rw [hd] at h1
  simp only [Bool.or_eq_false_iff, beq_eq_false_iff_ne] at h1
  exact ⟨(fun q => by rw [List.contains_iff_mem.2 q] at h1; cases h1.1), h1.2⟩
 ·rw [hd] at h2
  simp only at h2
  exact fun q => by rw [List.contains_iff_mem.2 q] at h2; cases h2
 ·rw [hm] at h3
  simp at h3
  by_cases q : mcls b = 0
  ·exact .inl q
  ·exact .inr (h3 q)
 ·rw [hm] at h4
  simp at h4
  by_cases q : mcls a = 0
  ·exact .inl q
  ·exact .inr (h4 q)
 ·rw [hm] at h5
  simpa using h5
def outc (Gl : Nat → Option (List AV)) (σ : St) (ins : Ins) : Option (Prop × AV × List AObj) := match ins.gd with
 | none => step Gl σ ins.i
 | some (s, want) => match σ.t.getD s .any with
  | .v (.bool b) => if b = want then step Gl σ ins.i else some (True, und, σ.h)
  | .v (.tuple _) => some (True, und, σ.h)
  | _ => none
theorem aExec_nc {d : Bool} {dst : Option Nat} {K : St → Prop} {i : I} (hn : i.isCall = false) : aExec P Gl d σ dst K i ↔ ∃ q a h', step Gl σ i = some (q, a, h') ∧ q ∧ K (St.put ⟨σ.t, h'⟩ dst a) := by
 have e : aExec P Gl d σ dst K i = (match step Gl σ i with | some (p, a, h') => p ∧ K (St.put ⟨σ.t, h'⟩ dst a) | none => False) := by cases i <;> first | rfl | (cases hn; done)
 rw [e]
 cases hs : step Gl σ i with
 | none => exact ⟨fun h => h.elim, fun ⟨_, _, _, h, _⟩ => by cases h⟩
 | some q => obtain ⟨p, a, h'⟩ := q; exact ⟨fun h => ⟨p, a, h', rfl, h⟩, fun ⟨_, _, _, h, r⟩ => by cases h; exact r⟩
theorem aStep_nc {d : Bool} {K : St → Prop} {ins : Ins} (hn : ins.i.isCall = false) : aStep P Gl d σ ins K ↔ ∃ q a h', outc Gl σ ins = some (q, a, h') ∧ q ∧ K (St.put ⟨σ.t, h'⟩ ins.dst a) := by
 unfold aStep outc
 cases ins.gd with
 | none => exact aExec_nc hn
 | some g =>
  obtain ⟨s, want⟩ := g
  simp only
  have one : ∀ {X : Prop}, K (σ.put ins.dst und) ↔ ∃ q a h', some ((True : Prop), und, σ.h) = some (q, a, h') ∧ q ∧ K (St.put ⟨σ.t, h'⟩ ins.dst a) := fun {X} => ⟨fun h => ⟨_, _, _, rfl, trivial, h⟩, fun ⟨_, _, _, h, _, r⟩ => by cases h; exact r⟩
  have no : False ↔ ∃ q a h', (none : Option (Prop × AV × List AObj)) = some (q, a, h') ∧ q ∧ K (St.put ⟨σ.t, h'⟩ ins.dst a) := ⟨fun h => h.elim, fun ⟨_, _, _, h, _⟩ => by cases h⟩
  generalize σ.t.getD s .any = g
  cases g with
  | v x => cases x with
   | bool b =>
    simp only
    by_cases hb : b = want
    ·simp only [if_pos hb]; exact aExec_nc hn
    ·simp only [if_neg hb]; exact one (X := True)
   | tuple ys => exact one (X := True)
   | _ => exact no
  | _ => exact no
theorem step_ids {i : I} (hc : i.cls ≤ 1) (hn : i.isCall = false) (hl : ∀ s ∈ i.reads, τ.t.getD s .any = σ.t.getD s .any) (hi : ∀ id ∈ i.ids Gl σ, τ.h[id]? = σ.h[id]?) {q : Prop} {a : AV} {h' : List AObj} (hs : step Gl σ i = some (q, a, h')) : h' = σ.h ∧ step Gl τ i = some (q, a, τ.h) := by
 by_cases h0 : i.cls = 0
 ·exact step_free h0 hl hs
 ·have e1 : step Gl ⟨τ.t, σ.h⟩ i = some (q, a, h') := by rw [step_congr (σ := σ) (τ := ⟨τ.t, σ.h⟩) hl rfl]; exact hs
  have hv : ∀ x : Opd, (∀ s ∈ x.slots, s ∈ i.reads) → σ.val Gl x = St.val Gl ⟨τ.t, σ.h⟩ x := fun x hx => (val_congr (σ := σ) (τ := ⟨τ.t, σ.h⟩) fun s hs => hl s (hx s hs)).symm
  have hvh : ∀ x : Opd, τ.val Gl x = St.val Gl ⟨τ.t, σ.h⟩ x := fun x => by cases x <;> rfl
  cases i with
  | load sz ag x =>
   have hvx := hv x (fun s hs => hs)
   simp only [I.ids, hvx] at hi
   simp only [step, hvh] at e1 ⊢
   split at e1
   ·split at e1
    ·rename_i hag
     rw [if_pos hag]
     split at e1
     ·rename_i hsz; cases e1; rw [if_pos hsz]; exact ⟨rfl, rfl⟩
     ·cases e1
    ·rename_i cs _ hag
     rw [if_neg hag]
     cases cs with
     | nil => cases e1
     | cons c cs => cases e1; exact ⟨rfl, rfl⟩
   ·rename_i id G j o hp
    rw [hp] at hi
    rw [hi id (by simp)]
    split at e1
    ·rename_i ob hob
     split at e1
     ·rename_i hG
      rw [if_pos hG]
      split at e1
      ·rename_i hag; cases e1; rw [if_pos hag]; exact ⟨rfl, rfl⟩
      ·rename_i hag; cases e1; rw [if_neg hag]; exact ⟨rfl, rfl⟩
     ·cases e1
    ·cases e1
   ·cases e1
  | aaddr bsz st n x k =>
   have hvx := hv x (fun s hs => by simp only [I.reads, List.mem_append]; exact .inl hs)
   simp only [I.ids, hvx] at hi
   simp only [step, hvh] at e1 ⊢
   split at e1
   ·rename_i id G j o k' m hp hp2
    rw [hp] at hi
    rw [hi id (by simp)]
    split at e1
    ·rename_i ob hob
     split at e1
     ·rename_i hG; cases e1; rw [if_pos hG]; exact ⟨rfl, rfl⟩
     ·cases e1
    ·cases e1
   ·cases e1; exact ⟨rfl, rfl⟩
   ·cases e1
  | b2s x =>
   have hvx := hv x (fun s hs => hs)
   simp only [I.ids, hvx] at hi
   simp only [step, hvh] at e1 ⊢
   have he : elemsOf τ.h 1 (St.val Gl ⟨τ.t, σ.h⟩ x) = elemsOf σ.h 1 (St.val Gl ⟨τ.t, σ.h⟩ x) := by
    cases hx : St.val Gl ⟨τ.t, σ.h⟩ x with
    | row id G sz off len => rw [hx] at hi; simp only [elemsOf, hi id (by simp)]
    | v y =>
     by_cases hy : y = .slice none 0 0
     ·subst hy; rfl
     ·have e0 : ∀ h : List AObj, elemsOf h 1 (.v y) = none := fun h => by
       unfold elemsOf
       split
       ·rename_i q; cases q
       ·rename_i q; cases q; exact absurd rfl hy
       ·rename_i q; cases q
       ·rfl
      rw [e0, e0]
    | _ => simp only [elemsOf]
   rw [he]
   split at e1
   ·rename_i ys hys
    cases hb : bytesOf ys with
    | none => rw [hb] at e1; cases e1
    | some l => rw [hb] at e1; cases e1; exact ⟨rfl, rfl⟩
   ·cases e1
  | aslice bsz n x lo hi' =>
   have hvx := hv x (fun s hs => by simp only [I.reads, List.mem_append]; exact .inl (.inl hs))
   have hm : ∀ q : Option Opd, q.map (τ.val Gl) = q.map (St.val Gl ⟨τ.t, σ.h⟩) := fun q => by cases q <;> simp [hvh]
   simp only [I.ids, hvx] at hi
   simp only [step, hvh, hm] at e1 ⊢
   split at e1
   ·rename_i id G j o hp
    rw [hp] at hi
    rw [hi id (by simp)]
    split at e1
    ·rename_i ob hob
     split at e1
     ·rename_i hG
      rw [if_pos hG]
      cases hq : cutB n (lo.map (St.val Gl ⟨τ.t, σ.h⟩)) (hi'.map (St.val Gl ⟨τ.t, σ.h⟩)) with
      | none => rw [hq] at e1; cases e1
      | some q => rw [hq] at e1; cases e1; exact ⟨rfl, rfl⟩
     ·cases e1
    ·cases e1
   ·cases e1
  | call f as => cases hn
  | _ => first | exact absurd rfl h0 | (simp [I.cls] at hc; done)
theorem looks_reads {ins : Ins} (h : ∀ s ∈ ins.looks, τ.t.getD s .any = σ.t.getD s .any) : ∀ s ∈ ins.i.reads, τ.t.getD s .any = σ.t.getD s .any := fun s hs => h s (by simp [Ins.looks, hs])
theorem looks_gd {ins : Ins} {s : Nat} {want : Bool} (h : ∀ s ∈ ins.looks, τ.t.getD s .any = σ.t.getD s .any) (hg : ins.gd = some (s, want)) : τ.t.getD s .any = σ.t.getD s .any := h s (by simp [Ins.looks, hg])
theorem wants_congr {ins : Ins} (hl : ∀ s ∈ ins.looks, τ.t.getD s .any = σ.t.getD s .any) : wants τ ins = wants σ ins := by
 unfold wants
 cases hg : ins.gd with
 | none => rfl
 | some g => obtain ⟨s, want⟩ := g; simp only; rw [looks_gd hl hg]
theorem outc_ids {ins : Ins} (hc : ins.i.cls ≤ 1) (hn : ins.i.isCall = false) (hl : ∀ s ∈ ins.looks, τ.t.getD s .any = σ.t.getD s .any) (hi : wants σ ins → ∀ id ∈ ins.i.ids Gl σ, τ.h[id]? = σ.h[id]?) {q : Prop} {a : AV} {h' : List AObj} (hs : outc Gl σ ins = some (q, a, h')) : h' = σ.h ∧ outc Gl τ ins = some (q, a, τ.h) := by
 unfold outc at hs ⊢
 cases hg : ins.gd with
 | none => rw [hg] at hs; exact step_ids hc hn (looks_reads hl) (hi (by unfold wants; rw [hg]; trivial)) hs
 | some g =>
  obtain ⟨s, want⟩ := g
  rw [hg] at hs
  simp only at hs ⊢
  rw [looks_gd hl hg]
  split at hs
  ·rename_i b hb
   split at hs
   ·rename_i hbw; rw [if_pos hbw]; exact step_ids hc hn (looks_reads hl) (hi (by unfold wants; rw [hg]; simp only; rw [hb, hbw])) hs
   ·rename_i hbw; rw [if_neg hbw]; cases hs; exact ⟨rfl, rfl⟩
  ·cases hs; exact ⟨rfl, rfl⟩
  ·cases hs
theorem outc_eq {ins : Ins} (hl : ∀ s ∈ ins.looks, τ.t.getD s .any = σ.t.getD s .any) (hh : τ.h = σ.h) : outc Gl τ ins = outc Gl σ ins := by
 unfold outc
 rw [step_congr (looks_reads hl) hh, hh]
 cases hg : ins.gd with
 | none => rfl
 | some g => obtain ⟨s, want⟩ := g; simp only; rw [looks_gd hl hg]
theorem outc_cls {ins : Ins} (hc : ins.i.cls ≤ 1) (hn : ins.i.isCall = false) {q : Prop} {a : AV} {h' : List AObj} (hs : outc Gl σ ins = some (q, a, h')) : h' = σ.h := (outc_ids (τ := σ) hc hn (fun _ _ => rfl) (fun _ _ _ => rfl) hs).1
theorem ids_congr {i : I} (hl : ∀ s ∈ i.reads, τ.t.getD s .any = σ.t.getD s .any) : i.ids Gl τ = i.ids Gl σ := by
 have hv : ∀ x : Opd, (∀ s ∈ x.slots, s ∈ i.reads) → τ.val Gl x = σ.val Gl x := fun x hx => val_congr fun s hs => hl s (hx s hs)
 cases i with
 | load sz ag x => simp only [I.ids, hv x (fun s hs => hs)]
 | aaddr bsz st n x k => simp only [I.ids, hv x (fun s hs => by simp only [I.reads, List.mem_append]; exact .inl hs)]
 | aslice bsz n x lo hi => simp only [I.ids, hv x (fun s hs => by simp only [I.reads, List.mem_append]; exact .inl (.inl hs))]
 | b2s x => simp only [I.ids, hv x (fun s hs => hs)]
 | call f as => simp only [I.ids, map_congr (Gl := Gl) (σ := σ) (τ := τ) (xs := as) fun s hs => hl s (by simp only [I.reads, List.mem_append]; exact .inr hs)]
 | _ => rfl
def D (Gl : Nat → Option (List AV)) (N : Nat) (U : List Nat) (p : Nat × Ins) (σ : St) (v : AV) (h2 : List AObj) : Prop :=
 (∃ q, outc Gl σ p.2 = some (q, v, h2) ∧ q) ∧ (p.1 = 1 → wants σ p.2 → ∀ id ∈ p.2.i.ids Gl σ, id < N ∧ id ∉ U) ∧ (2 ≤ p.1 → agree N U σ.h h2)
theorem stepR_D {p : Nat × Ins} (hn : p.2.i.isCall = false) {K : St → Prop} : stepR P Gl N U p σ K ↔ ∃ v h2, D Gl N U p σ v h2 ∧ K (St.put ⟨σ.t, h2⟩ p.2.dst v) := by
 obtain ⟨m, ins⟩ := p
 have ph : ∀ (h2 : List AObj) (v : AV), (St.put ⟨σ.t, h2⟩ ins.dst v).h = h2 := fun h2 v => by cases ins.dst <;> rfl
 match m with
 | 0 =>
  show aStep P Gl true σ ins K ↔ _
  rw [aStep_nc hn]
  constructor
  ·rintro ⟨q, a, h', e, hq, hK⟩; exact ⟨a, h', ⟨⟨q, e, hq⟩, (fun r => by cases r), (fun r => absurd r (by simp))⟩, hK⟩
  ·rintro ⟨a, h', ⟨⟨q, e, hq⟩, _, _⟩, hK⟩; exact ⟨q, a, h', e, hq, hK⟩
 | 1 =>
  show (_ ∧ aStep P Gl true σ ins K) ↔ _
  rw [aStep_nc hn]
  constructor
  ·rintro ⟨hi, q, a, h', e, hq, hK⟩; exact ⟨a, h', ⟨⟨q, e, hq⟩, fun _ => hi, (fun r => absurd r (by simp))⟩, hK⟩
  ·rintro ⟨a, h', ⟨⟨q, e, hq⟩, hi, _⟩, hK⟩; exact ⟨hi rfl, q, a, h', e, hq, hK⟩
 | m + 2 =>
  show aStep P Gl false σ ins _ ↔ _
  rw [aStep_nc hn]
  constructor
  ·rintro ⟨q, a, h', e, hq, hA, hK⟩
   rw [ph] at hA
   exact ⟨a, h', ⟨⟨q, e, hq⟩, (fun r => absurd r (by simp)), fun _ => hA⟩, hK⟩
  ·rintro ⟨a, h', ⟨⟨q, e, hq⟩, _, hA⟩, hK⟩; exact ⟨q, a, h', e, hq, by rw [ph]; exact hA (by simp), hK⟩
theorem D.fn {p : Nat × Ins} {v v' : AV} {h h' : List AObj} (a : D Gl N U p σ v h) (b : D Gl N U p σ v' h') : v = v' ∧ h = h' := by
 obtain ⟨⟨q, e, _⟩, _⟩ := a
 obtain ⟨⟨q', e', _⟩, _⟩ := b
 rw [e] at e'; cases e'; exact ⟨rfl, rfl⟩
def okM (p : Nat × Ins) : Prop := p.1 = 0 ∨ p.1 = 2 ∨ (p.1 = 1 ∧ p.2.i.cls ≤ 1)
theorem D.tr {p : Nat × Ins} (hm : okM p) (hn : p.2.i.isCall = false) (hl : ∀ s ∈ p.2.looks, τ.t.getD s .any = σ.t.getD s .any) (hh : τ.h = σ.h ∨ mcls p = 0 ∨ (p.1 = 1 ∧ agree N U σ.h τ.h)) {v : AV} {h2 : List AObj} (h : D Gl N U p σ v h2) :
  D Gl N U p τ v (if mcls p = 2 then h2 else τ.h) ∧ (mcls p ≠ 2 → h2 = σ.h) := by
 obtain ⟨⟨q, e, hq⟩, hi, ha⟩ := h
 have hi' : p.1 = 1 → wants τ p.2 → ∀ id ∈ p.2.i.ids Gl τ, id < N ∧ id ∉ U := fun r => by rw [ids_congr (looks_reads hl), wants_congr hl]; exact hi r
 have low : p.2.i.cls ≤ 1 → (wants σ p.2 → ∀ id ∈ p.2.i.ids Gl σ, τ.h[id]? = σ.h[id]?) → mcls p ≠ 2 → D Gl N U p τ v (if mcls p = 2 then h2 else τ.h) ∧ (mcls p ≠ 2 → h2 = σ.h) := by
  intro hc hids h2'
  obtain ⟨e1, e2⟩ := outc_ids hc hn hl hids e
  refine ⟨?_, fun _ => e1⟩
  rw [if_neg h2']
  refine ⟨⟨q, e2, hq⟩, hi', fun r => ?_⟩
  exfalso
  rcases hm with m | m | ⟨m, _⟩
  ·omega
  ·exact h2' (mcls_2 m)
  ·omega
 rcases hh with hh | hh | ⟨hh, hag⟩
 ·have e' := outc_eq (Gl := Gl) hl hh
  rw [e] at e'
  have hc2 : mcls p ≠ 2 → h2 = σ.h := fun hne => by
   rcases hm with m | m | ⟨m, c⟩
   ·have := mcls_0 m
    have hle : p.2.i.cls ≤ 2 := by cases p.2.i <;> simp [I.cls]
    exact outc_cls (by omega) hn e
   ·exact absurd (mcls_2 m) hne
   ·exact outc_cls c hn e
  refine ⟨⟨⟨q, ?_, hq⟩, hi', fun r => ?_⟩, hc2⟩
  ·split
   ·exact e'
   ·rename_i hne; rw [hh, ← hc2 hne]; exact e'
  ·rw [hh]
   split
   ·exact ha r
   ·exact fun _ _ _ => rfl
 ·have h0 : p.1 = 0 := by
   rcases hm with m | m | ⟨m, _⟩
   ·exact m
   ·rw [mcls_2 m] at hh; cases hh
   ·rw [mcls_1 m] at hh; cases hh
  have hc : p.2.i.cls = 0 := by rw [← mcls_0 h0]; exact hh
  refine low (by omega) ?_ (by omega)
  have : p.2.i.ids Gl σ = [] := by cases hp : p.2.i <;> first | rfl | (rw [hp] at hc; cases hc)
  rw [this]; intro _ id hid; cases hid
 ·have hc : p.2.i.cls ≤ 1 := by
   rcases hm with m | m | ⟨_, m⟩
   ·omega
   ·omega
   ·exact m
  exact low hc (fun hw id hid => hag id (hi hh hw id hid).1 (hi hh hw id hid).2) (by rw [mcls_1 hh]; simp)
theorem keep1_ids {h g : List AObj} {a : AV} (hr : ∀ id ∈ rows1 a, g[id]? = h[id]?) : keep1 g a = keep1 h a := by
 cases a with
 | row id G sz off len => simp only [keep1]; rw [hr id (by simp [rows1])]
 | _ => rfl
theorem keepL_ids {h g : List AObj} : ∀ {cs : List AV}, (∀ id ∈ cs.flatMap rows1, g[id]? = h[id]?) → keepL g cs = keepL h cs := by
 intro cs
 induction cs with
 | nil => intro _; rfl
 | cons c cs ih =>
  intro hr
  simp only [keepL]
  rw [keep1_ids fun id hi => hr id (by simp only [List.flatMap_cons, List.mem_append]; exact .inl hi), ih fun id hi => hr id (by simp only [List.flatMap_cons, List.mem_append]; exact .inr hi)]
theorem keepA_ids {h g : List AObj} {a : AV} (hr : ∀ id ∈ rowsA a, g[id]? = h[id]?) : keepA g a = keepA h a := by
 cases a with
 | agg cs => simp only [keepA]; rw [keepL_ids hr]
 | row id G sz off len => exact keep1_ids (a := .row id G sz off len) hr
 | _ => rfl
theorem keepAL_ids {h g : List AObj} : ∀ {cs : List AV}, (∀ id ∈ cs.flatMap rowsA, g[id]? = h[id]?) → keepAL g cs = keepAL h cs := by
 intro cs
 induction cs with
 | nil => intro _; rfl
 | cons c cs ih =>
  intro hr
  simp only [keepAL]
  rw [keepA_ids fun id hi => hr id (by simp only [List.flatMap_cons, List.mem_append]; exact .inl hi), ih fun id hi => hr id (by simp only [List.flatMap_cons, List.mem_append]; exact .inr hi)]
theorem set_self {α : Type} {l : List α} {i : Nat} {x : α} (h : l[i]? = some x) : l.set i x = l := by
 apply List.ext_getElem?
 intro j
 rw [List.getElem?_set]
 split
 ·rename_i hj
  subst hj
  split
  ·exact h.symm
  ·rename_i hl; rw [List.getElem?_eq_none (by omega)]
 ·rfl
theorem frz_at : ∀ (ids : List Nat) (h : List AObj) (j : Nat) (o : AObj), (freeze h ids)[j]? = some o → ∃ o', h[j]? = some o' ∧ o'.es = o.es ∧ (j ∈ ids → o.fz = o.es.length) ∧ (o.fz = o'.fz ∨ o.fz = o.es.length) := by
 intro ids
 induction ids with
 | nil => intro h j o e; exact ⟨o, e, rfl, fun q => by simp at q, .inl rfl⟩
 | cons id ids ih =>
  intro h j o e
  simp only [freeze, List.foldl_cons] at e
  cases ho : h[id]? with
  | none =>
   rw [ho] at e
   simp only at e
   obtain ⟨o', e1, e2, e3, e4⟩ := ih h j o e
   refine ⟨o', e1, e2, fun q => ?_, e4⟩
   rcases List.mem_cons.1 q with r | r
   ·subst r; rw [ho] at e1; cases e1
   ·exact e3 r
  | some ob =>
   rw [ho] at e
   simp only at e
   obtain ⟨o', e1, e2, e3, e4⟩ := ih _ j o e
   rw [List.getElem?_set] at e1
   split at e1
   ·rename_i hj
    subst hj
    split at e1
    ·cases e1
     refine ⟨ob, ho, e2, fun _ => ?_, ?_⟩
     ·rcases e4 with r | r
      ·rw [r]; simp only at e2 ⊢; rw [e2]
      ·exact r
     ·rcases e4 with r | r
      ·right; rw [r]; simp only at e2 ⊢; rw [e2]
      ·exact .inr r
    ·cases e1
   ·rename_i hj
    refine ⟨o', e1, e2, fun q => ?_, e4⟩
    rcases List.mem_cons.1 q with r | r
    ·exact absurd r.symm hj
    ·exact e3 r
theorem freeze_id : ∀ (ids : List Nat) (h : List AObj), (∀ id ∈ ids, ∀ o, h[id]? = some o → o.fz = o.es.length) → freeze h ids = h := by
 intro ids
 induction ids with
 | nil => intro h _; rfl
 | cons id ids ih =>
  intro h hq
  simp only [freeze, List.foldl_cons]
  cases ho : h[id]? with
  | none => exact ih h fun j hj => hq j (by simp [hj])
  | some ob =>
   simp only
   have : ({ ob with fz := ob.es.length } : AObj) = ob := by
    have := hq id (by simp) ob ho
    rw [← this]
   rw [this, set_self ho]
   exact ih h fun j hj => hq j (by simp [hj])
theorem freeze_same {h g : List AObj} {ids : List Nat} (hr : ∀ id ∈ ids, g[id]? = h[id]?) (hf : freeze h ids = h) : freeze g ids = g := by
 refine freeze_id ids g fun id hi o ho => ?_
 rw [hr id hi] at ho
 rw [← hf] at ho
 obtain ⟨_, _, _, e3, _⟩ := frz_at ids h id o ho
 exact e3 hi
theorem stepR_tr {p : Nat × Ins} {K1 K2 : St → Prop} (hm : okM p) (hl : ∀ s ∈ p.2.looks, τ.t.getD s .any = σ.t.getD s .any) (hh : τ.h = σ.h ∨ mcls p = 0 ∨ (p.1 = 1 ∧ agree N U σ.h τ.h))
  (hK : ∀ v h1, K1 (St.put ⟨σ.t, h1⟩ p.2.dst v) → (mcls p ≠ 2 → h1 = σ.h) → (2 ≤ p.1 → agree N U σ.h h1) → K2 (St.put ⟨τ.t, if mcls p = 2 then h1 else τ.h⟩ p.2.dst v)) (h : stepR P Gl N U p σ K1) : stepR P Gl N U p τ K2 := by
 by_cases hcall : p.2.i.isCall = true
 case neg =>
  have hn : p.2.i.isCall = false := by simpa using hcall
  rw [stepR_D hn] at h ⊢
  obtain ⟨v, h2, hD, hk⟩ := h
  obtain ⟨d1, d2⟩ := hD.tr hm hn hl hh
  exact ⟨v, _, d1, hK v h2 hk d2 hD.2.2⟩
 case pos =>
  obtain ⟨m, dst, gd, i⟩ := p
  simp only at hcall hl hh hK
  obtain ⟨fo, args, rfl⟩ : ∃ fo args, i = .call fo args := by cases i <;> first | exact ⟨_, _, rfl⟩ | cases hcall
  have hr := looks_reads hl
  have hA : args.map (τ.val Gl) = args.map (σ.val Gl) := map_congr fun s hs => hr s (by simp only [I.reads, List.mem_append]; exact .inr hs)
  have hO : τ.val Gl fo = σ.val Gl fo := val_congr fun s hs => hr s (by simp only [I.reads, List.mem_append]; exact .inl hs)
  have hidc := ids_congr (Gl := Gl) hr
  have hne0 : ¬ mcls (m, (⟨dst, gd, .call fo args⟩ : Ins)) = 0 := by
   rcases hm with q | q | ⟨q, _⟩ <;> (simp only at q; subst q; simp [mcls, I.cls])
  -- a step that keeps to a guard
  have guard : ∀ (d : Bool) (K1 K2 : St → Prop), (wants σ ⟨dst, gd, .call fo args⟩ → aExec P Gl d σ dst K1 (.call fo args) → aExec P Gl d τ dst K2 (.call fo args)) → (K1 (σ.put dst und) → K2 (τ.put dst und)) → aStep P Gl d σ ⟨dst, gd, .call fo args⟩ K1 → aStep P Gl d τ ⟨dst, gd, .call fo args⟩ K2 := by
   intro d K1 K2 he hu h
   unfold aStep at h ⊢
   cases hg : gd with
   | none => subst hg; exact he trivial h
   | some g =>
    obtain ⟨s, want⟩ := g
    subst hg
    simp only at h ⊢
    rw [looks_gd hl rfl]
    split at h
    ·rename_i b hbb
     split at h
     ·rename_i hb; rw [if_pos hb]; exact he (by unfold wants; simp only; rw [hbb, hb]) h
     ·rename_i hb; rw [if_neg hb]; exact hu h
    ·exact hu h
    ·exact h.elim
  have und_ : ∀ K1 K2 : St → Prop, (∀ v h1, K1 (St.put ⟨σ.t, h1⟩ dst v) → h1 = σ.h → K2 (St.put ⟨τ.t, τ.h⟩ dst v)) → K1 (σ.put dst und) → K2 (τ.put dst und) := fun K1 K2 hk h => hk und σ.h h rfl
  -- a call that leaves the heap alone
  have pure_ : ∀ K1 K2 : St → Prop, (∀ id ∈ (args.map (σ.val Gl)).flatMap rowsA, τ.h[id]? = σ.h[id]?) → (∀ v h1, K1 (St.put ⟨σ.t, h1⟩ dst v) → h1 = σ.h → K2 (St.put ⟨τ.t, τ.h⟩ dst v)) → aExec P Gl true σ dst K1 (.call fo args) → aExec P Gl true τ dst K2 (.call fo args) := by
   intro K1 K2 hids hk h
   obtain ⟨f, hf, hcb, (⟨as, res, h1, h2, h3, h4⟩ | ⟨h1, _⟩)⟩ := h
   ·have h3' := h3 rfl
    rw [h3'] at h4
    have e3 : (if scalar res then τ.h else freeze τ.h ((args.map (τ.val Gl)).flatMap rowsA)) = τ.h := by
     split
     ·rfl
     ·rename_i hs
      rw [if_neg hs] at h3'
      rw [hA]
      exact freeze_same hids h3'
    refine ⟨f, by rw [hO]; exact hf, hcb, .inl ⟨as, res, ?_, h2, fun _ => e3, ?_⟩⟩
    ·rw [hA, keepAL_ids hids]; exact h1
    ·rw [e3]; exact hk res _ h4 rfl
   ·cases h1
  match m, hm, hh, hK, h, hne0 with
  | 0, hm, hh, hK, h, hne0 =>
   have hτ : τ.h = σ.h := by
    rcases hh with q | q | ⟨q, _⟩
    ·exact q
    ·exact absurd q hne0
    ·cases q
   have hk : ∀ v h1, K1 (St.put ⟨σ.t, h1⟩ dst v) → h1 = σ.h → K2 (St.put ⟨τ.t, τ.h⟩ dst v) := fun v h1 q e => hK v h1 q (fun _ => e) (fun r => absurd r (by simp))
   exact guard true K1 K2 (fun _ => pure_ K1 K2 (fun id _ => by rw [hτ]) hk) (und_ K1 K2 hk) h
  | 1, hm, hh, hK, h, hne0 =>
   obtain ⟨hi, h⟩ := h
   have hk : ∀ v h1, K1 (St.put ⟨σ.t, h1⟩ dst v) → h1 = σ.h → K2 (St.put ⟨τ.t, τ.h⟩ dst v) := fun v h1 q e => hK v h1 q (fun _ => e) (fun r => absurd r (by simp))
   refine ⟨by rw [hidc, wants_congr hl]; exact hi, guard true K1 K2 (fun hw => pure_ K1 K2 (fun id hid => ?_) hk) (und_ K1 K2 hk) h⟩
   rcases hh with q | q | ⟨_, q⟩
   ·rw [q]
   ·exact absurd q hne0
   ·exact q id (hi hw id hid).1 (hi hw id hid).2
  | m + 2, hm, hh, hK, h, hne0 =>
   have hτ : τ.h = σ.h := by
    rcases hh with q | q | ⟨q, _⟩
    ·exact q
    ·exact absurd q hne0
    ·cases q
   have ph : ∀ (t : List AV) (h2 : List AObj) (v : AV), (St.put ⟨t, h2⟩ dst v).h = h2 := fun t h2 v => by cases dst <;> rfl
   have hk : ∀ v h1, (agree N U σ.h (St.put ⟨σ.t, h1⟩ dst v).h ∧ K1 (St.put ⟨σ.t, h1⟩ dst v)) → agree N U τ.h (St.put ⟨τ.t, h1⟩ dst v).h ∧ K2 (St.put ⟨τ.t, h1⟩ dst v) := by
    intro v h1 ⟨q1, q2⟩
    rw [ph] at q1 ⊢
    exact ⟨by rw [hτ]; exact q1, hK v h1 q2 (fun q => absurd rfl q) (fun _ => q1)⟩
   refine guard false _ _ (fun _ h => ?_) (fun h => ?_) h
   ·obtain ⟨f, hf, hcb, (⟨as, res, h1, h2, h3, h4⟩ | ⟨_, h1⟩)⟩ := h
    ·refine ⟨f, by rw [hO]; exact hf, hcb, .inl ⟨as, res, by rw [hA, hτ]; exact h1, h2, (fun q => by cases q), ?_⟩⟩
     rw [hA, hτ]
     have q := hk res _ h4
     rw [hτ] at q
     exact q
    ·refine ⟨f, by rw [hO]; exact hf, hcb, .inr ⟨rfl, ?_⟩⟩
     rw [hA, hτ]
     intro F own B w0 t act w xs hI hR
     refine (h1 F own B w0 t act w xs hI hR).mono ?_
     rintro e w' ⟨v, res, h', F', own', g1, g2, g3, g4⟩
     exact ⟨v, res, h', F', own', g1, g2, g3, hτ ▸ hk res h' g4⟩
   ·have := hk und σ.h h
    have e : (⟨τ.t, σ.h⟩ : St) = τ := by rw [← hτ]
    rw [e] at this
    exact this
theorem wpOp_real {ops : Array Oper} {k : Nat} {K : Act → World → Prop} (h : wpOp P ops (fun _ _ _ => False) k K act w) : ∃ a1 w1, K a1 w1 := by
 unfold wpOp at h
 split at h
 ·exact ⟨_, _, h⟩
 ·rename_i o ho
  split at h
  ·rcases h with h | ⟨_, a, w, q⟩
   ·unfold Oper.wp at h
    generalize (execOp act.eval o).run P w = r at h
    cases r with
    | ok n w' =>
     cases n <;> simp only [Oper.upon] at h <;> first
      | exact h.elim
      | exact ⟨_, _, h⟩
      | skip
     ·obtain ⟨e, w1, fr, hR, _⟩ := h []
      cases e with
      | returned v => exact ⟨_, _, hR⟩
      | panicked ch => exact hR.elim
      | outgrown => obtain ⟨_, _, q⟩ := hR; exact q.elim
     ·obtain ⟨v, w1, hR, _⟩ := h default []
      exact ⟨_, _, hR⟩
    | halt s w' => cases s <;> exact h.elim
   ·exact q.elim
  ·exact ⟨_, _, h⟩
theorem stepR_real {lm : Bool} {ops : Array Oper} {k : Nat} {o : Oper} {p : Nat × Ins} (hm : okM p) (ho : ops[k]? = some o) (hc : cIns P lm ops o = some p.2) (hI : Inv Gl F own B w0 σ act w) {K : St → Prop} (h : stepR P Gl N U p σ K) :
  ∃ F1 own1 act1 w1 v h1, Inv Gl F1 own1 B w0 (St.put ⟨σ.t, h1⟩ p.2.dst v) act1 w1 ∧ K (St.put ⟨σ.t, h1⟩ p.2.dst v) ∧ (mcls p ≠ 2 → h1 = σ.h) ∧ (2 ≤ p.1 → agree N U σ.h h1) := by
 have h' : stepR P Gl N U p σ (fun ρ => ∃ v h1, ρ = St.put ⟨σ.t, h1⟩ p.2.dst v ∧ K ρ ∧ (mcls p ≠ 2 → h1 = σ.h) ∧ (2 ≤ p.1 → agree N U σ.h h1)) := by
  refine stepR_tr (τ := σ) hm (fun _ _ => rfl) (.inl rfl) (fun v h1 k1 k2 k3 => ?_) h
  by_cases hq : mcls p = 2
  ·rw [if_pos hq]; exact ⟨v, h1, rfl, k1, k2, k3⟩
  ·rw [if_neg hq]; rw [k2 hq] at k1; exact ⟨v, σ.h, rfl, k1, fun _ => rfl, fun _ _ _ _ => rfl⟩
 have ex : ∃ d K', aStep P Gl d σ p.2 K' ∧ ∀ ρ, K' ρ → ∃ v h1, ρ = St.put ⟨σ.t, h1⟩ p.2.dst v ∧ K ρ ∧ (mcls p ≠ 2 → h1 = σ.h) ∧ (2 ≤ p.1 → agree N U σ.h h1) := by
  obtain ⟨m, ins⟩ := p
  match m, h' with
  | 0, h' => exact ⟨true, _, h', fun _ q => q⟩
  | 1, h' => exact ⟨true, _, h'.2, fun _ q => q⟩
  | m + 2, h' => exact ⟨false, _, h', fun _ q => q.2⟩
 obtain ⟨d, K', hs, hK'⟩ := ex
 obtain ⟨act1, w1, F1, own1, ρ, hI1, hk⟩ := wpOp_real (step_sound hI hc hs (fun _ _ _ => False) ho)
 obtain ⟨v, h1, rfl, k1, k2, k3⟩ := hK' ρ hk
 exact ⟨F1, own1, act1, w1, v, h1, hI1, k1, k2, k3⟩
theorem put_t {t : List AV} {h : List AObj} {d : Option Nat} {a : AV} {s : Nat} (hs : d ≠ some s) : (St.put ⟨t, h⟩ d a).t.getD s .any = t.getD s .any := by
 cases d with
 | none => rfl
 | some i =>
  have : i ≠ s := fun q => hs (by rw [q])
  simp only [St.put, List.getD, List.getElem?_set_ne this]
theorem put_hh {t : List AV} {h : List AObj} {d : Option Nat} {a : AV} : (St.put ⟨t, h⟩ d a).h = h := by cases d <;> rfl
theorem put_comm {t : List AV} {h g k : List AObj} {d e : Option Nat} {a b : AV} (hd : ∀ s, d = some s → e ≠ some s) : St.put ⟨(St.put ⟨t, h⟩ d a).t, k⟩ e b = St.put ⟨(St.put ⟨t, g⟩ e b).t, k⟩ d a := by
 cases d with
 | none => cases e <;> rfl
 | some i =>
  cases e with
  | none => rfl
  | some j =>
   have : i ≠ j := fun q => hd i rfl (by rw [q])
   simp only [St.put]
   rw [List.set_comm _ _ this]
theorem heap_rel {a b : Nat × Ins} (hab : clashR a b = false) (hma : okM a) {h1 : List AObj} (k2 : mcls a ≠ 2 → h1 = σ.h) (k3 : 2 ≤ a.1 → agree N U σ.h h1) : h1 = σ.h ∨ mcls b = 0 ∨ (b.1 = 1 ∧ agree N U σ.h h1) := by
 by_cases ha : mcls a = 2
 ·rcases (noclash hab).2.2.1 ha with q | ⟨q1, q2⟩
  ·exact .inr (.inl q)
  ·exact .inr (.inr ⟨q2, k3 (by omega)⟩)
 ·exact .inl (k2 ha)
theorem heap_rel' {a b : Nat × Ins} (hab : clashR a b = false) {h2 : List AObj} (k2 : mcls b ≠ 2 → h2 = σ.h) (k3 : 2 ≤ b.1 → agree N U σ.h h2) : h2 = σ.h ∨ mcls a = 0 ∨ (a.1 = 1 ∧ agree N U σ.h h2) := by
 by_cases hb : mcls b = 2
 ·rcases (noclash hab).2.2.2.1 hb with q | ⟨q1, q2⟩
  ·exact .inr (.inl q)
  ·exact .inr (.inr ⟨q2, k3 (by omega)⟩)
 ·exact .inl (k2 hb)
theorem slots_ab {a b : Nat × Ins} (hab : clashR a b = false) {h1 : List AObj} {v : AV} : ∀ s ∈ b.2.looks, (St.put ⟨σ.t, h1⟩ a.2.dst v).t.getD s .any = σ.t.getD s .any := fun s hs => put_t fun q => ((noclash hab).1 s q).1 hs
theorem slots_ba {a b : Nat × Ins} (hab : clashR a b = false) {h1 : List AObj} {v : AV} : ∀ s ∈ a.2.looks, (St.put ⟨σ.t, h1⟩ b.2.dst v).t.getD s .any = σ.t.getD s .any := fun s hs => put_t fun q => (noclash hab).2.1 s q hs
theorem early_D {lm : Bool} {ops : Array Oper} {b : Nat × Ins} (hmb : okM b) (hn : b.2.i.isCall = false) {post : List (Nat × Ins)} {K : St → Prop} : ∀ (pre : List (Nat × Ins)), (∀ a ∈ pre, okM a ∧ clashR a b = false ∧ ∃ (k : Nat) (o : Oper), ops[k]? = some o ∧ cIns P lm ops o = some a.2) → ∀ (σ : St) (F : Addr → Option Value) (own : List Ent) (act : Act) (w : World), Inv Gl F own B w0 σ act w → aOpsR P Gl N U K (pre ++ b :: post) σ → ∃ v h2, D Gl N U b σ v h2 := by
 intro pre
 induction pre with
 | nil => intro _ σ F own act w _ h; obtain ⟨v, h2, hD, _⟩ := (stepR_D hn).1 h; exact ⟨v, h2, hD⟩
 | cons a pre ih =>
  intro hp σ F own act w hI h
  obtain ⟨hma, hab, k, o, ho, hc⟩ := hp a (by simp)
  obtain ⟨F1, own1, act1, w1, v, h1, hI1, hK, k2, k3⟩ := stepR_real hma ho hc hI h
  obtain ⟨vb, hb, hD⟩ := ih (fun x hx => hp x (by simp [hx])) _ F1 own1 act1 w1 hI1 hK
  have hl : ∀ s ∈ b.2.looks, σ.t.getD s .any = (St.put ⟨σ.t, h1⟩ a.2.dst v).t.getD s .any := fun s hs => (slots_ab hab s hs).symm
  have hh : σ.h = (St.put ⟨σ.t, h1⟩ a.2.dst v).h ∨ mcls b = 0 ∨ (b.1 = 1 ∧ agree N U (St.put ⟨σ.t, h1⟩ a.2.dst v).h σ.h) := by
   rw [put_hh]
   rcases heap_rel hab hma k2 k3 with q | q | ⟨q, r⟩
   ·exact .inl q.symm
   ·exact .inr (.inl q)
   ·exact .inr (.inr ⟨q, r.symm⟩)
  exact ⟨_, _, (hD.tr hmb hn hl hh).1⟩
theorem early_rest {b : Nat × Ins} (hmb : okM b) (hn : b.2.i.isCall = false) {post : List (Nat × Ins)} {K : St → Prop} : ∀ (pre : List (Nat × Ins)), (∀ a ∈ pre, okM a ∧ clashR a b = false) → ∀ (σ : St) (v : AV) (h2 : List AObj), D Gl N U b σ v h2 → aOpsR P Gl N U K (pre ++ b :: post) σ → aOpsR P Gl N U K (pre ++ post) (St.put ⟨σ.t, h2⟩ b.2.dst v) := by
 intro pre
 induction pre with
 | nil =>
  intro _ σ v h2 hD h
  obtain ⟨v', h2', hD', hk⟩ := (stepR_D hn).1 h
  obtain ⟨rfl, rfl⟩ := hD.fn hD'
  exact hk
 | cons a pre ih =>
  intro hp σ v h2 hD h
  obtain ⟨hma, hab⟩ := hp a (by simp)
  have hD2 := (hD.tr (τ := σ) hmb hn (fun _ _ => rfl) (.inl rfl)).2
  refine stepR_tr (σ := σ) (τ := St.put ⟨σ.t, h2⟩ b.2.dst v) (K1 := aOpsR P Gl N U K (pre ++ b :: post)) hma (slots_ba hab) (by rw [put_hh]; exact heap_rel' hab hD2 hD.2.2) ?_ h
  intro va h1 hk k2 k3
  have hD1 := (hD.tr (τ := St.put ⟨σ.t, h1⟩ a.2.dst va) hmb hn (slots_ab hab) (by rw [put_hh]; exact heap_rel hab hma k2 k3)).1
  have := ih (fun x hx => hp x (by simp [hx])) _ v _ hD1 hk
  rw [put_hh] at this ⊢
  rw [put_comm (g := h2) fun s q => ((noclash hab).1 s q).2] at this
  have e : (if mcls b = 2 then h2 else h1) = (if mcls a = 2 then h1 else h2) := by
   by_cases ha : mcls a = 2
   ·have hb : mcls b ≠ 2 := by
     rcases (noclash hab).2.2.1 ha with q | ⟨_, q⟩
     ·omega
     ·rw [mcls_1 q]; simp
    rw [if_pos ha, if_neg hb]
   ·rw [if_neg ha]
    split
    ·rfl
    ·rename_i hb; rw [k2 ha, hD2 hb]
  rw [e] at this
  exact this
theorem early_call {b : Nat × Ins} (hmb : okM b) (hb : b.2.i.isCall = true) {post : List (Nat × Ins)} {K : St → Prop} : ∀ (pre : List (Nat × Ins)), (∀ a ∈ pre, okM a ∧ clashR a b = false) → ∀ (σ : St), aOpsR P Gl N U K (pre ++ b :: post) σ → stepR P Gl N U b σ (aOpsR P Gl N U K (pre ++ post)) := by
 intro pre
 induction pre with
 | nil => intro _ σ h; exact h
 | cons a pre ih =>
  intro hp σ h
  obtain ⟨hma, hab⟩ := hp a (by simp)
  have hna : a.2.i.isCall = false := by
   cases q : a.2.i.isCall with
   | false => rfl
   | true => have := (noclash hab).2.2.2.2 q; rw [hb] at this; cases this
  obtain ⟨va, h1, hD, hk⟩ := (stepR_D hna).1 h
  have hDs := (hD.tr (τ := σ) hma hna (fun _ _ => rfl) (.inl rfl)).2
  have h2 := ih (fun x hx => hp x (by simp [hx])) _ hk
  refine stepR_tr (σ := St.put ⟨σ.t, h1⟩ a.2.dst va) (τ := σ) (K1 := aOpsR P Gl N U K (pre ++ post)) hmb (fun s hs => (slots_ab hab s hs).symm) ?_ ?_ h2
  ·rw [put_hh]
   rcases heap_rel hab hma hDs hD.2.2 with q | q | ⟨q, r⟩
   ·exact .inl q.symm
   ·exact .inr (.inl q)
   ·exact .inr (.inr ⟨q, r.symm⟩)
  ·intro vb hb1 hk2 k2 k3
   rw [put_hh] at k2 k3
   show stepR P Gl N U a _ _
   rw [stepR_D hna]
   -- the heap behind the call
   have k2' : mcls b ≠ 2 → (if mcls b = 2 then hb1 else σ.h) = σ.h := fun q => if_neg q
   have k3' : 2 ≤ b.1 → agree N U σ.h (if mcls b = 2 then hb1 else σ.h) := fun q => by
    have h2b : mcls b = 2 := by
     rcases hmb with r | r | ⟨r, _⟩
     ·omega
     ·exact mcls_2 r
     ·omega
    rw [if_pos h2b]
    have hσ : h1 = σ.h := by
     apply hDs
     intro ha
     rcases (noclash hab).2.2.1 ha with r | ⟨_, r⟩ <;> omega
    rw [← hσ]; exact k3 q
   have hDa := hD.tr (τ := St.put ⟨σ.t, if mcls b = 2 then hb1 else σ.h⟩ b.2.dst vb) hma hna (slots_ba hab) (by rw [put_hh]; exact heap_rel' hab k2' k3')
   refine ⟨va, _, hDa.1, ?_⟩
   rw [put_hh]
   rw [put_comm (g := (if mcls b = 2 then hb1 else σ.h)) fun s q => ((noclash hab).1 s q).2] at hk2
   have e : hb1 = (if mcls a = 2 then h1 else (if mcls b = 2 then hb1 else σ.h)) := by
    by_cases ha : mcls a = 2
    ·have hb2 : mcls b ≠ 2 := by
      rcases (noclash hab).2.2.1 ha with q | ⟨_, q⟩
      ·omega
      ·rw [mcls_1 q]; simp
     rw [if_pos ha, k2 hb2]
    ·rw [if_neg ha]
     split
     ·rfl
     ·rename_i hb2; rw [k2 hb2, hDs ha]
   rw [← e]
   exact hk2
theorem goFirst {lm : Bool} {ops : Array Oper} {b : Nat × Ins} {kb : Nat} {ob : Oper} (hmb : okM b) (hob : ops[kb]? = some ob) (hcb : cIns P lm ops ob = some b.2) {post : List (Nat × Ins)} {K : St → Prop} {Q : Exit → Act → World → Prop} (pre : List (Nat × Ins)) (hp : ∀ a ∈ pre, okM a ∧ clashR a b = false ∧ ∃ (k : Nat) (o : Oper), ops[k]? = some o ∧ cIns P lm ops o = some a.2) (hI : Inv Gl F own B w0 σ act w) (h : aOpsR P Gl N U K (pre ++ b :: post) σ) :
  wpOp P ops Q kb (Some' Gl B w0 (aOpsR P Gl N U K (pre ++ post))) act w := by
 have h' : stepR P Gl N U b σ (aOpsR P Gl N U K (pre ++ post)) := by
  cases hn : b.2.i.isCall with
  | true => exact early_call hmb hn pre (fun a ha => ⟨(hp a ha).1, (hp a ha).2.1⟩) σ h
  | false =>
   obtain ⟨v, h2, hD⟩ := early_D hmb hn pre hp σ F own act w hI h
   rw [stepR_D hn]
   exact ⟨v, h2, hD, early_rest hmb hn pre (fun a ha => ⟨(hp a ha).1, (hp a ha).2.1⟩) σ v h2 hD h⟩
 have ex : ∃ d, aStep P Gl d σ b.2 (aOpsR P Gl N U K (pre ++ post)) ∨ aStep P Gl d σ b.2 (fun ρ => agree N U σ.h ρ.h ∧ aOpsR P Gl N U K (pre ++ post) ρ) := by
  obtain ⟨m, ins⟩ := b
  match m, h' with
  | 0, h' => exact ⟨true, .inl h'⟩
  | 1, h' => exact ⟨true, .inl h'.2⟩
  | m + 2, h' => exact ⟨false, .inr h'⟩
 obtain ⟨d, h' | h'⟩ := ex
 ·exact step_sound hI hcb h' Q hob
 ·refine wpOp_mono ?_ (step_sound hI hcb h' Q hob)
  rintro a1 w1 ⟨F1, own1, ρ, hI1, _, hk⟩
  exact ⟨F1, own1, ρ, hI1, hk⟩
theorem filter_split {p q : Nat → Bool} {i : Nat} : ∀ (l : List Nat), l.Pairwise (· < ·) → i ∈ l → p i = true → (∀ j, q j = if j = i then false else p j) → ∃ pre post, l.filter p = pre ++ i :: post ∧ l.filter q = pre ++ post ∧ ∀ j ∈ pre, j < i := by
 intro l
 induction l with
 | nil => intro _ hi; cases hi
 | cons a l ih =>
  intro hs hi hp hq
  rw [List.pairwise_cons] at hs
  by_cases hai : a = i
  ·subst hai
   refine ⟨[], l.filter p, by rw [List.filter_cons_of_pos hp]; rfl, ?_, by simp⟩
   rw [List.filter_cons_of_neg (by rw [hq]; simp)]
   apply List.filter_congr
   intro x hx
   rw [hq, if_neg]
   intro e; have := hs.1 x hx; omega
  ·have hil : i ∈ l := by rcases List.mem_cons.1 hi with r | r; exact absurd r.symm hai; exact r
   obtain ⟨pre, post, e1, e2, e3⟩ := ih hs.2 hil hp hq
   have hqa : q a = p a := by rw [hq, if_neg hai]
   cases hpa : p a with
   | true =>
    refine ⟨a :: pre, post, by rw [List.filter_cons_of_pos hpa, e1]; rfl, by rw [List.filter_cons_of_pos (by rw [hqa]; exact hpa), e2]; rfl, fun j hj => ?_⟩
    rcases List.mem_cons.1 hj with r | r
    ·subst r; exact hs.1 i hil
    ·exact e3 j r
   | false =>
    exact ⟨pre, post, by rw [List.filter_cons_of_neg (by simp [hpa]), e1], by rw [List.filter_cons_of_neg (by simp [hqa, hpa]), e2], e3⟩
theorem drawnR_sound {lm : Bool} {ops : Array Oper} {L : List (Nat × Ins)} (hl : L.length = ops.size) (hc : ∀ (j : Nat) (o : Oper), ops[j]? = some o → ∃ p, L[j]? = some p ∧ cIns P lm ops o = some p.2) (hd : drawOkR ops L = true) {Q : Exit → Act → World → Prop} {K : St → Prop} (hQ : ∀ a w, Some' Gl B w0 K a w → Q .normal a w)
  (ha : aOpsR P Gl N U K L σ) (hI : Inv Gl F own B w0 σ act w) : wpAny P .any ops Q ops.size (Array.replicate ops.size false) act w := by
 obtain ⟨d1, d2, d3, dm⟩ := drawOkR_spec hd
 generalize hn : ops.size = n at *
 have insAt : ∀ i, i < n → ∃ o p, ops[i]? = some o ∧ L[i]? = some p ∧ cIns P lm ops o = some p.2 ∧ L.getD i default = p ∧ okM p := fun i hi => by
  have ho : ops[i]? = some (ops[i]'(by omega)) := Array.getElem?_eq_getElem (by omega)
  obtain ⟨ins, e1, e2⟩ := hc i _ ho
  exact ⟨_, ins, ho, e1, e2, by simp [List.getD, e1], dm ins (List.mem_of_getElem? e1)⟩
 -- what is ahead of a listed or a ready one is listed
 have ahead : ∀ (S : Nat → Bool), (∀ i, i < n → S i = true → ∀ d ∈ direct ops i, S d = true) → ∀ i j, i < n → (∀ d ∈ direct ops i, S d = true) → tb (Region.before ops) i j = true → j < i → S j = true := by
  intro S hcl i
  induction i using Nat.strongRecOn with
  | _ i ih =>
   intro j hi hdir ht hji
   rcases d2 i j hji hi ht with q | ⟨d, hdm, r, q⟩
   ·exact hdir j q
   ·have hdi := d1 i d hi hdm
    exact ih d hdi j (by omega) (hcl d (by omega) (hdir d hdm)) q r
 have mem_ready : ∀ (listed : Array Bool) (i : Nat), listed.size = n → i ∈ Region.ready .any ops listed → i < n ∧ listed.getD i false = false ∧ ∀ d ∈ direct ops i, listed.getD d false = true := by
  intro listed i hsz hi
  unfold Region.ready at hi
  rw [List.mem_filter, List.mem_range, hn] at hi
  obtain ⟨h1, h2⟩ := hi
  rw [Bool.and_eq_true] at h2
  have e0 : listed.getD i false = listed.getD i true := by
   have : i < listed.size := by omega
   simp [Array.getD, this]
  refine ⟨h1, by rw [e0]; simpa using h2.1, fun d hd => ?_⟩
  obtain ⟨o, ins, ho, _⟩ := insAt i h1
  have h3 := h2.2
  rw [ho] at h3
  simp only [Option.map_some, Option.getD_some] at h3
  unfold direct at hd
  rw [ho] at hd
  simp only at hd
  obtain ⟨e, he, hq⟩ := List.mem_filterMap.1 hd
  have := Array.all_eq_true_iff_forall_mem.1 h3 e (by simpa using he)
  split at hq
  ·rename_i hb
   cases hq
   simpa [hb] using this
  ·cases hq
 have ready_mem : ∀ (listed : Array Bool) (i : Nat), listed.size = n → i < n → listed.getD i false = false → (∀ j, j < i → listed.getD j false = true) → i ∈ Region.ready .any ops listed := by
  intro listed i hsz hi h1 h2
  unfold Region.ready
  rw [List.mem_filter, List.mem_range, hn]
  refine ⟨hi, ?_⟩
  have e0 : listed.getD i false = listed.getD i true := by
   have : i < listed.size := by omega
   simp [Array.getD, this]
  rw [Bool.and_eq_true]
  refine ⟨by rw [← e0, h1]; rfl, ?_⟩
  obtain ⟨o, ins, ho, _⟩ := insAt i hi
  rw [ho]
  simp only [Option.map_some, Option.getD_some]
  refine Array.all_eq_true_iff_forall_mem.2 fun e he => ?_
  cases hb : Region.binds .any e with
  | false => rfl
  | true =>
   have hd : e.on ∈ direct ops i := by
    unfold direct
    rw [ho]
    exact List.mem_filterMap.2 ⟨e, by simpa using he, by simp [hb]⟩
   have := h2 e.on (d1 i e.on hi hd)
   simpa using this
 have main : ∀ (fuel : Nat) (listed : Array Bool) (τ : St) (F : Addr → Option Value) (own : List Ent) (act : Act) (w : World), listed.size = n → (∀ i, i < n → listed.getD i false = true → ∀ d ∈ direct ops i, listed.getD d false = true) →
   ((List.range n).countP fun i => !listed.getD i false) = fuel → aOpsR P Gl N U K (((List.range n).filter fun i => !listed.getD i false).map fun i => L.getD i default) τ →
   Inv Gl F own B w0 τ act w → wpAny P .any ops Q fuel listed act w := by
  intro fuel
  induction fuel with
  | zero =>
   intro listed τ F own act w hsz hcl hcnt hop hI
   have hall : ∀ i, i < n → listed.getD i false = true := fun i hi => by
    have := List.countP_eq_zero.1 hcnt i (List.mem_range.2 hi)
    simpa using this
   refine ⟨?_, hQ act w ⟨F, own, τ, hI, ?_⟩⟩
   ·apply List.eq_nil_iff_forall_not_mem.2
    intro i hi
    obtain ⟨q1, q2, _⟩ := mem_ready listed i hsz hi
    rw [hall i q1] at q2
    cases q2
   ·have : (List.range n).filter (fun i => !listed.getD i false) = [] := List.filter_eq_nil_iff.2 fun i hi => by rw [hall i (List.mem_range.1 hi)]; simp
    rw [this] at hop; exact hop
  | succ fuel ih =>
   intro listed τ F own act w hsz hcl hcnt hop hI
   refine ⟨fun hnil => ?_, fun i hi => ?_⟩
   ·obtain ⟨i, h1, h2, h3⟩ := count_pos (n := n) (S := fun i => listed.getD i false) (by omega)
    have := ready_mem listed i hsz h1 h2 h3
    rw [hnil] at this
    simp at this
   ·obtain ⟨hin, hiS, hdir⟩ := mem_ready listed i hsz hi
    obtain ⟨o, p, ho, hli, hci, hgd, hmp⟩ := insAt i hin
    have hset : ∀ j, (listed.setIfInBounds i true).getD j false = if j = i then true else listed.getD j false := fun j => by
     by_cases hji : j = i
     ·subst hji
      have : j < listed.size := by omega
      simp [Array.getD, this]
     ·rw [if_neg hji]
      simp only [Array.getD_eq_getD_getElem?]
      rw [Array.getElem?_setIfInBounds_ne (fun e => hji e.symm)]
    obtain ⟨pre, post, e1, e2, e3⟩ := filter_split (p := fun j => !listed.getD j false) (q := fun j => !(listed.setIfInBounds i true).getD j false) (i := i) (List.range n) List.pairwise_lt_range (List.mem_range.2 hin) (by simp [hiS]) (fun j => by rw [hset]; split <;> simp)
    have hpre : ∀ j ∈ pre, j < n ∧ listed.getD j false = false := fun j hj => by
     have : j ∈ (List.range n).filter (fun j => !listed.getD j false) := by rw [e1]; simp [hj]
     rw [List.mem_filter, List.mem_range] at this
     exact ⟨this.1, by simpa using this.2⟩
    rw [e1, List.map_append, List.map_cons, hgd] at hop
    refine wpOp_mono ?_ (goFirst (lm := lm) hmp ho hci (pre.map fun i => L.getD i default) (fun a ha => ?_) hI hop)
    ·rintro a1 w1 ⟨F1, own1, ρ, hI1, hk⟩
     refine ih (listed.setIfInBounds i true) ρ F1 own1 a1 w1 (by simp [hsz]) (fun j hj hS d hdj => ?_) ?_ ?_ hI1
     ·rw [hset] at hS ⊢
      split
      ·rfl
      ·split at hS
       ·rename_i hji; subst hji; exact hdir d hdj
       ·exact hcl j hj hS d hdj
     ·have := count_set (n := n) (S := fun j => listed.getD j false) (S' := fun j => (listed.setIfInBounds i true).getD j false) hin hiS (by simp only [hset]; simp) (fun j hj => by simp only [hset, if_neg hj])
      omega
     ·rw [e2, List.map_append]; exact hk
    ·obtain ⟨j, hj, rfl⟩ := List.mem_map.1 ha
     obtain ⟨hjn, hjS⟩ := hpre j hj
     obtain ⟨oj, pj, hoj, hlj, hcj, hgj, hmj⟩ := insAt j hjn
     simp only [hgj]
     refine ⟨hmj, ?_, j, oj, hoj, hcj⟩
     cases hq : clashR pj p with
     | false => rfl
     | true =>
      have ht := d3 i j (e3 j hj) hin (by rw [hgj, hgd]; exact hq)
      have := ahead (fun k => listed.getD k false) hcl i j hin hdir ht (e3 j hj)
      rw [hjS] at this; cases this
 have hrep : ∀ i, (Array.replicate n false).getD i false = false := fun i => by
  simp only [Array.getD_eq_getD_getElem?, Array.getElem?_replicate]
  split <;> rfl
 refine main n (Array.replicate n false) σ F own act w (by simp) (fun i _ h => by rw [hrep] at h; cases h) ?_ ?_ hI
 ·have : ((List.range n).countP fun i => !(Array.replicate n false).getD i false) = (List.range n).length := List.countP_eq_length.2 fun i _ => by rw [hrep]; rfl
  rw [this]; simp
 ·have e1 : (List.range n).filter (fun i => !(Array.replicate n false).getD i false) = List.range n := List.filter_eq_self.2 fun i _ => by rw [hrep]; rfl
  have e2 : (List.range n).map (fun i => L.getD i default) = L := by
   apply List.ext_getElem?
   intro j
   rw [List.getElem?_map]
   rcases Nat.lt_or_ge j n with q | q
   ·obtain ⟨_, p, _, e, _, e', _⟩ := insAt j q
    rw [List.getElem?_range q, e]; simp only [Option.map_some, e']
   ·rw [List.getElem?_eq_none (by simpa using q), List.getElem?_eq_none (by omega)]; rfl
  rw [e1, e2]; exact ha
end
end Abs
end Go.Proofs.YtfjhljjginlobaaDoor
end
section
namespace Go.Proofs.YtfjhljjginlobaaDoor
namespace Abs
open Go.RowKit
def low1 (n : Nat) : AV → AV
 | .row id G sz off len => if id < n then .row id G sz off len else .any
 | .ptr id G i off => if id < n then .ptr id G i off else .any
 | .crow _ _ _ _ => .any
 | .agg _ => .any
 | .tup _ => .any
 | a => a
def lowA (n : Nat) : AV → AV
 | .agg cs => .agg (cs.map (low1 n))
 | a => low1 n a
def lowT (n : Nat) : AV → AV
 | .tup vs => .tup (vs.map (lowA n))
 | a => lowA n a
def lowO (n : Nat) (o : AObj) : AObj := if o.pr then o else { o with es := o.es.map (lowA n) }
def clr (dead : List Nat) (t : List AV) : List AV := dead.foldl (fun t i => t.set i .any) t
def norm (dead : List Nat) (n : Nat) (σ : St) : St := ⟨(clr dead σ.t).map (lowT n), (σ.h.take n).map (lowO n)⟩
def ghost (σ : St) (g : Nat × Nat × Nat) : St :=
 match σ.t[g.1]? with
 | some (.v (.slice none 0 0)) => if 0 < g.2.2 then ⟨σ.t.set g.1 (.row σ.h.length 0 g.2.2 0 0), σ.h ++ [⟨g.2.1, g.2.2, 0, true, []⟩]⟩ else σ
 | _ => σ
def awp (P : Program) (Gl : Nat → Option (List AV)) (N : Nat) : C → (Exit → St → Prop) → St → Prop
 | .skip, Q, σ => Q .normal σ
 | .ops d l, Q, σ => aOps P Gl d (Q .normal) l σ
 | .rops l, Q, σ => ∃ U, aOpsR P Gl σ.h.length U (Q .normal) l σ
 | .seq a b, Q, σ => awp P Gl N a (fun e τ => match e with | .normal => awp P Gl N b Q τ | e => Q e τ) σ
 | .cond c a b, Q, σ => match σ.val Gl c with
  | .v (.bool t) => if t = true then awp P Gl N a Q σ else awp P Gl N b Q σ
  | _ => False
 | .block id b, Q, σ => awp P Gl N b (fun e τ => match e with | .exit i => if i = id then Q .normal τ else Q (.exit i) τ | e => Q e τ) σ
 | .loop b, Q, σ => ∃ (dead : List Nat) (gh : List (Nat × Nat × Nat)) (n : Nat) (J : St → Prop) (μ : St → Nat), N ≤ n ∧ J (norm dead n (gh.foldl ghost σ)) ∧
   ∀ τ, J τ → awp P Gl N b (fun e ρ => match e with | .normal => J (norm dead n ρ) ∧ μ (norm dead n ρ) < μ τ | e => Q e ρ) τ
 | .exit id, Q, σ => Q (.exit id) σ
 | .ret, Q, σ => Q .ret σ
def cL (P : Program) (lm : Bool) (ops : Array Oper) : List Oper → Option (List Ins)
 | [] => some []
 | o :: r => match cIns P lm ops o, cL P lm ops r with
  | some i, some l => some (i :: l)
  | _, _ => none
def cC (P : Program) (hc : List Nat) : Code → Option C
 | .skip => some .skip
 | .region _ ops false => (cL P false ops ops.toList).map (.ops false)
 | .region _ ops true => match cL P false ops ops.toList with
  | some l => if drawOk ops l && !(l.any fun i => isHc hc i.i) then some (.ops true l) else if drawOkR ops (marks hc ops l) then some (.rops (marks hc ops l)) else match cL P true ops ops.toList with
   | some l' => if drawOk ops l' then some (.ops true l') else none
   | none => none
  | none => none
 | .seq a b => match cC P hc a, cC P hc b with
  | some x, some y => some (.seq x y)
  | _, _ => none
 | .cond c a b => match cC P hc a, cC P hc b with
  | some x, some y => some (.cond (cOpd c) x y)
  | _, _ => none
 | .block id b => (cC P hc b).map (.block id)
 | .loop b => (cC P hc b).map .loop
 | .exit id => some (.exit id)
 | .ret => some .ret
 | .scope b => cC P hc b
 | .label _ => some .skip
 | _ => none
section
variable {P : Program} {Gl : Nat → Option (List AV)} {F : Addr → Option Value} {own : List Ent} {B : Nat} {w0 : W0} {σ : St} {act : Act} {w : World}
theorem R.low1 {n : Nat} {x : Value} {a : AV} (h : R F own x a) : R F (own.take n) x (low1 n a) := by
 cases a with
 | any => exact .pure (.any _)
 | v y => have := h.v_inv; subst this; exact .pure (.v _)
 | list sz xs => exact .pure h.list_inv
 | lptr cs => exact .pure h.lptr_inv
 | row id G sz off len =>
  obtain ⟨e, he, hG, hs, hx⟩ := h.row_inv
  simp only [Abs.low1]
  split
  ·rename_i hid; exact .row _ _ _ _ _ _ e (by rw [List.getElem?_take, if_pos hid]; exact he) hG hs hx
  ·exact .pure (.any _)
 | ptr id G i off =>
  obtain ⟨e, he, hG, hs, hx⟩ := h.ptr_inv
  simp only [Abs.low1]
  split
  ·rename_i hid; exact .ptr _ _ _ _ _ e (by rw [List.getElem?_take, if_pos hid]; exact he) hG hs hx
  ·exact .pure (.any _)
 | crow => exact .pure (.any _)
 | agg cs => exact .pure (.any _)
 | tup cs => exact .pure (.any _)
theorem R.lowA {n : Nat} {x : Value} {a : AV} (h : R F own x a) : R F (own.take n) x (lowA n a) := by
 by_cases ha : ∃ cs, a = .agg cs
 ·obtain ⟨cs, rfl⟩ := ha
  obtain ⟨xs, rfl, hl, h1, hR⟩ := h.agg_inv
  refine .agg xs _ (by simp [hl]) h1 fun j x a p q => ?_
  rw [List.getElem?_map] at q
  cases hc : cs[j]? with
  | none => rw [hc] at q; cases q
  | some c => rw [hc] at q; cases q; exact (hR j x c p hc).low1
 ·have : Abs.lowA n a = Abs.low1 n a := by cases a <;> first | rfl | exact absurd ⟨_, rfl⟩ ha
  rw [this]; exact h.low1
theorem R.lowT {n : Nat} {x : Value} {a : AV} (h : R F own x a) : R F (own.take n) x (lowT n a) := by
 by_cases ha : ∃ cs, a = .tup cs
 ·obtain ⟨cs, rfl⟩ := ha
  obtain ⟨xs, rfl, hl, hR⟩ := h.tup_inv
  refine .tup xs _ (by simp [hl]) fun j x a p q => ?_
  rw [List.getElem?_map] at q
  cases hc : cs[j]? with
  | none => rw [hc] at q; cases q
  | some c => rw [hc] at q; cases q; exact (hR j x c p hc).lowA
 ·have : Abs.lowT n a = Abs.lowA n a := by cases a <;> first | rfl | exact absurd ⟨_, rfl⟩ ha
  rw [this]; exact h.lowA
theorem clr_get (dead : List Nat) : ∀ (t : List AV) (i : Nat) (a : AV), (clr dead t)[i]? = some a → a = .any ∨ t[i]? = some a := by
 induction dead with
 | nil => intro t i a h; exact .inr h
 | cons d ds ih =>
  intro t i a h
  rcases ih (t.set d .any) i a h with q | q
  ·exact .inl q
  ·rw [List.getElem?_set] at q
   split at q
   ·split at q
    ·cases q; exact .inl rfl
    ·cases q
   ·exact .inr q
theorem clr_len (dead : List Nat) : ∀ t : List AV, (clr dead t).length = t.length := by
 induction dead with
 | nil => intro t; rfl
 | cons d ds ih => intro t; show (clr ds (t.set d .any)).length = _; rw [ih]; simp
theorem lowA_cells (n : Nat) (a : AV) : (lowA n a).cells = a.cells.map (low1 n) := by
 cases a with
 | row id G sz off len => by_cases h : id < n <;> simp [lowA, low1, AV.cells, h]
 | ptr id G i off => by_cases h : id < n <;> simp [lowA, low1, AV.cells, h]
 | _ => rfl
theorem Inv.norm (h : Inv Gl F own B w0 σ act w) (dead : List Nat) (n : Nat) (hN : w0.N ≤ n) : Inv Gl F (own.take n) B w0 (norm dead n σ) act w := by
 have own_of : ∀ {id : Nat} {e : Ent}, (own.take n)[id]? = some e → id < n ∧ own[id]? = some e := fun {id e} q => by
  rw [List.getElem?_take] at q
  split at q
  ·exact ⟨by assumption, q⟩
  ·cases q
 refine { tl := ?_, tr := fun i x a p q => ?_, defers := h.defers, sub := h.sub, hl := ?_, objs := fun id e o p q => ?_, inj := fun i j e e' g p q => h.inj i j e e' g (own_of p).2 (own_of q).2, below := h.below, base := fun id e g p => h.base id e g (own_of p).2, gl := h.gl, gw := h.gw, room := h.room, ext := h.ext, ext0 := h.ext0, nl := by have := h.nl; simp [Abs.norm]; omega, fr := fun q hq => by rw [List.take_take, Nat.min_eq_left (Nat.le_trans (w0.hfr q hq) hN)]; exact h.fr q hq }
 ·simp [Abs.norm, clr_len, h.tl]
 ·have q' : ((clr dead σ.t).map (lowT n))[i]? = some a := q
  rw [List.getElem?_map] at q'
  cases hc : (clr dead σ.t)[i]? with
  | none => rw [hc] at q'; cases q'
  | some c =>
   rw [hc] at q'; cases q'
   rcases clr_get dead σ.t i c hc with rfl | hc'
   ·exact .pure (.any _)
   ·exact (h.tr i x c p hc').lowT
 ·simp [Abs.norm, h.hl]
 ·obtain ⟨hid, he⟩ := own_of p
  have q' : ((σ.h.take n).map (lowO n))[id]? = some o := q
  rw [List.getElem?_map, List.getElem?_take, if_pos hid] at q'
  cases ho : σ.h[id]? with
  | none => rw [ho] at q'; cases q'
  | some ob =>
   rw [ho] at q'; cases q'
   have hO := h.objs id e ob he ho
   by_cases hpr : ob.pr = true
   ·have : lowO n ob = ob := by simp [lowO, hpr]
    rw [this]
    obtain ⟨k1, k2, k3, k4, k5, k6, k7, k8⟩ := hO
    refine ⟨k1, k2, k3, k4, k5, k6, k7, ?_⟩
    cases hg : e.g with
    | none => rw [hg] at k8; exact k8
    | some g =>
     rw [hg] at k8
     obtain ⟨cs, a1, a2, a3, a4⟩ := k8
     refine ⟨cs, a1, a2, fun i j x a r s => ?_, a4⟩
     obtain ⟨y, b1, b2, b3⟩ := a3 i j x a r s
     refine ⟨y, b1, b2, ?_⟩
     unfold RC at b3 ⊢
     rw [if_pos hpr] at b3 ⊢
     exact b3
   ·have e1 : lowO n ob = { ob with es := ob.es.map (lowA n) } := by simp [lowO, hpr]
    rw [e1]
    obtain ⟨k1, k2, k3, k4, k5, k6, k7, k8⟩ := hO
    have el : ∀ (i : Nat) (x : AV), (ob.es.map (lowA n))[i]? = some x → ∃ z, ob.es[i]? = some z ∧ x = lowA n z := fun i x q => by
     rw [List.getElem?_map] at q
     cases hz : ob.es[i]? with
     | none => rw [hz] at q; cases q
     | some z => rw [hz] at q; cases q; exact ⟨z, rfl, rfl⟩
    refine ⟨by simp [k1], k2, k3, k4, ⟨k5.1, by simpa using k5.2⟩, by simpa using k6, fun i x q => ?_, ?_⟩
    ·obtain ⟨z, hz, rfl⟩ := el i x q
     rw [lowA_cells, List.length_map]; exact k7 i z hz
    ·cases hg : e.g with
     | none => rw [hg] at k8; exact k8
     | some g =>
      rw [hg] at k8
      obtain ⟨cs, a1, a2, a3, a4⟩ := k8
      obtain ⟨fr, a1, af⟩ := a1
      refine ⟨cs, ⟨fr, a1, by rw [List.length_map]; exact af⟩, a2, fun i j x a r s => ?_, a4⟩
      obtain ⟨z, hz, rfl⟩ := el i x r
      rw [lowA_cells, List.getElem?_map] at s
      cases hc : z.cells[j]? with
      | none => rw [hc] at s; cases s
      | some c =>
       rw [hc] at s; cases s
       obtain ⟨y, b1, b2, b3⟩ := a3 i j z c hz hc
       refine ⟨y, b1, b2, ?_⟩
       unfold RC at b3 ⊢
       rw [if_neg hpr] at b3 ⊢
       exact b3.low1
theorem Inv.ghost1 (h : Inv Gl F own B w0 σ act w) (g : Nat × Nat × Nat) : ∃ own', Inv Gl F own' B w0 (ghost σ g) act w := by
 unfold ghost
 split
 ·rename_i hv
  split
  ·rename_i hsz
   refine ⟨own ++ [⟨none, 0, g.2.2, 0⟩], ?_⟩
   have hI := h.newNil g.2.1 g.2.2 true hsz
   have hlt : g.1 < act.tmps.size := by rw [h.tl]; exact (List.getElem?_eq_some_iff.1 hv).1
   have hx := (h.tr g.1 _ _ (Array.getElem?_eq_getElem hlt) hv).v_inv
   have hrow : R F (own ++ [⟨none, 0, g.2.2, 0⟩]) act.tmps[g.1] (.row σ.h.length 0 g.2.2 0 0) := by
    rw [hx, ← h.hl]
    exact .row _ _ _ _ _ _ _ own_last (by simp) ⟨_, _, rfl, by simp, fun q => by simp at q⟩ (fun _ => ⟨rfl, by simp, fun _ => ⟨_, Nat.le_of_eq (Nat.zero_add _), by simp⟩⟩)
   have := hI.put hrow (some g.1)
   have e : act.put (some g.1) act.tmps[g.1] = act := by
    have hs : act.tmps.setIfInBounds g.1 act.tmps[g.1] = act.tmps := by
     apply Array.ext_getElem?
     intro j
     rw [Array.getElem?_setIfInBounds]
     split
     ·rename_i hj
      subst hj
      rw [Array.getElem?_eq_getElem hlt]
     ·rfl
    show ({ act with tmps := act.tmps.setIfInBounds g.1 act.tmps[g.1] } : Act) = act
    rw [hs]
   rw [e] at this
   exact this
  ·exact ⟨own, h⟩
 ·exact ⟨own, h⟩
theorem Inv.ghosts (gh : List (Nat × Nat × Nat)) : ∀ {σ : St} {own : List Ent}, Inv Gl F own B w0 σ act w → ∃ own', Inv Gl F own' B w0 (gh.foldl ghost σ) act w := by
 induction gh with
 | nil => intro σ own h; exact ⟨own, h⟩
 | cons g gh ih => intro σ own h; obtain ⟨own', h'⟩ := h.ghost1 g; exact ih h'
theorem cL_sound {lm : Bool} {ops : Array Oper} : ∀ (os : List Oper) (l : List Ins), cL P lm ops os = some l → l.length = os.length ∧ ∀ (j : Nat) (o : Oper), os[j]? = some o → ∃ ins, l[j]? = some ins ∧ cIns P lm ops o = some ins := by
 intro os
 induction os with
 | nil => intro l h; cases h; exact ⟨rfl, fun j o q => by simp at q⟩
 | cons o os ih =>
  intro l h
  simp only [cL] at h
  split at h
  ·rename_i i l' h1 h2
   cases h
   obtain ⟨l1, l2⟩ := ih l' h2
   refine ⟨by simp [l1], fun j o' q => ?_⟩
   cases j with
   | zero => simp at q; subst q; exact ⟨i, rfl, h1⟩
   | succ j => simp at q; obtain ⟨ins, a, b⟩ := l2 j o' q; exact ⟨ins, by simpa using a, b⟩
  ·cases h
def NG (e : Exit) : Prop := ∀ l, e ≠ .goto l
theorem ng_normal : NG .normal := fun l h => by cases h
theorem ng_exit (i : Nat) : NG (.exit i) := fun l h => by cases h
theorem ng_ret : NG .ret := fun l h => by cases h
theorem awp_soundN (hm : P.follows .mixedOrders = true) {hc0 : List Nat} {N : Nat} (hN : w0.N = N) : ∀ (code : Code) (c : C), cC P hc0 code = some c → ∀ (Q : Exit → St → Prop) (σ : St) (F : Addr → Option Value) (own : List Ent) (act : Act) (w : World), awp P Gl N c Q σ → Inv Gl F own B w0 σ act w → code.wp P (fun e a w => NG e ∧ Some' Gl B w0 (Q e) a w) act w := by
 intro code
 induction code with
 | skip => intro c hc Q σ F own act w ha hI; cases hc; exact wp_skip ⟨ng_normal, F, own, σ, hI, ha⟩
 | region id ops draw =>
  intro c hc Q σ F own act w ha hI
  cases draw with
  | false =>
   simp only [cC] at hc
   cases hl : cL P false ops ops.toList with
   | none => rw [hl] at hc; cases hc
   | some l =>
    rw [hl] at hc; cases hc
    obtain ⟨l1, l2⟩ := cL_sound _ _ hl
    have hlen : l.length = ops.size := by simpa using l1
    refine wp_region ?_
    have := ops_sound (P := P) (lm := false) (d := false) (Q := fun e a w => NG e ∧ Some' Gl B w0 (Q e) a w) (K := Q .normal) (fun a w h => ⟨ng_normal, h⟩) l 0 (fun j hj => by
     have hj' : j < ops.size := by rw [Nat.zero_add] at hj; exact hj
     have ho : ops[j]? = some ops[j] := Array.getElem?_eq_getElem hj'
     obtain ⟨ins, a1, a2⟩ := l2 j ops[j] (by rw [Array.getElem?_toList]; exact ho)
     exact ⟨ins, ops[j], a1, by rw [Nat.zero_add]; exact ho, a2⟩) (by omega) σ F own act w ha hI
    rw [hlen] at this
    rw [List.range_eq_range']; exact this
  | true =>
   simp only [cC] at hc
   have key : ∀ lm l, cL P lm ops ops.toList = some l → drawOk ops l = true → c = .ops true l → (Code.region id ops true).wp P (fun e a w => NG e ∧ Some' Gl B w0 (Q e) a w) act w := by
    intro lm l hl hd hcc
    subst hcc
    obtain ⟨l1, l2⟩ := cL_sound _ _ hl
    have hlen : l.length = ops.size := by simpa using l1
    refine wp_region_any hm ?_
    exact drawn_sound (lm := lm) hlen (fun j o ho => l2 j o (by simpa using ho)) hd (fun a w h => ⟨ng_normal, h⟩) ha (hI.same rfl rfl rfl rfl)
   cases hl : cL P false ops ops.toList with
   | none => rw [hl] at hc; cases hc
   | some l =>
    rw [hl] at hc
    simp only at hc
    split at hc
    ·rename_i hd; cases hc; exact key false l hl (by rw [Bool.and_eq_true] at hd; exact hd.1) rfl
    ·split at hc
     ·rename_i hd
      cases hc
      obtain ⟨U, ha⟩ := ha
      obtain ⟨l1, l2⟩ := cL_sound _ _ hl
      have hlen : (marks hc0 ops l).length = ops.size := by rw [marks_len]; simpa using l1
      refine wp_region_any hm ?_
      refine drawnR_sound (lm := false) hlen (fun j o ho => ?_) hd (fun a w h => ⟨ng_normal, h⟩) ha (hI.same rfl rfl rfl rfl)
      obtain ⟨ins, a1, a2⟩ := l2 j o (by simpa using ho)
      obtain ⟨m, hm⟩ := marks_at (hc := hc0) (ops := ops) a1
      exact ⟨_, hm, a2⟩
     ·cases hl' : cL P true ops ops.toList with
      | none => rw [hl'] at hc; cases hc
      | some l' =>
       rw [hl'] at hc
       simp only at hc
       split at hc
       ·rename_i hd; cases hc; exact key true l' hl' hd rfl
       ·cases hc
 | seq a b iha ihb =>
  intro c hc Q σ F own act w ha hI
  simp only [cC] at hc
  split at hc
  ·rename_i x y hx hy
   cases hc
   refine wp_seq (wp_mono (iha x hx _ σ F own act w ha hI) ?_)
   rintro e a1 w1 ⟨ng, F1, own1, τ, hI1, hK⟩
   cases e with
   | normal => exact ihb y hy Q τ F1 own1 a1 w1 hK hI1
   | _ => exact ⟨ng, F1, own1, τ, hI1, hK⟩
  ·cases hc
 | cond c0 a b iha ihb =>
  intro c hc Q σ F own act w ha hI
  simp only [cC] at hc
  split at hc
  ·rename_i x y hx hy
   cases hc
   simp only [awp] at ha
   split at ha
   ·rename_i t hv
    have he := hI.ev c0
    rw [hv] at he
    refine wp_cond he.v_inv ?_
    cases t with
    | true => simp only [if_true] at ha ⊢; exact iha x hx Q σ F own act w ha hI
    | false => simp only [Bool.false_eq_true, if_false] at ha ⊢; exact ihb y hy Q σ F own act w ha hI
   ·exact ha.elim
  ·cases hc
 | block id b ih =>
  intro c hc Q σ F own act w ha hI
  simp only [cC] at hc
  cases hb : cC P hc0 b with
  | none => rw [hb] at hc; cases hc
  | some x =>
   rw [hb] at hc; cases hc
   refine wp_block (wp_mono (ih x hb _ σ F own act w ha hI) ?_)
   rintro e a1 w1 ⟨ng, F1, own1, τ, hI1, hK⟩
   cases e with
   | exit i =>
    simp only at hK
    simp only [Exit.inBlock]
    split
    ·rename_i hi; rw [if_pos hi] at hK; exact ⟨ng_normal, F1, own1, τ, hI1, hK⟩
    ·rename_i hi; rw [if_neg hi] at hK; exact ⟨ng_exit _, F1, own1, τ, hI1, hK⟩
   | _ => exact ⟨ng, F1, own1, τ, hI1, hK⟩
 | loop b ih =>
  intro c hc Q σ F own act w ha hI
  simp only [cC] at hc
  cases hb : cC P hc0 b with
  | none => rw [hb] at hc; cases hc
  | some x =>
   rw [hb] at hc; cases hc
   obtain ⟨dead, gh, n, J, μ, hn, h0, hr⟩ := ha
   obtain ⟨own', hI'⟩ := Inv.ghosts gh hI
   have hI0 := hI'.norm dead n (by omega)
   -- a round lowers the measure of some abstract state that stands for the frame
   have key : ∀ m, ∀ (τ : St) (F : Addr → Option Value) (own : List Ent) (act : Act) (w : World), μ τ ≤ m → J τ → Inv Gl F own B w0 τ act w → Code.rounds P b (fun e a w => NG e ∧ Some' Gl B w0 (Q e) a w) (m + 1) act w := by
    intro m
    induction m with
    | zero =>
     intro τ F own act w hm' hJ hI
     rw [rounds_succ]
     refine wp_mono (ih x hb _ τ F own act w (hr τ hJ) hI) ?_
     rintro e a1 w1 ⟨ng, F1, own1, ρ, hI1, hK⟩
     cases e with
     | normal => exact absurd hK.2 (by omega)
     | _ => exact ⟨ng, F1, own1, ρ, hI1, hK⟩
    | succ m ihm =>
     intro τ F own act w hm' hJ hI
     rw [rounds_succ]
     refine wp_mono (ih x hb _ τ F own act w (hr τ hJ) hI) ?_
     rintro e a1 w1 ⟨ng, F1, own1, ρ, hI1, hK⟩
     cases e with
     | normal => exact ihm _ F1 _ a1 w1 (by have := hK.2; omega) hK.1 (hI1.norm dead n (by omega))
     | _ => exact ⟨ng, F1, own1, ρ, hI1, hK⟩
   exact wp_loop_rounds _ (key _ _ F _ act w (Nat.le_refl _) h0 hI0)
 | exit id => intro c hc Q σ F own act w ha hI; cases hc; exact wp_exit ⟨ng_exit _, F, own, σ, hI, ha⟩
 | ret => intro c hc Q σ F own act w ha hI; cases hc; exact wp_ret ⟨ng_ret, F, own, σ, hI, ha⟩
 | label l => intro c hc Q σ F own act w ha hI; cases hc; exact wp_label ⟨ng_normal, F, own, σ, hI, ha⟩
 | scope b ih =>
  intro c hc Q σ F own act w ha hI
  simp only [cC] at hc
  refine wp_scope_straight (wp_mono (ih c hc Q σ F own act w ha hI) ?_)
  rintro e a1 w1 ⟨ng, hK⟩
  cases e with
  | goto l => exact absurd rfl (ng l)
  | _ => exact ⟨ng, hK⟩
 | _ => intro c hc; cases hc
theorem awp_sound (hm : P.follows .mixedOrders = true) {hc0 : List Nat} {N : Nat} (hN : w0.N = N) (code : Code) (c : C) (hc : cC P hc0 code = some c) (Q : Exit → St → Prop) (σ : St) (F : Addr → Option Value) (own : List Ent) (act : Act) (w : World) (ha : awp P Gl N c Q σ) (hI : Inv Gl F own B w0 σ act w) : code.wp P (fun e a w => Some' Gl B w0 (Q e) a w) act w :=
 wp_mono (awp_soundN hm hN code c hc Q σ F own act w ha hI) fun e a w h => h.2
inductive RV where
 | t (i : Nat)
 | c (i sz : Nat) (ag : Bool)
def cRes (P : Program) : List ResultVar → Option (List RV)
 | [] => some []
 | .tmp t :: r => (cRes P r).map (.t t :: ·)
 | .cell a t :: r => match agT P t, cRes P r with
  | some (ag, sz), some l => some (.c a sz ag :: l)
  | _, _ => none
def resL (Gl : Nat → Option (List AV)) (σ : St) : List RV → Option (Prop × List AV)
 | [] => some (True, [])
 | .t i :: r => (resL Gl σ r).map fun q => (q.1, σ.t.getD i .any :: q.2)
 | .c i sz ag :: r => match step Gl σ (.load sz ag (.t i)), resL Gl σ r with
  | some (p, a, _), some q => some (p ∧ q.1, a :: q.2)
  | _, _ => none
def resA (Gl : Nat → Option (List AV)) (σ : St) (rs : List RV) : Option (Prop × AV) :=
 match resL Gl σ rs with
 | some (p, [a]) => some (p, a)
 | some (p, l) => some (p, .tup l)
 | none => none
def Wk (a b : AV) : Prop := ∀ (F : Addr → Option Value) (x : Value), RP F x a → RP F x b
theorem Wk.refl (a : AV) : Wk a a := fun _ _ h => h
theorem Wk.nil (sz : Nat) : Wk (.v (.slice none 0 0)) (.list sz []) := fun _ _ h => by cases h; exact .nil sz
theorem Wk.tup {as bs : List AV} (hl : as.length = bs.length) (h : ∀ (j : Nat) (a b : AV), as[j]? = some a → bs[j]? = some b → Wk a b) : Wk (.tup as) (.tup bs) := fun F x hR => by
 cases hR with
 | tup xs cs hl' hR' =>
  refine .tup xs bs (by omega) fun j x b p q => ?_
  have hj : j < as.length := by rw [hl]; exact (List.getElem?_eq_some_iff.1 q).1
  exact h j as[j] b (List.getElem?_eq_getElem hj) q F x (hR' j x _ p (List.getElem?_eq_getElem hj))
theorem Wk.agg {as bs : List AV} (hl : as.length = bs.length) (h : ∀ (j : Nat) (a b : AV), as[j]? = some a → bs[j]? = some b → Wk a b) : Wk (.agg as) (.agg bs) := fun F x hR => by
 cases hR with
 | agg xs cs hl' h1 hR' =>
  refine .agg xs bs (by omega) h1 fun j x b p q => ?_
  have hj : j < as.length := by rw [hl]; exact (List.getElem?_eq_some_iff.1 q).1
  exact h j as[j] b (List.getElem?_eq_getElem hj) q F x (hR' j x _ p (List.getElem?_eq_getElem hj))
def Ends (Gl : Nat → Option (List AV)) (rs : List RV) (res : AV) (e : Exit) (σ : St) : Prop :=
 (match e with | .normal => True | .ret => True | _ => False) ∧ ∃ p a b, resA Gl σ rs = some (p, a) ∧ p ∧ keepT σ.h a = some b ∧ Wk b res
def resF (tmps : Array Value) : ResultVar → Sem Value
 | .tmp t => pure (tmps.getD t undef)
 | .cell a t => do loadVar t (← asAddr (tmps.getD a undef))
theorem results_eq (fn : Func) (tmps : Array Value) : Go.results fn tmps = (do let vs ← fn.results.mapM (resF tmps); pure (if h : vs.size = 1 then vs[0] else .tuple vs)) := rfl
theorem results_sound (h : Inv Gl F own B w0 σ act w) : ∀ (vs : List ResultVar) (rs : List RV) (p : Prop) (l : List AV), cRes P vs = some rs → resL Gl σ rs = some (p, l) → p →
  ∃ ys : List Value, (vs.mapM (resF act.tmps)).run P w = .ok ys w ∧ ys.length = l.length ∧ ∀ (j : Nat) (y : Value) (a : AV), ys[j]? = some y → l[j]? = some a → R F own y a := by
 intro vs
 induction vs with
 | nil => intro rs p l hc hr hp; cases hc; cases hr; exact ⟨[], rfl, rfl, fun j y a q => by simp at q⟩
 | cons v vs ih =>
  intro rs p l hc hr hp
  cases v with
  | tmp t =>
   simp only [cRes] at hc
   cases hq : cRes P vs with
   | none => rw [hq] at hc; cases hc
   | some rs' =>
    rw [hq] at hc; cases hc
    simp only [resL] at hr
    cases hr' : resL Gl σ rs' with
    | none => rw [hr'] at hr; cases hr
    | some q =>
     obtain ⟨p', l'⟩ := q
     rw [hr'] at hr; cases hr
     obtain ⟨ys, e1, e2, e3⟩ := ih rs' _ l' hq hr' hp
     refine ⟨act.tmps.getD t undef :: ys, ?_, by simp [e2], fun j y a q q' => ?_⟩
     ·rw [List.mapM_cons]; simp only [Sem.run_bind, resF, Sem.run_pure, Result.andThen_ok]; rw [e1]; rfl
     ·cases j with
      | zero =>
       have q1 : some (act.tmps.getD t undef) = some y := q
       have q2 : some (σ.t.getD t .any) = some a := q'
       cases q1; cases q2; exact h.ev (.tmp t)
      | succ j => simp at q q'; exact e3 j y a q q'
  | cell ad t =>
   simp only [cRes] at hc
   split at hc
   ·rename_i ag sz rs' ha hq
    cases hc
    simp only [resL] at hr
    split at hr
    ·rename_i p1 a1 h1 q hs hr'
     obtain ⟨p2, l2⟩ := q
     cases hr
     obtain ⟨ys, e1, e2, e3⟩ := ih rs' p2 l2 hq hr' hp.2
     obtain ⟨ad', y0, ex, hy, hR, _⟩ := load_val (x := .tmp ad) h ha hs hp.1
     refine ⟨y0 :: ys, ?_, by simp [e2], fun j y a q q' => ?_⟩
     ·have ex' : act.tmps.getD ad undef = .pointer (some ad') := ex
      have eas : (asAddr (act.tmps.getD ad undef)).run P w = .ok ad' w := by rw [ex']; rfl
      rw [List.mapM_cons]; simp only [Sem.run_bind, resF, eas, Result.andThen_ok, hy]; rw [e1]; rfl
     ·cases j with
      | zero => simp at q q'; subst q q'; exact hR
      | succ j => simp at q q'; exact e3 j y a q q'
    ·cases hr
   ·cases hc
theorem Pure.ofW {f : FuncId} {fn : Func} {code : Code} {rs : List RV} (hf : P.funcs[f]? = some fn) (hb : fn.body = some code) (hr : cRes P fn.results.toList = some rs) {as : List AV} {res : AV}
  (h : ∀ (F : Addr → Option Value) (own : List Ent) (B : Nat) (w0 : W0) (act : Act) (w : World), w0.N = 0 → Inv Gl F own B w0 ⟨as ++ List.replicate (fn.ntmps - as.length) .any, []⟩ act w → code.wp P (fun e a w => Some' Gl B w0 (Ends Gl rs res e) a w) act w) : Pure P Gl f as res := by
 intro w F xs hF hgl hgw hxs
 refine calls_of_wp hf hb ?_
 have hI : Inv Gl F [] w.heap.size ⟨w, F, 0, [], fun q hq => by simp at hq⟩ ⟨as ++ List.replicate (fn.ntmps - as.length) .any, []⟩ { tmps := xs ++ Array.replicate (fn.ntmps - xs.size) undef, defers := [] } w := by
  refine { tl := by simp [hxs.1], tr := fun i x a p q => ?_, defers := rfl, sub := hF, hl := rfl, objs := fun id e o p => by simp at p, inj := fun i j e e' g p => by simp at p, below := Below.refl _ _, base := fun id e g p => by simp at p, gl := hgl, gw := hgw, room := Nat.le_refl _, ext := fun _ _ q => .inl q, ext0 := fun _ _ q => q, nl := Nat.zero_le _, fr := fun q hq => by simp at hq }
  simp only at p q
  rcases Nat.lt_or_ge i as.length with hi | hi
  ·rw [List.getElem?_append_left hi] at q
   rw [Array.getElem?_append_left (by rw [hxs.1]; exact hi)] at p
   exact .pure (hxs.2 i x a p q)
  ·rw [List.getElem?_append_right hi, List.getElem?_replicate] at q
   split at q
   ·cases q; exact .pure (.any _)
   ·cases q
 refine wp_mono (h F [] _ _ _ w rfl hI) ?_
 rintro e a1 w1 ⟨F1, own1, τ, hI1, hE, p, a, b, hres, hp, hk, hw⟩
 obtain ⟨p', l, hrl, hal⟩ : ∃ p' l, resL Gl τ rs = some (p', l) ∧ ((∃ x, l = [x] ∧ a = x ∧ p = p') ∨ ((∀ x, l ≠ [x]) ∧ a = .tup l ∧ p = p')) := by
  unfold resA at hres
  split at hres
  ·rename_i p0 a0 h0; cases hres; exact ⟨p, [a], h0, .inl ⟨a, rfl, rfl, rfl⟩⟩
  ·rename_i p0 l0 hne h0; cases hres; exact ⟨p, l0, h0, .inr ⟨fun x e => hne x e, rfl, rfl⟩⟩
  ·cases hres
 have hpp : p' := by rcases hal with ⟨_, _, _, e⟩ | ⟨_, _, e⟩ <;> (rw [← e]; exact hp)
 obtain ⟨ys, hrun, hyl, hyR⟩ := results_sound hI1 fn.results.toList rs p' l hr hrl hpp
 have hmapM : (fn.results.mapM (resF a1.tmps)).run P w1 = .ok ys.toArray w1 := by
  rw [Array.mapM_eq_mapM_toList]
  simp only [Sem.run_map, hrun, Result.andThen_ok]
 have fin : ∀ v, (Go.results fn a1.tmps).run P w1 = .ok v w1 → R F1 own1 v a → bodyPost P fn (fun e w' => ∃ v F', e = .returned v ∧ (∀ ad y, F ad = some y → F' ad = some y) ∧ (∀ ad y, F' ad = some y → w'.cell? ad = some y) ∧ (∀ ad y, F' ad = some y → F ad = some y ∨ w.heap.size ≤ ad.block) ∧ RP F' v res ∧ Below w.heap.size w w') e a1 w1 := by
  intro v hv hR
  obtain ⟨F2, hF2, hI2, hkp⟩ := hI1.freezeL (List.range τ.h.length)
  have hkp' : ∀ id, Kept F2 own1 τ.h w1 id := fun id => by
   intro ob e' g hob
   exact hkp id (List.mem_range.2 (List.getElem?_eq_some_iff.1 hob).1) ob e' g hob
  have hfinal : RP F2 v b := by
   by_cases ha : ∃ vs, a = .tup vs
   ·obtain ⟨vs, rfl⟩ := ha
    have hk' : (keepAL τ.h vs).map AV.tup = some b := hk
    cases hq : keepAL τ.h vs with
    | none => rw [hq] at hk'; cases hk'
    | some ds =>
     rw [hq] at hk'; cases hk'
     obtain ⟨zs, rfl, z1, z2⟩ := hR.tup_inv
     obtain ⟨l1, l2⟩ := keepAL_sound hI1 hF2 vs ds hq (fun id _ => hkp' id)
     refine .tup zs ds (by omega) fun j x c p q => ?_
     have hj : j < vs.length := by rw [l1]; exact (List.getElem?_eq_some_iff.1 q).1
     exact (l2 j x vs[j] c (List.getElem?_eq_getElem hj) q (z2 j x _ p (List.getElem?_eq_getElem hj))).1
   ·have hk' : keepA τ.h a = some b := by cases a <;> first | exact hk | exact absurd ⟨_, rfl⟩ ha
    exact (keepA_sound hI1 hF2 hR hk' (fun id _ => hkp' id)).1
  have hend : (∃ v, (Go.results fn a1.tmps).run P w1 = .ok v w1 ∧ ∃ v' F', Ending.returned v = .returned v' ∧ (∀ ad y, F ad = some y → F' ad = some y) ∧ (∀ ad y, F' ad = some y → w1.cell? ad = some y) ∧ (∀ ad y, F' ad = some y → F ad = some y ∨ w.heap.size ≤ ad.block) ∧ RP F' v' res ∧ Below w.heap.size w w1) :=
   ⟨v, hv, v, F2, rfl, hI2.ext0, hI2.sub, hI2.ext, hw F2 v hfinal, hI2.below⟩
  cases e with
  | normal => exact ⟨hI1.defers, hend⟩
  | ret => exact ⟨hI1.defers, hend⟩
  | _ => exact hE.elim
 rcases hal with ⟨x, rfl, rfl, _⟩ | ⟨hne, rfl, _⟩
 ·have hy1 : ys.length = 1 := by simpa using hyl
  obtain ⟨y, rfl⟩ := List.length_eq_one_iff.1 hy1
  refine fin y ?_ (hyR 0 y a rfl rfl)
  rw [results_eq]
  simp only [Sem.run_bind, hmapM, Result.andThen_ok]
  rfl
 ·refine fin (.tuple ys.toArray) ?_ (.tup _ _ (by simp [hyl]) fun j x c p q => hyR j x c (by simpa using p) q)
  rw [results_eq]
  simp only [Sem.run_bind, hmapM, Result.andThen_ok]
  have hy1 : ¬ ys.toArray.size = 1 := fun q => by
   have : l.length = 1 := by rw [← hyl]; simpa using q
   match l, this with
   | [x], _ => exact hne x rfl
  rw [dif_neg hy1]
  rfl
def EndsH (Gl : Nat → Option (List AV)) (rs : List RV) (Q : AV → List AObj → Prop) (e : Exit) (σ : St) : Prop :=
 (match e with | .normal => True | .ret => True | _ => False) ∧ ∃ p a, resA Gl σ rs = some (p, a) ∧ p ∧ Q a σ.h
theorem PureH.ofW {f : FuncId} {fn : Func} {code : Code} {rs : List RV} (hf : P.funcs[f]? = some fn) (hb : fn.body = some code) (hr : cRes P fn.results.toList = some rs) {h0 : List AObj} {as : List AV} {Q : AV → List AObj → Prop}
    (h : ∀ (F : Addr → Option Value) (own : List Ent) (B : Nat) (w0 : W0) (act : Act) (w : World), w0.N = h0.length → Inv Gl F own B w0 ⟨as ++ List.replicate (fn.ntmps - as.length) .any, h0⟩ act w → code.wp P (fun e a w => Some' Gl B w0 (EndsH Gl rs Q e) a w) act w) : PureH P Gl f h0 as Q := by
  intro F own B w0 t act w xs hI hxs
  refine calls_of_wp hf hb ?_
  let fr' : List (Nat × Value × AV) := (List.range t.length).map fun i => (h0.length, act.tmps.getD i undef, t.getD i .any)
  have hfr' : ∀ q ∈ w0.fr ++ fr', q.1 ≤ h0.length := fun q hq => by
    rcases List.mem_append.1 hq with hq | hq
    · exact Nat.le_trans (w0.hfr q hq) hI.nl
    · obtain ⟨i, _, rfl⟩ := List.mem_map.1 hq; exact Nat.le_refl _
  have hown : own.take h0.length = own := List.take_of_length_le (by rw [hI.hl]; exact Nat.le_refl _)
  have hI1 : Inv Gl F own B ⟨w0.w, w0.F, h0.length, w0.fr ++ fr', hfr'⟩ ⟨as ++ List.replicate (fn.ntmps - as.length) .any, h0⟩ { tmps := xs ++ Array.replicate (fn.ntmps - xs.size) undef, defers := [] } w := by
    refine { tl := by simp [hxs.1], tr := fun i x a p q => ?_, defers := rfl, sub := hI.sub, hl := hI.hl, objs := hI.objs, inj := hI.inj, below := hI.below, base := hI.base, gl := hI.gl, gw := hI.gw, room := hI.room, ext := hI.ext, ext0 := hI.ext0, nl := Nat.le_refl _, fr := fun q hq => ?_ }
    · simp only at p q
      rcases Nat.lt_or_ge i as.length with hi | hi
      · rw [List.getElem?_append_left hi] at q
        rw [Array.getElem?_append_left (by rw [hxs.1]; exact hi)] at p
        exact hxs.2 i x a p q
      · rw [List.getElem?_append_right hi, List.getElem?_replicate] at q
        split at q
        · cases q; exact .pure (.any _)
        · cases q
    · rcases List.mem_append.1 hq with hq | hq
      · exact hI.fr q hq
      · obtain ⟨i, hi, rfl⟩ := List.mem_map.1 hq
        have hi' := List.mem_range.1 hi
        have hlt : i < act.tmps.size := by rw [hI.tl]; exact hi'
        rw [hown]
        exact hI.tr i _ _ (by simp [Array.getD, hlt]) (by simp [List.getD, List.getElem?_eq_getElem hi'])
  refine wp_mono (h F own _ _ _ w rfl hI1) ?_
  rintro e a1 w1 ⟨F1, own1, τ, hI2, hE, p, a, hres, hp, hQ⟩
  obtain ⟨p', l, hrl, hal⟩ : ∃ p' l, resL Gl τ rs = some (p', l) ∧ ((∃ x, l = [x] ∧ a = x ∧ p = p') ∨ ((∀ x, l ≠ [x]) ∧ a = .tup l ∧ p = p')) := by
    unfold resA at hres
    split at hres
    · rename_i p0 a0 h0; cases hres; exact ⟨p, [a], h0, .inl ⟨a, rfl, rfl, rfl⟩⟩
    · rename_i p0 l0 hne h0; cases hres; exact ⟨p, l0, h0, .inr ⟨fun x e => hne x e, rfl, rfl⟩⟩
    · cases hres
  have hpp : p' := by rcases hal with ⟨_, _, _, e⟩ | ⟨_, _, e⟩ <;> (rw [← e]; exact hp)
  obtain ⟨ys, hrun, hyl, hyR⟩ := results_sound hI2 fn.results.toList rs p' l hr hrl hpp
  have hmapM : (fn.results.mapM (resF a1.tmps)).run P w1 = .ok ys.toArray w1 := by
    rw [Array.mapM_eq_mapM_toList]
    simp only [Sem.run_map, hrun, Result.andThen_ok]
  -- the caller's frame again
  have hback : Inv Gl F1 own1 B w0 ⟨t, τ.h⟩ act w1 :=
    { tl := hI.tl, tr := fun i x a p q => by
        have hi : i < t.length := (List.getElem?_eq_some_iff.1 q).1
        have hlt : i < act.tmps.size := by rw [hI.tl]; exact hi
        have := hI2.fr (h0.length, act.tmps.getD i undef, t.getD i .any) (List.mem_append.2 (.inr (List.mem_map.2 ⟨i, List.mem_range.2 hi, rfl⟩)))
        have e1 : act.tmps.getD i undef = x := by simp [Array.getD, hlt]; rw [Array.getElem?_eq_getElem hlt] at p; exact Option.some.inj p
        have e2 : t.getD i .any = a := by
          have q' : t[i]? = some a := q
          simp [List.getD, q']
        rw [e1, e2] at this
        exact this.mono (fun _ _ r => r) (Le.of_take _ _),
      defers := hI.defers, sub := hI2.sub, hl := hI2.hl, objs := hI2.objs, inj := hI2.inj, below := hI2.below, base := hI2.base, gl := hI2.gl, gw := hI.gw, room := hI2.room, ext := hI2.ext, ext0 := hI2.ext0, nl := Nat.le_trans hI.nl hI2.nl, fr := fun q hq => hI2.fr q (List.mem_append.2 (.inl hq)) }
  have fin : ∀ v, (Go.results fn a1.tmps).run P w1 = .ok v w1 → R F1 own1 v a → bodyPost P fn (fun e w' => ∃ v res h' F' own', e = .returned v ∧ Inv Gl F' own' B w0 ⟨t, h'⟩ act w' ∧ R F' own' v res ∧ Q res h') e a1 w1 := by
    intro v hv hR
    have hend : ∃ v, (Go.results fn a1.tmps).run P w1 = .ok v w1 ∧ ∃ v' res h' F' own', Ending.returned v = .returned v' ∧ Inv Gl F' own' B w0 ⟨t, h'⟩ act w1 ∧ R F' own' v' res ∧ Q res h' := ⟨v, hv, v, a, τ.h, F1, own1, rfl, hback, hR, hQ⟩
    cases e with
    | normal => exact ⟨hI2.defers, hend⟩
    | ret => exact ⟨hI2.defers, hend⟩
    | _ => exact hE.elim
  rcases hal with ⟨x, rfl, rfl, _⟩ | ⟨hne, rfl, _⟩
  · have hy1 : ys.length = 1 := by simpa using hyl
    obtain ⟨y, rfl⟩ := List.length_eq_one_iff.1 hy1
    refine fin y ?_ (hyR 0 y a rfl rfl)
    rw [results_eq]
    simp only [Sem.run_bind, hmapM, Result.andThen_ok]
    rfl
  · refine fin (.tuple ys.toArray) ?_ (.tup _ _ (by simp [hyl]) fun j x c p q => hyR j x c (by simpa using p) q)
    rw [results_eq]
    simp only [Sem.run_bind, hmapM, Result.andThen_ok]
    have hy1 : ¬ ys.toArray.size = 1 := fun q => by
      have : l.length = 1 := by rw [← hyl]; simpa using q
      match l, this with
      | [x], _ => exact hne x rfl
    rw [dif_neg hy1]
    rfl
theorem Pure.of (hm : P.follows .mixedOrders = true) {f : FuncId} {fn : Func} {code : Code} {c : C} {rs : List RV} {hl : List Nat} (hf : P.funcs[f]? = some fn) (hb : fn.body = some code) (hc : cC P hl code = some c) (hr : cRes P fn.results.toList = some rs) {as : List AV} {res : AV}
  (h : awp P Gl 0 c (Ends Gl rs res) ⟨as ++ List.replicate (fn.ntmps - as.length) .any, []⟩) : Pure P Gl f as res :=
 Pure.ofW hf hb hr fun F own B w0 act w hN hI => awp_sound hm hN code c hc _ _ F own act w h hI
theorem PureH.of (hm : P.follows .mixedOrders = true) {f : FuncId} {fn : Func} {code : Code} {c : C} {rs : List RV} {hl : List Nat} (hf : P.funcs[f]? = some fn) (hb : fn.body = some code) (hc : cC P hl code = some c) (hr : cRes P fn.results.toList = some rs) {h0 : List AObj} {as : List AV} {Q : AV → List AObj → Prop}
  (h : awp P Gl h0.length c (EndsH Gl rs Q) ⟨as ++ List.replicate (fn.ntmps - as.length) .any, h0⟩) : PureH P Gl f h0 as Q :=
 PureH.ofW hf hb hr fun F own B w0 act w hN hI => awp_sound hm hN code c hc _ _ F own act w h hI
end
end Abs
end Go.Proofs.YtfjhljjginlobaaDoor
end
section
namespace Go.Proofs.YtfjhljjginlobaaDoor
namespace Abs
open Go.RowKit
def bs (l : List UInt8) : ByteArray := ⟨l.toArray⟩
def Fn (P : Program) (f n : Nat) (c : C) (rs : List RV) : Prop := ∃ fn hl, P.funcs[f]? = some fn ∧ fn.body.bind (cC P hl) = some c ∧ cRes P fn.results.toList = some rs ∧ fn.ntmps = n ∧ callable P f = true
theorem Fn.callable {P : Program} {f n : Nat} {c : C} {rs : List RV} (h : Fn P f n c rs) : callable P f = true := by obtain ⟨_, _, _, _, _, _, h⟩ := h; exact h
theorem Fn.pure {P : Program} {Gl : Nat → Option (List AV)} (hm : P.follows .mixedOrders = true) {f n : Nat} {c : C} {rs : List RV} (h : Fn P f n c rs) {as : List AV} {res : AV} {t : List AV} (ht : as ++ List.replicate (n - as.length) .any = t) (ha : awp P Gl 0 c (Ends Gl rs res) ⟨t, []⟩) : Pure P Gl f as res := by
 obtain ⟨fn, hl, h1, h2, h3, rfl, _⟩ := h
 cases hb : fn.body with
 | none => rw [hb] at h2; cases h2
 | some code =>
  rw [hb] at h2
  subst ht
  exact Pure.of hm h1 hb h2 h3 ha
section
variable {P : Program} {Gl : Nat → Option (List AV)} {N : Nat} {Q : Exit → St → Prop} {σ : St} {K : St → Prop} {d : Bool}
theorem PureH.mono {f : Nat} {h : List AObj} {as : List AV} {Q Q' : AV → List AObj → Prop} (hP : PureH P Gl f h as Q) (hq : ∀ a h', Q a h' → Q' a h') : PureH P Gl f h as Q' := by
 intro F own B w0 t act w xs hI hxs
 refine (hP F own B w0 t act w xs hI hxs).mono ?_
 rintro e w' ⟨v, res, h', F', own', a, b, c, q⟩
 exact ⟨v, res, h', F', own', a, b, c, hq _ _ q⟩
theorem wrap64 {n : Int} (h1 : -9223372036854775808 ≤ n) (h2 : n ≤ 9223372036854775807) : IntKind.i64.wrap n = n := IntWalk.i64_in n ⟨h1, h2⟩
theorem wrap8 {n : Int} (h1 : 0 ≤ n) (h2 : n ≤ 255) : IntKind.u8.wrap n = n := IntWalk.u8_in n ⟨h1, h2⟩
end
end Abs
end Go.Proofs.YtfjhljjginlobaaDoor
end
section
namespace Go.Proofs.YtfjhljjginlobaaDoor
namespace Abs
open Go.RowKit
def e8 (x : Int) : AV := .v (.int .u8 x)
section
variable {Gl : Nat → Option (List AV)} {t : List AV} {h : List AObj} {res : AV} {Q : AV → List AObj → Prop}
end
theorem Pure.weak {P : Program} {Gl : Nat → Option (List AV)} {f : Nat} {as bs : List AV} {res : AV} (h : Pure P Gl f bs res) (hl : as.length = bs.length) (hw : ∀ (j : Nat) (a b : AV), as[j]? = some a → bs[j]? = some b → Wk a b) : Pure P Gl f as res := by
 intro w F xs h1 h2 hgw h3
 refine h w F xs h1 h2 hgw ⟨by rw [h3.1, hl], fun i x b p q => ?_⟩
 have hi : i < as.length := by rw [hl]; exact (List.getElem?_eq_some_iff.1 q).1
 exact hw i as[i] b (List.getElem?_eq_getElem hi) q F x (h3.2 i x _ p (List.getElem?_eq_getElem hi))
theorem Pure.res {P : Program} {Gl : Nat → Option (List AV)} {f : Nat} {as : List AV} {r r' : AV} (h : Pure P Gl f as r) (e : r = r') : Pure P Gl f as r' := e ▸ h
end Abs
end Go.Proofs.YtfjhljjginlobaaDoor
end
section
namespace Go.Proofs.YtfjhljjginlobaaDoor
namespace Abs
open Go.RowKit
inductive Ty where
 | int (k : IntKind)
 | bool
 | str
 | list (e : Ty)
 | tup (fs : List Ty)
 | fnc (f : Nat)
 | listF (e : Ty)
mutual
def Ty.size : Ty → Nat
 | .tup fs => Ty.sizeL fs
 | _ => 1
def Ty.sizeL : List Ty → Nat
 | [] => 0
 | t :: ts => t.size + Ty.sizeL ts
end
def Ty.isTup : Ty → Bool
 | .tup _ => true
 | _ => false
def pack (T : Ty) (cs : List AV) : AV := if T.isTup then .agg cs else cs.headD .any
mutual
def Is : Ty → List AV → Prop
 | .int k, l => ∃ n, l = [.v (.int k n)] ∧ (Lit.int k n).wf = true
 | .bool, l => ∃ b, l = [.v (.bool b)]
 | .str, l => ∃ s : ByteArray, l = [.v (.string s)] ∧ s.size ≤ maxLen
 | .list e, l => ∃ xss : List (List AV), l = [.list e.size (xss.map (pack e))] ∧ xss.length ≤ maxLen ∧ ∀ xs ∈ xss, Is e xs
 | .tup fs, l => IsL fs l
 | .fnc f, l => l = [.v (.func (.func f) #[] #[])]
 | .listF _, l => l = [.v (.slice none 0 0)]
def IsL : List Ty → List AV → Prop
 | [], l => l = []
 | t :: ts, l => ∃ a b, l = a ++ b ∧ Is t a ∧ IsL ts b
end
mutual
theorem Is.length : ∀ {T : Ty} {l : List AV}, Is T l → l.length = T.size
 | .int _, l, h => by simp only [Is] at h; obtain ⟨n, rfl, _⟩ := h; rfl
 | .bool, l, h => by simp only [Is] at h; obtain ⟨b, rfl⟩ := h; rfl
 | .str, l, h => by simp only [Is] at h; obtain ⟨s, rfl, _⟩ := h; rfl
 | .list e, l, h => by simp only [Is] at h; obtain ⟨xs, rfl, _⟩ := h; rfl
 | .tup fs, l, h => by simp only [Is] at h; rw [IsL.length h]; rfl
 | .fnc f, l, h => by simp only [Is] at h; subst h; rfl
 | .listF e, l, h => by simp only [Is] at h; subst h; rfl
theorem IsL.length : ∀ {ts : List Ty} {l : List AV}, IsL ts l → l.length = Ty.sizeL ts
 | [], l, h => by simp only [IsL] at h; subst h; rfl
 | t :: ts, l, h => by
  simp only [IsL] at h
  obtain ⟨a, b, rfl, h1, h2⟩ := h
  rw [List.length_append, Is.length h1, IsL.length h2]; rfl
end
def tyFs (P : Program) (g : TypeId → Option Ty) : Nat → List Field → Option (List Ty)
 | _, [] => some []
 | o, f :: fs => match g f.type with
  | some T => if f.offset = o ∧ P.cellsOf f.type = T.size then match tyFs P g (o + T.size) fs with
    | some ts => some (T :: ts)
    | none => none
   else none
  | none => none
def tyOf (P : Program) : Nat → TypeId → Option Ty
 | 0, _ => none
 | d + 1, t => match P.underlying t with
  | some (.int k) => some (.int k)
  | some .bool => some .bool
  | some .string => some .str
  | some (.slice e) => match tyOf P d e with
   | some E => if P.cellsOf e = E.size ∧ 0 < E.size then some (.list E) else none
   | none => none
  | some (.struct fs) => match tyFs P (tyOf P d) 0 fs.toList with
   | some ts => if P.cellsOf t = Ty.sizeL ts then some (.tup ts) else none
   | none => none
  | _ => none
section
variable {H : Type} {enc : TypeId × Value → H} {P : Program} {w : World}
def RdL (w : World) (cs : List Value) (l : List AV) : Prop := cs.length = l.length ∧ ∀ (j : Nat) (c : Value) (a : AV), cs[j]? = some c → l[j]? = some a → c.oneCell' = true ∧ RP (snap w) c a
theorem RdL.app {cs ds : List Value} {l m : List AV} (h : RdL w cs l) (k : RdL w ds m) : RdL w (cs ++ ds) (l ++ m) := by
 refine ⟨by simp [h.1, k.1], fun j c a p q => ?_⟩
 rcases Nat.lt_or_ge j cs.length with hj | hj
 ·rw [List.getElem?_append_left hj] at p
  rw [List.getElem?_append_left (by rw [← h.1]; exact hj)] at q
  exact h.2 j c a p q
 ·rw [List.getElem?_append_right hj] at p
  rw [List.getElem?_append_right (by rw [← h.1]; exact hj), ← h.1] at q
  exact k.2 _ c a p q
theorem RdL.one {c : Value} {a : AV} (h1 : c.oneCell' = true) (h : RP (snap w) c a) : RdL w [c] [a] := by
 refine ⟨rfl, fun j c' a' p q => ?_⟩
 cases j with
 | zero => simp at p q; subst p q; exact ⟨h1, h⟩
 | succ j => simp at p
theorem pack_cells {T : Ty} {l : List AV} (h : Is T l) : (pack T l).cells = l := by
 cases T with
 | tup fs => rfl
 | int k => simp only [Is] at h; obtain ⟨n, rfl, _⟩ := h; rfl
 | bool => simp only [Is] at h; obtain ⟨b, rfl⟩ := h; rfl
 | str => simp only [Is] at h; obtain ⟨s, rfl, _⟩ := h; rfl
 | list e => simp only [Is] at h; obtain ⟨xs, rfl, _⟩ := h; rfl
 | fnc f => simp only [Is] at h; subst h; rfl
 | listF e => simp only [Is] at h; subst h; rfl
theorem read_cells : ∀ (d : Nat), (∀ (t : TypeId) (T : Ty), tyOf P d t = some T → ∀ (fuel : Nat) (cs : List Value) (x : DataW H × List MemPlace), DataW.trod enc P w 0 (fun _ => true) true fuel t cs = some x → ∃ l, RdL w cs l ∧ Is T l) := by
 intro d
 induction d with
 | zero => intro t T h; simp [tyOf] at h
 | succ d ih =>
  intro t T hT fuel cs x hx
  have fields : ∀ (fs : List Field) (o : Nat) (ts : List Ty) (n : Nat), tyFs P (tyOf P d) o fs = some ts → (∀ f ∈ fs, ∃ y, DataW.trod enc P w 0 (fun _ => true) true n f.type ((cs.drop f.offset).take (P.cellsOf f.type)) = some y) → cs.length = o + Ty.sizeL ts → ∃ l, RdL w (cs.drop o) l ∧ IsL ts l := by
   intro fs
   induction fs with
   | nil =>
    intro o ts n h1 _ h3
    simp only [tyFs] at h1
    cases h1
    refine ⟨[], ?_, rfl⟩
    rw [List.drop_eq_nil_of_le (by simp [Ty.sizeL] at h3; omega)]
    exact ⟨rfl, fun j c a p => by simp at p⟩
   | cons f fs ihf =>
    intro o ts n h1 h2 h3
    simp only [tyFs] at h1
    cases hF : tyOf P d f.type with
    | none => rw [hF] at h1; cases h1
    | some T1 =>
     rw [hF] at h1
     simp only at h1
     split at h1
     ·rename_i hc
      cases hR : tyFs P (tyOf P d) (o + T1.size) fs with
      | none => rw [hR] at h1; cases h1
      | some ts' =>
       rw [hR] at h1; cases h1
       obtain ⟨y, hy⟩ := h2 f (by simp)
       rw [hc.1, hc.2] at hy
       obtain ⟨l1, r1, i1⟩ := ih f.type T1 hF n _ y hy
       obtain ⟨l2, r2, i2⟩ := ihf (o + T1.size) ts' n hR (fun g hg => h2 g (by simp [hg])) (by simp only [Ty.sizeL] at h3; omega)
       refine ⟨l1 ++ l2, ?_, l1, l2, rfl, i1, i2⟩
       have : cs.drop o = (cs.drop o).take T1.size ++ cs.drop (o + T1.size) := by
        rw [← List.drop_drop, List.take_append_drop]
       rw [this]
       exact r1.app r2
     ·cases h1
  simp only [tyOf] at hT
  split at hT
  ·rename_i k hk
   cases hT
   obtain ⟨n, rfl, _, hw⟩ := DataW.trod_int hk hx
   exact ⟨[.v (.int k n)], RdL.one rfl (.v _), n, rfl, hw⟩
  ·rename_i hk
   cases hT
   obtain ⟨b, rfl, _⟩ := DataW.trod_bool hk hx
   exact ⟨[.v (.bool b)], RdL.one rfl (.v _), b, rfl⟩
  ·rename_i hk
   cases hT
   obtain ⟨s, rfl, _, hs⟩ := DataW.trod_string hk hx
   exact ⟨[.v (.string s)], RdL.one rfl (.v _), s, rfl, hs⟩
  ·rename_i e hk
   cases hE : tyOf P d e with
   | none => rw [hE] at hT; cases hT
   | some E =>
    rw [hE] at hT
    simp only at hT
    split at hT
    ·rename_i hsz
     cases hT
     rcases Go.Deep.open_slice hk hx with ⟨rfl, _⟩ | ⟨a, len, cap, m, n, D, Pl, rfl, _, hlc, hcm, hm, _, hel⟩
     ·exact ⟨[.list E.size []], RdL.one rfl (.nil _), [], rfl, by simp, fun xs h => by simp at h⟩
     ·have hmc : m = cap := by simpa using hm
      obtain ⟨xss, hxl, hxp⟩ := exists_list len (fun i l => Is E l ∧ ∀ (j : Nat) (a' : AV), l[j]? = some a' → ∃ c, w.cell? (a.add (i * E.size + j)) = some c ∧ c.oneCell' = true ∧ RP (snap w) c a') (fun i hi => by
       obtain ⟨cs', hcs, ht⟩ := hel i (by omega)
       obtain ⟨l, hr, hI⟩ := ih e E hE n cs' _ ht
       obtain ⟨_, hcl, hat⟩ := World.cells?_some hcs
       refine ⟨l, hI, fun j a' hj => ?_⟩
       have hjl : j < l.length := (List.getElem?_eq_some_iff.1 hj).1
       have hjc : j < cs'.length := by rw [hr.1]; exact hjl
       have hc := hat j (by rw [← hcl]; exact hjc)
       rw [hsz.1, add_add_] at hc
       obtain ⟨q1, q2⟩ := hr.2 j cs'[j] a' (List.getElem?_eq_getElem hjc) hj
       exact ⟨cs'[j], by rw [hc]; exact List.getElem?_eq_getElem hjc, q1, q2⟩)
      refine ⟨[.list E.size (xss.map (pack E))], RdL.one rfl ?_, xss, rfl, by omega, fun xs h => ?_⟩
      ·have get : ∀ (i : Nat) (e' : AV), (xss.map (pack E))[i]? = some e' → ∃ l, xss[i]? = some l ∧ e' = pack E l ∧ Is E l := fun i e' h => by
        rw [List.getElem?_map] at h
        cases hl : xss[i]? with
        | none => rw [hl] at h; cases h
        | some l => rw [hl] at h; cases h; exact ⟨l, rfl, rfl, (hxp i l hl).1⟩
       refine .list a len cap E.size _ (fun k => (w.cell? (a.add k)).getD undef) (by simp [hxl]) hlc (fun i e' h => ?_) (fun i j e' a' h h' => ?_) (fun i j e' a' h h' => ?_)
       ·obtain ⟨l, _, rfl, hI⟩ := get i e' h
        rw [pack_cells hI]; exact hI.length
       ·obtain ⟨l, hl, rfl, hI⟩ := get i e' h
        rw [pack_cells hI] at h'
        obtain ⟨c, c1, c2, c3⟩ := (hxp i l hl).2 j a' h'
        rw [c1]
        exact ⟨c1, c2⟩
       ·obtain ⟨l, hl, rfl, hI⟩ := get i e' h
        rw [pack_cells hI] at h'
        obtain ⟨c, c1, c2, c3⟩ := (hxp i l hl).2 j a' h'
        rw [c1]
        exact c3
      ·obtain ⟨i, hi⟩ := List.mem_iff_getElem?.1 h
       exact (hxp i xs hi).1
    ·cases hT
  ·rename_i fs hk
   cases hF : tyFs P (tyOf P d) 0 fs.toList with
   | none => rw [hF] at hT; cases hT
   | some ts =>
    rw [hF] at hT
    simp only at hT
    split at hT
    ·rename_i hsz
     cases hT
     obtain ⟨xs, n, _, _, hcl, hxl, hf⟩ := DataW.trod_struct hk hx
     obtain ⟨l, hr, hI⟩ := fields fs.toList 0 ts n hF (fun f hfm => by
      obtain ⟨i, hi⟩ := List.mem_iff_getElem?.1 hfm
      have hi' : fs[i]? = some f := by simpa using hi
      have hlt : i < xs.length := by rw [hxl]; exact (Array.getElem?_eq_some_iff.1 hi').1
      exact ⟨xs[i], by rw [hf i f hi', List.getElem?_eq_getElem hlt]⟩) (by omega)
     exact ⟨l, by simpa using hr, by simp only [Is]; exact hI⟩
    ·cases hT
  ·cases hT
def IsV (T : Ty) (a : AV) : Prop := ∃ l, Is T l ∧ a = pack T l
theorem read_arg {d : Nat} {t : TypeId} {T : Ty} (hT : tyOf P d t = some T) {r : Reach} {b0 : Nat} {v : Value} {D : DataW H} {p : List MemPlace} (hv : Value.okWide P w r b0 t v) (h : DataW.Trod enc P w 0 (fun _ => true) true t v D p) : ∃ a, RP (snap w) v a ∧ IsV T a := by
 obtain ⟨fuel, hf⟩ := h
 obtain ⟨l, hr, hI⟩ := read_cells d t T hT fuel _ _ hf
 refine ⟨pack T l, ?_, l, hI, rfl⟩
 have single : v.cells.toList = [v] → T.isTup = false → RP (snap w) v (pack T l) := by
  intro h1 h2
  have hl := hr.1
  rw [h1] at hr
  have hl1 : l.length = 1 := by rw [← hr.1]; rfl
  obtain ⟨a, rfl⟩ := List.length_eq_one_iff.1 hl1
  have e : pack T [a] = a := by simp [pack, h2]
  rw [e]
  exact (hr.2 0 v a rfl rfl).2
 have notagg : ∀ {dd : TypeDesc}, P.underlying t = some dd → (match dd with | .struct _ => true | .array _ _ => true | _ => false) = false → v.cells.toList = [v] := by
  intro dd hd hn
  have hv' : Cell.okWide P w r b0 t v := by
   unfold Value.okWide at hv
   rw [hd] at hv
   cases dd <;> first | exact hv | cases hn
  cases v with
  | agg cs =>
   exfalso
   unfold Cell.okWide at hv'
   rw [hd] at hv'
   cases dd <;> first | (cases hn; done) | (simp [Cell.ok, hd] at hv'; done) | (simp_all [Cell.ok]; done)
  | _ => rfl
 cases d with
 | zero => simp [tyOf] at hT
 | succ d =>
  simp only [tyOf] at hT
  split at hT
  ·rename_i k hk; cases hT; exact single (notagg hk rfl) rfl
  ·rename_i hk; cases hT; exact single (notagg hk rfl) rfl
  ·rename_i hk; cases hT; exact single (notagg hk rfl) rfl
  ·rename_i e hk
   split at hT
   ·split at hT
    ·cases hT; exact single (notagg hk rfl) rfl
    ·cases hT
   ·cases hT
  ·rename_i fs hk
   split at hT
   ·split at hT
    ·cases hT
     unfold Value.okWide at hv
     rw [hk] at hv
     obtain ⟨cs, rfl, _, _⟩ := hv
     have e : ∀ fs, pack (Ty.tup fs) l = .agg l := fun _ => rfl
     rw [e]
     have hr' : RdL w cs.toList l := hr
     refine .agg cs l (by have := hr'.1; simpa using this) (fun j x p => ?_) (fun j x a p q => (hr'.2 j x a (by simpa using p) q).2)
     have hj : j < l.length := by rw [← hr'.1]; have := (Array.getElem?_eq_some_iff.1 p).1; simpa using this
     exact (hr'.2 j x l[j] (by simpa using p) (List.getElem?_eq_getElem hj)).1
    ·cases hT
   ·cases hT
  ·cases hT
theorem RPL.nil {F : Addr → Option Value} : RPL F #[] [] := ⟨rfl, fun i x a p => by simp at p⟩
theorem RPL.cons {F : Addr → Option Value} {x : Value} {a : AV} {xs : List Value} {l : List AV} (h : RP F x a) (k : RPL F xs.toArray l) : RPL F (x :: xs).toArray (a :: l) := by
 refine ⟨by have := k.1; simp at this; simp [this], fun i y b p q => ?_⟩
 cases i with
 | zero => simp at p q; subst p q; exact h
 | succ i => exact k.2 i y b (by simpa using p) (by simpa using q)
end
end Abs
end Go.Proofs.YtfjhljjginlobaaDoor
end
section
namespace Go.Proofs.YtfjhljjginlobaaDoor
namespace Abs
open Go.RowKit
mutual
def Ty.den : Ty → Type
 | .int _ => Int
 | .bool => Bool
 | .str => ByteArray
 | .list e => List (Ty.den e)
 | .tup fs => Ty.denL fs
 | .fnc _ => Unit
 | .listF e => Option (List (Ty.den e))
def Ty.denL : List Ty → Type
 | [] => Unit
 | t :: ts => Ty.den t × Ty.denL ts
end
mutual
def Ty.enc : (T : Ty) → T.den → AV
 | .int k, n => .v (.int k n)
 | .bool, b => .v (.bool b)
 | .str, s => .v (.string s)
 | .list e, xs => .list e.size (List.map (Ty.enc e) xs)
 | .tup fs, x => .agg (Ty.encL fs x)
 | .fnc f, _ => .v (.func (.func f) #[] #[])
 | .listF e, o => match o with
  | none => .v (.slice none 0 0)
  | some xs => .list e.size (List.map (Ty.enc e) xs)
def Ty.encL : (fs : List Ty) → Ty.denL fs → List AV
 | [], _ => []
 | t :: ts, x => (Ty.enc t x.1).cells ++ Ty.encL ts x.2
end
mutual
def Ty.dflt : (T : Ty) → T.den
 | .int _ => (0 : Int)
 | .bool => false
 | .str => ByteArray.empty
 | .list _ => []
 | .tup fs => Ty.dfltL fs
 | .fnc _ => ()
 | .listF _ => none
def Ty.dfltL : (fs : List Ty) → Ty.denL fs
 | [] => ()
 | t :: ts => (Ty.dflt t, Ty.dfltL ts)
end
mutual
def Ty.same : Ty → Ty → Bool
 | .int k, .int k' => decide (k = k')
 | .bool, .bool => true
 | .str, .str => true
 | .list a, .list b => Ty.same a b
 | .tup fs, .tup gs => Ty.sameL fs gs
 | .fnc f, .fnc g => Nat.beq f g
 | .listF a, .listF b => Ty.same a b
 | _, _ => false
def Ty.sameL : List Ty → List Ty → Bool
 | [], [] => true
 | a :: as, b :: bs => Ty.same a b && Ty.sameL as bs
 | _, _ => false
end
mutual
theorem Ty.same_eq : ∀ {a b : Ty}, Ty.same a b = true → a = b
 | .int k, b, h => by cases b <;> simp [Ty.same] at h; rw [h]
 | .bool, b, h => by cases b <;> simp [Ty.same] at h; rfl
 | .str, b, h => by cases b <;> simp [Ty.same] at h; rfl
 | .list a, b, h => by cases b <;> simp [Ty.same] at h; rw [Ty.same_eq h]
 | .tup fs, b, h => by cases b <;> simp [Ty.same] at h; rw [Ty.sameL_eq h]
 | .fnc f, b, h => by cases b <;> simp [Ty.same] at h; rw [h]
 | .listF a, b, h => by cases b <;> simp [Ty.same] at h; rw [Ty.same_eq h]
theorem Ty.sameL_eq : ∀ {a b : List Ty}, Ty.sameL a b = true → a = b
 | [], b, h => by cases b <;> simp [Ty.sameL] at h; rfl
 | a :: as, b, h => by
  cases b with
  | nil => simp [Ty.sameL] at h
  | cons b bs => simp [Ty.sameL] at h; rw [Ty.same_eq h.1, Ty.sameL_eq h.2]
end
def castT {a b : Ty} (x : a.den) : Option b.den := if h : Ty.same a b = true then some ((Ty.same_eq h) ▸ x) else none
theorem castT_eq {a b : Ty} {x : a.den} {y : b.den} (h : castT x = some y) : ∃ e : a = b, y = e ▸ x := by
 unfold castT at h
 split at h
 ·rename_i hs; cases h; exact ⟨Ty.same_eq hs, rfl⟩
 ·cases h
theorem enc_cells : ∀ (T : Ty) (x : T.den), ((Ty.enc T x).cells.length = T.size) := by
 have key : (∀ T : Ty, ∀ x : T.den, (Ty.enc T x).cells.length = T.size) ∧ True := ⟨?_, trivial⟩
 ·exact key.1
 ·intro T
  refine Ty.rec (motive_1 := fun T => ∀ x : T.den, (Ty.enc T x).cells.length = T.size) (motive_2 := fun fs => ∀ x : Ty.denL fs, (Ty.encL fs x).length = Ty.sizeL fs) ?_ ?_ ?_ ?_ ?_ ?_ ?_ ?_ ?_ T
  ·intro k x; rfl
  ·intro x; rfl
  ·intro x; rfl
  ·intro e _ x; rfl
  ·intro fs ih x; exact ih x
  ·intro f x; rfl
  ·intro e _ x; cases x <;> rfl
  ·intro x; rfl
  ·intro t ts h1 h2 x
   simp only [Ty.encL, List.length_append, h1, h2, Ty.sizeL]
inductive XV where
 | any
 | d (T : Ty) (x : T.den)
 | k (v : Value)
 | row (id : Nat)
 | sub (id off len : Nat)
 | csub (id len : Nat)
 | vrow (id : Nat)
 | me (id : Nat)
 | ptr (id i off : Nat)
 | lp (T : Ty) (x : T.den) (off : Nat)
 | agg (cs : List XV)
 | tup (vs : List XV)
instance : Inhabited XV := ⟨.any⟩
inductive XO where
 | row (ty : Nat) (T : Ty) (fz : Bool) (es : List T.den)
 | box (ty : Nat) (cs : List XV)
 | vec (ty : Nat) (cs : List XV)
structure XS where
 t : List XV
 h : List XO
def XO.len : XO → Nat
 | .row _ _ _ es => es.length
 | .box _ _ => 1
 | .vec _ cs => cs.length
inductive Wp : AV → AV → Prop
 | refl (a : AV) : Wp a a
 | nil (sz : Nat) : Wp (.v (.slice none 0 0)) (.list sz [])
 | list (sz : Nat) (xs ys : List AV) (hl : xs.length = ys.length) (h : ∀ (i : Nat) (x y : AV), xs[i]? = some x → ys[i]? = some y → Wp x y) : Wp (.list sz xs) (.list sz ys)
 | agg (xs ys : List AV) (hl : xs.length = ys.length) (h : ∀ (i : Nat) (x y : AV), xs[i]? = some x → ys[i]? = some y → Wp x y) : Wp (.agg xs) (.agg ys)
def All2 {α β : Type} (R : α → β → Prop) (xs : List α) (ys : List β) : Prop := xs.length = ys.length ∧ ∀ (i : Nat) (x : α) (y : β), xs[i]? = some x → ys[i]? = some y → R x y
section
variable {α β γ : Type} {R : α → β → Prop}
theorem All2.nil : All2 R [] [] := ⟨rfl, fun i x y h => by simp at h⟩
theorem All2.cons {x : α} {y : β} {xs : List α} {ys : List β} (h : R x y) (t : All2 R xs ys) : All2 R (x :: xs) (y :: ys) :=
 ⟨by simp [t.1], fun i a b p q => by
  cases i with
  | zero => simp at p q; subst p q; exact h
  | succ i => simp at p q; exact t.2 i a b p q⟩
theorem All2.head {x : α} {y : β} {xs : List α} {ys : List β} (h : All2 R (x :: xs) (y :: ys)) : R x y := h.2 0 x y rfl rfl
theorem All2.tail {x : α} {y : β} {xs : List α} {ys : List β} (h : All2 R (x :: xs) (y :: ys)) : All2 R xs ys := ⟨by have := h.1; simpa using this, fun i a b p q => h.2 (i + 1) a b (by simpa using p) (by simpa using q)⟩
theorem All2.nil_left {ys : List β} (h : All2 R [] ys) : ys = [] := by have := h.1; simp at this; exact List.length_eq_zero_iff.1 this.symm
theorem All2.nil_right {xs : List α} (h : All2 R xs []) : xs = [] := by have := h.1; simp at this; exact this
theorem All2.cons_left {x : α} {xs : List α} {ys : List β} (h : All2 R (x :: xs) ys) : ∃ y zs, ys = y :: zs ∧ R x y ∧ All2 R xs zs := by
 cases ys with
 | nil => have := h.1; simp at this
 | cons y zs => exact ⟨y, zs, rfl, h.head, h.tail⟩
theorem All2.cons_right {y : β} {xs : List α} {ys : List β} (h : All2 R xs (y :: ys)) : ∃ x zs, xs = x :: zs ∧ R x y ∧ All2 R zs ys := by
 cases xs with
 | nil => have := h.1; simp at this
 | cons x zs => exact ⟨x, zs, rfl, h.head, h.tail⟩
theorem All2.drop {xs : List α} {ys : List β} (h : All2 R xs ys) (n : Nat) : All2 R (xs.drop n) (ys.drop n) :=
 ⟨by simp [h.1], fun i x y p q => by rw [List.getElem?_drop] at p q; exact h.2 _ x y p q⟩
theorem All2.take {xs : List α} {ys : List β} (h : All2 R xs ys) (n : Nat) : All2 R (xs.take n) (ys.take n) :=
 ⟨by simp [h.1], fun i x y p q => by
  rw [List.getElem?_take] at p q
  split at p
  ·rename_i hi; rw [if_pos hi] at q; exact h.2 _ x y p q
  ·cases p⟩
theorem All2.append {xs xs' : List α} {ys ys' : List β} (h : All2 R xs ys) (k : All2 R xs' ys') : All2 R (xs ++ xs') (ys ++ ys') :=
 ⟨by simp [h.1, k.1], fun i x y p q => by
  rcases Nat.lt_or_ge i xs.length with hi | hi
  ·rw [List.getElem?_append_left hi] at p
   rw [List.getElem?_append_left (by rw [← h.1]; exact hi)] at q
   exact h.2 i x y p q
  ·rw [List.getElem?_append_right hi] at p
   rw [List.getElem?_append_right (by rw [← h.1]; exact hi), ← h.1] at q
   exact k.2 _ x y p q⟩
theorem All2.set {xs : List α} {ys : List β} (h : All2 R xs ys) {x : α} {y : β} (hr : R x y) (n : Nat) : All2 R (xs.set n x) (ys.set n y) :=
 ⟨by simp [h.1], fun i a b p q => by
  rw [List.getElem?_set] at p q
  split at p
  ·rename_i hi
   rw [if_pos hi] at q
   split at p
   ·split at q
    ·cases p; cases q; exact hr
    ·cases q
   ·cases p
  ·rename_i hi
   rw [if_neg hi] at q
   exact h.2 i a b p q⟩
theorem All2.getD {xs : List α} {ys : List β} (h : All2 R xs ys) {n : Nat} (hn : n < ys.length) (u : α) (v : β) : R (xs.getD n u) (ys.getD n v) := by
 have hn' : n < xs.length := by rw [h.1]; exact hn
 have e1 : xs.getD n u = xs[n] := by simp [List.getD, List.getElem?_eq_getElem hn']
 have e2 : ys.getD n v = ys[n] := by simp [List.getD, List.getElem?_eq_getElem hn]
 rw [e1, e2]
 exact h.2 n _ _ (List.getElem?_eq_getElem hn') (List.getElem?_eq_getElem hn)
theorem All2.mono {R' : α → β → Prop} {xs : List α} {ys : List β} (h : All2 R xs ys) (hr : ∀ x y, R x y → R' x y) : All2 R' xs ys := ⟨h.1, fun i x y p q => hr x y (h.2 i x y p q)⟩
theorem All2.get_left {xs : List α} {ys : List β} (h : All2 R xs ys) {i : Nat} {x : α} (hx : xs[i]? = some x) : ∃ y, ys[i]? = some y ∧ R x y := by
 have hi : i < xs.length := (List.getElem?_eq_some_iff.1 hx).1
 have hi' : i < ys.length := by rw [← h.1]; exact hi
 exact ⟨ys[i], List.getElem?_eq_getElem hi', h.2 i x _ hx (List.getElem?_eq_getElem hi')⟩
theorem All2.get_right {xs : List α} {ys : List β} (h : All2 R xs ys) {i : Nat} {y : β} (hy : ys[i]? = some y) : ∃ x, xs[i]? = some x ∧ R x y := by
 have hi : i < ys.length := (List.getElem?_eq_some_iff.1 hy).1
 have hi' : i < xs.length := by rw [h.1]; exact hi
 exact ⟨xs[i], List.getElem?_eq_getElem hi', h.2 i _ y (List.getElem?_eq_getElem hi') hy⟩
theorem All2.rfl' {R : α → α → Prop} (h : ∀ x, R x x) (xs : List α) : All2 R xs xs := ⟨rfl, fun i x y p q => by rw [p] at q; cases q; exact h x⟩
end
theorem Wp.v_inv {a : AV} {y : Value} (h : Wp a (.v y)) : a = .v y := by
 generalize hb : AV.v y = b at h
 cases h with
 | refl => rfl
 | _ => cases hb
theorem Wp.list_inv {a : AV} {sz : Nat} {ys : List AV} (h : Wp a (.list sz ys)) : (a = .v (.slice none 0 0) ∧ ys = []) ∨ ∃ xs, a = .list sz xs ∧ All2 Wp xs ys := by
 generalize hb : AV.list sz ys = b at h
 cases h with
 | refl => subst hb; exact .inr ⟨ys, rfl, All2.rfl' .refl ys⟩
 | nil => cases hb; exact .inl ⟨rfl, rfl⟩
 | list _ xs ys' hl h => cases hb; exact .inr ⟨xs, rfl, hl, h⟩
 | agg => cases hb
theorem Wp.agg_inv {a : AV} {ys : List AV} (h : Wp a (.agg ys)) : ∃ xs, a = .agg xs ∧ All2 Wp xs ys := by
 generalize hb : AV.agg ys = b at h
 cases h with
 | refl => subst hb; exact ⟨ys, rfl, All2.rfl' .refl ys⟩
 | agg xs ys' hl h => cases hb; exact ⟨xs, rfl, hl, h⟩
 | _ => cases hb
theorem Wp.cells {a b : AV} (h : Wp a b) : All2 Wp a.cells b.cells := by
 cases h with
 | refl => exact All2.rfl' .refl _
 | nil sz => exact .cons (.nil sz) .nil
 | list sz xs ys hl h => exact .cons (.list sz xs ys hl h) .nil
 | agg xs ys hl h => exact ⟨hl, h⟩
theorem Wp.wk2 {a b : AV} (h : Wp a b) : Wk a b ∧ ∀ (j : Nat) (x y : AV), a.cells[j]? = some x → b.cells[j]? = some y → Wk x y := by
 have one : ∀ {a b : AV}, a.cells = [a] → b.cells = [b] → Wk a b → ∀ (j : Nat) (x y : AV), a.cells[j]? = some x → b.cells[j]? = some y → Wk x y := by
  intro a b ha hb hw j x y p q
  rw [ha] at p; rw [hb] at q
  match j with
  | 0 => simp at p q; subst p q; exact hw
  | j + 1 => simp at p
 induction h with
 | refl a => exact ⟨Wk.refl a, fun j x y p q => by rw [p] at q; cases q; exact Wk.refl _⟩
 | nil sz => exact ⟨Wk.nil sz, one rfl rfl (Wk.nil sz)⟩
 | agg xs ys hl h ih => exact ⟨Wk.agg hl fun j a b p q => (ih j a b p q).1, fun j x y p q => (ih j x y p q).1⟩
 | list sz xs ys hl h ih =>
  have main : Wk (.list sz xs) (.list sz ys) := by
   intro F x hR
   cases hR with
   | nil =>
    have : ys = [] := List.length_eq_zero_iff.1 (by simpa using hl.symm)
    subst this; exact .nil sz
   | list ad n cap _ _ cv hn hc hz hF hRc =>
    have cel : ∀ (i : Nat) (e : AV), ys[i]? = some e → ∃ e', xs[i]? = some e' ∧ Wp e' e := fun i e he => All2.get_right ⟨hl, h⟩ he
    have at' : ∀ (i j : Nat) (e a : AV), ys[i]? = some e → e.cells[j]? = some a → ∃ e' a', xs[i]? = some e' ∧ e'.cells[j]? = some a' ∧ Wk a' a := fun i j e a he ha => by
     obtain ⟨e', he', hw⟩ := cel i e he
     obtain ⟨a', ha', hwa⟩ := hw.cells.get_right ha
     exact ⟨e', a', he', ha', (ih i e' e he' he).2 j a' a ha' ha⟩
    refine .list ad n cap sz ys cv (by rw [← hl]; exact hn) hc (fun i e he => ?_) (fun i j e a he ha => ?_) (fun i j e a he ha => ?_)
    ·obtain ⟨e', he', hw⟩ := cel i e he
     rw [← hw.cells.1]; exact hz i e' he'
    ·obtain ⟨e', a', he', ha', _⟩ := at' i j e a he ha
     exact hF i j e' a' he' ha'
    ·obtain ⟨e', a', he', ha', hw⟩ := at' i j e a he ha
     exact hw F _ (hRc i j e' a' he' ha')
  exact ⟨main, one rfl rfl main⟩
theorem Wp.wk {a b : AV} (h : Wp a b) : Wk a b := h.wk2.1
end Abs
end Go.Proofs.YtfjhljjginlobaaDoor
end
section
namespace Go.Proofs.YtfjhljjginlobaaDoor
namespace Abs
open Go.RowKit
def vx1 : Value → XV
 | .int k n => .d (.int k) n
 | .bool b => .d .bool b
 | .string s => .d .str s
 | .func (.func f) a b => match a.toList, b.toList with
  | [], [] => .d (.fnc f) ()
  | _, _ => .k (.func (.func f) a b)
 | v => .k v
def vx : Value → XV
 | .agg cs => .agg (cs.toList.map vx1)
 | v => vx1 v
mutual
def flat : (T : Ty) → T.den → List XV
 | .tup fs, x => flatL fs x
 | .int k, x => [.d (.int k) x]
 | .bool, x => [.d .bool x]
 | .str, x => [.d .str x]
 | .list e, x => [.d (.list e) x]
 | .fnc f, x => [.d (.fnc f) x]
 | .listF e, x => [.d (.listF e) x]
def flatL : (fs : List Ty) → Ty.denL fs → List XV
 | [], _ => []
 | t :: ts, x => flat t x.1 ++ flatL ts x.2
end
def okX : XV → Bool
 | .d T _ => !T.isTup
 | .k v => v.oneCell'
 | .row _ => true
 | .sub _ _ _ => true
 | .ptr _ _ _ => true
 | _ => false
def cellsX : XV → Option (List XV)
 | .d T x => some (flat T x)
 | .agg cs => if cs.all okX = true then some cs else none
 | .k v => if v.oneCell' then some [.k v] else none
 | .row id => some [.row id]
 | .sub id o l => some [.sub id o l]
 | .ptr id i o => some [.ptr id i o]
 | _ => none
mutual
def atT : (T : Ty) → T.den → Nat → Nat → Bool → Option XV
 | .tup fs, x, o, sz, ag => if (Nat.beq o 0 && ag && Nat.beq sz (Ty.sizeL fs)) = true then some (.d (.tup fs) x) else atL fs x o sz ag
 | .int k, x, o, sz, ag => if (Nat.beq o 0 && !ag) = true then some (.d (.int k) x) else none
 | .bool, x, o, sz, ag => if (Nat.beq o 0 && !ag) = true then some (.d .bool x) else none
 | .str, x, o, sz, ag => if (Nat.beq o 0 && !ag) = true then some (.d .str x) else none
 | .list e, x, o, sz, ag => if (Nat.beq o 0 && !ag) = true then some (.d (.list e) x) else none
 | .fnc f, x, o, sz, ag => if (Nat.beq o 0 && !ag) = true then some (.d (.fnc f) x) else none
 | .listF e, x, o, sz, ag => if (Nat.beq o 0 && !ag) = true then some (.d (.listF e) x) else none
def atL : (fs : List Ty) → Ty.denL fs → Nat → Nat → Bool → Option XV
 | [], _, _, _, _ => none
 | f :: fs, x, o, sz, ag => if Nat.blt o f.size = true then atT f x.1 o sz ag else atL fs x.2 (o - f.size) sz ag
end
mutual
def setT {T' : Ty} (y : T'.den) : (T : Ty) → T.den → Nat → Option T.den
 | .tup fs, x, o => if (Nat.beq o 0 && Ty.same T' (.tup fs)) = true then castT y else setL y fs x o
 | .int k, x, o => if Nat.beq o 0 = true then castT y else none
 | .bool, x, o => if Nat.beq o 0 = true then castT y else none
 | .str, x, o => if Nat.beq o 0 = true then castT y else none
 | .list e, x, o => if Nat.beq o 0 = true then castT y else none
 | .fnc f, x, o => if Nat.beq o 0 = true then castT y else none
 | .listF e, x, o => if Nat.beq o 0 = true then castT y else none
def setL {T' : Ty} (y : T'.den) : (fs : List Ty) → Ty.denL fs → Nat → Option (Ty.denL fs)
 | [], _, _ => none
 | f :: fs, x, o => if Nat.blt o f.size = true then (setT y f x.1 o).map fun z => (z, x.2) else (setL y fs x.2 (o - f.size)).map fun z => (x.1, z)
end
def lst : XV → XV
 | .d (.listF e) o => .d (.list e) (Option.getD (α := List e.den) o [])
 | x => x
mutual
def toD (h : List XO) : (T : Ty) → XV → Option T.den
 | .tup fs, c => match c with
  | .d T' x => castT x
  | .agg cs => match toDL h fs cs with
   | some (x, []) => some x
   | _ => none
  | _ => none
 | .list e, c => match lst c with
  | .d T' x => castT x
  | .k (.slice none 0 0) => some []
  | .row id => match h[id]? with
   | some (.row _ T _ es) => castT (a := .list T) es
   | _ => none
  | .sub id off len => match h[id]? with
   | some (.row _ T _ es) => castT (a := .list T) ((List.drop off es).take len)
   | _ => none
  | _ => none
 | .int k, c => match c with
  | .d T' x => castT x
  | _ => none
 | .bool, c => match c with
  | .d T' x => castT x
  | _ => none
 | .str, c => match c with
  | .d T' x => castT x
  | _ => none
 | .fnc f, c => match c with
  | .d T' x => castT x
  | _ => none
 | .listF e, c => match c with
  | .d T' x => match castT (b := .listF e) x with
   | some o => some o
   | none => match castT (b := .list e) x with
    | some xs => some (some xs)
    | none => none
  | .k (.slice none 0 0) => some none
  | .row id => match h[id]? with
   | some (.row _ T _ es) => match castT (a := .list T) (b := .list e) es with
    | some xs => some (some xs)
    | none => none
   | _ => none
  | .sub id off len => match h[id]? with
   | some (.row _ T _ es) => match castT (a := .list T) (b := .list e) ((List.drop off es).take len) with
    | some xs => some (some xs)
    | none => none
   | _ => none
  | _ => none
def toDL (h : List XO) : (fs : List Ty) → List XV → Option (Ty.denL fs × List XV)
 | [], cs => some ((), cs)
 | .tup gs :: fs, cs => match toDL h gs cs with
  | some (x, r) => match toDL h fs r with
   | some (y, r') => some ((x, y), r')
   | none => none
  | none => none
 | f :: fs, cs => match cs with
  | [] => none
  | c :: r => match toD h f c with
   | some x => match toDL h fs r with
    | some (y, r') => some ((x, y), r')
    | none => none
   | none => none
end
def plain1 : XV → Bool
 | .d T _ => true
 | .k _ => true
 | .row _ => true
 | .sub _ _ _ => true
 | _ => false
def rowsX1 : XV → List Nat
 | .row id => [id]
 | .sub id _ _ => [id]
 | _ => []
def rowsX : XV → List Nat
 | .agg cs => cs.flatMap rowsX1
 | x => rowsX1 x
def frzO : XO → XO
 | .row ty T _ es => .row ty T true es
 | o => o
def frzX (h : List XO) (ids : List Nat) : List XO := ids.foldl (fun h id => match h[id]? with | some o => h.set id (frzO o) | none => h) h
def isFz (h : List XO) (id : Nat) : Bool := match h[id]? with
 | some (.row _ _ fz _) => fz
 | _ => false
def kill1 (id : Nat) : XV → XV
 | .row j => if Nat.beq j id = true then .any else .row j
 | .sub j o l => if Nat.beq j id = true then .any else .sub j o l
 | .csub j l => if Nat.beq j id = true then .any else .csub j l
 | .vrow j => if Nat.beq j id = true then .any else .vrow j
 | .me j => if Nat.beq j id = true then .any else .me j
 | .ptr j i o => if Nat.beq j id = true then .any else .ptr j i o
 | x => x
def killA (id : Nat) : XV → XV
 | .agg cs => .agg (cs.map (kill1 id))
 | x => kill1 id x
def killT (id : Nat) : XV → XV
 | .tup vs => .tup (vs.map (killA id))
 | x => killA id x
def killO (id : Nat) : XO → XO
 | .box ty cs => .box ty (cs.map (kill1 id))
 | .vec ty cs => .vec ty (cs.map (kill1 id))
 | o => o
abbrev GXT := Nat → Option ((T : Ty) × T.den)
def rdG (GX : GXT) (t : List XV) : Opd → XV
 | .t i => t.getD i .any
 | .k v => vx1 v
 | .g i => if Nat.blt i 1000000 = true then match GX i with
   | some ⟨T, x⟩ => .lp T x 0
   | none => .any
  else .any
def iAdd (k : IntKind) (a b : Int) : Int := k.wrap (a + b)
def iSub (k : IntKind) (a b : Int) : Int := k.wrap (a - b)
def iMul (k : IntKind) (a b : Int) : Int := k.wrap (a * b)
def iQuo (k : IntKind) (a b : Int) : Int := k.wrap (a.tdiv b)
def iRem (a b : Int) : Int := a.tmod b
def iAnd (k : IntKind) (a b : Int) : Int := k.wrap (BitVec.ofInt k.bits a &&& BitVec.ofInt k.bits b).toNat
def iOr (k : IntKind) (a b : Int) : Int := k.wrap (BitVec.ofInt k.bits a ||| BitVec.ofInt k.bits b).toNat
def iXor (k : IntKind) (a b : Int) : Int := k.wrap (BitVec.ofInt k.bits a ^^^ BitVec.ofInt k.bits b).toNat
def iShl (k : IntKind) (a b : Int) : Int := k.wrap (a * 2 ^ (min b.toNat k.bits))
def iShr (k : IntKind) (a b : Int) : Int := a.fdiv (2 ^ (min b.toNat k.bits))
def iNeg (k : IntKind) (a : Int) : Int := k.wrap (0 - a)
def iEq (a b : Int) : Bool := a == b
def iNe (a b : Int) : Bool := a != b
def iLt (a b : Int) : Bool := decide (a < b)
def iLe (a b : Int) : Bool := decide (a ≤ b)
def iMin (a b : Int) : Int := min a b
def iMax (a b : Int) : Int := max a b
def bEq (a b : Bool) : Bool := a == b
def sEq (a b : ByteArray) : Bool := a.toList == b.toList
def sLt (a b : ByteArray) : Bool := Op.bytesLess a.toList b.toList
def sCat (a b : ByteArray) : ByteArray := a ++ b
def sFits (a b : ByteArray) : Bool := decide (a.size + b.size ≤ 9223372036854775807)
def sAt (s : ByteArray) (n : Int) : Int := ((s.data.getD n.toNat 0).toNat : Int)
def sLen (s : ByteArray) : Int := (s.size : Int)
def lenI {α : Type} (xs : List α) : Int := (xs.length : Int)
def bnd (n : Int) (len : Int) : Bool := decide (0 ≤ n) && decide (n < len)
def fits (n bytes : Nat) : Bool := decide (n * bytes ≤ maxB) && decide (n ≤ 4611686018427387904)
def fitsI (n : Int) (bytes : Nat) : Bool := decide (0 ≤ n) && decide (n * bytes ≤ maxB) && decide (n ≤ 4611686018427387904)
def inB {α : Type} (i : Nat) (xs : List α) : Bool := decide (i < xs.length)
def cutL {α : Type} (l u : Int) (xs : List α) : List α := (xs.take u.toNat).drop l.toNat
def cutS (l u : Int) (s : ByteArray) : ByteArray := s.extract l.toNat u.toNat
def someE {α : Type} (xs : List α) : Bool := !xs.isEmpty
def leN {α : Type} (n : Nat) (xs : List α) : Bool := decide (n ≤ xs.length)
def cpy {α : Type} (xs : List α) (off len : Nat) (ys : List α) : List α := xs.take off ++ ys.take len ++ xs.drop (off + (ys.take len).length)
def atI {α : Type} (xs : List α) (n : Int) (z : α) : α := xs.getD n.toNat z
def bsI (xs : List Int) : ByteArray := ⟨(xs.map fun n => UInt8.ofNat n.toNat).toArray⟩
def bytesI (s : ByteArray) : List Int := s.data.toList.map fun c => (c.toNat : Int)
def bytesT (s : ByteArray) : List (Ty.den (.int .u8)) := s.data.toList.map fun c => (show Ty.den (.int .u8) from (c.toNat : Int))
def sFit (s : ByteArray) : Bool := decide (s.size ≤ 4611686018427387904)
def tupL (T : Ty) : (fs : List Ty) → Ty.denL fs → Option (List T.den)
 | [], _ => some []
 | t :: ts, x => match castT (a := t) (b := T) x.1, tupL T ts x.2 with
  | some a, some l => some (a :: l)
  | _, _ => none
def xbinI (k : IntKind) (a b : Int) : BinOp → Option (Bool × XV)
 | .add => some (true, .d (.int k) (iAdd k a b))
 | .sub => some (true, .d (.int k) (iSub k a b))
 | .mul => some (true, .d (.int k) (iMul k a b))
 | .quo => some (iNe b 0, .d (.int k) (iQuo k a b))
 | .rem => some (iNe b 0, .d (.int k) (iRem a b))
 | .and => some (true, .d (.int k) (iAnd k a b))
 | .or => some (true, .d (.int k) (iOr k a b))
 | .xor => some (true, .d (.int k) (iXor k a b))
 | .eql => some (true, .d .bool (iEq a b))
 | .neq => some (true, .d .bool (iNe a b))
 | .lss => some (true, .d .bool (iLt a b))
 | .leq => some (true, .d .bool (iLe a b))
 | .gtr => some (true, .d .bool (iLt b a))
 | .geq => some (true, .d .bool (iLe b a))
 | _ => none
def xbinS (a b : ByteArray) : BinOp → Option (Bool × XV)
 | .add => some (sFits a b, .d .str (sCat a b))
 | .eql => some (true, .d .bool (sEq a b))
 | .neq => some (true, .d .bool (not (sEq a b)))
 | .lss => some (true, .d .bool (sLt a b))
 | .leq => some (true, .d .bool (or (sLt a b) (sEq a b)))
 | .gtr => some (true, .d .bool (not (or (sLt a b) (sEq a b))))
 | .geq => some (true, .d .bool (not (sLt a b)))
 | _ => none
def xbin (op : BinOp) : XV → XV → Option (Bool × XV)
 | .d (.int k) a, .d (.int k') b => match op with
  | .shl => some (iLe 0 b, .d (.int k) (iShl k a b))
  | .shr => some (iLe 0 b, .d (.int k) (iShr k a b))
  | op => if k = k' then xbinI k a b op else none
 | .d .str a, .d .str b => xbinS a b op
 | _, _ => none
def xeq1 : Nat → XV → XV → Option Bool
 | 1, .d (.int k) a, .d (.int k') b => if k = k' then some (iEq a b) else none
 | 2, .d .bool a, .d .bool b => some (bEq a b)
 | 3, .d .str a, .d .str b => some (sEq a b)
 | _, _, _ => none
def xeqA (xs ys : List XV) : List (Nat × Nat) → Option Bool
 | [] => some true
 | (i, c) :: fs => if c = 0 then xeqA xs ys fs else match xeq1 c (xs.getD i .any) (ys.getD i .any), xeqA xs ys fs with
   | some a, some b => some (a && b)
   | _, _ => none
def xasN : XV → Option Int
 | .d (.int _) n => some n
 | _ => none
def cutOk (l u : Int) (n : Nat) : Bool := decide (0 ≤ l) && decide (l ≤ u) && decide (u ≤ n)
def xcut (n : Nat) (lo hi : Option XV) : Option (Bool × Int × Int) :=
 match lo, hi with
 | none, none => some (true, 0, n)
 | none, some b => match xasN b with
  | some h => some (cutOk 0 h n, 0, h)
  | none => none
 | some a, none => match xasN a with
  | some l => some (cutOk l n n, l, n)
  | none => none
 | some a, some b => match xasN a, xasN b with
  | some l, some h => some (cutOk l h n, l, h)
  | _, _ => none
def elemsX0 (h : List XO) (T : Ty) : XV → Option (List T.den)
 | .d T' x => castT (b := .list T) x
 | .k (.slice none 0 0) => some []
 | .row id => match h[id]? with
  | some (.row _ T' _ es) => castT (a := .list T') (b := .list T) es
  | _ => none
 | .sub id off len => match h[id]? with
  | some (.row _ T' _ es) => castT (a := .list T') (b := .list T) ((List.drop off es).take len)
  | _ => none
 | _ => none
def elemsX (h : List XO) (T : Ty) (x : XV) : Option (List T.den) := elemsX0 h T (lst x)
def toDs (h : List XO) (T : Ty) : List XV → Option (List T.den)
 | [] => some []
 | x :: xs => match toD h T x, toDs h T xs with
  | some a, some l => some (a :: l)
  | _, _ => none
def buildX (rd : Opd → XV) : List XV → List (Nat × Nat × Opd) → Option (List XV)
 | cs, [] => some cs
 | cs, (off, sz, x) :: r => match cellsX (rd x) with
  | some vs => if (Nat.beq vs.length sz && Nat.ble (off + sz) cs.length) = true then buildX rd (cs.take off ++ vs ++ cs.drop (off + sz)) r else none
  | none => none
def fldX (off sz : Nat) (ag : Bool) : XV → Option XV
 | .d (.tup fs) x => atT (.tup fs) x off sz ag
 | .agg cs => if ag = true then (if Nat.ble (off + sz) cs.length = true then some (.agg ((cs.drop off).take sz)) else none) else cs[off]?
 | _ => none
def aggX : XV → Option (List XV)
 | .d (.tup fs) x => some (flatL fs x)
 | .agg cs => some cs
 | _ => none
def scalX : XV → Bool
 | .d (.int _) _ => true
 | .d .bool _ => true
 | .d .str _ => true
 | _ => false
def xstep (tt : Nat → Option Ty) (h : List XO) (rd : Opd → XV) : I → Option (Bool × XV × Option Nat × List XO)
 | .mov x => some (true, rd x, none, h)
 | .pick c a b => match rd c, rd a, rd b with
  | .d .bool t, .d T x, .d T' y => match castT (b := T) y with
   | some y => some (true, .d T (cond t x y), none, h)
   | none => none
  | _, _, _ => none
 | .bin op x y => match xbin op (rd x) (rd y) with
  | some (p, v) => some (p, v, none, h)
  | none => none
 | .beq neg x y => match rd x, rd y with
  | .d .bool a, .d .bool b => some (true, .d .bool (if neg = true then not (bEq a b) else bEq a b), none, h)
  | _, _ => none
 | .nilq neg x => match rd x with
  | .d (.list e) xs => some (someE (show List e.den from xs), .d .bool neg, none, h)
  | .d (.listF e) o => some (match (show Option (List e.den) from o) with | none => true | some xs => someE xs, .d .bool (if neg = true then Option.isSome (show Option (List e.den) from o) else Option.isNone (show Option (List e.den) from o)), none, h)
  | .k (.slice none 0 0) => some (true, .d .bool (not neg), none, h)
  | .row id => match h[id]? with
   | some (.row _ _ _ es) => some (someE es, .d .bool neg, none, h)
   | _ => none
  | _ => none
 | .aeq neg fs x y => match aggX (rd x), aggX (rd y) with
  | some xs, some ys => match xeqA xs ys fs with
   | some b => some (true, .d .bool (if neg = true then not b else b), none, h)
   | none => none
  | _, _ => none
 | .un op x => match op, rd x with
  | .neg, .d (.int k) n => some (true, .d (.int k) (iNeg k n), none, h)
  | .not, .d .bool b => some (true, .d .bool (not b), none, h)
  | _, _ => none
 | .conv k x => match rd x with
  | .d (.int _) n => some (true, .d (.int k) (k.wrap n), none, h)
  | _ => none
 | .fld off sz ag x => match fldX off sz ag (rd x) with
  | some v => some (true, v, none, h)
  | none => none
 | .ext i x => match rd x with
  | .tup vs => match vs[i]? with
   | some v => some (true, v, none, h)
   | none => none
  | _ => none
 | .faddr off x => match rd x with
  | .ptr id i o => some (true, .ptr id i (o + off), none, h)
  | .lp T x o => some (true, .lp T x (o + off), none, h)
  | _ => none
 | .iaddr sz x i => match lst (rd x), rd i with
  | .d (.list e) xs, .d (.int _) n => if Nat.beq e.size sz = true then some (bnd n (lenI (show List e.den from xs)), .lp e (atI (show List e.den from xs) n e.dflt) 0, none, h) else none
  | .row id, .d (.int _) n => match h[id]? with
   | some (.row _ T _ es) => if Nat.beq T.size sz = true then some (bnd n (lenI es), .ptr id (Int.toNat n) 0, none, h) else none
   | _ => none
  | .sub id off len, .d (.int _) n => match h[id]? with
   | some (.row _ T _ es) => if Nat.beq T.size sz = true then some (bnd n (len : Nat), .ptr id (off + Int.toNat n) 0, none, h) else none
   | _ => none
  | .vrow id, .d (.int _) n => match h[id]? with
   | some (.vec _ cs) => if Nat.beq sz 1 = true then some (bnd n (lenI cs), .ptr id (Int.toNat n) 0, none, h) else none
   | _ => none
  | _, _ => none
 | .load sz ag x => match rd x with
  | .lp T x o => match atT T x o sz ag with
   | some v => some (true, v, none, h)
   | none => none
  | .ptr id i o => match h[id]? with
   | some (.row _ T _ es) => match atT T (List.getD es i T.dflt) o sz ag with
    | some v => some (inB i es, v, none, h)
    | none => none
   | some (.box _ cs) => if ag = true then (if (Nat.beq i 0 && Nat.ble (o + sz) cs.length) = true then some (true, .agg ((cs.drop o).take sz), none, h) else none)
     else (if Nat.beq i 0 = true then match cs[o]? with
      | some v => some (true, v, none, h)
      | none => none
     else none)
   | some (.vec _ cs) => if (!ag && Nat.beq o 0) = true then match cs[i]? with
     | some v => some (true, v, none, h)
     | none => none
    else none
   | none => none
  | _ => none
 | .store sz x y => match rd x with
  | .ptr id i o => match h[id]? with
   | some (.row ty T fz es) => match fz, rd y with
    | false, .d T' v => if Nat.beq T'.size sz = true then match setT v T (List.getD es i T.dflt) o with
      | some z => some (inB i es, .any, none, h.set id (.row ty T false (List.set es i z)))
      | none => none
     else none
    | false, .agg cs => if Nat.beq o 0 = true then match toD [] T (.agg cs) with
      | some z => if Nat.beq T.size sz = true then some (inB i es, .any, none, h.set id (.row ty T false (List.set es i z))) else none
      | none => match toD h T (.agg cs) with
       | some z => if (Nat.beq T.size sz && cs.any (fun c => !(rowsX1 c).isEmpty) && !((rowsX (.agg cs)).any (Nat.beq id))) = true then some (inB i es, .any, none, (frzX h (rowsX (.agg cs))).set id (.row ty T false (List.set es i z))) else none
       | none => none
     else none
    | _, _ => none
   | some (.vec _ _) => none
   | some (.box ty cs) => match cellsX (rd y) with
    | some vs => if (Nat.beq i 0 && Nat.beq vs.length sz && Nat.ble (o + sz) cs.length && Nat.blt 0 sz) = true then some (true, .any, none, h.set id (.box ty (cs.take o ++ vs ++ cs.drop (o + vs.length)))) else none
    | none => none
   | none => none
  | _ => none
 | .slice sz x lo hi => match lst (rd x) with
  | .d (.list e) xs => if Nat.beq e.size sz = true then match xcut (List.length (show List e.den from xs)) (lo.map rd) (hi.map rd) with
    | some (p, l, u) => some (p, .d (.list e) (cutL l u (show List e.den from xs)), none, h)
    | none => none
   else none
  | .k (.slice none 0 0) => match xcut 0 (lo.map rd) (hi.map rd) with
   | some (p, l, u) => some (p, .k (.slice none 0 0), none, h)
   | none => none
  | .row id => match h[id]? with
   | some (.row _ T _ es) => if Nat.beq T.size sz = true then match xcut (List.length es) (lo.map rd) (hi.map rd) with
     | some (p, l, u) => some (p, .sub id (Int.toNat l) (Int.toNat (u - l)), none, h)
     | none => none
    else none
   | _ => none
  | .sub id off len => match h[id]? with
   | some (.row _ T _ es) => if Nat.beq T.size sz = true then match xcut len (lo.map rd) (hi.map rd) with
     | some (p, l, u) => some (p, .sub id (off + Int.toNat l) (Int.toNat (u - l)), none, h)
     | none => none
    else none
   | _ => none
  | _ => none
 | .slice3 sz x hi mx => match rd x, rd hi, rd mx with
  | .row id, .d (.int _) n, .d (.int _) m => match h[id]? with
   | some (.row _ T _ es) => if Nat.beq T.size sz = true then some (cutOk 0 n (List.length es) && iEq m n, .csub id (Int.toNat n), none, h) else none
   | _ => none
  | _, _, _ => none
 | .sslice x lo hi => match rd x with
  | .d .str s => match xcut (ByteArray.size s) (lo.map rd) (hi.map rd) with
   | some (p, l, u) => some (p, .d .str (cutS l u s), none, h)
   | none => none
  | _ => none
 | .len x => match lst (rd x) with
  | .d (.list e) xs => some (true, .d (.int .i64) (lenI (show List e.den from xs)), none, h)
  | .row id => match h[id]? with
   | some (.row _ _ _ es) => some (true, .d (.int .i64) (lenI es), none, h)
   | _ => none
  | .sub id off len => some (true, .d (.int .i64) ((len : Nat) : Int), none, h)
  | .vrow id => match h[id]? with
   | some (.vec _ cs) => some (true, .d (.int .i64) (lenI cs), none, h)
   | _ => none
  | .k (.slice none 0 0) => some (true, .d (.int .i64) (0 : Int), none, h)
  | _ => none
 | .nck x => match rd x with
  | .ptr id i o => some (true, .ptr id i o, none, h)
  | .lp T x o => some (true, .lp T x o, none, h)
  | _ => none
 | .slen x => match rd x with
  | .d .str s => some (true, .d (.int .i64) (sLen s), none, h)
  | _ => none
 | .idx x i => match rd x, rd i with
  | .d .str s, .d (.int _) n => some (bnd n (sLen s), .d (.int .u8) (sAt s n), none, h)
  | _, _ => none
 | .aidx sz ag n x i => match rd x, rd i with
  | .d (.tup (T :: ts)) y, .d (.int _) m => match tupL T (T :: ts) y with
   | some xs => if (Nat.beq T.size sz && Nat.beq xs.length n && (ag == T.isTup)) = true then some (bnd m (n : Nat), .d T (atI xs m T.dflt), none, h) else none
   | none => none
  | .agg cs, .d (.int _) m => if (Nat.beq sz 1 && !ag && Nat.beq cs.length n) = true then match cs[Int.toNat m]? with
    | some v => some (bnd m (n : Nat), v, none, h)
    | none => none
   else none
  | _, _ => none
 | .app ty sz bytes s x => match tt ty with
  | some T => if Nat.beq T.size sz = true then match elemsX h T (rd x) with
   | some ys => match rd s with
    | .k (.slice none 0 0) => some (fits ys.length bytes, .row h.length, none, h ++ [.row ty T false ys])
    | .row id => match h[id]? with
     | some (.row ty' T' fz es) => match fz, castT (a := .list T) (b := .list T') ys with
      | false, some ys => if Nat.beq ty ty' = true then some (fits (es.length + (show List T'.den from ys).length) bytes, .row id, some id, h.set id (.row ty T' false (es ++ (show List T'.den from ys)))) else none
      | _, _ => none
     | _ => none
    | _ => none
   | none => none
   else none
  | none => none
 | .apps ty bytes s x => match tt ty, rd x with
  | some (.int .u8), .d .str b => match rd s with
   | .k (.slice none 0 0) => some (fits (bytesT b).length bytes, .row h.length, none, h ++ [.row ty (.int .u8) false (bytesT b)])
   | .row id => match h[id]? with
    | some (.row ty' (.int .u8) false es) => if Nat.beq ty ty' = true then some (fits (es.length + (bytesT b).length) bytes, .row id, some id, h.set id (.row ty (.int .u8) false (es ++ bytesT b))) else none
    | _ => none
   | _ => none
  | _, _ => none
 | .b2s x => match elemsX h (.int .u8) (rd x) with
  | some xs => some (true, .d .str (bsI xs), none, h)
  | none => none
 | .s2b ty x => match tt ty, rd x with
  | some (.int .u8), .d .str b => some (sFit b, .row h.length, none, h ++ [.row ty (.int .u8) false (bytesT b)])
  | _, _ => none
 | .bslice ty sz xs => match tt ty with
  | some T => if Nat.beq T.size sz = true then match toDs h T (xs.map rd) with
   | some ys => some (true, .row h.length, none, frzX h ((xs.map rd).flatMap rowsX) ++ [.row ty T false ys])
   | none => none
   else none
  | none => none
 | .blist ty sz xs => match tt ty with
  | some T => if Nat.beq T.size sz = true then match toDs [] T (xs.map rd) with
   | some ys => some (true, .d (.list T) ys, none, h)
   | none => none
   else none
  | none => none
 | .bvec ty xs => if (xs.map rd).all okX = true then some (true, .vrow h.length, none, h ++ [.vec ty (xs.map rd)]) else none
 | .build zero parts => match buildX rd (zero.map vx1) parts with
  | some cs => some (true, .agg cs, none, h)
  | none => none
 | .box ty sz x => match cellsX (rd x) with
  | some cs => if Nat.beq cs.length sz = true then some (true, .ptr h.length 0 0, none, h ++ [.box ty cs]) else none
  | none => none
 | .alloc ty zero => match cellsX (vx zero) with
  | some cs => some (true, .ptr h.length 0 0, none, h ++ [.box ty cs])
  | none => none
 | .mk ty sz bytes zero n => match tt ty, rd n with
  | some T, .d (.int .i64) n => if Nat.beq T.size sz = true then match toD [] T (vx zero) with
    | some z => some (fitsI n bytes, .row h.length, none, h ++ [.row ty T false (List.replicate (Int.toNat n) z)])
    | none => none
   else none
  | _, _ => none
 | .alloca ty sz n zero => match tt ty with
  | some T => if Nat.beq T.size sz = true then match toD [] T (vx zero) with
    | some z => some (true, .ptr h.length 0 0, none, h ++ [.row ty T false (List.replicate n z)])
    | none => none
   else none
  | none => none
 | .aaddr bsz st n x i => match rd x, rd i with
  | .ptr id j o, .d (.int _) m => match h[id]? with
   | some (.row _ T _ es) => if (Nat.beq o 0 && Nat.beq T.size bsz) = true then some (bnd m (n : Nat), .ptr id (j + Int.toNat m * st) 0, none, h) else none
   | _ => none
  | .lp (.tup (T :: ts)) x o, .d (.int _) m => match tupL T (T :: ts) x with
   | some xs => if (Nat.beq o 0 && Nat.beq T.size bsz && Nat.beq st 1 && Nat.beq xs.length n) = true then some (bnd m (n : Nat), .lp T (atI xs m T.dflt) 0, none, h) else none
   | none => none
  | _, _ => none
 | .aslice bsz n x lo hi => match rd x with
  | .ptr id j o => match h[id]? with
   | some (.row _ T _ es) => if (Nat.beq o 0 && Nat.beq T.size bsz && Nat.beq j 0) = true then match xcut n (lo.map rd) (hi.map rd) with
     | some (p, l, u) => some (p && leN n es, .sub id (Int.toNat l) (Int.toNat (u - l)), none, h)
     | none => none
    else none
   | _ => none
  | _ => none
 | .aslf n x lo hi => match rd x with
  | .ptr id i o => match h[id]? with
   | some (.box ty cs) => match tt ty with
    | some T => match toD [] T (.agg cs), toDs [] (.int .i64) ((cs.drop o).take n), xcut n (lo.map rd) (hi.map rd) with
     | some z, some ys, some (p, l, u) => if (Nat.beq i 0 && Nat.ble 2 cs.length && Nat.ble (o + n) cs.length && cs.all scalX) = true then some (p, .d (.list (.int .i64)) (cutL l u (show List Int from ys)), none, h.set id (.row ty T true [z])) else none
     | _, _, _ => none
    | none => none
   | _ => none
  | _ => none
 | .copy sz d s => match rd d with
  | .sub id off len => match h[id]? with
   | some (.row ty T fz es) => match fz, elemsX h T (rd s) with
    | false, some ys => if Nat.beq T.size sz = true then some (leN (off + len) es, .d (.int .i64) ((min ys.length len : Nat) : Int), none, h.set id (.row ty T false (cpy es off len ys))) else none
    | _, _ => none
   | _ => none
  | .row id => match h[id]? with
   | some (.row ty T fz es) => match fz, elemsX h T (rd s) with
    | false, some ys => if Nat.beq T.size sz = true then some (true, .d (.int .i64) ((min ys.length es.length : Nat) : Int), none, h.set id (.row ty T false (cpy es 0 es.length ys))) else none
    | _, _ => none
   | _ => none
  | _ => none
 | .min2 x y => match rd x, rd y with
  | .d (.int k) a, .d (.int _) b => some (true, .d (.int k) (iMin a b), none, h)
  | _, _ => none
 | .max2 x y => match rd x, rd y with
  | .d (.int k) a, .d (.int _) b => some (true, .d (.int k) (iMax a b), none, h)
  | _, _ => none
 | .call _ _ => none
end Abs
end Go.Proofs.YtfjhljjginlobaaDoor
end
section
namespace Go.Proofs.YtfjhljjginlobaaDoor
namespace Abs
open Go.RowKit
def runO {S R : Type} (step : S → Option (S ⊕ R)) : Nat → S → Option R
 | 0, _ => none
 | n + 1, s => match step s with
  | some (.inl s') => runO step n s'
  | some (.inr r) => some r
  | none => none
open Classical in
noncomputable def loopO {S R : Type} (step : S → Option (S ⊕ R)) (s : S) : Option R :=
 if h : ∃ n r, runO step n s = some r then runO step h.choose s else none
def listX : (ps : List Ty) → Ty.denL ps → List XV
 | [], _ => []
 | T :: ps, x => .d T x.1 :: listX ps x.2
def argsD (h : List XO) : (ps : List Ty) → List XV → Option (Ty.denL ps)
 | [], [] => some ()
 | T :: ps, v :: vs => match toD h T v, argsD h ps vs with
  | some x, some y => some (x, y)
  | _, _ => none
 | _, _ => none
def resX (rs : List Ty) (y : Ty.denL rs) : XV := match listX rs y with
 | [v] => v
 | vs => .tup vs
mutual
def hasF : Ty → Bool
 | .listF _ => true
 | .tup fs => hasFL fs
 | _ => false
def hasFL : List Ty → Bool
 | [] => false
 | t :: ts => hasF t || hasFL ts
end
mutual
def scalT : Ty → Bool
 | .list _ => false
 | .listF _ => false
 | .tup fs => scalL fs
 | _ => true
def scalL : List Ty → Bool
 | [] => true
 | t :: ts => scalT t && scalL ts
end
structure PI where
 f : Nat
 ps : List Ty
 rs : List Ty
 run : Ty.denL ps → Option (Ty.denL rs)
inductive SC where
 | d (T : Ty)
 | row (j : Nat)
 | ptr (j i off : Nat)
 | me (j : Nat)
 | nil
 | any
inductive SR where
 | row (j : Nat)
 | ptr (j i off : Nat)
 | nil
 | agg (cs : List SC)
 | cst (k : IntKind) (n : Int)
inductive SO where
 | row (ty : Nat) (T : Ty) (fz : Bool)
 | box (ty : Nat) (cs : List SC)
structure Sh where
 n : Nat
 vars : List (Nat × Ty)
 refs : List (Nat × SR)
 objs : List SO
def SC.tys : List SC → List Ty → List Ty
 | [], r => r
 | .d T :: cs, r => T :: SC.tys cs r
 | .row _ :: cs, r => SC.tys cs r
 | .ptr _ _ _ :: cs, r => SC.tys cs r
 | .me _ :: cs, r => SC.tys cs r
 | .nil :: cs, r => SC.tys cs r
 | .any :: cs, r => SC.tys cs r
def SO.tys : List SO → List Ty
 | [] => []
 | .row _ T _ :: os => .list T :: SO.tys os
 | .box _ cs :: os => SC.tys cs (SO.tys os)
def varTys : List (Nat × Ty) → List Ty → List Ty
 | [], r => r
 | (_, T) :: vs, r => T :: varTys vs r
def refTys : List (Nat × SR) → List Ty → List Ty
 | [], r => r
 | (_, .row _) :: l, r => refTys l r
 | (_, .ptr _ _ _) :: l, r => refTys l r
 | (_, .nil) :: l, r => refTys l r
 | (_, .cst _ _) :: l, r => refTys l r
 | (_, .agg cs) :: l, r => SC.tys cs (refTys l r)
def Sh.tys (sh : Sh) : List Ty := varTys sh.vars (refTys sh.refs (SO.tys sh.objs))
def embV : (vs : List (Nat × Ty)) → (r : List Ty) → Ty.denL (varTys vs r) → List XV → List XV × Ty.denL r
 | [], r, x, t => (t, x)
 | (i, T) :: vs, r, x, t => embV vs r x.2 (t.set i (.d T x.1))
def embC : (cs : List SC) → (r : List Ty) → Ty.denL (SC.tys cs r) → List XV × Ty.denL r
 | [], r, x => ([], x)
 | .d T :: cs, r, x => (.d T x.1 :: (embC cs r x.2).1, (embC cs r x.2).2)
 | .row j :: cs, r, x => (.row j :: (embC cs r x).1, (embC cs r x).2)
 | .ptr j i o :: cs, r, x => (.ptr j i o :: (embC cs r x).1, (embC cs r x).2)
 | .me j :: cs, r, x => (.me j :: (embC cs r x).1, (embC cs r x).2)
 | .nil :: cs, r, x => (.k (.slice none 0 0) :: (embC cs r x).1, (embC cs r x).2)
 | .any :: cs, r, x => (.any :: (embC cs r x).1, (embC cs r x).2)
def embO : (os : List SO) → Ty.denL (SO.tys os) → List XO
 | [], _ => []
 | .row ty T fz :: os, x => .row ty T fz x.1 :: embO os x.2
 | .box ty cs :: os, x => .box ty (embC cs (SO.tys os) x).1 :: embO os (embC cs (SO.tys os) x).2
def embRf : (refs : List (Nat × SR)) → (r : List Ty) → Ty.denL (refTys refs r) → List XV → List XV × Ty.denL r
 | [], r, x, t => (t, x)
 | (s, .row j) :: l, r, x, t => embRf l r x (t.set s (.row j))
 | (s, .ptr j i o) :: l, r, x, t => embRf l r x (t.set s (.ptr j i o))
 | (s, .nil) :: l, r, x, t => embRf l r x (t.set s (.k (.slice none 0 0)))
 | (s, .cst k n) :: l, r, x, t => embRf l r x (t.set s (.d (.int k) n))
 | (s, .agg cs) :: l, r, x, t => embRf l r (embC cs (refTys l r) x).2 (t.set s (.agg (embC cs (refTys l r) x).1))
def embS (sh : Sh) (x : Ty.denL sh.tys) : List XV × Ty.denL (SO.tys sh.objs) :=
 embRf sh.refs (SO.tys sh.objs) (embV sh.vars (refTys sh.refs (SO.tys sh.objs)) x (List.replicate sh.n .any)).2 (embV sh.vars (refTys sh.refs (SO.tys sh.objs)) x (List.replicate sh.n .any)).1
def emb (sh : Sh) (x : Ty.denL sh.tys) : XS := ⟨(embS sh x).1, embO sh.objs (embS sh x).2⟩
def asg (foc : List (Option Nat)) (j id : Nat) : Option (List (Option Nat)) := match foc[j]? with
 | some none => some (foc.set j (some id))
 | some (some id') => if Nat.beq id id' = true then some foc else none
 | none => none
def isNilX : XV → Bool
 | .k (.slice none 0 0) => true
 | _ => false
def nilP : Value → Bool
 | .pointer none => true
 | _ => false
def meId : XV → Option (Option Nat)
 | .me id => some (some id)
 | .ptr id i o => if (Nat.beq i 0 && Nat.beq o 0) = true then some (some id) else none
 | .k v => if nilP v = true then some none else none
 | _ => none
def extC : (cs : List SC) → (r : List Ty) → List XV → List (Option Nat) → Option (List (Option Nat) × (Ty.denL r → Ty.denL (SC.tys cs r)))
 | [], r, vs, foc => match vs with
  | [] => some (foc, fun x => x)
  | _ :: _ => none
 | .d T :: cs, r, vs, foc => match vs with
  | [] => none
  | v :: vs => match toD [] T v, extC cs r vs foc with
   | some x, some (foc, g) => some (foc, fun y => (x, g y))
   | _, _ => none
 | .row j :: cs, r, vs, foc => match vs with
  | .row id :: vs => match asg foc j id with
   | some foc => extC cs r vs foc
   | none => none
  | _ => none
 | .ptr j i o :: cs, r, vs, foc => match vs with
  | .ptr id i' o' :: vs => if (Nat.beq i i' && Nat.beq o o') = true then match asg foc j id with
   | some foc => extC cs r vs foc
   | none => none
   else none
  | _ => none
 | .me j :: cs, r, vs, foc => match vs with
  | [] => none
  | v :: vs => match meId v with
   | some (some id) => match asg foc j id with
    | some foc => extC cs r vs foc
    | none => none
   | some none => extC cs r vs foc
   | none => none
 | .nil :: cs, r, vs, foc => match vs with
  | [] => none
  | v :: vs => if isNilX v = true then extC cs r vs foc else none
 | .any :: cs, r, vs, foc => match vs with
  | [] => none
  | _ :: vs => extC cs r vs foc
def isC (k : IntKind) (n : Int) : XV → Bool
 | .d (.int k') m => decide (k = k') && iEq m n
 | _ => false
def extR (t : List XV) : (refs : List (Nat × SR)) → (r : List Ty) → List (Option Nat) → Option (List (Option Nat) × (Ty.denL r → Ty.denL (refTys refs r)))
 | [], r, foc => some (foc, fun y => y)
 | (s, .row j) :: l, r, foc => match t.getD s .any with
  | .row id => match asg foc j id with
   | some foc => extR t l r foc
   | none => none
  | _ => none
 | (s, .ptr j i o) :: l, r, foc => match t.getD s .any with
  | .ptr id i' o' => if (Nat.beq i i' && Nat.beq o o') = true then match asg foc j id with
   | some foc => extR t l r foc
   | none => none
   else none
  | _ => none
 | (s, .nil) :: l, r, foc => if isNilX (t.getD s .any) = true then extR t l r foc else none
 | (s, .cst k n) :: l, r, foc => if isC k n (t.getD s .any) = true then extR t l r foc else none
 | (s, .agg cs) :: l, r, foc => match t.getD s .any with
  | .agg vs => match extC cs (refTys l r) vs foc with
   | some (foc, g) => match extR t l r foc with
    | some (foc, g') => some (foc, fun y => g (g' y))
    | none => none
   | none => none
  | _ => none
def extO (h : List XO) : (os : List SO) → Nat → List (Option Nat) → Option (List (Option Nat) × Ty.denL (SO.tys os))
 | [], _, foc => some (foc, ())
 | .row ty T fz :: os, j, foc => match foc[j]? with
  | some (some id) => match h[id]? with
   | some (.row ty' T' fz' es) => if (Nat.beq ty ty' && (fz == fz')) = true then match castT (a := .list T') (b := .list T) es, extO h os (j + 1) foc with
    | some es, some (foc, y) => some (foc, (es, y))
    | _, _ => none
    else none
   | _ => none
  | _ => none
 | .box ty cs :: os, j, foc => match foc[j]? with
  | some (some id) => match h[id]? with
   | some (.box ty' vs) => if Nat.beq ty ty' = true then match extC cs (SO.tys os) vs foc with
    | some (foc, g) => match extO h os (j + 1) foc with
     | some (foc, y) => some (foc, g y)
     | none => none
    | none => none
    else none
   | _ => none
  | _ => none
def extV (t : List XV) : (vs : List (Nat × Ty)) → (r : List Ty) → Ty.denL r → Option (Ty.denL (varTys vs r))
 | [], r, y => some y
 | (s, T) :: vs, r, y => match toD [] T (t.getD s .any), extV t vs r y with
  | some x, some z => some (x, z)
  | _, _ => none
def allSome : List (Option Nat) → Option (List Nat)
 | [] => some []
 | some a :: l => match allSome l with
  | some m => some (a :: m)
  | none => none
 | none :: _ => none
def nodupB : List Nat → Bool
 | [] => true
 | a :: l => !(l.any (Nat.beq a)) && nodupB l
def startsR : Nat → Nat → List Nat → Bool
 | 0, _, _ => true
 | n + 1, j, a :: l => Nat.beq a j && startsR n (j + 1) l
 | _ + 1, _, [] => false
def initF (nf : Nat) : Nat → Nat → List (Option Nat)
 | _, 0 => []
 | j, n + 1 => (if Nat.blt j nf = true then some j else none) :: initF nf (j + 1) n
def ext (nf : Nat) (sh : Sh) (X : XS) : Option (List Nat × Ty.denL sh.tys) := match extR X.t sh.refs (SO.tys sh.objs) (initF nf 0 sh.objs.length) with
 | some (foc, g) => match extO X.h sh.objs 0 foc with
  | some (foc, y) => match allSome foc, extV X.t sh.vars (refTys sh.refs (SO.tys sh.objs)) (g y) with
   | some foc, some x => if nodupB foc = true then some (foc, x) else none
   | _, _ => none
  | none => none
 | none => none
inductive Pre where
 | gh (s ty : Nat) (T : Ty)
 | fz (s : Nat) (T : Ty)
 | ghc (s o ty : Nat) (T : Ty)
 | gha (s o ty : Nat) (T : Ty)
 | tr (s : Nat)
def preX1 (nf : Nat) (X : XS) : Pre → XS
 | .gh s ty T => match X.t.getD s .any with
  | .k (.slice none 0 0) => if Nat.blt 0 T.size = true then ⟨X.t.set s (.row X.h.length), X.h ++ [.row ty T false []]⟩ else X
  | _ => X
 | .fz s T => match toD X.h T (X.t.getD s .any) with
  | some x => ⟨X.t.set s (.d T x), frzX X.h (rowsX (X.t.getD s .any))⟩
  | none => X
 | .ghc s o ty T => match X.t.getD s .any with
  | .ptr id i off => match X.h[id]? with
   | some (.box ty' cs) => match cs[o]? with
    | some (.k (.slice none 0 0)) => if Nat.blt 0 T.size = true then ⟨X.t, (X.h ++ [XO.row ty T false []]).set id (.box ty' (cs.set o (.row X.h.length)))⟩ else X
    | _ => X
   | _ => X
  | _ => X
 | .gha s o ty T => match X.t.getD s .any with
  | .agg cs => match cs[o]? with
   | some (.k (.slice none 0 0)) => if Nat.blt 0 T.size = true then ⟨X.t.set s (.agg (cs.set o (.row X.h.length))), X.h ++ [XO.row ty T false []]⟩ else X
   | _ => X
  | _ => X
 | .tr s => match X.t.getD s .any with
  | .sub id off len => match X.h[id]? with
   | some (.row ty T fz es) => if (Nat.beq off 0 && Nat.ble nf id && !fz) = true then ⟨(X.t.map (killT id)).set s (.row id), (X.h.map (killO id)).set id (.row ty T false (es.take len))⟩ else X
   | _ => X
  | _ => X
def preX (nf : Nat) (l : List Pre) (X : XS) : XS := l.foldl (preX1 nf) X
structure HI where
 f : Nat
 ish : Sh
 osh : Sh
 run : Ty.denL ish.tys → Option (Ty.denL osh.tys)
structure Cfg where
 tt : Nat → Option Ty
 GX : GXT
 pis : List PI
 his : List HI
def ren1 (foc : List Nat) (base : Nat) : XV → XV
 | .row j => .row (if Nat.blt j foc.length = true then foc.getD j 0 else base + (j - foc.length))
 | .ptr j i o => .ptr (if Nat.blt j foc.length = true then foc.getD j 0 else base + (j - foc.length)) i o
 | .sub _ _ _ => .any
 | .csub _ _ => .any
 | .vrow _ => .any
 | .me j => .me (if Nat.blt j foc.length = true then foc.getD j 0 else base + (j - foc.length))
 | x => x
def renA (foc : List Nat) (base : Nat) : XV → XV
 | .agg cs => .agg (cs.map (ren1 foc base))
 | x => ren1 foc base x
def renO (foc : List Nat) (base : Nat) : XO → XO
 | .box ty cs => .box ty (cs.map (ren1 foc base))
 | o => o
def setFoc (foc : List Nat) (base : Nat) : List Nat → List XO → List XO → List XO
 | [], h, os => h ++ os.map (renO foc base)
 | id :: l, h, o :: os => setFoc foc base l (h.set id (renO foc base o)) os
 | _ :: _, h, [] => h
def rowIds : List Nat → List SO → List Nat
 | id :: l, .row .. :: os => id :: rowIds l os
 | _ :: l, _ :: os => rowIds l os
 | _, _ => []
def kinds : List SO → List SO → Bool
 | [], _ => true
 | .row _ _ _ :: os, .row _ _ _ :: os' => kinds os os'
 | .box _ _ :: os, .box _ _ :: os' => kinds os os'
 | _, _ => false
def outX (foc : List Nat) (base : Nat) (t : List XV) : XV := match t with
 | [v] => renA foc base v
 | vs => .tup (vs.map (renA foc base))
def allOk : Nat → Bool := fun _ => true
def plainX : XV → Bool
 | .agg cs => cs.all plain1
 | x => plain1 x
def leaves (ok : Nat → Bool) (rd : Opd → XV) : I → Bool
 | .store _ x y => match rd x with
  | .ptr id _ _ => ok id && (rowsX (rd y)).all ok
  | _ => false
 | .app _ _ _ s _ => match rd s with
  | .row id => ok id
  | .k _ => true
  | .csub _ _ => true
  | _ => false
 | .apps _ _ s _ => match rd s with
  | .row id => ok id
  | .k _ => true
  | _ => false
 | .copy .. => false
 | .aslf _ x _ _ => match rd x with
  | .ptr id _ _ => ok id
  | _ => false
 | .bslice _ _ xs => ((xs.map rd).flatMap rowsX).all ok
 | .call _ args => ((args.map rd).flatMap rowsX).all ok
 | _ => true
def killH (kl : List Nat) (h : List XO) : List XO := kl.foldl (fun h id => h.map (killO id)) h
section
variable {β : Type}
def xcallH (f : Nat) (ok : Nat → Bool) (h : List XO) (vs : List XV) (K : XV → List Nat → List XO → Option β) : List HI → Option β
 | [] => none
 | p :: ps => if (Nat.beq p.f f && Nat.beq p.ish.n vs.length && kinds p.ish.objs p.osh.objs) = true then match ext 0 p.ish ⟨vs, h⟩ with
   | some (foc, x) => if foc.all ok = true then (p.run x).bind fun y => K (outX foc h.length (emb p.osh y).t) (rowIds foc p.ish.objs) (setFoc foc h.length foc (killH (rowIds foc p.ish.objs) h) (emb p.osh y).h) else none
   | none => xcallH f ok h vs K ps
  else xcallH f ok h vs K ps
def xcallP (f : Nat) (d : Bool) (h : List XO) (vs : List XV) (K : XV → List Nat → List XO → Option β) (o : Option β) : List PI → Option β
 | [] => o
 | p :: ps => if Nat.beq p.f f = true then match argsD h p.ps vs with
   | some x => if scalL p.rs = true then (p.run x).bind fun y => K (resX p.rs y) [] h
    else if ((!d && !(hasFL p.rs)) || (vs.flatMap rowsX).all (isFz h)) = true then (p.run x).bind fun y => K (resX p.rs y) [] (frzX h (vs.flatMap rowsX)) else none
   | none => xcallP f d h vs K o ps
  else xcallP f d h vs K o ps
def xexec (c : Cfg) (d : Bool) (ok : Nat → Bool) (h : List XO) (rd : Opd → XV) (K : XV → List Nat → List XO → Option β) : I → Option β
 | .call fo args => match rd fo with
  | .d (.fnc f) _ => xcallP f d h (args.map rd) K (if d = true then none else xcallH f ok h (args.map rd) K c.his) c.pis
  | _ => none
 | .app ty sz bytes s x => match rd s with
  | .csub id len => match c.tt ty, h[id]? with
   | some T, some (.row _ T' _ es) => if Nat.beq T.size sz = true then match elemsX h T (rd x), castT (a := .list T') (b := .list T) es with
     | some ys, some es => cond (someE ys) (cond (fits (len + List.length ys) bytes) (K (.row h.length) [] (h ++ [.row ty T false (List.take len es ++ ys)])) none) (K (.sub id 0 len) [] h)
     | _, _ => none
    else none
   | _, _ => none
  | _ => match xstep c.tt h rd (.app ty sz bytes s x) with
   | some (p, v, kl, h') => cond p (K v kl.toList (killH kl.toList h')) none
   | none => none
 | i => match xstep c.tt h rd i with
  | some (p, v, kl, h') => cond p (K v kl.toList (killH kl.toList h')) none
  | none => none
abbrev Sp := List (Nat × Nat × Bool × XV)
def rdC (GX : GXT) (sp : Sp) (ctx : List (Nat × Bool)) (t : List XV) : Opd → XV
 | .t i => match sp.find? (fun q => Nat.beq q.1 i && ctx.any fun g => Nat.beq g.1 q.2.1 && (g.2 == q.2.2.1)) with
  | some q => q.2.2.2
  | none => t.getD i .any
 | o => rdG GX t o
def kU : XV := .k (.tuple #[])
def matL (s : Nat) (v : Bool) (sp : Sp) (t : List XV) : List XV := sp.foldl (fun t q => if Nat.beq q.2.1 s = true then t.set q.1 (if (q.2.2.1 == v) = true then q.2.2.2 else kU) else t) (t.set s (.d .bool v))
def matS (s : Nat) (sp : Sp) : Sp := sp.filter fun q => !(Nat.beq q.2.1 s)
def killL (kl : List Nat) (t : List XV) : List XV := kl.foldl (fun t id => t.map (killT id)) t
def killS (kl : List Nat) (sp : Sp) : Sp := kl.foldl (fun sp id => sp.map fun q => (q.1, q.2.1, q.2.2.1, killT id q.2.2.2)) sp
def putX (t : List XV) (dst : Option Nat) (v : XV) : List XV := match dst with
 | some i => t.set i v
 | none => t
def spDrop (dst : Option Nat) (sp : Sp) : Sp := match dst with
 | some i => sp.filter fun q => !(Nat.beq q.1 i) && !(Nat.beq q.2.1 i)
 | none => sp
def specI : I → Bool
 | .call .. | .store .. | .app .. | .apps .. | .s2b .. | .bslice .. | .bvec .. | .box .. | .alloc .. | .alloca .. | .copy .. | .mk .. | .aslf .. => false
 | _ => true
def mrg : Bool → XV → XV → Option XV
 | t, .d T x, .d T' y => match castT (b := T) y with
  | some y => some (.d T (cond t x y))
  | none => none
 | _, _, _ => none
def xpick (X : XS) (sp : Sp) (dst : Option Nat) (s : Nat) (c a b : XV) (K : XS → Sp → Option β) : Option β := match c with
 | .d .bool t => match mrg t a b with
  | some v => K ⟨putX X.t dst v, X.h⟩ (spDrop dst sp)
  | none => cond t (K ⟨putX (matL s true sp X.t) dst a, X.h⟩ (spDrop dst (matS s sp))) (K ⟨putX (matL s false sp X.t) dst b, X.h⟩ (spDrop dst (matS s sp)))
 | _ => none
def xun (c : Cfg) (d : Bool) (ok : Nat → Bool) (X : XS) (sp : Sp) (dst : Option Nat) (K : XS → Sp → Option β) : I → Option β
 | .pick (.t s) a b => xpick X sp dst s (rdG c.GX X.t (.t s)) (rdC c.GX sp [(s, true)] X.t a) (rdC c.GX sp [(s, false)] X.t b) K
 | i => xexec c d ok X.h (rdG c.GX X.t) (fun x kl h' => K ⟨putX (killL kl X.t) dst x, h'⟩ (spDrop dst (killS kl sp))) i
def xsplit (c : Cfg) (d : Bool) (ok : Nat → Bool) (X : XS) (sp : Sp) (dst : Option Nat) (s : Nat) (want : Bool) (i : I) (K : XS → Sp → Option β) (v : Bool) : Option β :=
 if (v == want) = true then xun c d ok ⟨matL s v sp X.t, X.h⟩ (matS s sp) dst K i
 else K ⟨putX (matL s v sp X.t) dst kU, X.h⟩ (spDrop dst (matS s sp))
def xspec (GX : GXT) (tt : Nat → Option Ty) (h : List XO) (t : List XV) (sp : Sp) (s : Nat) (want : Bool) : I → Option (Bool × XV)
 | .pick (.t s') a b => match rdC GX sp [(s, want)] t (.t s') with
  | .d .bool t' => match mrg t' (rdC GX sp [(s', true), (s, want)] t a) (rdC GX sp [(s', false), (s, want)] t b) with
   | some v => some (true, v)
   | none => none
  | _ => none
 | i => match xstep tt h (rdC GX sp [(s, want)] t) i with
  | some (p, v, _, _) => some (p, v)
  | none => none
def xIns (c : Cfg) (d : Bool) (ok : Nat → Bool) : Nat → XS → Sp → (XS → Sp → Option β) → Ins → Option β
 | 0, _, _, _, _ => none
 | n + 1, X, sp, K, ins => match ins.gd with
  | none => xun c d ok X sp ins.dst K ins.i
  | some (s, want) => match X.t.getD s .any with
   | .d .bool b => match specI ins.i, ins.dst, xspec c.GX c.tt X.h X.t sp s want ins.i with
    | true, some u, some (p, v) => if (Nat.blt u X.t.length && !(Nat.beq u s)) = true then cond (p || not (bEq b want)) (K ⟨X.t.set u .any, X.h⟩ ((u, s, want, v) :: spDrop (some u) sp)) none else none
    | _, _, _ => cond b (xsplit c d ok X sp ins.dst s want ins.i K true) (xsplit c d ok X sp ins.dst s want ins.i K false)
   | .k (.tuple _) => K ⟨putX X.t ins.dst kU, X.h⟩ (spDrop ins.dst sp)
   | .any => match sp.find? (fun q => Nat.beq q.1 s) with
    | some q => match X.t.getD q.2.1 .any with
     | .d .bool b => cond b (xIns c d ok n ⟨matL q.2.1 true sp X.t, X.h⟩ (matS q.2.1 sp) K ins) (xIns c d ok n ⟨matL q.2.1 false sp X.t, X.h⟩ (matS q.2.1 sp) K ins)
     | _ => none
    | none => none
   | _ => none
def xops (c : Cfg) (d : Bool) (K : XS → Option β) : List Ins → XS → Sp → Option β
 | [], X, _ => K X
 | i :: r, X, sp => xIns c d allOk 8 X sp (fun X' sp' => xops c d K r X' sp') i
def idsX (ok : Nat → Bool) (rd : Opd → XV) : I → Bool
 | .load _ _ x => match rd x with
  | .ptr id _ _ => ok id
  | .lp _ _ _ => true
  | _ => false
 | .aaddr _ _ _ x _ => match rd x with
  | .ptr id _ _ => ok id
  | .lp _ _ _ => true
  | _ => false
 | .b2s x => match rd x with
  | .row id => ok id
  | .sub id _ _ => ok id
  | .d _ _ => true
  | .k _ => true
  | _ => false
 | .aslice _ _ x _ _ => match rd x with
  | .ptr id _ _ => ok id
  | _ => false
 | .call _ args => (args.map rd).all plainX && ((args.map rd).flatMap rowsX).all ok
 | _ => true
def xrd (c : Cfg) (ok : Nat → Bool) (X : XS) (sp : Sp) (K : XS → Sp → Option β) (ins : Ins) : Option β := match ins.gd with
 | none => if idsX ok (rdG c.GX X.t) ins.i = true then xun c true allOk X sp ins.dst K ins.i else none
 | some (s, want) => match X.t.getD s .any with
  | .d .bool b => match specI ins.i, ins.dst, xspec c.GX c.tt X.h X.t sp s want ins.i with
   | true, some u, some (p, v) => if (Nat.blt u X.t.length && !(Nat.beq u s) && idsX ok (rdC c.GX sp [(s, want)] X.t) ins.i) = true then cond (p || not (bEq b want)) (K ⟨X.t.set u .any, X.h⟩ ((u, s, want, v) :: spDrop (some u) sp)) none else none
   | _, _, _ => none
  | _ => none
def xwr (c : Cfg) (ok : Nat → Bool) (X : XS) (sp : Sp) (dst : Option Nat) (s : Nat) (want : Bool) (i : I) (K : XS → Sp → Option β) (v : Bool) : Option β :=
 if (v == want) = true then (if leaves ok (rdG c.GX (matL s v sp X.t)) i = true then xun c false ok ⟨matL s v sp X.t, X.h⟩ (matS s sp) dst K i else none)
 else K ⟨putX (matL s v sp X.t) dst kU, X.h⟩ (spDrop dst (matS s sp))
def xopsR (c : Cfg) (m : Nat) (U : List Nat) (K : XS → Option β) : List (Nat × Ins) → XS → Sp → Option β
 | [], X, _ => K X
 | (0, i) :: r, X, sp => xIns c true allOk 8 X sp (fun X' sp' => xopsR c m U K r X' sp') i
 | (1, i) :: r, X, sp => if Nat.ble i.i.cls 1 = true then xrd c (fun id => Nat.blt id m && !(U.any (Nat.beq id))) X sp (fun X' sp' => xopsR c m U K r X' sp') i else none
 | (_, i) :: r, X, sp => match i.gd with
  | none => if leaves (fun id => Nat.ble m id || U.any (Nat.beq id)) (rdG c.GX X.t) i.i = true then xIns c false (fun id => Nat.ble m id || U.any (Nat.beq id)) 8 X sp (fun X' sp' => xopsR c m U K r X' sp') i else none
  | some (s, want) => match X.t.getD s .any with
   | .d .bool b => cond b (xwr c (fun id => Nat.ble m id || U.any (Nat.beq id)) X sp i.dst s want i.i (fun X' sp' => xopsR c m U K r X' sp') true) (xwr c (fun id => Nat.ble m id || U.any (Nat.beq id)) X sp i.dst s want i.i (fun X' sp' => xopsR c m U K r X' sp') false)
   | _ => none
end
inductive XC where
 | skip
 | ops (draw : Bool) (l : List Ins)
 | rops (U : List Nat) (l : List (Nat × Ins))
 | seq (a b : XC)
 | seqj (pre : List Pre) (sh : Sh) (a b : XC)
 | cond (c : Opd) (a b : XC)
 | block (id : Nat) (b : XC)
 | loop (pre : List Pre) (sh : Sh) (b : XC)
 | loopU (n : Nat) (b : XC)
 | splt (s : Nat) (k : IntKind) (ns : List Int) (b : XC)
 | exit (id : Nat)
 | ret
def XC.er : XC → C
 | .skip => .skip
 | .ops d l => .ops d l
 | .rops _ l => .rops l
 | .seq a b => .seq a.er b.er
 | .seqj _ _ a b => .seq a.er b.er
 | .cond c a b => .cond c a.er b.er
 | .block id b => .block id b.er
 | .loop _ _ b => .loop b.er
 | .loopU _ b => .loop b.er
 | .splt _ _ _ b => b.er
 | .exit id => .exit id
 | .ret => .ret
def litX (o : Opd) (v : Bool) (X : XS) : XS := match o with
 | .t i => ⟨X.t.set i (.d .bool v), X.h⟩
 | _ => X
def extL (nf : Nat) (pre : List Pre) (sh : Sh) (X : XS) : Option (Ty.denL sh.tys) := match ext nf sh (preX nf pre X) with
 | some (foc, x) => if (startsR nf 0 foc && Nat.beq X.t.length sh.n) = true then some x else none
 | none => none
def unrollN {β : Type} (f : (XS → Option β) → XS → Option β) : Nat → XS → Option β
 | 0, _ => none
 | n + 1, X => f (unrollN f n) X
def spltN {β : Type} (f : XS → Option β) (s : Nat) (k : IntKind) (m : Int) (X : XS) : List Int → Option β
 | [] => none
 | n :: ns => cond (iEq m n) (f ⟨X.t.set s (.d (.int k) n), X.h⟩) (spltN f s k m X ns)
def joinO {S R : Type} (o : Option (S ⊕ R)) (f : S → Option R) : Option R := match o with
 | some (.inl s) => f s
 | some (.inr r) => some r
 | none => none
noncomputable def xwp (c : Cfg) (nf : Nat) : XC → (β : Type) → (Exit → XS → Option β) → XS → Option β
  | .skip, β, K, X => K .normal X
  | .ops d l, β, K, X => xops c d (K .normal) l X []
  | .rops U l, β, K, X => xopsR c X.h.length U (K .normal) l X []
  | .seq a b, β, K, X => xwp c nf a β (fun e Y => match e with | .normal => xwp c nf b β K Y | e => K e Y) X
  | .seqj pre sh a b, β, K, X => joinO (xwp c nf a (Ty.denL sh.tys ⊕ β) (fun e Y => match e with
        | .normal => match extL nf pre sh Y with
          | some s' => some (.inl s')
          | none => none
        | e => Option.map Sum.inr (K e Y)) X) (fun s => xwp c nf b β K (emb sh s))
  | .cond o a b, β, K, X => match rdG c.GX X.t o with
    | .d .bool t => cond t (xwp c nf a β K (litX o true X)) (xwp c nf b β K (litX o false X))
    | _ => none
  | .block id b, β, K, X => xwp c nf b β (fun e Y => match e with | .exit i => if Nat.beq i id = true then K .normal Y else K (.exit i) Y | e => K e Y) X
  | .loop pre sh b, β, K, X => match extL nf pre sh X with
    | some s => loopO (fun s => xwp c nf b (Ty.denL sh.tys ⊕ β) (fun e Y => match e with
        | .normal => match extL nf pre sh Y with
          | some s' => some (.inl s')
          | none => none
        | e => Option.map Sum.inr (K e Y)) (emb sh s)) s
    | none => none
  | .loopU n b, β, K, X => unrollN (fun k Y => xwp c nf b β (fun e Z => match e with | .normal => k Z | e => K e Z) Y) n X
  | .splt s k ns b, β, K, X => match X.t.getD s .any with
    | .d (.int k') m => if decide (k = k') = true then spltN (fun Y => xwp c nf b β K Y) s k m X ns else none
    | _ => none
  | .exit id, β, K, X => K (.exit id) X
  | .ret, β, K, X => K .ret X
def xresL (c : Cfg) (X : XS) : List RV → Option (List XV)
 | [] => some []
 | .t i :: r => match xresL c X r with
  | some l => some (X.t.getD i .any :: l)
  | none => none
 | .c i sz ag :: r => match xstep c.tt X.h (rdG c.GX X.t) (.load sz ag (.t i)), xresL c X r with
  | some (true, v, _, _), some l => some (v :: l)
  | _, _ => none
def xend (c : Cfg) (rv : List RV) (rs : List Ty) (e : Exit) (X : XS) : Option (Ty.denL rs) := match e with
 | .normal => match xresL c X rv with
  | some vs => argsD X.h rs vs
  | none => none
 | .ret => match xresL c X rv with
  | some vs => argsD X.h rs vs
  | none => none
 | _ => none
noncomputable def xfun (c : Cfg) (xc : XC) (n : Nat) (rv : List RV) (ps rs : List Ty) (x : Ty.denL ps) : Option (Ty.denL rs) :=
 xwp c 0 xc (Ty.denL rs) (xend c rv rs) ⟨listX ps x ++ List.replicate (n - ps.length) .any, []⟩
noncomputable def xfunH (c : Cfg) (xc : XC) (n : Nat) (rv : List RV) (pre : List Pre) (ish osh : Sh) (x : Ty.denL ish.tys) : Option (Ty.denL osh.tys) :=
 xwp c ish.objs.length xc (Ty.denL osh.tys) (fun e X => match (match e with | .normal => true | .ret => true | _ => false), xresL c (preX ish.objs.length pre X) rv with
  | true, some vs => extL ish.objs.length [] osh ⟨vs, (preX ish.objs.length pre X).h⟩
  | _, _ => none) ⟨(emb ish x).t ++ List.replicate (n - ish.n) .any, (emb ish x).h⟩
end Abs
end Go.Proofs.YtfjhljjginlobaaDoor
end
