/- The abstract machine: each operation does as its step says. -/
import Derived.Test.YtnhgeocdffhkjaaDoorAbs1
namespace Go.Proofs.YtnhgeocdffhkjaaDoor
namespace Abs
open Go.RowKit
set_option linter.unusedVariables false
set_option linter.unusedSimpArgs false

def cOpd : Operand → Opd
  | .tmp t => .t t
  | .const v => .k v
  | .global g => .g g
  | .func f => .k (.func (.func f) #[] #[])

/-- A type of one cell, or the number of its cells. -/
def agT (P : Program) (t : TypeId) : Option (Bool × Nat) :=
  match P.underlying t, P.info? t with
  | some d, some i => some (match d with | .struct _ | .array _ _ => true | _ => false, i.size)
  | _, _ => none

section
variable {P : Program} {Gl : Nat → Option (List AV)} {F : Addr → Option Value} {own : List Ent} {B : Nat} {w0 : W0} {σ : St} {act : Act} {w : World}

def Ok1 (P : Program) (Gl : Nat → Option (List AV)) (B : Nat) (w0 : W0) (σ : St) (act : Act) (w : World) (o : Oper) (a : AV) (h' : List AObj) : Prop :=
  ∃ nx x w' F' own', (execOp act.eval o).run P w = .ok nx w' ∧ (nx = .value x ∨ (nx = .skip ∧ x = undef)) ∧ Inv Gl F' own' B w0 ⟨σ.t, h'⟩ act w' ∧ R F' own' x a

theorem Inv.ev (h : Inv Gl F own B w0 σ act w) (x : Operand) : R F own (act.eval x) (σ.val Gl (cOpd x)) := h.eval x (cOpd x) (by cases x <;> rfl)

theorem Ok1.mk (h : Inv Gl F own B w0 σ act w) {o : Oper} {x : Value} {a : AV} (hr : (execOp act.eval o).run P w = .ok (.value x) w) (hR : R F own x a) : Ok1 P Gl B w0 σ act w o a σ.h :=
  ⟨_, x, w, F, own, hr, .inl rfl, h, hR⟩

theorem Ok1.v (h : Inv Gl F own B w0 σ act w) {o : Oper} {x : Value} (hr : (execOp act.eval o).run P w = .ok (.value x) w) : Ok1 P Gl B w0 σ act w o (.v x) σ.h :=
  Ok1.mk h hr (.pure (.v x))

theorem ok_bin (h : Inv Gl F own B w0 σ act w) {o : Oper} {op : BinOp} {xt yt : TypeId} {x y : Operand} (ho : o.op = .binOp op xt x y yt) {a b : Value} (hx : σ.val Gl (cOpd x) = .v a) (hy : σ.val Gl (cOpd y) = .v b)
    {p : Prop} {r : Value} (hb : binV op a b = some (p, r)) (hp : p) : Ok1 P Gl B w0 σ act w o (.v r) σ.h := by
  have ex : act.eval x = a := by have := h.ev x; rw [hx] at this; exact this.v_inv
  have ey : act.eval y = b := by have := h.ev y; rw [hy] at this; exact this.v_inv
  refine Ok1.v h ?_
  unfold execOp
  simp only [ho, ex, ey]
  unfold binV at hb
  split at hb <;> first
    | (cases hb; done)
    | (split at hb
       · rename_i hk
         subst hk
         obtain ⟨rfl, rfl⟩ := Prod.mk.inj (Option.some.inj hb)
         simp [eqGuard, binOp, Op.intArith, Op.intDiv, Op.intBits, Op.intCmp, hp] <;> done
       · cases hb)
    | (obtain ⟨rfl, rfl⟩ := Prod.mk.inj (Option.some.inj hb)
       have hp' := hp
       simp [eqGuard, binOp, Op.shift, Op.stringOp, Int.not_lt.2 hp'] <;> done)
    | (obtain ⟨rfl, rfl⟩ := Prod.mk.inj (Option.some.inj hb)
       have hp' := hp
       have hm : IntKind.i64.max = 9223372036854775807 := by decide
       simp [eqGuard, binOp, Op.stringOp, hm] <;> omega)

theorem ok_un (h : Inv Gl F own B w0 σ act w) {o : Oper} {op : UnOp} {xt : TypeId} {x : Operand} (ho : o.op = .unOp op xt x) {a : Value} (hx : σ.val Gl (cOpd x) = .v a) {r : Value} (hb : unV op a = some r) : Ok1 P Gl B w0 σ act w o (.v r) σ.h := by
  have ex : act.eval x = a := by have := h.ev x; rw [hx] at this; exact this.v_inv
  refine Ok1.v h ?_
  unfold execOp
  simp only [ho, ex]
  unfold unV at hb
  split at hb <;> first
    | (cases hb; done)
    | (obtain rfl := Option.some.inj hb
       simp [Op.unary, Op.intArith])

theorem ok_conv (h : Inv Gl F own B w0 σ act w) {o : Oper} {s d : TypeId} {x : Operand} (ho : o.op = .convert s d x) {sd : TypeDesc} {k k' : IntKind} {n : Int} (hs : P.underlying s = some sd) (hd : P.underlying d = some (.int k)) (hx : σ.val Gl (cOpd x) = .v (.int k' n)) :
    Ok1 P Gl B w0 σ act w o (.v (.int k (k.wrap n))) σ.h := by
  have ex : act.eval x = .int k' n := by have := h.ev x; rw [hx] at this; exact this.v_inv
  refine Ok1.v h ?_
  unfold execOp
  simp only [ho, ex]
  simp [convert, run_underlying hs, run_underlying hd, Conv.intToInt]

theorem eqi_bool (d : Nat) (t : TypeId) (a b : Bool) (ht : P.underlying t = some .bool) : (Op.equalIn (d + 1) t (.bool a) (.bool b)).run P w = .ok (a == b) w := run_equalIn_bool w d t a b ht
theorem eqi_nil (d : Nat) (t e : TypeId) (a : Option Addr) (n c : Nat) (ht : P.underlying t = some (.slice e)) : (Op.equalIn (d + 1) t (.slice a n c) (.slice none 0 0)).run P w = .ok a.isNone w := by
  cases a <;> simp [Op.equalIn, run_underlying ht]
theorem eq_of (t : TypeId) (x y : Value) {b : Bool} (h : (Op.equalIn (9999 + 1) t x y).run P w = .ok b w) : (Op.equal t x y).run P w = .ok b w := h
theorem ok_beq (h : Inv Gl F own B w0 σ act w) {o : Oper} {neg : Bool} {xt yt : TypeId} {x y : Operand} (ho : o.op = .binOp (if neg then .neq else .eql) xt x y yt) (ht : P.underlying xt = some .bool) {a b : Bool} (hx : σ.val Gl (cOpd x) = .v (.bool a)) (hy : σ.val Gl (cOpd y) = .v (.bool b)) :
    Ok1 P Gl B w0 σ act w o (.v (.bool (if neg then !(a == b) else a == b))) σ.h := by
  have ex : act.eval x = .bool a := by have := h.ev x; rw [hx] at this; exact this.v_inv
  have ey : act.eval y = .bool b := by have := h.ev y; rw [hy] at this; exact this.v_inv
  refine Ok1.v h ?_
  unfold execOp
  have hq := eq_of (P := P) (w := w) xt _ _ (eqi_bool 9999 xt a b ht)
  cases neg <;> simp only [ho, ex, ey, if_true, if_false, Bool.false_eq_true] <;> simp [eqGuard, binOp, hq]

theorem ok_nilq (h : Inv Gl F own B w0 σ act w) {o : Oper} {neg : Bool} {xt yt : TypeId} {x : Operand} (ho : o.op = .binOp (if neg then .neq else .eql) xt x (.const (.slice none 0 0)) yt) {et : TypeId} (ht : P.underlying xt = some (.slice et))
    {p : Prop} {r : AV} {h' : List AObj} (hs : step Gl σ (.nilq neg (cOpd x)) = some (p, r, h')) (hp : p) : Ok1 P Gl B w0 σ act w o r h' := by
  have he := h.ev x
  simp only [step] at hs
  have run : ∀ (a : Option Addr) (n c : Nat), act.eval x = .slice a n c → (execOp act.eval o).run P w = .ok (.value (.bool (if neg then a.isSome else a.isNone))) w := by
    intro a n c ex
    unfold execOp
    have hq := eq_of (P := P) (w := w) xt _ _ (eqi_nil 9999 xt et a n c ht)
    cases neg <;> simp only [ho, ex, if_true, if_false, Bool.false_eq_true] <;> simp [eqGuard, binOp, hq, Act.eval] <;> cases a <;> simp
  split at hs
  · rename_i sz xs hv
    rw [hv] at he
    obtain ⟨rfl, h2⟩ := Prod.mk.inj (Option.some.inj hs)
    obtain ⟨rfl, rfl⟩ := Prod.mk.inj h2
    have hq := he.list_inv
    generalize hv' : act.eval x = v at hq
    cases hq with
    | nil => exact absurd rfl hp
    | list ad n cap sz xs cv hn hc hz hF hR => exact Ok1.mk h (run _ _ _ hv') (by cases neg <;> exact .pure (.v _))
  · rename_i hv
    rw [hv] at he
    obtain ⟨rfl, h2⟩ := Prod.mk.inj (Option.some.inj hs)
    obtain ⟨rfl, rfl⟩ := Prod.mk.inj h2
    exact Ok1.mk h (run _ _ _ he.v_inv) (by cases neg <;> exact .pure (.v _))
  · rename_i id G sz off len hv
    rw [hv] at he
    obtain ⟨rfl, h2⟩ := Prod.mk.inj (Option.some.inj hs)
    obtain ⟨rfl, rfl⟩ := Prod.mk.inj h2
    obtain ⟨e, _, _, ⟨a, cap, hx, _, ha⟩, _⟩ := he.row_inv
    have h1 := ha (.inl hp)
    cases a with
    | none => cases h1
    | some a => exact Ok1.mk h (run _ _ _ hx) (by cases neg <;> exact .pure (.v _))
  · cases hs

theorem eqi_int (d : Nat) (t : TypeId) (k k' : IntKind) (a b : Int) (h : P.underlying t = some (.int k')) : (Op.equalIn (d + 1) t (.int k a) (.int k b)).run P w = .ok (a == b) w := run_equalIn_int w d t k k' a b h

/-- The fields of a struct that may be compared cell by cell. -/
def cmpFields (P : Program) (fs : List Field) : Option (List (Nat × Nat)) :=
  match fs with
  | [] => some []
  | f :: fs => match cmpFields P fs with
    | none => none
    | some r => if f.name = "_" then some ((f.offset, 0) :: r) else match P.underlying f.type with
      | some (.int _) => some ((f.offset, 1) :: r)
      | some .bool => some ((f.offset, 2) :: r)
      | some .string => some ((f.offset, 3) :: r)
      | _ => none

theorem eq_fields (h : Inv Gl F own B w0 σ act w) (d : Nat) {xs ys : Array Value} {as bs : List AV} (hx : R F own (.agg xs) (.agg as)) (hy : R F own (.agg ys) (.agg bs)) :
    ∀ (fs : List Field) (l : List (Nat × Nat)) (r : Bool), cmpFields P fs = some l → eqA as bs l = some r → (Op.eqFields (d + 1) xs ys fs).run P w = .ok r w := by
  obtain ⟨xs', ex, lx, _, rx⟩ := hx.agg_inv
  obtain rfl : xs = xs' := by injection ex
  obtain ⟨ys', ey, ly, _, ry⟩ := hy.agg_inv
  obtain rfl : ys = ys' := by injection ey
  have at_ : ∀ (zs : Array Value) (cs : List AV), zs.size = cs.length → (∀ (j : Nat) (x : Value) (a : AV), zs[j]? = some x → cs[j]? = some a → R F own x a) → ∀ i v, cs.getD i .any = .v v → zs[i]? = some v := by
    intro zs cs hl hr i v hv
    by_cases hi : i < cs.length
    · have e2 : cs[i]? = some (.v v) := by
        rw [← hv]; simp [List.getD, List.getElem?_eq_getElem hi]
      have e1 : zs[i]? = some (zs[i]'(by omega)) := Array.getElem?_eq_getElem (by omega)
      have := (hr i _ _ e1 e2).v_inv
      rw [e1, this]
    · simp [List.getD, List.getElem?_eq_none (Nat.le_of_not_lt hi)] at hv
  have hpart : ∀ (t : TypeId) (zs : Array Value) (i : Nat) (v : Value) (dd : TypeDesc), P.underlying t = some dd → (match dd with | .struct _ | .array _ _ => true | _ => false) = false → zs[i]? = some v → (part t zs i).run P w = .ok v w := by
    intro t zs i v dd ht hd hz
    unfold part isAgg
    simp only [Sem.run_bind, run_underlying ht, Result.andThen_ok]
    cases dd <;> first | (cases hd; done) | simp [hz]
  intro fs
  induction fs with
  | nil => intro l r hc he; cases hc; cases he; rfl
  | cons f fs ih =>
    intro l r hc he
    unfold cmpFields at hc
    cases hr : cmpFields P fs with
    | none => rw [hr] at hc; cases hc
    | some r' =>
      rw [hr] at hc
      simp only at hc
      unfold Op.eqFields
      by_cases hn : f.name = "_"
      · rw [if_pos hn] at hc
        cases hc
        simp only [eqA, if_true] at he
        rw [if_neg (by simp [hn])]
        exact ih r' r hr he
      · rw [if_neg hn] at hc
        rw [if_pos hn]
        have key : ∀ (c : Nat) (dd : TypeDesc), c ≠ 0 → P.underlying f.type = some dd → (match dd with | .struct _ | .array _ _ => true | _ => false) = false → some ((f.offset, c) :: r') = some l →
            (∀ u v b, eq1 c (.v u) (.v v) = some b → (Op.equalIn (d + 1) f.type u v).run P w = .ok b w) → (do
              let a ← part f.type xs f.offset
              let b ← part f.type ys f.offset
              let r ← Op.equalIn (d + 1) f.type a b
              if (!r) = true then pure false else Op.eqFields (d + 1) xs ys fs : Sem Bool).run P w = .ok r w := by
          intro c dd hc0 hdd hag hl heq
          cases hl
          simp only [eqA, if_neg hc0] at he
          cases h1 : eq1 c (as.getD f.offset .any) (bs.getD f.offset .any) with
          | none => rw [h1] at he; cases he
          | some b1 =>
            rw [h1] at he
            cases h2 : eqA as bs r' with
            | none => rw [h2] at he; cases he
            | some b2 =>
              rw [h2] at he
              cases he
              obtain ⟨u, hu⟩ : ∃ u, as.getD f.offset .any = .v u := by
                unfold eq1 at h1; split at h1 <;> first | (cases h1; done) | exact ⟨_, by assumption⟩
              obtain ⟨v, hv⟩ : ∃ v, bs.getD f.offset .any = .v v := by
                unfold eq1 at h1; split at h1 <;> first | (cases h1; done) | exact ⟨_, by assumption⟩
              rw [hu, hv] at h1
              have p1 := hpart f.type xs f.offset u dd hdd hag (at_ xs as lx rx _ _ hu)
              have p2 := hpart f.type ys f.offset v dd hdd hag (at_ ys bs ly ry _ _ hv)
              simp only [Sem.run_bind, p1, p2, Result.andThen_ok, heq u v b1 h1]
              cases b1
              · simp
              · simpa using ih r' b2 hr h2
        split at hc
        · rename_i k hk
          refine key 1 _ (by decide) hk rfl hc (fun u v b hb => ?_)
          unfold eq1 at hb
          split at hb
          · split at hb
            · cases hb
              rename_i e1 e2 hkk
              cases e1; cases e2; subst hkk
              exact eqi_int d f.type _ k _ _ hk
            · cases hb
          · rename_i q _ _; cases q
          · rename_i q _ _; cases q
          · cases hb
        · rename_i hk
          refine key 2 _ (by decide) hk rfl hc (fun u v b hb => ?_)
          unfold eq1 at hb
          split at hb
          · rename_i q _ _; cases q
          · cases hb; rename_i e1 e2; cases e1; cases e2
            exact eqi_bool d f.type _ _ hk
          · rename_i q _ _; cases q
          · cases hb
        · rename_i hk
          refine key 3 _ (by decide) hk rfl hc (fun u v b hb => ?_)
          unfold eq1 at hb
          split at hb
          · rename_i q _ _; cases q
          · rename_i q _ _; cases q
          · cases hb; rename_i e1 e2; cases e1; cases e2
            exact run_equalIn_string w d f.type _ _ hk
          · cases hb
        · cases hc

/-- The same, structs within a struct let in. -/
def cmpNest (P : Program) (fs : List Field) : Option (List (Nat × Nat)) :=
  match fs with
  | [] => some []
  | f :: fs => match cmpNest P fs with
    | none => none
    | some r => if f.name = "_" then some ((f.offset, 0) :: r) else match P.underlying f.type with
      | some (.int _) => some ((f.offset, 1) :: r)
      | some .bool => some ((f.offset, 2) :: r)
      | some .string => some ((f.offset, 3) :: r)
      | some (.struct gs) => match cmpFields P gs.toList, P.info? f.type with
        | some l, some i => if P.stoodInHeld f.type = false ∧ l.all (fun q => decide (q.1 < i.size)) = true then some (l.map (fun q => (f.offset + q.1, q.2)) ++ r) else none
        | _, _ => none
      | _ => none
theorem eqA_app (as bs : List AV) : ∀ (l m : List (Nat × Nat)), eqA as bs (l ++ m) = match eqA as bs l, eqA as bs m with
    | some a, some b => some (a && b)
    | _, _ => none := by
  intro l
  induction l with
  | nil => intro m; simp only [List.nil_append, eqA]; cases eqA as bs m <;> rfl
  | cons q l ih =>
    intro m
    obtain ⟨i, c⟩ := q
    simp only [List.cons_append, eqA]
    split
    · rw [ih]
    · rw [ih]
      cases eq1 c (as.getD i .any) (bs.getD i .any) <;> cases eqA as bs l <;> cases eqA as bs m <;> simp [Bool.and_assoc]
theorem eqA_shift (as bs : List AV) (o n : Nat) : ∀ (l : List (Nat × Nat)), l.all (fun q => decide (q.1 < n)) = true → eqA as bs (l.map fun q => (o + q.1, q.2)) = eqA ((as.drop o).take n) ((bs.drop o).take n) l := by
  intro l
  induction l with
  | nil => intro _; rfl
  | cons q l ih =>
    intro h
    obtain ⟨i, c⟩ := q
    simp only [List.all_cons, Bool.and_eq_true, decide_eq_true_eq] at h
    have e : ∀ zs : List AV, ((zs.drop o).take n).getD i .any = zs.getD (o + i) .any := fun zs => by
      simp only [List.getD, List.getElem?_take, if_pos h.1, List.getElem?_drop]
    simp only [List.map_cons, eqA, e, ih h.2]
theorem eq_nest (h : Inv Gl F own B w0 σ act w) (d : Nat) {xs ys : Array Value} {as bs : List AV} (hx : R F own (.agg xs) (.agg as)) (hy : R F own (.agg ys) (.agg bs)) :
    ∀ (fs : List Field) (l : List (Nat × Nat)) (r : Bool), cmpNest P fs = some l → eqA as bs l = some r → (Op.eqFields (d + 2) xs ys fs).run P w = .ok r w := by
  have hx0 := hx
  have hy0 := hy
  obtain ⟨xs', ex, lx, ox, rx⟩ := hx.agg_inv
  obtain rfl : xs = xs' := by injection ex
  obtain ⟨ys', ey, ly, oy, ry⟩ := hy.agg_inv
  obtain rfl : ys = ys' := by injection ey
  intro fs
  induction fs with
  | nil => intro l r hc he; cases hc; cases he; rfl
  | cons f fs ih =>
    intro l r hc he
    unfold cmpNest at hc
    cases hr : cmpNest P fs with
    | none => rw [hr] at hc; cases hc
    | some r' =>
      rw [hr] at hc
      simp only at hc
      by_cases hn : f.name = "_"
      · rw [if_pos hn] at hc
        cases hc
        simp only [eqA, if_true] at he
        unfold Op.eqFields
        rw [if_neg (by simp [hn])]
        exact ih r' r hr he
      · rw [if_neg hn] at hc
        -- a field of one cell
        have one : ∀ c, c ≠ 0 → some ((f.offset, c) :: r') = some l → cmpFields P [f] = some [(f.offset, c)] → (Op.eqFields (d + 2) xs ys (f :: fs)).run P w = .ok r w := by
          intro c hc0 hl hcf
          cases hl
          simp only [eqA, if_neg hc0] at he
          cases h1 : eq1 c (as.getD f.offset .any) (bs.getD f.offset .any) with
          | none => rw [h1] at he; cases he
          | some b1 =>
            rw [h1] at he
            cases h2 : eqA as bs r' with
            | none => rw [h2] at he; cases he
            | some b2 =>
              rw [h2] at he
              cases he
              have k := eq_fields h (d + 1) hx0 hy0 [f] _ b1 hcf (by simp only [eqA, if_neg hc0, h1, Bool.and_true])
              have k2 := ih r' b2 hr h2
              simp only [Op.eqFields, if_pos hn] at k ⊢
              simp only [Sem.run_bind] at k ⊢
              generalize (part f.type xs f.offset).run P w = q1 at k ⊢
              cases q1 with
              | halt s w1 => cases k
              | ok a w1 =>
                simp only [Result.andThen_ok] at k ⊢
                generalize (part f.type ys f.offset).run P w1 = q2 at k ⊢
                cases q2 with
                | halt s w2 => cases k
                | ok b w2 =>
                  simp only [Result.andThen_ok] at k ⊢
                  generalize (Op.equalIn (d + 2) f.type a b).run P w2 = q3 at k ⊢
                  cases q3 with
                  | halt s w3 => cases k
                  | ok c1 w3 =>
                    simp only [Result.andThen_ok] at k ⊢
                    cases c1
                    · simp only [Bool.not_false, if_true, Sem.run_pure] at k ⊢
                      cases k
                      rfl
                    · simp only [Bool.not_true, Bool.false_eq_true, if_false, Sem.run_pure] at k ⊢
                      cases k
                      rw [k2]; rfl
        split at hc
        · rename_i k hk; exact one 1 (by decide) hc (by simp only [cmpFields, if_neg hn, hk])
        · rename_i hk; exact one 2 (by decide) hc (by simp only [cmpFields, if_neg hn, hk])
        · rename_i hk; exact one 3 (by decide) hc (by simp only [cmpFields, if_neg hn, hk])
        · rename_i gs hk
          split at hc
          case h_2 => cases hc
          rename_i l1 i hl1 hi
          split at hc
          case isFalse => cases hc
          rename_i hcond
          cases hc
          rw [eqA_app, eqA_shift as bs f.offset i.size l1 hcond.2] at he
          cases h1 : eqA ((as.drop f.offset).take i.size) ((bs.drop f.offset).take i.size) l1 with
          | none => rw [h1] at he; cases he
          | some b1 =>
            rw [h1] at he
            cases h2 : eqA as bs r' with
            | none => rw [h2] at he; cases he
            | some b2 =>
              rw [h2] at he
              cases he
              have hpart : ∀ zs : Array Value, (part f.type zs f.offset).run P w = .ok (.agg (zs.extract f.offset (f.offset + i.size))) w := fun zs => by
                unfold part isAgg
                simp only [Sem.run_bind, run_underlying hk, Result.andThen_ok]
                simp [sizeOf, typeInfo, hi]
              have subR : ∀ (zs : Array Value) (cs : List AV), zs.size = cs.length → (∀ (j : Nat) (x : Value), zs[j]? = some x → x.oneCell' = true) → (∀ (j : Nat) (x : Value) (a : AV), zs[j]? = some x → cs[j]? = some a → R F own x a) → R F own (.agg (zs.extract f.offset (f.offset + i.size))) (.agg ((cs.drop f.offset).take i.size)) := by
                intro zs cs hl h1 hR
                refine .agg _ _ (by simp; omega) (fun j y hy => ?_) (fun j y a hy ha' => ?_)
                · rw [Array.getElem?_extract] at hy
                  split at hy
                  · exact h1 _ _ hy
                  · cases hy
                · rw [Array.getElem?_extract] at hy
                  split at hy
                  · rw [List.getElem?_take] at ha'
                    split at ha'
                    · rw [List.getElem?_drop] at ha'; exact hR _ _ _ hy ha'
                    · cases ha'
                  · cases hy
              have hfs : P.fieldsOf f.type = gs := by unfold Program.fieldsOf; rw [hk]
              have k := eq_fields h d (subR xs as lx ox rx) (subR ys bs ly oy ry) gs.toList l1 b1 hl1 h1
              have q := run_equalIn_agg (P := P) w (d + 1) f.type (xs.extract f.offset (f.offset + i.size)) (ys.extract f.offset (f.offset + i.size)) (by rw [hfs]; exact hk) hcond.1
              rw [hfs, k] at q
              have k2 := ih r' b2 hr h2
              unfold Op.eqFields
              rw [if_pos hn]
              simp only [Sem.run_bind, hpart, Result.andThen_ok, q]
              cases b1
              · simp
              · simpa using k2
        · cases hc

theorem ok_aeq (h : Inv Gl F own B w0 σ act w) {o : Oper} {neg : Bool} {xt yt : TypeId} {x y : Operand} (ho : o.op = .binOp (if neg then .neq else .eql) xt x y yt) {fs : Array Field} {l : List (Nat × Nat)} (ht : P.underlying xt = some (.struct fs)) (hl : cmpNest P fs.toList = some l)
    (hm : P.eqGuardType P.depth xt = false) (hh : P.stoodInHeld xt = false) {as bs : List AV} (hx : σ.val Gl (cOpd x) = .agg as) (hy : σ.val Gl (cOpd y) = .agg bs) {r : Bool} (hr : eqA as bs l = some r) :
    Ok1 P Gl B w0 σ act w o (.v (.bool (if neg then !r else r))) σ.h := by
  have rx := h.ev x; rw [hx] at rx
  have ry := h.ev y; rw [hy] at ry
  obtain ⟨xs, ex, _⟩ := rx.agg_inv
  obtain ⟨ys, ey, _⟩ := ry.agg_inv
  rw [ex] at rx; rw [ey] at ry
  have hf : P.fieldsOf xt = fs := by unfold Program.fieldsOf; rw [ht]
  have k := eq_nest h 9997 rx ry fs.toList l r hl hr
  have q := run_equalIn_agg (P := P) w 9999 xt xs ys (by rw [hf]; exact ht) hh
  rw [hf, k] at q
  have hq := eq_of (P := P) (w := w) xt _ _ q
  refine Ok1.v h ?_
  unfold execOp
  cases neg <;> simp only [ho, ex, ey, if_true, if_false, Bool.false_eq_true] <;> simp [run_eqGuard_agg w _ xt _ _ _ _ hm, binOp, hq]
end
end Abs
end Go.Proofs.YtnhgeocdffhkjaaDoor
