/- Arguments that came in, as values of the abstract machine. -/
import Derived.Test.YtnhgeocdffhkjaaDoorAbsT
import Derived.Deep.Slices
import Derived.WideShapes
import Derived.Lib.SmallJoins
namespace Go.Proofs.YtnhgeocdffhkjaaDoor
namespace Abs
open Go.RowKit
set_option linter.unusedVariables false
set_option linter.unusedSimpArgs false

mutual
/-- The cells are those of a value of the type (Z: the lists of a type that holds lists of itself). -/
def IsZ (Z : Nat → Nat → AV → Prop) : Ty → List AV → Prop
  | .int k, l => ∃ n, l = [.v (.int k n)] ∧ (Lit.int k n).wf = true
  | .bool, l => ∃ b, l = [.v (.bool b)]
  | .str, l => ∃ s : ByteArray, l = [.v (.string s)] ∧ s.size ≤ maxLen
  | .list e, l => ∃ xss : List (List AV), l = [.list e.size (xss.map (pack e))] ∧ xss.length ≤ maxLen ∧ ∀ xs ∈ xss, IsZ Z e xs
  | .tup fs, l => IsZL Z fs l
  | .fnc f, l => l = [.v (.func (.func f) #[] #[])]
  | .listF _, l => l = [.v (.slice none 0 0)]
  | .rl ty sz, l => ∃ xs, l = [.list sz xs] ∧ Z ty sz (.list sz xs)
def IsZL (Z : Nat → Nat → AV → Prop) : List Ty → List AV → Prop
  | [], l => l = []
  | t :: ts, l => ∃ a b, l = a ++ b ∧ IsZ Z t a ∧ IsZL Z ts b
end
/-- Such a list, so deep at most. -/
def ZN : Nat → Nat → Nat → AV → Prop
  | 0, ty, sz, a => ∃ T, rTab ty = some T ∧ T.size = sz ∧ a = .list sz []
  | n + 1, ty, sz, a => ∃ T, rTab ty = some T ∧ T.size = sz ∧ ∃ xss : List (List AV), a = .list sz (xss.map (pack T)) ∧ xss.length ≤ maxLen ∧ ∀ xs ∈ xss, IsZ (ZN n) T xs
def ZA (ty sz : Nat) (a : AV) : Prop := ∃ n, ZN n ty sz a
mutual
theorem IsZ.mono {Z Z' : Nat → Nat → AV → Prop} (hz : ∀ ty sz a, Z ty sz a → Z' ty sz a) : ∀ {T : Ty} {l : List AV}, IsZ Z T l → IsZ Z' T l
  | .int _, l, h => by simp only [IsZ] at h ⊢; exact h
  | .bool, l, h => by simp only [IsZ] at h ⊢; exact h
  | .str, l, h => by simp only [IsZ] at h ⊢; exact h
  | .list e, l, h => by
    simp only [IsZ] at h ⊢
    obtain ⟨xss, a, b, c⟩ := h
    exact ⟨xss, a, b, fun xs hx => IsZ.mono hz (c xs hx)⟩
  | .tup fs, l, h => by simp only [IsZ] at h ⊢; exact IsZL.mono hz h
  | .fnc f, l, h => by simp only [IsZ] at h ⊢; exact h
  | .listF e, l, h => by simp only [IsZ] at h ⊢; exact h
  | .rl ty sz, l, h => by
    simp only [IsZ] at h ⊢
    obtain ⟨xs, a, b⟩ := h
    exact ⟨xs, a, hz _ _ _ b⟩
theorem IsZL.mono {Z Z' : Nat → Nat → AV → Prop} (hz : ∀ ty sz a, Z ty sz a → Z' ty sz a) : ∀ {ts : List Ty} {l : List AV}, IsZL Z ts l → IsZL Z' ts l
  | [], l, h => by simp only [IsZL] at h ⊢; exact h
  | t :: ts, l, h => by
    simp only [IsZL] at h ⊢
    obtain ⟨a, b, e, h1, h2⟩ := h
    exact ⟨a, b, e, IsZ.mono hz h1, IsZL.mono hz h2⟩
end
theorem ZN.succ : ∀ (n ty sz : Nat) (a : AV), ZN n ty sz a → ZN (n + 1) ty sz a
  | 0, ty, sz, a, h => by
    simp only [ZN] at h ⊢
    obtain ⟨T, h1, h2, rfl⟩ := h
    exact ⟨T, h1, h2, [], rfl, Nat.zero_le _, fun xs q => by simp at q⟩
  | n + 1, ty, sz, a, h => by
    simp only [ZN] at h ⊢
    obtain ⟨T, h1, h2, xss, h3, h4, h5⟩ := h
    exact ⟨T, h1, h2, xss, h3, h4, fun xs q => (h5 xs q).mono fun ty sz a => ZN.succ n ty sz a⟩
/-- The cells are those of a value of the type. -/
abbrev Is (T : Ty) (l : List AV) : Prop := IsZ ZA T l
abbrev IsL (ts : List Ty) (l : List AV) : Prop := IsZL ZA ts l
theorem Is.ofN {n : Nat} {T : Ty} {l : List AV} (h : IsZ (ZN n) T l) : Is T l := h.mono fun _ _ _ q => ⟨n, q⟩

mutual
theorem IsZ.length {Z : Nat → Nat → AV → Prop} : ∀ {T : Ty} {l : List AV}, IsZ Z T l → l.length = T.size
  | .int _, l, h => by simp only [IsZ] at h; obtain ⟨n, rfl, _⟩ := h; rfl
  | .bool, l, h => by simp only [IsZ] at h; obtain ⟨b, rfl⟩ := h; rfl
  | .str, l, h => by simp only [IsZ] at h; obtain ⟨s, rfl, _⟩ := h; rfl
  | .list e, l, h => by simp only [IsZ] at h; obtain ⟨xs, rfl, _⟩ := h; rfl
  | .tup fs, l, h => by simp only [IsZ] at h; rw [IsZL.length h]; rfl
  | .fnc f, l, h => by simp only [IsZ] at h; subst h; rfl
  | .listF e, l, h => by simp only [IsZ] at h; subst h; rfl
  | .rl ty sz, l, h => by simp only [IsZ] at h; obtain ⟨xs, rfl, _⟩ := h; rfl
theorem IsZL.length {Z : Nat → Nat → AV → Prop} : ∀ {ts : List Ty} {l : List AV}, IsZL Z ts l → l.length = Ty.sizeL ts
  | [], l, h => by simp only [IsZL] at h; subst h; rfl
  | t :: ts, l, h => by
    simp only [IsZL] at h
    obtain ⟨a, b, rfl, h1, h2⟩ := h
    rw [List.length_append, IsZ.length h1, IsZL.length h2]; rfl
end

/-- The makes of a struct's fields, their places checked. -/
def tyFs (P : Program) (g : TypeId → Option Ty) : Nat → List Field → Option (List Ty)
  | _, [] => some []
  | o, f :: fs => match g f.type with
    | some T => if f.offset = o ∧ P.cellsOf f.type = T.size then match tyFs P g (o + T.size) fs with
        | some ts => some (T :: ts)
        | none => none
      else none
    | none => none
/-- A plain type's make, its layout checked. -/
def tyOf (P : Program) : Nat → TypeId → Option Ty
  | 0, _ => none
  | d + 1, t => match P.underlying t with
    | some (.int k) => some (.int k)
    | some .bool => some .bool
    | some .string => some .str
    | some (.slice e) => match rTab e with
      | some E => if P.cellsOf e = E.size ∧ 0 < E.size then some (.rl e E.size) else none
      | none => match tyOf P d e with
        | some E => if P.cellsOf e = E.size ∧ 0 < E.size then some (.list E) else none
        | none => none
    | some (.struct fs) => match tyFs P (tyOf P d) 0 fs.toList with
      | some ts => if P.cellsOf t = Ty.sizeL ts then some (.tup ts) else none
      | none => none
    | _ => none

section
variable {H : Type} {enc : TypeId × Value → H} {P : Program} {w : World}
/-- Cells, and what they read as. -/
def RdL (w : World) (cs : List Value) (l : List AV) : Prop := cs.length = l.length ∧ ∀ (j : Nat) (c : Value) (a : AV), cs[j]? = some c → l[j]? = some a → c.oneCell' = true ∧ RP (snap w) c a

theorem RdL.app {cs ds : List Value} {l m : List AV} (h : RdL w cs l) (k : RdL w ds m) : RdL w (cs ++ ds) (l ++ m) := by
  refine ⟨by simp [h.1, k.1], fun j c a p q => ?_⟩
  rcases Nat.lt_or_ge j cs.length with hj | hj
  · rw [List.getElem?_append_left hj] at p
    rw [List.getElem?_append_left (by rw [← h.1]; exact hj)] at q
    exact h.2 j c a p q
  · rw [List.getElem?_append_right hj] at p
    rw [List.getElem?_append_right (by rw [← h.1]; exact hj), ← h.1] at q
    exact k.2 _ c a p q
theorem RdL.one {c : Value} {a : AV} (h1 : c.oneCell' = true) (h : RP (snap w) c a) : RdL w [c] [a] := by
  refine ⟨rfl, fun j c' a' p q => ?_⟩
  cases j with
  | zero => simp at p q; subst p q; exact ⟨h1, h⟩
  | succ j => simp at p

theorem pack_cells {Z : Nat → Nat → AV → Prop} {T : Ty} {l : List AV} (h : IsZ Z T l) : (pack T l).cells = l := by
  cases T with
  | tup fs => rfl
  | int k => simp only [IsZ] at h; obtain ⟨n, rfl, _⟩ := h; rfl
  | bool => simp only [IsZ] at h; obtain ⟨b, rfl⟩ := h; rfl
  | str => simp only [IsZ] at h; obtain ⟨s, rfl, _⟩ := h; rfl
  | list e => simp only [IsZ] at h; obtain ⟨xs, rfl, _⟩ := h; rfl
  | fnc f => simp only [IsZ] at h; subst h; rfl
  | listF e => simp only [IsZ] at h; subst h; rfl
  | rl ty sz => simp only [IsZ] at h; obtain ⟨xs, rfl, _⟩ := h; rfl

/-- The elements of a slice. -/
theorem read_elems {n : Nat} {e : TypeId} {E : Ty} {t : TypeId} {cs : List Value} {x : DataW H × List MemPlace} (hk : P.underlying t = some (.slice e)) (hsz : P.cellsOf e = E.size)
    (ih : ∀ (cs : List Value) (x : DataW H × List MemPlace), DataW.trod enc P w 0 (fun _ => true) true n e cs = some x → ∃ l, RdL w cs l ∧ IsZ (ZN n) E l)
    (hx : DataW.trod enc P w 0 (fun _ => true) true (n + 1) t cs = some x) : ∃ xss : List (List AV), RdL w cs [.list E.size (xss.map (pack E))] ∧ xss.length ≤ maxLen ∧ ∀ xs ∈ xss, IsZ (ZN n) E xs := by
  rcases DataW.trod_slice hk hx with ⟨rfl, _⟩ | ⟨a, len, cap, elems, rest, m, hm, rfl, _, _, hlc, hcm, hlen, hel, _, _⟩
  · exact ⟨[], RdL.one rfl (.nil _), by simp, fun xs h => by simp at h⟩
  · cases hm
    obtain ⟨xss, hxl, hxp⟩ := exists_list len (fun i l => IsZ (ZN n) E l ∧ ∀ (j : Nat) (a' : AV), l[j]? = some a' → ∃ c, w.cell? (a.add (i * E.size + j)) = some c ∧ c.oneCell' = true ∧ RP (snap w) c a') (fun i hi => by
      have hi' : i < elems.length := by omega
      have he := hel i hi
      rw [List.getElem?_eq_getElem hi', Option.bind_eq_some_iff] at he
      obtain ⟨cs', hcs, ht⟩ := he
      obtain ⟨l, hr, hI⟩ := ih cs' _ ht
      obtain ⟨_, hcl, hat⟩ := World.cells?_some hcs
      refine ⟨l, hI, fun j a' hj => ?_⟩
      have hjl : j < l.length := (List.getElem?_eq_some_iff.1 hj).1
      have hjc : j < cs'.length := by rw [hr.1]; exact hjl
      have hc := hat j (by rw [← hcl]; exact hjc)
      rw [hsz, add_add_] at hc
      obtain ⟨q1, q2⟩ := hr.2 j cs'[j] a' (List.getElem?_eq_getElem hjc) hj
      exact ⟨cs'[j], by rw [hc]; exact List.getElem?_eq_getElem hjc, q1, q2⟩)
    refine ⟨xss, RdL.one rfl ?_, by omega, fun xs h => ?_⟩
    · have get : ∀ (i : Nat) (e' : AV), (xss.map (pack E))[i]? = some e' → ∃ l, xss[i]? = some l ∧ e' = pack E l ∧ IsZ (ZN n) E l := fun i e' h => by
        rw [List.getElem?_map] at h
        cases hl : xss[i]? with
        | none => rw [hl] at h; cases h
        | some l => rw [hl] at h; cases h; exact ⟨l, rfl, rfl, (hxp i l hl).1⟩
      refine .list a len cap E.size _ (fun k => (w.cell? (a.add k)).getD undef) (by simp [hxl]) hlc (fun i e' h => ?_) (fun i j e' a' h h' => ?_) (fun i j e' a' h h' => ?_)
      · obtain ⟨l, _, rfl, hI⟩ := get i e' h
        rw [pack_cells hI]; exact hI.length
      · obtain ⟨l, hl, rfl, hI⟩ := get i e' h
        rw [pack_cells hI] at h'
        obtain ⟨c, c1, c2, c3⟩ := (hxp i l hl).2 j a' h'
        rw [c1]
        exact ⟨c1, c2⟩
      · obtain ⟨l, hl, rfl, hI⟩ := get i e' h
        rw [pack_cells hI] at h'
        obtain ⟨c, c1, c2, c3⟩ := (hxp i l hl).2 j a' h'
        rw [c1]
        exact c3
    · obtain ⟨i, hi⟩ := List.mem_iff_getElem?.1 h
      exact (hxp i xs hi).1
/-- The types that hold lists of themselves are those of the program. -/
def rOk (P : Program) : Prop := ∀ e T, rTab e = some T → ∃ d, tyOf P d e = some T
theorem read_cells (hrt : rOk P) : ∀ (fuel d : Nat) (t : TypeId) (T : Ty), tyOf P d t = some T → ∀ (cs : List Value) (x : DataW H × List MemPlace), DataW.trod enc P w 0 (fun _ => true) true fuel t cs = some x → ∃ l, RdL w cs l ∧ IsZ (ZN fuel) T l := by
  intro fuel
  induction fuel with
  | zero => intro d t T hT cs x hx; simp [DataW.trod] at hx
  | succ n ih =>
    intro d t T hT cs x hx
    have up : ∀ {T : Ty} {l : List AV}, IsZ (ZN n) T l → IsZ (ZN (n + 1)) T l := fun h => h.mono fun ty sz a => ZN.succ n ty sz a
    have fields : ∀ (d : Nat) (fs : List Field) (o : Nat) (ts : List Ty), tyFs P (tyOf P d) o fs = some ts → (∀ f ∈ fs, ∃ y, DataW.trod enc P w 0 (fun _ => true) true n f.type ((cs.drop f.offset).take (P.cellsOf f.type)) = some y) → cs.length = o + Ty.sizeL ts → ∃ l, RdL w (cs.drop o) l ∧ IsZL (ZN (n + 1)) ts l := by
      intro d fs
      induction fs with
      | nil =>
        intro o ts h1 _ h3
        simp only [tyFs] at h1
        cases h1
        refine ⟨[], ?_, rfl⟩
        rw [List.drop_eq_nil_of_le (by simp [Ty.sizeL] at h3; omega)]
        exact ⟨rfl, fun j c a p => by simp at p⟩
      | cons f fs ihf =>
        intro o ts h1 h2 h3
        simp only [tyFs] at h1
        cases hF : tyOf P d f.type with
        | none => rw [hF] at h1; cases h1
        | some T1 =>
          rw [hF] at h1
          simp only at h1
          split at h1
          · rename_i hc
            cases hR : tyFs P (tyOf P d) (o + T1.size) fs with
            | none => rw [hR] at h1; cases h1
            | some ts' =>
              rw [hR] at h1; cases h1
              obtain ⟨y, hy⟩ := h2 f (by simp)
              rw [hc.1, hc.2] at hy
              obtain ⟨l1, r1, i1⟩ := ih d f.type T1 hF _ y hy
              obtain ⟨l2, r2, i2⟩ := ihf (o + T1.size) ts' hR (fun g hg => h2 g (by simp [hg])) (by simp only [Ty.sizeL] at h3; omega)
              refine ⟨l1 ++ l2, ?_, l1, l2, rfl, up i1, i2⟩
              have : cs.drop o = (cs.drop o).take T1.size ++ cs.drop (o + T1.size) := by
                rw [← List.drop_drop, List.take_append_drop]
              rw [this]
              exact r1.app r2
          · cases h1
    cases d with
    | zero => simp [tyOf] at hT
    | succ d =>
    simp only [tyOf] at hT
    split at hT
    · rename_i k hk
      cases hT
      obtain ⟨n, rfl, _, hw⟩ := DataW.trod_int hk hx
      exact ⟨[.v (.int k n)], RdL.one rfl (.v _), n, rfl, hw⟩
    · rename_i hk
      cases hT
      obtain ⟨b, rfl, _⟩ := DataW.trod_bool hk hx
      exact ⟨[.v (.bool b)], RdL.one rfl (.v _), b, rfl⟩
    · rename_i hk
      cases hT
      obtain ⟨s, rfl, _, hs⟩ := DataW.trod_string hk hx
      exact ⟨[.v (.string s)], RdL.one rfl (.v _), s, rfl, hs⟩
    · rename_i e hk
      cases hr : rTab e with
      | some E =>
        rw [hr] at hT
        simp only at hT
        split at hT
        · rename_i hsz
          cases hT
          obtain ⟨d', hd⟩ := hrt e E hr
          obtain ⟨xss, h1, h2, h3⟩ := read_elems hk hsz.1 (fun cs x h => ih d' e E hd cs x h) hx
          exact ⟨_, h1, _, rfl, E, hr, rfl, xss, rfl, h2, h3⟩
        · cases hT
      | none =>
        rw [hr] at hT
        simp only at hT
        cases hE : tyOf P d e with
        | none => rw [hE] at hT; cases hT
        | some E =>
          rw [hE] at hT
          simp only at hT
          split at hT
          · rename_i hsz
            cases hT
            obtain ⟨xss, h1, h2, h3⟩ := read_elems hk hsz.1 (fun cs x h => ih d e E hE cs x h) hx
            exact ⟨_, h1, xss, rfl, h2, fun xs q => up (h3 xs q)⟩
          · cases hT
    · rename_i fs hk
      cases hF : tyFs P (tyOf P d) 0 fs.toList with
      | none => rw [hF] at hT; cases hT
      | some ts =>
        rw [hF] at hT
        simp only at hT
        split at hT
        · rename_i hsz
          cases hT
          obtain ⟨xs, m, hm, _, hcl, hxl, hf⟩ := DataW.trod_struct hk hx
          cases hm
          obtain ⟨l, hr, hI⟩ := fields d fs.toList 0 ts hF (fun f hfm => by
            obtain ⟨i, hi⟩ := List.mem_iff_getElem?.1 hfm
            have hi' : fs[i]? = some f := by simpa using hi
            have hlt : i < xs.length := by rw [hxl]; exact (Array.getElem?_eq_some_iff.1 hi').1
            exact ⟨xs[i], by rw [hf i f hi', List.getElem?_eq_getElem hlt]⟩) (by omega)
          exact ⟨l, by simpa using hr, by simp only [IsZ]; exact hI⟩
        · cases hT
    · cases hT

/-- A value of a plain type. -/
def IsV (T : Ty) (a : AV) : Prop := ∃ l, Is T l ∧ a = pack T l

theorem read_arg {d : Nat} {t : TypeId} {T : Ty} (hrt : rOk P) (hT : tyOf P d t = some T) {r : Reach} {b0 : Nat} {v : Value} {D : DataW H} {p : List MemPlace} (hv : Value.okWide P w r b0 t v) (h : DataW.Trod enc P w 0 (fun _ => true) true t v D p) : ∃ a, RP (snap w) v a ∧ IsV T a := by
  obtain ⟨fuel, hf⟩ := h
  obtain ⟨l, hr, hI⟩ := read_cells hrt fuel d t T hT _ _ hf
  have hI := Is.ofN hI
  refine ⟨pack T l, ?_, l, hI, rfl⟩
  have single : v.cells.toList = [v] → T.isTup = false → RP (snap w) v (pack T l) := by
    intro h1 h2
    have hl := hr.1
    rw [h1] at hr
    have hl1 : l.length = 1 := by rw [← hr.1]; rfl
    obtain ⟨a, rfl⟩ := List.length_eq_one_iff.1 hl1
    have e : pack T [a] = a := by simp [pack, h2]
    rw [e]
    exact (hr.2 0 v a rfl rfl).2
  have notagg : ∀ {dd : TypeDesc}, P.underlying t = some dd → (match dd with | .struct _ => true | .array _ _ => true | _ => false) = false → v.cells.toList = [v] := by
    intro dd hd hn
    have hv' : Cell.okWide P w r b0 t v := by
      unfold Value.okWide at hv
      rw [hd] at hv
      cases dd <;> first | exact hv | cases hn
    cases v with
    | agg cs =>
      exfalso
      unfold Cell.okWide at hv'
      rw [hd] at hv'
      cases dd <;> first | (cases hn; done) | (simp [Cell.ok, hd] at hv'; done) | (simp_all [Cell.ok]; done)
    | _ => rfl
  cases d with
  | zero => simp [tyOf] at hT
  | succ d =>
    simp only [tyOf] at hT
    split at hT
    · rename_i k hk; cases hT; exact single (notagg hk rfl) rfl
    · rename_i hk; cases hT; exact single (notagg hk rfl) rfl
    · rename_i hk; cases hT; exact single (notagg hk rfl) rfl
    · rename_i e hk
      split at hT
      · split at hT
        · cases hT; exact single (notagg hk rfl) rfl
        · cases hT
      · split at hT
        · split at hT
          · cases hT; exact single (notagg hk rfl) rfl
          · cases hT
        · cases hT
    · rename_i fs hk
      split at hT
      · split at hT
        · cases hT
          unfold Value.okWide at hv
          rw [hk] at hv
          obtain ⟨cs, rfl, _, _⟩ := hv
          have e : ∀ fs, pack (Ty.tup fs) l = .agg l := fun _ => rfl
          rw [e]
          have hr' : RdL w cs.toList l := hr
          refine .agg cs l (by have := hr'.1; simpa using this) (fun j x p => ?_) (fun j x a p q => (hr'.2 j x a (by simpa using p) q).2)
          have hj : j < l.length := by rw [← hr'.1]; have := (Array.getElem?_eq_some_iff.1 p).1; simpa using this
          exact (hr'.2 j x l[j] (by simpa using p) (List.getElem?_eq_getElem hj)).1
        · cases hT
      · cases hT
    · cases hT

/-- From a contract to the call. -/
theorem calls_true {f : Nat} {xs : Array Value} {l : List AV} (hP : Pure P noGl f l (.v (.bool true))) (hxs : RPL (snap w) xs l) : Calls P f xs w fun e w' => e = .returned (.bool true) ∧ Below w.heap.size w w' := by
  refine (hP w (snap w) xs (fun _ _ h => h) (fun g cs h => by cases h) (fun g cs h => by cases h) hxs).mono ?_
  rintro e w' ⟨v, F', rfl, _, _, _, hR, hb⟩
  cases hR
  exact ⟨rfl, hb⟩
theorem RPL.nil {F : Addr → Option Value} : RPL F #[] [] := ⟨rfl, fun i x a p => by simp at p⟩
theorem RPL.cons {F : Addr → Option Value} {x : Value} {a : AV} {xs : List Value} {l : List AV} (h : RP F x a) (k : RPL F xs.toArray l) : RPL F (x :: xs).toArray (a :: l) := by
  refine ⟨by have := k.1; simp at this; simp [this], fun i y b p q => ?_⟩
  cases i with
  | zero => simp at p q; subst p q; exact h
  | succ i => exact k.2 i y b (by simpa using p) (by simpa using q)
end

theorem dec_int {k : IntKind} {a : AV} (h : IsV (.int k) a) : ∃ n, a = .v (.int k n) ∧ (Lit.int k n).wf = true := by
  obtain ⟨l, h1, rfl⟩ := h
  simp only [Is, IsZ] at h1
  obtain ⟨n, rfl, hw⟩ := h1
  exact ⟨n, rfl, hw⟩
theorem dec_bool {a : AV} (h : IsV .bool a) : ∃ b, a = .v (.bool b) := by
  obtain ⟨l, h1, rfl⟩ := h
  simp only [Is, IsZ] at h1
  obtain ⟨n, rfl⟩ := h1
  exact ⟨n, rfl⟩
theorem dec_str {a : AV} (h : IsV .str a) : ∃ s : ByteArray, a = .v (.string s) ∧ s.size ≤ maxLen := by
  obtain ⟨l, h1, rfl⟩ := h
  simp only [Is, IsZ] at h1
  obtain ⟨n, rfl, hw⟩ := h1
  exact ⟨n, rfl, hw⟩
/-- A list, its elements decoded. -/
theorem dec_list {α : Type} {E : Ty} (en : α → AV) (p : α → Prop) (hd : ∀ a, IsV E a → ∃ z, a = en z ∧ p z) {a : AV} (h : IsV (.list E) a) : ∃ zs : List α, a = .list E.size (zs.map en) ∧ zs.length ≤ maxLen ∧ ∀ z ∈ zs, p z := by
  obtain ⟨l, h1, rfl⟩ := h
  simp only [Is, IsZ] at h1
  obtain ⟨xss, rfl, hl, hx⟩ := h1
  have key : ∀ xss : List (List AV), (∀ xs ∈ xss, Is E xs) → ∃ zs : List α, xss.map (pack E) = zs.map en ∧ ∀ z ∈ zs, p z := by
    intro xss
    induction xss with
    | nil => intro _; exact ⟨[], rfl, fun z h => by simp at h⟩
    | cons x xss ih =>
      intro h
      obtain ⟨zs, e1, e2⟩ := ih fun xs hx => h xs (by simp [hx])
      obtain ⟨z, e3, e4⟩ := hd (pack E x) ⟨x, h x (by simp), rfl⟩
      refine ⟨z :: zs, by simp [e1, e3], fun y hy => ?_⟩
      rcases List.mem_cons.1 hy with rfl | hy
      · exact e4
      · exact e2 y hy
  obtain ⟨zs, e1, e2⟩ := key xss hx
  refine ⟨zs, ?_, ?_, e2⟩
  · show AV.list E.size (xss.map (pack E)) = _
    rw [e1]
  · have := congrArg List.length e1
    simp at this
    omega
/-- The cells of a struct, one after the other. -/
theorem isL_cons {t : Ty} {ts : List Ty} {l : List AV} (ht : t.isTup = false) (h : IsL (t :: ts) l) : ∃ a m, l = a :: m ∧ IsV t a ∧ IsL ts m := by
  simp only [IsL, IsZL] at h
  obtain ⟨x, y, rfl, h1, h2⟩ := h
  have hl := h1.length
  have hs : t.size = 1 := by cases t <;> first | rfl | cases ht
  rw [hs] at hl
  obtain ⟨a, rfl⟩ := List.length_eq_one_iff.1 hl
  exact ⟨a, y, rfl, ⟨[a], h1, by simp [pack, ht]⟩, h2⟩
theorem isL_nil {l : List AV} (h : IsL [] l) : l = [] := by simpa only [IsL, IsZL] using h
theorem dec_tup {ts : List Ty} {a : AV} (h : IsV (.tup ts) a) : ∃ l, a = .agg l ∧ IsL ts l := by
  obtain ⟨l, h1, rfl⟩ := h
  simp only [Is, IsZ] at h1
  exact ⟨l, rfl, h1⟩
theorem dec_bytes {a : AV} (h : IsV (.list (.int .u8)) a) : ∃ zs : List Int, a = .list 1 (zs.map e8) ∧ zs.length ≤ maxLen ∧ ∀ z ∈ zs, 0 ≤ z ∧ z ≤ 255 := by
  refine dec_list e8 (fun z => 0 ≤ z ∧ z ≤ 255) (fun a ha => ?_) h
  obtain ⟨n, rfl, hw⟩ := dec_int ha
  exact ⟨n, rfl, bounds_u8 hw⟩
end Abs
end Go.Proofs.YtnhgeocdffhkjaaDoor
