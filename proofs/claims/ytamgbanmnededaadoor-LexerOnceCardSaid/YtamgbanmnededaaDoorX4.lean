/- The typed machine: heaps that are turned; values read as native ones. -/
import Derived.Test.YtamgbanmnededaaDoorX3
namespace Go.Proofs.YtamgbanmnededaaDoor
namespace Abs
open Go.RowKit
set_option linter.unusedVariables false
set_option linter.unusedSimpArgs false

def same2 : XO → XO → Prop
  | .row ty T _ es, .row ty' T' _ es' => ty = ty' ∧ T = T' ∧ es.length = es'.length
  | .box _ _, .box _ _ => True
  | .vec _ cs, .vec _ cs' => cs.length = cs'.length
  | _, _ => False
theorem same2.refl (o : XO) : same2 o o := by cases o <;> simp [same2]
theorem same2.len {o o' : XO} (h : same2 o o') : o'.len = o.len := by
  cases o <;> cases o' <;> simp [same2] at h
  · simp only [XO.len]; exact h.2.2.symm
  · rfl
  · simp only [XO.len]; exact h.symm

def hit (kl : List Nat) : XV → Bool
  | .row j => kl.contains j
  | .sub j _ _ => kl.contains j
  | .csub j _ => kl.contains j
  | .vrow j => kl.contains j
  | .me j => kl.contains j
  | .ptr j _ _ => kl.contains j
  | _ => false
def kill1L (kl : List Nat) (x : XV) : XV := kl.foldl (fun x id => kill1 id x) x
def killAL (kl : List Nat) (x : XV) : XV := kl.foldl (fun x id => killA id x) x
def killTL (kl : List Nat) (x : XV) : XV := kl.foldl (fun x id => killT id x) x
theorem kill1_any (id : Nat) : kill1 id .any = .any := rfl
theorem kill1L_any (kl : List Nat) : kill1L kl .any = .any := by
  induction kl with
  | nil => rfl
  | cons k kl ih => exact ih
theorem kill1_eq (id : Nat) (x : XV) : kill1 id x = if hit [id] x = true then .any else x := by
  have key : ∀ j, (Nat.beq j id = true) ↔ ([id].contains j = true) := fun j => by simp
  cases x <;> simp only [kill1, hit, key] <;> rfl
theorem kill1L_eq (kl : List Nat) : ∀ x, kill1L kl x = if hit kl x = true then .any else x := by
  induction kl with
  | nil => intro x; cases x <;> rfl
  | cons k kl ih =>
    intro x
    show kill1L kl (kill1 k x) = _
    rw [kill1_eq]
    have hc : hit (k :: kl) x = (hit [k] x || hit kl x) := by
      cases x <;> simp [hit, List.contains_cons]
    rw [hc]
    by_cases h1 : hit [k] x = true
    · rw [if_pos h1, kill1L_any, h1]; rfl
    · rw [if_neg h1, ih]
      simp only [Bool.not_eq_true] at h1
      rw [h1]; rfl
theorem killAL_agg (kl : List Nat) : ∀ cs, killAL kl (.agg cs) = .agg (cs.map (kill1L kl)) := by
  induction kl with
  | nil => intro cs; show XV.agg cs = .agg (cs.map fun x => x); simp
  | cons k kl ih =>
    intro cs
    show killAL kl (.agg (cs.map (kill1 k))) = _
    rw [ih, List.map_map]; rfl
theorem killAL_else (kl : List Nat) : ∀ x, (∀ cs, x ≠ .agg cs) → killAL kl x = kill1L kl x := by
  induction kl with
  | nil => intro x _; rfl
  | cons k kl ih =>
    intro x hx
    have e : killA k x = kill1 k x := by cases x <;> first | rfl | exact absurd rfl (hx _)
    show killAL kl (killA k x) = kill1L kl (kill1 k x)
    rw [e]
    refine ih _ fun cs q => ?_
    rw [kill1_eq] at q
    split at q
    · cases q
    · exact hx cs q
theorem killTL_tup (kl : List Nat) : ∀ vs, killTL kl (.tup vs) = .tup (vs.map (killAL kl)) := by
  induction kl with
  | nil => intro cs; show XV.tup cs = .tup (cs.map fun x => x); simp
  | cons k kl ih =>
    intro cs
    show killTL kl (.tup (cs.map (killA k))) = _
    rw [ih, List.map_map]; rfl
theorem killTL_else (kl : List Nat) : ∀ x, (∀ vs, x ≠ .tup vs) → killTL kl x = killAL kl x := by
  induction kl with
  | nil => intro x _; rfl
  | cons k kl ih =>
    intro x hx
    have e : killT k x = killA k x := by cases x <;> first | rfl | exact absurd rfl (hx _)
    show killTL kl (killT k x) = killAL kl (killA k x)
    rw [e]
    refine ih _ fun vs q => ?_
    by_cases ha : ∃ cs, x = .agg cs
    · obtain ⟨cs, rfl⟩ := ha; cases q
    · have e2 : killA k x = kill1 k x := by cases x <;> first | rfl | exact absurd ⟨_, rfl⟩ ha
      rw [e2, kill1_eq] at q
      split at q
      · cases q
      · exact hx vs q
theorem killL_map (kl : List Nat) : ∀ t, killL kl t = t.map (killTL kl) := by
  induction kl with
  | nil => intro t; show t = t.map fun x => x; simp
  | cons k kl ih =>
    intro t
    show killL kl (t.map (killT k)) = _
    rw [ih, List.map_map]; rfl

section
variable {ρ ρ' ρ'' : List Nat} {h h' h'' : List XO} {H H' H'' : List AObj}

theorem V1.not_agg {x : XV} {a : AV} (hv : V1 ρ h x a) : (∀ cs, x ≠ .agg cs) ∧ ∀ vs, x ≠ .tup vs := by
  refine ⟨fun cs q => ?_, fun vs q => ?_⟩ <;> (subst q; exact hv)
theorem VA.of1 {x : XV} {a : AV} (hv : V1 ρ h x a) : VA ρ h x a := by
  cases x <;> first | exact hv | exact hv.elim
theorem VT.ofA {x : XV} {a : AV} (hv : VA ρ h x a) : VT ρ h x a := by
  cases x <;> first | exact hv | exact hv.elim
theorem VT.of1 {x : XV} {a : AV} (hv : V1 ρ h x a) : VT ρ h x a := VT.ofA (VA.of1 hv)

/-- What is known of values, the heap turned. -/
def Trn (ρ : List Nat) (h : List XO) (ρ' : List Nat) (h' : List XO) (kl : List Nat) : Prop := ∀ x a, V1 ρ h x a → V1 ρ' h' (kill1L kl x) a
theorem Trn.A {kl : List Nat} (ht : Trn ρ h ρ' h' kl) {x : XV} {a : AV} (hv : VA ρ h x a) : VA ρ' h' (killAL kl x) a := by
  by_cases ha : ∃ cs, x = .agg cs
  · obtain ⟨cs, rfl⟩ := ha
    obtain ⟨as, rfl, hc⟩ := hv
    rw [killAL_agg]
    refine ⟨as, rfl, by simp [hc.1], fun i y b p q => ?_⟩
    rw [List.getElem?_map] at p
    cases hy : cs[i]? with
    | none => rw [hy] at p; cases p
    | some z => rw [hy] at p; cases p; exact ht z b (hc.2 i z b hy q)
  · rw [killAL_else kl x fun cs q => ha ⟨cs, q⟩]
    exact VA.of1 (ht x a (by cases x <;> first | exact hv | exact absurd ⟨_, rfl⟩ ha))
theorem Trn.T {kl : List Nat} (ht : Trn ρ h ρ' h' kl) {x : XV} {a : AV} (hv : VT ρ h x a) : VT ρ' h' (killTL kl x) a := by
  by_cases ha : ∃ cs, x = .tup cs
  · obtain ⟨cs, rfl⟩ := ha
    obtain ⟨as, rfl, hc⟩ := hv
    rw [killTL_tup]
    refine ⟨as, rfl, by simp [hc.1], fun i y b p q => ?_⟩
    rw [List.getElem?_map] at p
    cases hy : cs[i]? with
    | none => rw [hy] at p; cases p
    | some z => rw [hy] at p; cases p; exact ht.A (hc.2 i z b hy q)
  · rw [killTL_else kl x fun cs q => ha ⟨cs, q⟩]
    exact VT.ofA (ht.A (by cases x <;> first | exact hv | exact absurd ⟨_, rfl⟩ ha))
theorem Trn.trans {kl kl' : List Nat} (h1 : Trn ρ h ρ' h' kl) (h2 : Trn ρ' h' ρ'' h'' kl') : Trn ρ h ρ'' h'' (kl ++ kl') := fun x a hv => by
  have : kill1L (kl ++ kl') x = kill1L kl' (kill1L kl x) := by simp [kill1L, List.foldl_append]
  rw [this]; exact h2 _ _ (h1 x a hv)
theorem Trn.mk {kl : List Nat} (hh : ∀ id o, h[id]? = some o → id ∉ kl → ∃ o', h'[id]? = some o' ∧ same2 o o') (hr : ∀ id, id < h.length → ρ'.getD id 0 = ρ.getD id 0) : Trn ρ h ρ' h' kl := fun x a hv => by
  rw [kill1L_eq]
  split
  · trivial
  · rename_i hh1
    have lt : ∀ {id : Nat} {o : XO}, h[id]? = some o → id < h.length := fun q => (List.getElem?_eq_some_iff.1 q).1
    cases x with
    | row id =>
      obtain ⟨ty, T, fz, es, e1, rfl⟩ := hv
      obtain ⟨o', e2, hs⟩ := hh id _ e1 (by simpa [hit] using hh1)
      cases o' with
      | box ty' cs => exact hs.elim
      | vec ty' cs => exact hs.elim
      | row ty' T' fz' es' =>
        obtain ⟨rfl, rfl, hl⟩ := hs
        exact ⟨_, _, _, es', e2, by rw [hr id (lt e1), hl]⟩
    | csub id len =>
      obtain ⟨ty, T, fz, es, e1, rfl, hle⟩ := hv
      obtain ⟨o', e2, hs⟩ := hh id _ e1 (by simpa [hit] using hh1)
      cases o' with
      | box ty' cs => exact hs.elim
      | vec ty' cs => exact hs.elim
      | row ty' T' fz' es' =>
        obtain ⟨rfl, rfl, hl⟩ := hs
        exact ⟨_, _, _, es', e2, by rw [hr id (lt e1), hl], by rw [← hl]; exact hle⟩
    | vrow id =>
      obtain ⟨ty, cs, e1, rfl⟩ := hv
      obtain ⟨o', e2, hs⟩ := hh id _ e1 (by simpa [hit] using hh1)
      cases o' with
      | box ty' cs => exact hs.elim
      | row => exact hs.elim
      | vec ty' cs' =>
        have hl : cs.length = cs'.length := hs
        exact ⟨_, cs', e2, by rw [hr id (lt e1), hl]⟩
    | sub id off len =>
      obtain ⟨ty, T, fz, es, e1, rfl⟩ := hv
      obtain ⟨o', e2, hs⟩ := hh id _ e1 (by simpa [hit] using hh1)
      cases o' with
      | box ty' cs => exact hs.elim
      | vec ty' cs => exact hs.elim
      | row ty' T' fz' es' =>
        obtain ⟨rfl, rfl, hl⟩ := hs
        exact ⟨_, _, _, es', e2, by rw [hr id (lt e1), hl]⟩
    | me id =>
      rcases hv with hv | ⟨o, e1, rfl⟩
      · exact .inl hv
      · obtain ⟨o', e2, hs⟩ := hh id _ e1 (by simpa [hit] using hh1)
        exact .inr ⟨o', e2, by rw [hr id (lt e1), hs.len]⟩
    | ptr id i off =>
      obtain ⟨o, e1, rfl⟩ := hv
      obtain ⟨o', e2, hs⟩ := hh id _ e1 (by simpa [hit] using hh1)
      exact ⟨o', e2, by rw [hr id (lt e1), hs.len]⟩
    | _ => exact hv

theorem kill1L_nil (x : XV) : kill1L [] x = x := rfl
theorem map_kill_nil (cs : List XV) : cs.map (kill1L []) = cs := by show cs.map (fun x => x) = cs; simp
theorem Trn.cells {kl : List Nat} (ht : Trn ρ h ρ' h' kl) {cs : List XV} {as : List AV} (hc : All2 (V1 ρ h) cs as) : All2 (V1 ρ' h') (cs.map (kill1L kl)) as :=
  ⟨by simp [hc.1], fun i y b p q => by
    rw [List.getElem?_map] at p
    cases hy : cs[i]? with
    | none => rw [hy] at p; cases p
    | some z => rw [hy] at p; cases p; exact ht z b (hc.2 i z b hy q)⟩
def killO1 (kl : List Nat) : XO → XO
  | .box ty cs => .box ty (cs.map (kill1L kl))
  | .vec ty cs => .vec ty (cs.map (kill1L kl))
  | o => o
theorem Trn.obj {kl : List Nat} (ht : Trn ρ h ρ' h' kl) {o : XO} {O : AObj} (ho : ObjS ρ h o O) : ObjS ρ' h' (killO1 kl o) O := by
  cases o with
  | row ty T fz es => exact ho
  | box ty cs =>
    obtain ⟨a, b, c, d, e, he, hc⟩ := ho
    exact ⟨a, by simpa using b, c, d, e, he, ht.cells hc⟩
  | vec ty cs =>
    obtain ⟨a, b, c, d, hc⟩ := ho
    refine ⟨a, b, c, d, by simp [hc.1], fun i y b p q => ?_⟩
    rw [List.getElem?_map] at p
    cases hy : cs[i]? with
    | none => rw [hy] at p; cases p
    | some z => rw [hy] at p; cases p; exact ⟨(hc.2 i z b hy q).1, ht z b (hc.2 i z b hy q).2⟩
theorem killO1_nil (o : XO) : killO1 [] o = o := by
  cases o with
  | row => rfl
  | box ty cs => simp only [killO1, map_kill_nil]
  | vec ty cs => simp only [killO1, map_kill_nil]
theorem killH_map (kl : List Nat) : ∀ h, killH kl h = h.map (killO1 kl) := by
  induction kl with
  | nil => intro h; show h = h.map (killO1 []); rw [show killO1 [] = fun o => o from funext killO1_nil]; simp
  | cons k kl ih =>
    intro h
    show killH kl (h.map (killO k)) = _
    rw [ih, List.map_map]
    congr 1
    funext o
    cases o with
    | row => rfl
    | box ty cs => simp only [Function.comp, killO, killO1, List.map_map]; rfl
    | vec ty cs => simp only [Function.comp, killO, killO1, List.map_map]; rfl

theorem HS.lt (hs : HS ρ h H) {i : Nat} (hi : i < h.length) : ρ.getD i 0 < H.length := by
  obtain ⟨O, hO, _⟩ := hs.hr i h[i] (List.getElem?_eq_getElem hi)
  exact (List.getElem?_eq_some_iff.1 hO).1
theorem HS.mem_lt (hs : HS ρ h H) {x : Nat} (hx : x ∈ ρ) : x < H.length := by
  obtain ⟨i, hi⟩ := List.mem_iff_getElem?.1 hx
  have hl : i < ρ.length := (List.getElem?_eq_some_iff.1 hi).1
  have := hs.lt (i := i) (by rw [← hs.rl]; exact hl)
  simpa [List.getD, hi] using this
theorem HS.inj (hs : HS ρ h H) {i j : Nat} (hi : i < h.length) (hj : j < h.length) (he : ρ.getD i 0 = ρ.getD j 0) : i = j := by
  have hi' : i < ρ.length := by rw [hs.rl]; exact hi
  have hj' : j < ρ.length := by rw [hs.rl]; exact hj
  simp only [List.getD, List.getElem?_eq_getElem hi', List.getElem?_eq_getElem hj', Option.getD_some] at he
  have hp := List.pairwise_iff_getElem.1 hs.nd
  rcases Nat.lt_trichotomy i j with q | q | q
  · exact absurd he (hp i j hi' hj' q)
  · exact q
  · exact absurd he.symm (hp j i hj' hi' q)

structure Upd (ρ : List Nat) (h : List XO) (H : List AObj) (ρ' : List Nat) (h' : List XO) (H' : List AObj) (kl tch : List Nat) : Prop where
  hs : HS ρ' h' H'
  tr : Trn ρ h ρ' h' kl
  ge : H.length ≤ H'.length
  fr : ∀ j, j < H.length → (∀ id ∈ tch, id < h.length → ρ.getD id 0 ≠ j) → H'[j]? = H[j]?
  ap : ∃ news, ρ' = ρ ++ news ∧ ∀ x ∈ news, H.length ≤ x
  hl : h.length ≤ h'.length

theorem Upd.same (hs : HS ρ h H) : Upd ρ h H ρ h H [] [] := ⟨hs, fun x a hv => hv, Nat.le_refl _, fun _ _ _ => rfl, ⟨[], by simp, by simp⟩, Nat.le_refl _⟩
theorem getD_left {l l' : List Nat} {i : Nat} (hi : i < l.length) : (l ++ l').getD i 0 = l.getD i 0 := by simp [List.getD, List.getElem?_append_left hi]
theorem Upd.new (hs : HS ρ h H) {o : XO} {O : AObj} (ho : ObjS ρ h o O) : Upd ρ h H (ρ ++ [H.length]) (h ++ [o]) (H ++ [O]) [] [] := by
  have ht : Trn ρ h (ρ ++ [H.length]) (h ++ [o]) [] := Trn.mk (fun id o' e _ => ⟨o', by rw [List.getElem?_append_left (List.getElem?_eq_some_iff.1 e).1]; exact e, same2.refl _⟩) (fun id hid => getD_left (by rw [hs.rl]; exact hid))
  refine ⟨⟨by simp [hs.rl], ?_, fun i o' e => ?_⟩, ht, by simp, fun j hj _ => List.getElem?_append_left hj, ⟨[H.length], rfl, by simp⟩, by simp⟩
  · rw [List.nodup_append]
    refine ⟨hs.nd, by simp, fun a ha b hb => ?_⟩
    simp at hb
    have := hs.mem_lt ha
    omega
  · rcases Nat.lt_or_ge i h.length with hi | hi
    · rw [List.getElem?_append_left hi] at e
      obtain ⟨O', hO', hR⟩ := hs.hr i o' e
      refine ⟨O', by rw [getD_left (by rw [hs.rl]; exact hi), List.getElem?_append_left (hs.lt hi)]; exact hO', ?_⟩
      have := ht.obj hR
      rw [killO1_nil] at this; exact this
    · have hi' : i = h.length := by have := (List.getElem?_eq_some_iff.1 e).1; simp at this; omega
      subst hi'
      rw [List.getElem?_append_right (Nat.le_refl _)] at e
      simp at e
      subst e
      refine ⟨O, by rw [← hs.rl]; simp [List.getD], ?_⟩
      have := ht.obj ho
      rw [killO1_nil] at this; exact this
theorem Upd.set (hs : HS ρ h H) {id : Nat} {o o' : XO} {O' : AObj} (he : h[id]? = some o) (hs2 : same2 o o') (ho : ObjS ρ h o' O') : Upd ρ h H ρ (h.set id o') (H.set (ρ.getD id 0) O') [] [id] := by
  have hid : id < h.length := (List.getElem?_eq_some_iff.1 he).1
  have ht : Trn ρ h ρ (h.set id o') [] := Trn.mk (fun j oj e _ => by
    by_cases hj : id = j
    · subst hj; rw [he] at e; cases e; exact ⟨o', by rw [List.getElem?_set_self hid], hs2⟩
    · exact ⟨oj, by rw [List.getElem?_set_ne hj]; exact e, same2.refl _⟩) (fun _ _ => rfl)
  refine ⟨⟨by simp [hs.rl], hs.nd, fun i oi e => ?_⟩, ht, by simp, fun j hj hn => ?_, ⟨[], by simp, by simp⟩, by simp⟩
  · by_cases hi : id = i
    · subst hi
      rw [List.getElem?_set_self hid] at e
      cases e
      refine ⟨O', by rw [List.getElem?_set_self (hs.lt hid)], ?_⟩
      have := ht.obj ho
      rw [killO1_nil] at this; exact this
    · rw [List.getElem?_set_ne hi] at e
      have hil := (List.getElem?_eq_some_iff.1 e).1
      obtain ⟨O1, hO1, hR⟩ := hs.hr i oi e
      refine ⟨O1, by rw [List.getElem?_set_ne (fun q => hi (hs.inj hid hil q))]; exact hO1, ?_⟩
      have := ht.obj hR
      rw [killO1_nil] at this; exact this
  · rw [List.getElem?_set_ne (hn id (by simp) hid)]
theorem Upd.app (hs : HS ρ h H) {id ty : Nat} {T : Ty} {fz fz' : Bool} {es es' : List T.den} {O' : AObj} (he : h[id]? = some (.row ty T fz es)) (ho : ObjS ρ h (.row ty T fz' es') O') : Upd ρ h H ρ (killH [id] (h.set id (.row ty T fz' es'))) (H.set (ρ.getD id 0) O') [id] [id] := by
  have hid : id < h.length := (List.getElem?_eq_some_iff.1 he).1
  rw [killH_map]
  have ht : Trn ρ h ρ ((h.set id (.row ty T fz' es')).map (killO1 [id])) [id] := Trn.mk (fun j oj e hj => by
    refine ⟨killO1 [id] oj, by rw [List.getElem?_map, List.getElem?_set_ne (by simpa using fun q => hj (by simp [q])), e]; rfl, ?_⟩
    cases oj <;> simp [same2, killO1]) (fun _ _ => rfl)
  refine ⟨⟨by simp [hs.rl], hs.nd, fun i oi e => ?_⟩, ht, by simp, fun j hj hn => ?_, ⟨[], by simp, by simp⟩, by simp⟩
  · rw [List.getElem?_map] at e
    by_cases hi : id = i
    · subst hi
      rw [List.getElem?_set_self hid] at e
      cases e
      exact ⟨O', by rw [List.getElem?_set_self (hs.lt hid)], ho⟩
    · rw [List.getElem?_set_ne hi] at e
      cases hx : h[i]? with
      | none => rw [hx] at e; cases e
      | some ox =>
        rw [hx] at e; cases e
        have hil := (List.getElem?_eq_some_iff.1 hx).1
        obtain ⟨O1, hO1, hR⟩ := hs.hr i ox hx
        exact ⟨O1, by rw [List.getElem?_set_ne (fun q => hi (hs.inj hid hil q))]; exact hO1, ht.obj hR⟩
  · rw [List.getElem?_set_ne (hn id (by simp) hid)]
theorem Upd.trans {kl kl' tch tch' : List Nat} (h1 : Upd ρ h H ρ' h' H' kl tch) (h2 : Upd ρ' h' H' ρ'' h'' H'' kl' tch') (hρ : ρ.length = h.length) : Upd ρ h H ρ'' h'' H'' (kl ++ kl') (tch ++ tch') := by
  obtain ⟨n1, e1, q1⟩ := h1.ap
  obtain ⟨n2, e2, q2⟩ := h2.ap
  refine ⟨h2.hs, h1.tr.trans h2.tr, Nat.le_trans h1.ge h2.ge, fun j hj hn => ?_, ⟨n1 ++ n2, by rw [e2, e1, List.append_assoc], fun x hx => ?_⟩, Nat.le_trans h1.hl h2.hl⟩
  · rw [h2.fr j (Nat.lt_of_lt_of_le hj h1.ge) (fun id hid hlt => ?_), h1.fr j hj (fun id hid => hn id (by simp [hid]))]
    rcases Nat.lt_or_ge id h.length with hl | hl
    · rw [e1, getD_left (by rw [hρ]; exact hl)]; exact hn id (by simp [hid]) hl
    · intro hq
      have hl' : id < ρ'.length := by rw [h1.hs.rl]; exact hlt
      have : ρ'.getD id 0 ∈ n1 := by
        rw [e1] at hl' ⊢
        simp only [List.length_append] at hl'
        have : (ρ ++ n1).getD id 0 = n1[id - ρ.length]'(by omega) := by
          simp only [List.getD]
          rw [List.getElem?_append_right (by omega), List.getElem?_eq_getElem (by omega)]; rfl
        rw [this]; exact List.getElem_mem _
      have := q1 _ this
      omega
  · rcases List.mem_append.1 hx with hx | hx
    · exact q1 x hx
    · exact Nat.le_trans h1.ge (q2 x hx)
def isRow (h : List XO) (id : Nat) : Prop := ∃ ty T fz es, h[id]? = some (.row ty T fz es)
theorem Upd.frz : ∀ (ids : List Nat) {h : List XO} {H : List AObj}, HS ρ h H → (∀ id ∈ ids, isRow h id) → Upd ρ h H ρ (frzX h ids) (freeze H (ids.map fun id => ρ.getD id 0)) [] ids := by
  intro ids
  induction ids with
  | nil => intro h H hs _; exact Upd.same hs
  | cons id ids ih =>
    intro h H hs hr
    obtain ⟨ty, T, fz, es, e⟩ := hr id (by simp)
    obtain ⟨O, hO, o1, o2, o3, o4, o5⟩ := hs.hr id _ e
    have hlen : O.es.length = es.length := by have := o5.1; simpa using this
    have u1 : Upd ρ h H ρ (h.set id (.row ty T true es)) (H.set (ρ.getD id 0) { O with fz := O.es.length }) [] [id] :=
      Upd.set hs e ⟨rfl, rfl, rfl⟩ ⟨o1, o2, o3, by simp [hlen], o5⟩
    have u2 := ih u1.hs (fun j hj => by
      obtain ⟨ty', T', fz', es', e'⟩ := hr j (by simp [hj])
      by_cases hij : id = j
      · subst hij; exact ⟨ty, T, true, es, by rw [List.getElem?_set_self (List.getElem?_eq_some_iff.1 e).1]⟩
      · exact ⟨ty', T', fz', es', by rw [List.getElem?_set_ne hij]; exact e'⟩)
    have e1 : frzX h (id :: ids) = frzX (h.set id (.row ty T true es)) ids := by simp only [frzX, List.foldl_cons, e]; rfl
    have e2 : freeze H ((id :: ids).map fun id => ρ.getD id 0) = freeze (H.set (ρ.getD id 0) { O with fz := O.es.length }) (ids.map fun id => ρ.getD id 0) := by simp only [freeze, List.map_cons, List.foldl_cons, hO]
    rw [e1, e2]
    exact u1.trans u2 hs.rl
end
end Abs
end Go.Proofs.YtamgbanmnededaaDoor
