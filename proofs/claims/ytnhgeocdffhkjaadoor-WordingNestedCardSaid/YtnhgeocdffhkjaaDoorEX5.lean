/- The abstract machine, run fast: small steps for the kernel. -/
import Derived.Test.YtnhgeocdffhkjaaDoorEX4
namespace Go.Proofs.YtnhgeocdffhkjaaDoor
namespace Abs
open Go.RowKit
set_option linter.unusedVariables false
set_option linter.unusedSimpArgs false

noncomputable section
/-- Slots in a tree. -/
inductive TT where
  | e
  | n (a : AV) (l r : TT)
inductive PB where
  | o
  | l (p : PB)
  | r (p : PB)
def tA : TT → AV := TT.rec .any fun a _ _ _ _ => a
def getP (p : PB) : TT → AV := PB.rec tA (fun _ ih t => TT.rec .any (fun _ l _ _ _ => ih l) t) (fun _ ih t => TT.rec .any (fun _ _ r _ _ => ih r) t) p
def setP (x : AV) (p : PB) : TT → TT := PB.rec (fun t => TT.rec (.n x .e .e) (fun _ l r _ _ => .n x l r) t) (fun _ ih t => TT.rec (.n .any (ih .e) .e) (fun a l r _ _ => .n a (ih l) r) t) (fun _ ih t => TT.rec (.n .any .e (ih .e)) (fun a l r _ _ => .n a l (ih r)) t) p
theorem getP_e : ∀ p : PB, getP p .e = .any
  | .o => rfl
  | .l p => rfl
  | .r p => rfl
theorem getP_set (x : AV) : ∀ (p q : PB) (t : TT), (p = q → getP q (setP x p t) = x) ∧ (p ≠ q → getP q (setP x p t) = getP q t)
  | .o, q, t => by
    refine ⟨fun e => by subst e; cases t <;> rfl, fun e => ?_⟩
    cases q with
    | o => exact absurd rfl e
    | l q => cases t <;> first | rfl | exact getP_e q
    | r q => cases t <;> first | rfl | exact getP_e q
  | .l p, q, t => by
    cases q with
    | o => exact ⟨fun e => (by cases e), fun _ => (by cases t <;> rfl)⟩
    | r q => exact ⟨fun e => (by cases e), fun _ => (by cases t <;> first | rfl | exact getP_e q)⟩
    | l q =>
      have key := fun u => getP_set x p q u
      refine ⟨fun e => ?_, fun e => ?_⟩
      · cases e; cases t with
        | e => exact (key .e).1 rfl
        | n a l r => exact (key l).1 rfl
      · have hne : p ≠ q := fun h => e (by rw [h])
        cases t with
        | e => exact ((key .e).2 hne).trans (getP_e q)
        | n a l r => exact (key l).2 hne
  | .r p, q, t => by
    cases q with
    | o => exact ⟨fun e => (by cases e), fun _ => (by cases t <;> rfl)⟩
    | l q => exact ⟨fun e => (by cases e), fun _ => (by cases t <;> first | rfl | exact getP_e q)⟩
    | r q =>
      have key := fun u => getP_set x p q u
      refine ⟨fun e => ?_, fun e => ?_⟩
      · cases e; cases t with
        | e => exact (key .e).1 rfl
        | n a l r => exact (key r).1 rfl
      · have hne : p ≠ q := fun h => e (by rw [h])
        cases t with
        | e => exact ((key .e).2 hne).trans (getP_e q)
        | n a l r => exact (key r).2 hne
/-- A slot's way: the digits of its number. -/
def wayN : Nat → Nat → PB
  | 0, _ => .o
  | k + 1, n => if Nat.ble n 1 = true then .o else if Nat.beq (n % 2) 0 = true then .l (wayN k (n / 2)) else .r (wayN k (n / 2))
def way (i : Nat) : PB := wayN 16 (i + 1)
theorem wayN_inj : ∀ (k n m : Nat), 0 < n → 0 < m → n < 2 ^ k → m < 2 ^ k → wayN k n = wayN k m → n = m
  | 0, n, m, hn, hm, h1, h2, _ => by simp at h1 h2; omega
  | k + 1, n, m, hn, hm, h1, h2, h => by
    simp only [wayN] at h
    have hp : (2 : Nat) ^ (k + 1) = 2 * 2 ^ k := by rw [Nat.pow_succ]; omega
    by_cases a1 : n ≤ 1
    · rw [if_pos (Nat.ble_eq_true_of_le a1)] at h
      by_cases b1 : m ≤ 1
      · omega
      · rw [if_neg fun q => b1 (Nat.le_of_ble_eq_true q)] at h
        split at h <;> cases h
    · rw [if_neg fun q => a1 (Nat.le_of_ble_eq_true q)] at h
      by_cases b1 : m ≤ 1
      · rw [if_pos (Nat.ble_eq_true_of_le b1)] at h
        split at h <;> cases h
      · rw [if_neg fun q => b1 (Nat.le_of_ble_eq_true q)] at h
        split at h
        · rename_i p
          have p := Nat.eq_of_beq_eq_true p
          split at h
          · rename_i q
            have q := Nat.eq_of_beq_eq_true q
            have := wayN_inj k (n / 2) (m / 2) (by omega) (by omega) (by omega) (by omega) (PB.l.inj h)
            omega
          · cases h
        · rename_i p
          split at h
          · cases h
          · rename_i q
            have p' : n % 2 = 1 := by
              have : n % 2 ≠ 0 := fun e => p (by rw [e]; rfl)
              omega
            have q' : m % 2 = 1 := by
              have : m % 2 ≠ 0 := fun e => q (by rw [e]; rfl)
              omega
            have := wayN_inj k (n / 2) (m / 2) (by omega) (by omega) (by omega) (by omega) (PB.r.inj h)
            omega
theorem way_inj {i j : Nat} (hi : i < 65535) (hj : j < 65535) (h : way i = way j) : i = j := by
  have := wayN_inj 16 (i + 1) (j + 1) (by omega) (by omega) (by simp; omega) (by simp; omega) h
  omega
/-- The slots that a tree stands for. -/
def slots (n : Nat) (T : TT) : List AV := (List.range n).map fun i => getP (way i) T
theorem slots_get {n : Nat} {T : TT} {i : Nat} : (slots n T).getD i .any = if i < n then getP (way i) T else .any := by
  rw [List.getD_eq_getElem?_getD]
  unfold slots
  rw [List.getElem?_map]
  split
  · rename_i h; rw [List.getElem?_range h]; rfl
  · rename_i h; rw [List.getElem?_eq_none (by simpa using h)]; rfl
theorem slots_set {n : Nat} {T : TT} {i : Nat} {x : AV} (hn : n ≤ 65535) (hi : i < n) : slots n (setP x (way i) T) = (slots n T).set i x := by
  apply List.ext_getElem?
  intro j
  unfold slots
  rw [List.getElem?_set, List.getElem?_map]
  rcases Nat.lt_or_ge j n with hj | hj
  · rw [List.getElem?_range hj]
    simp only [Option.map_some, List.length_map, List.length_range]
    by_cases e : i = j
    · subst e
      rw [if_pos rfl, if_pos hi, (getP_set x (way i) (way i) T).1 rfl]
    · rw [if_neg e, List.getElem?_map, List.getElem?_range hj, (getP_set x (way i) (way j) T).2 fun q => e (way_inj (by omega) (by omega) q)]
      rfl
  · rw [List.getElem?_eq_none (by simpa using hj)]
    by_cases e : i = j
    · omega
    · rw [if_neg e, List.getElem?_map, List.getElem?_eq_none (by simpa using hj)]; rfl
/-- Lists, step by step. -/
def lenL {α : Type} (l : List α) : Nat := List.rec 0 (fun _ _ ih => Nat.add ih 1) l
theorem lenL_eq {α : Type} : ∀ l : List α, lenL l = l.length
  | [] => rfl
  | a :: l => by show Nat.add (lenL l) 1 = _; rw [lenL_eq l]; rfl
def snocL {α : Type} (l : List α) (x : α) : List α := List.rec [x] (fun a _ ih => a :: ih) l
theorem snocL_eq {α : Type} : ∀ (l : List α) (x : α), snocL l x = l ++ [x]
  | [], x => rfl
  | a :: l, x => by show a :: snocL l x = _; rw [snocL_eq l x]; rfl
def dropL {α : Type} (l : List α) : Nat → List α := List.rec (fun _ => []) (fun a l ih n => Nat.rec (a :: l) (fun m _ => ih m) n) l
theorem dropL_eq {α : Type} : ∀ (l : List α) (n : Nat), dropL l n = l.drop n
  | [], n => by simp [dropL]
  | a :: l, 0 => rfl
  | a :: l, n + 1 => by show dropL l n = _; rw [dropL_eq l n]; rfl
def takeL {α : Type} (l : List α) : Nat → List α := List.rec (fun _ => []) (fun a _ ih n => Nat.rec [] (fun m _ => a :: ih m) n) l
theorem takeL_eq {α : Type} : ∀ (l : List α) (n : Nat), takeL l n = l.take n
  | [], n => by simp [takeL]
  | a :: l, 0 => rfl
  | a :: l, n + 1 => by show a :: takeL l n = _; rw [takeL_eq l n]; rfl
/-- The slot with a number, in a list. -/
def getT (l : List AV) : Nat → AV := List.rec (fun _ => .any) (fun a _ ih n => Nat.rec a (fun m _ => ih m) n) l
theorem getT_eq : ∀ (l : List AV) (n : Nat), getT l n = l.getD n .any
  | [], n => by simp [getT]
  | a :: l, 0 => rfl
  | a :: l, n + 1 => by
    show getT l n = _
    rw [getT_eq l n]; simp [List.getD]
def setT' (l : List AV) : Nat → AV → List AV := List.rec (fun _ _ => []) (fun a l ih n x => Nat.rec (x :: l) (fun m _ => a :: ih m x) n) l
theorem setT_eq : ∀ (l : List AV) (n : Nat) (x : AV), setT' l n x = l.set n x
  | [], n, x => rfl
  | a :: l, 0, x => rfl
  | a :: l, n + 1, x => by
    show a :: setT' l n x = _
    rw [setT_eq l n x]; rfl
def getH (l : List AObj) : Nat → Option AObj := List.rec (fun _ => none) (fun a _ ih n => Nat.rec (some a) (fun m _ => ih m) n) l
theorem getH_eq : ∀ (l : List AObj) (n : Nat), getH l n = l[n]?
  | [], n => by simp [getH]
  | a :: l, 0 => rfl
  | a :: l, n + 1 => by
    show getH l n = _
    rw [getH_eq l n]; simp
def getQ (l : List AV) : Nat → Option AV := List.rec (fun _ => none) (fun a _ ih n => Nat.rec (some a) (fun m _ => ih m) n) l
theorem getQ_eq : ∀ (l : List AV) (n : Nat), getQ l n = l[n]?
  | [], n => by simp [getQ]
  | a :: l, 0 => rfl
  | a :: l, n + 1 => by
    show getQ l n = _
    rw [getQ_eq l n]; simp
def setH (l : List AObj) : Nat → AObj → List AObj := List.rec (fun _ _ => []) (fun a l ih n x => Nat.rec (x :: l) (fun m _ => a :: ih m x) n) l
theorem setH_eq : ∀ (l : List AObj) (n : Nat) (x : AObj), setH l n x = l.set n x
  | [], n, x => rfl
  | a :: l, 0, x => rfl
  | a :: l, n + 1, x => by
    show a :: setH l n x = _
    rw [setH_eq l n x]; rfl
/-- A valuation is that of a state. -/
def VOk (Gl : Nat → Option (List AV)) (f : Opd → AV) (t : List AV) : Prop := ∀ h x, f x = St.val Gl ⟨t, h⟩ x
inductive FR where
  | no
  | val (a : AV) (h : List AObj) (ids : List Nat)
  | pan (v : Value)
def FR.ir : FR → Option IR
  | .no => none
  | .val a h ids => some (.val a h ids)
  | .pan v => some (.pan v)
def kN : IntKind → Nat
  | .i8 => 0 | .i16 => 1 | .i32 => 2 | .i64 => 3 | .u8 => 4 | .u16 => 5 | .u32 => 6 | .u64 => 7
def kB (a b : IntKind) : Bool := Nat.beq (kN a) (kN b)
theorem kB_eq (a b : IntKind) : (kB a b = true) ↔ a = b := by cases a <;> cases b <;> simp [kB, kN]
/-- A whole number, a truth value, a text. -/
def avR (K : Value → FR) (a : AV) : FR := @AV.rec (fun _ => FR) (fun _ => FR) .no K (fun _ _ _ => .no) (fun _ _ => .no) (fun _ _ _ _ _ => .no) (fun _ _ _ _ => .no) (fun _ _ _ _ => .no) (fun _ => .no) (fun _ _ _ => .no) (fun _ _ => .no) (fun _ _ => .no) .no (fun _ _ _ _ => .no) a
def viR (K : IntKind → Int → FR) (v : Value) : FR := @Value.rec (fun _ => FR) (fun _ => FR) (fun _ => FR) (fun _ => .no) K (fun _ _ => .no) (fun _ _ _ => .no) (fun _ => .no) (fun _ => .no) (fun _ _ _ => .no) (fun _ => .no) (fun _ => .no) (fun _ _ _ _ _ => .no) .no (fun _ _ _ => .no) .no (fun _ _ => .no) (fun _ _ => .no) (fun _ _ => .no) .no (fun _ _ _ _ => .no) v
def vbR (K : Bool → FR) (v : Value) : FR := @Value.rec (fun _ => FR) (fun _ => FR) (fun _ => FR) K (fun _ _ => .no) (fun _ _ => .no) (fun _ _ _ => .no) (fun _ => .no) (fun _ => .no) (fun _ _ _ => .no) (fun _ => .no) (fun _ => .no) (fun _ _ _ _ _ => .no) .no (fun _ _ _ => .no) .no (fun _ _ => .no) (fun _ _ => .no) (fun _ _ => .no) .no (fun _ _ _ _ => .no) v
def vsR (K : ByteArray → FR) (v : Value) : FR := @Value.rec (fun _ => FR) (fun _ => FR) (fun _ => FR) (fun _ => .no) (fun _ _ => .no) (fun _ _ => .no) (fun _ _ _ => .no) K (fun _ => .no) (fun _ _ _ => .no) (fun _ => .no) (fun _ => .no) (fun _ _ _ _ _ => .no) .no (fun _ _ _ => .no) .no (fun _ _ => .no) (fun _ _ => .no) (fun _ _ => .no) .no (fun _ _ _ _ => .no) v
def vsB (v : Value) : Bool := @Value.rec (fun _ => Bool) (fun _ => Bool) (fun _ => Bool) (fun _ => false) (fun _ _ => false) (fun _ _ => false) (fun _ _ _ => false) (fun _ => true) (fun _ => false) (fun _ _ _ => false) (fun _ => false) (fun _ => false) (fun _ _ _ _ _ => false) false (fun _ _ _ => false) false (fun _ _ => false) (fun _ _ => false) (fun _ _ => false) false (fun _ _ _ _ => false) v
def asInt (a : AV) (K : IntKind → Int → FR) : FR := avR (viR K) a
def asBool (a : AV) (K : Bool → FR) : FR := avR (vbR K) a
def asStr (a : AV) (K : ByteArray → FR) : FR := avR (vsR K) a
def isStr (a : AV) : Bool := @AV.rec (fun _ => Bool) (fun _ => Bool) false vsB (fun _ _ _ => false) (fun _ _ => false) (fun _ _ _ _ _ => false) (fun _ _ _ _ => false) (fun _ _ _ _ => false) (fun _ => false) (fun _ _ _ => false) (fun _ _ => false) (fun _ _ => false) false (fun _ _ _ _ => false) a
/-- What the slow one answers. -/
def slow (Gl : Nat → Option (List AV)) (t : List AV) (h : List AObj) (i : I) : FR := match exS Gl ⟨t, h⟩ i with
  | some (a, h') => .val a h' (tI Gl ⟨t, h⟩ i)
  | none => .no

section
variable (f : Opd → AV) (h : List AObj)
def sMov (x : Opd) : FR := .val (f x) h []
def sPick (c a b : Opd) : FR := asBool (f c) fun q => .val (Bool.rec (f b) (f a) q) h []
def bI (g : Int → Int → Int) (x y : Opd) : FR := asInt (f x) fun k a => asInt (f y) fun k' b => cond (kB k k') (.val (.v (.int k (wrapB k (g a b)))) h []) .no
def cI' (g : Int → Int → Bool) (x y : Opd) : FR := asInt (f x) fun k a => asInt (f y) fun k' b => cond (kB k k') (.val (.v (.bool (g a b))) h []) .no
def cS (g : Bool → Bool) (x y : Opd) : FR := asStr (f x) fun a => asStr (f y) fun b => .val (.v (.bool (g (sameS a b)))) h []
def sAdd (x y : Opd) : FR := asStr (f x) fun a => asStr (f y) fun b => cond (Nat.ble (a.size + b.size) 9223372036854775807) (.val (.v (.string (a ++ b))) h []) .no
end
def iAddI (a b : Int) : Int := a + b
def iSubI (a b : Int) : Int := a - b
def sBin (op : BinOp) (x y : Opd) : (Opd → AV) → List AObj → FR → FR := match op with
  | .add => fun f h _ => cond (isStr (f x)) (sAdd f h x y) (bI f h iAddI x y)
  | .sub => fun f h _ => bI f h iSubI x y
  | .eql => fun f h _ => cond (isStr (f x)) (cS f h id x y) (cI' f h eqI x y)
  | .neq => fun f h _ => cond (isStr (f x)) (cS f h not x y) (cI' f h (fun a b => not (eqI a b)) x y)
  | .lss => fun f h _ => cI' f h ltI x y
  | .gtr => fun f h _ => cI' f h (fun a b => ltI b a) x y
  | .leq => fun f h _ => cI' f h (fun a b => not (ltI b a)) x y
  | .geq => fun f h _ => cI' f h (fun a b => not (ltI a b)) x y
  | _ => fun _ _ sl => sl
theorem slow_bin {Gl : Nat → Option (List AV)} {t : List AV} {f : Opd → AV} (hf : VOk Gl f t) (h : List AObj) (op : BinOp) (x y : Opd) : slow Gl t h (.bin op x y) = match f x, f y with
    | .v a, .v b => match binB op a b with
      | some r => FR.val (.v r) h []
      | none => .no
    | _, _ => .no := by
  rw [hf h x, hf h y]
  unfold slow
  simp only [exS, tI]
  generalize St.val Gl ⟨t, h⟩ x = a
  generalize St.val Gl ⟨t, h⟩ y = b
  cases a <;> cases b <;> try rfl
  rename_i u v
  cases hb : binB op u v <;> simp only [hb]
theorem sBin_eq {Gl : Nat → Option (List AV)} {t : List AV} {f : Opd → AV} (hf : VOk Gl f t) (op : BinOp) (x y : Opd) (h : List AObj) : sBin op x y f h (slow Gl t h (.bin op x y)) = slow Gl t h (.bin op x y) := by
  have key : ∀ (a b : AV), (∀ u, a ≠ .v u) ∨ (∀ u, b ≠ .v u) → (match a, b with
    | .v a, .v b => match binB op a b with
      | some r => FR.val (.v r) h []
      | none => .no
    | _, _ => .no) = FR.no := by
    intro a b hab
    cases a <;> cases b <;> first | rfl | (rcases hab with q | q <;> exact absurd rfl (q _))
  cases op <;> first
    | rfl
    | (rw [slow_bin hf]
       simp only [sBin, cI', bI, cS, sAdd, isStr, asInt, asStr, avR, viR, vsR, vsB]
       generalize f x = a
       generalize f y = b
       cases a <;> first
         | (cases b <;> rfl)
         | (rename_i u
            cases b <;> first
              | (cases u <;> rfl)
              | (rename_i v
                 cases u <;> cases v <;> first
                   | rfl
                   | (simp only [binB, iAddI, iSubI, id, vsB, viR, vsR, cond_true, cond_false]
                      first
                        | (rename_i k m k' n
                           by_cases hk : k = k'
                           · rw [if_pos hk, (kB_eq k k').2 hk]; rfl
                           · rw [if_neg hk, show kB k k' = false from Bool.eq_false_iff.2 fun q => hk ((kB_eq k k').1 q)]; rfl)
                        | rfl
                        | (rename_i u v; cases Nat.ble (u.size + v.size) 9223372036854775807 <;> rfl)))))
/-- How many bytes, and one of them. -/
def lenB (l : List UInt8) : Nat := List.rec 0 (fun _ _ ih => Nat.add ih 1) l
theorem lenB_eq : ∀ l : List UInt8, lenB l = l.length
  | [] => rfl
  | a :: l => by show Nat.add (lenB l) 1 = _; rw [lenB_eq l]; rfl
def byteK {α : Type} (z : α) (K : UInt8 → α) (l : List UInt8) : Nat → α := List.rec (fun _ => z) (fun a _ ih n => Nat.rec (K a) (fun m _ => ih m) n) l
theorem byteK_eq {α : Type} (z : α) (K : UInt8 → α) : ∀ (l : List UInt8) (n : Nat), byteK z K l n = match l[n]? with | some c => K c | none => z
  | [], n => by simp [byteK]
  | a :: l, 0 => rfl
  | a :: l, n + 1 => by
    show byteK z K l n = _
    rw [byteK_eq z K l n]; simp
section
variable (f : Opd → AV) (h : List AObj)
def sConv (k : IntKind) (x : Opd) : FR := asInt (f x) fun _ n => .val (.v (.int k (wrapB k n))) h []
def sBeq (neg : Bool) (x y : Opd) : FR := asBool (f x) fun a => asBool (f y) fun b => .val (.v (.bool (cond neg (not (a == b)) (a == b)))) h []
def sNot (x : Opd) : FR := asBool (f x) fun b => .val (.v (.bool (not b))) h []
def sNilq (neg : Bool) (x : Opd) : FR := match f x with
  | .list _ xs => cond xs.isEmpty .no (.val (.v (.bool neg)) h [])
  | .v (.slice none 0 0) => .val (.v (.bool (not neg))) h []
  | .row _ _ _ _ len => cond (Nat.blt 0 len) (.val (.v (.bool neg)) h []) .no
  | _ => .no
def sFld (off sz : Nat) (ag : Bool) (x : Opd) : FR := match f x with
  | .agg cs => cond ag (cond (Nat.ble (off + sz) (lenL cs)) (.val (.agg (takeL (dropL cs off) sz)) h []) .no) (match getQ cs off with
    | some a => .val a h []
    | none => .no)
  | _ => .no
def sExt (i : Nat) (x : Opd) : FR := match f x with
  | .tup vs => match getQ vs i with
    | some a => .val a h []
    | none => .no
  | _ => .no
def sFaddr (off : Nat) (x : Opd) : FR := match f x with
  | .ptr id G i o => .val (.ptr id G i (o + off)) h []
  | .lptr cs => .val (.lptr (dropL cs off)) h []
  | _ => .no
def sNck (x : Opd) : FR := match f x with
  | .ptr id G i o => .val (.ptr id G i o) h []
  | .lptr cs => .val (.lptr cs) h []
  | _ => .no
def sIaddr (sz : Nat) (x i : Opd) : FR := match f x with
  | .list sz' xs => asInt (f i) fun _ n => cond (Nat.beq sz' sz) (cond (inNat n xs.length) (.val (.lptr (getT xs n.toNat).cells) h []) .no) .no
  | .row id G sz' off len => asInt (f i) fun _ n => cond (Nat.beq sz' sz) (cond (inNat n len) (.val (.ptr id G (off + n.toNat) 0) h []) .no) .no
  | _ => .no
def load2 (sz : Nat) (ag : Bool) (G i o : Nat) (ob : AObj) : FR := cond (Nat.beq (lenL ob.es) G) (cond ag (cond (Nat.ble (o + sz) ob.sz && Nat.blt i G) (.val (.agg (takeL (dropL (getT ob.es i).cells o) sz)) h []) .no) (cond (Nat.blt o ob.sz && Nat.blt i G) (.val (getT (getT ob.es i).cells o) h []) .no)) .no
def sLoad (sz : Nat) (ag : Bool) (x : Opd) : FR := match f x with
  | .lptr cs => cond ag (cond (Nat.ble sz (lenL cs)) (.val (.agg (takeL cs sz)) h []) .no) (match cs with
    | a :: _ => .val a h []
    | [] => .no)
  | .ptr id G i o => match getH h id with
    | some ob => load2 h sz ag G i o ob
    | none => .no
  | _ => .no
def setC (e : AV) (o : Nat) (cs : List AV) : AV := match e with
  | .agg es => .agg (takeL es o ++ cs ++ dropL es (o + lenL cs))
  | _ => cs.headD .any
theorem setC_eq (e : AV) (o : Nat) (cs : List AV) : setC e o cs = setCells e o cs := by
  cases e <;> first
    | rfl
    | (simp only [setC, setCells, takeL_eq, dropL_eq, lenL_eq])
def store2 (sz id G i o : Nat) (y : AV) (sl : FR) (ob : AObj) : FR := cond (Nat.beq (lenL ob.es) G) (match stCells ob.pr y with
  | some cs => cond (Nat.beq (lenL cs) sz) (cond (Nat.ble (o + sz) ob.sz && Nat.blt i G && Nat.ble ob.fz i) (.val .any (setH h id { ob with es := setT' ob.es i (setC (getT ob.es i) o cs) }) (id :: rowsA y)) .no) .no
  | none => sl) .no
def sStore (sl : FR) (sz : Nat) (x y : Opd) : FR := match f x with
  | .ptr id G i o => match getH h id with
    | some ob => store2 h sz id G i o (f y) sl ob
    | none => .no
  | _ => .no
def sLen (x : Opd) : FR := match f x with
  | .list _ xs => .val (.v (.int .i64 xs.length)) h []
  | .row _ _ _ _ len => .val (.v (.int .i64 len)) h []
  | .v (.slice none 0 0) => .val (.v (.int .i64 0)) h []
  | _ => .no
def sSlen (x : Opd) : FR := asStr (f x) fun s => .val (.v (.int .i64 (.ofNat (lenB s.data.toList)))) h []
def sIdx (x i : Opd) : FR := asStr (f x) fun s => asInt (f i) fun _ n => match n with
  | .ofNat m => byteK (.no) (fun c => .val (.v (.int .u8 (.ofNat c.toNat))) h []) s.data.toList m
  | .negSucc _ => .no
def buildV (f : Opd → AV) : List AV → List (Nat × Nat × Opd) → Option (List AV)
  | cs, [] => some cs
  | cs, (off, sz, x) :: r => match stCells false (f x) with
    | some vs => cond (Nat.beq (lenL vs) sz && Nat.ble (off + sz) (lenL cs)) (buildV f (takeL cs off ++ vs ++ dropL cs (off + sz)) r) none
    | none => none
def sBuild (z : List Value) (ps : List (Nat × Nat × Opd)) : FR := match buildV f (z.map .v) ps with
  | some cs => .val (.agg cs) h []
  | none => .no
def sBox (ty sz : Nat) (x : Opd) : FR := match stCells false (f x) with
  | some cs => cond (Nat.beq (lenL cs) sz) (.val (.ptr (lenL h) 1 0 0) (snocL h ⟨ty, sz, 0, false, [f x]⟩) []) .no
  | none => .no
def sAlloc (ty : Nat) (z : Value) : FR := .val (.ptr (lenL h) 1 0 0) (snocL h ⟨ty, z.cells.size, 0, false, [avOf z]⟩) []
def sApp (ty sz bytes : Nat) (s x : Opd) : FR := match elemsOf h sz (f x) with
  | some ys => cond (appG h bytes (f s) ys.length ys.isEmpty) (match appY h ty sz bytes (f s) ys with
    | some (_, a, h') => .val a h' (match f s with
      | .row id _ _ _ _ => [id]
      | _ => [])
    | none => .no) .no
  | none => .no
def sBslice (ty sz : Nat) (xs : List Opd) : FR := match keepAL h (xs.map f) with
  | some ys => cond (ys.all fun y => y.cells.length == sz) (.val (.row h.length ys.length sz 0 ys.length) (freeze h ((xs.map f).flatMap rowsA) ++ [⟨ty, sz, 0, true, ys⟩]) ((xs.map f).flatMap rowsA)) .no
  | none => .no
end
section
variable {Gl : Nat → Option (List AV)} {t : List AV} {h : List AObj} {f : Opd → AV}
theorem slow_gen {i : I} (hi : (match i with | .bin .. => false | .conv .. => false | _ => true) = true) : slow Gl t h i = match step Gl ⟨t, h⟩ i with
    | some (_, a, h') => cond (gB Gl ⟨t, h⟩ i) (.val a h' (tI Gl ⟨t, h⟩ i)) .no
    | none => .no := by
  have e : exS Gl ⟨t, h⟩ i = match step Gl ⟨t, h⟩ i with
      | some (_, a, h') => if gB Gl ⟨t, h⟩ i = true then some (a, h') else none
      | none => none := by cases i <;> first | rfl | cases hi
  unfold slow
  rw [e]
  cases step Gl ⟨t, h⟩ i with
  | none => rfl
  | some q => obtain ⟨p, a, h'⟩ := q; simp only; cases gB Gl ⟨t, h⟩ i <;> rfl
theorem sMov_eq (hf : VOk Gl f t) (x : Opd) : sMov f h x = slow Gl t h (.mov x) := by
  unfold sMov; rw [hf h x]; rfl
theorem sPick_eq (hf : VOk Gl f t) (c a b : Opd) : sPick f h c a b = slow Gl t h (.pick c a b) := by
  unfold sPick
  rw [slow_gen rfl]
  simp only [step, gB, tI]
  rw [hf h c, hf h a, hf h b]
  generalize St.val Gl ⟨t, h⟩ c = v
  cases v <;> first
    | rfl
    | (rename_i u; cases u <;> first
        | rfl
        | (rename_i q; cases q <;> rfl))
theorem sConv_eq (hf : VOk Gl f t) (k : IntKind) (x : Opd) : sConv f h k x = slow Gl t h (.conv k x) := by
  unfold sConv slow
  simp only [exS, tI]
  rw [hf h x]
  generalize St.val Gl ⟨t, h⟩ x = v
  cases v <;> first
    | rfl
    | (rename_i u; cases u <;> rfl)
theorem sBeq_eq (hf : VOk Gl f t) (neg : Bool) (x y : Opd) : sBeq f h neg x y = slow Gl t h (.beq neg x y) := by
  unfold sBeq
  rw [slow_gen rfl]
  simp only [step, gB, tI]
  rw [hf h x, hf h y]
  generalize St.val Gl ⟨t, h⟩ x = v
  generalize St.val Gl ⟨t, h⟩ y = v'
  cases v <;> first
    | rfl
    | (rename_i u; cases u <;> first
        | rfl
        | (cases v' <;> first
            | rfl
            | (rename_i u'; cases u' <;> first
                | rfl
                | (cases neg <;> rfl))))
theorem sNot_eq (hf : VOk Gl f t) (x : Opd) : sNot f h x = slow Gl t h (.un .not x) := by
  unfold sNot
  rw [slow_gen rfl]
  simp only [step, gB, tI]
  rw [hf h x]
  generalize St.val Gl ⟨t, h⟩ x = v
  cases v <;> first
    | rfl
    | (rename_i u; cases u <;> rfl)
theorem sNilq_eq (hf : VOk Gl f t) (neg : Bool) (x : Opd) : sNilq f h neg x = slow Gl t h (.nilq neg x) := by
  unfold sNilq
  rw [slow_gen rfl]
  simp only [step, gB, tI]
  rw [hf h x]
  generalize St.val Gl ⟨t, h⟩ x = v
  split
  · rename_i xs; cases hx : xs.isEmpty <;> simp [hx]
  · rfl
  · rename_i len; cases hx : Nat.blt 0 len <;> simp [hx]
  · rename_i n1 n2 n3
    split
    · rename_i p a h' hs
      exfalso
      split at hs
      · exact n1 _ _ rfl
      · exact n2 rfl
      · exact n3 _ _ _ _ _ rfl
      · cases hs
    · rfl
theorem sFld_eq (hf : VOk Gl f t) (off sz : Nat) (ag : Bool) (x : Opd) : sFld f h off sz ag x = slow Gl t h (.fld off sz ag x) := by
  unfold sFld
  try simp only [lenL_eq, snocL_eq, dropL_eq, takeL_eq, setC_eq]
  rw [slow_gen rfl]
  simp only [step, gB, tI]
  rw [hf h x]
  generalize St.val Gl ⟨t, h⟩ x = v
  cases v <;> first
    | rfl
    | (rename_i cs
       cases ag
       · simp only [cond, Bool.false_eq_true, if_false, getQ_eq]
         cases cs[off]? <;> rfl
       · simp only [cond, if_true]
         by_cases hl : off + sz ≤ cs.length
         · rw [if_pos hl, show Nat.ble (off + sz) cs.length = true from Nat.ble_eq_true_of_le hl]
         · rw [if_neg hl, show Nat.ble (off + sz) cs.length = false from Bool.eq_false_iff.2 fun q => hl (Nat.le_of_ble_eq_true q)])
theorem sExt_eq (hf : VOk Gl f t) (i : Nat) (x : Opd) : sExt f h i x = slow Gl t h (.ext i x) := by
  unfold sExt
  rw [slow_gen rfl]
  simp only [step, gB, tI]
  rw [hf h x]
  generalize St.val Gl ⟨t, h⟩ x = v
  cases v <;> first
    | rfl
    | (rename_i cs
       simp only [getQ_eq]
       cases cs[i]? <;> rfl)
theorem sFaddr_eq (hf : VOk Gl f t) (off : Nat) (x : Opd) : sFaddr f h off x = slow Gl t h (.faddr off x) := by
  unfold sFaddr
  try simp only [lenL_eq, snocL_eq, dropL_eq, takeL_eq, setC_eq]
  rw [slow_gen rfl]
  simp only [step, gB, tI]
  rw [hf h x]
  generalize St.val Gl ⟨t, h⟩ x = v
  cases v <;> rfl
theorem sNck_eq (hf : VOk Gl f t) (x : Opd) : sNck f h x = slow Gl t h (.nck x) := by
  unfold sNck
  rw [slow_gen rfl]
  simp only [step, gB, tI]
  rw [hf h x]
  generalize St.val Gl ⟨t, h⟩ x = v
  cases v <;> rfl
theorem beqF {a b : Nat} (h : ¬ a = b) : Nat.beq a b = false := Bool.eq_false_iff.2 fun q => h (Nat.eq_of_beq_eq_true q)
theorem beqT {a b : Nat} (h : a = b) : Nat.beq a b = true := by rw [h]; exact Nat.beq_refl b
theorem sIaddr_eq (hf : VOk Gl f t) (sz : Nat) (x i : Opd) : sIaddr f h sz x i = slow Gl t h (.iaddr sz x i) := by
  unfold sIaddr
  rw [slow_gen rfl]
  simp only [step, gB, tI]
  rw [hf h x, hf h i]
  generalize St.val Gl ⟨t, h⟩ x = v
  generalize St.val Gl ⟨t, h⟩ i = u
  cases v <;> first
    | (cases u <;> rfl)
    | (rename_i sz' xs
       cases u <;> first
         | rfl
         | (rename_i q; cases q <;> first
             | rfl
             | (rename_i k n
                simp only [asInt, avR, viR, getT_eq]
                by_cases hz : sz' = sz
                · rw [if_pos hz, beqT hz]; cases hn : inNat n xs.length <;> simp [hn]
                · rw [if_neg hz, beqF hz]; rfl)))
    | (rename_i id G sz' off len
       cases u <;> first
         | rfl
         | (rename_i q; cases q <;> first
             | rfl
             | (rename_i k n
                simp only [asInt, avR, viR]
                by_cases hz : sz' = sz
                · rw [if_pos hz, beqT hz]; cases hn : inNat n len <;> simp [hn]
                · rw [if_neg hz, beqF hz]; rfl)))
theorem sLoad_eq (hf : VOk Gl f t) (sz : Nat) (ag : Bool) (x : Opd) : sLoad f h sz ag x = slow Gl t h (.load sz ag x) := by
  unfold sLoad
  try simp only [lenL_eq, snocL_eq, dropL_eq, takeL_eq, setC_eq]
  rw [slow_gen rfl]
  simp only [step, gB, tI]
  rw [hf h x]
  generalize St.val Gl ⟨t, h⟩ x = v
  cases v with
  | lptr cs =>
    cases ag
    · cases cs <;> rfl
    · simp only [cond, if_true]
      by_cases hl : sz ≤ cs.length
      · rw [if_pos hl, show Nat.ble sz cs.length = true from Nat.ble_eq_true_of_le hl]
      · rw [if_neg hl, show Nat.ble sz cs.length = false from Bool.eq_false_iff.2 fun q => hl (Nat.le_of_ble_eq_true q)]
  | ptr id G i o =>
    simp only [getH_eq]
    cases ho : h[id]? with
    | none => rfl
    | some ob =>
      simp only [load2, lenL_eq, dropL_eq, takeL_eq]
      by_cases hG : ob.es.length = G
      · rw [if_pos hG, beqT hG]
        cases ag
        · simp only [cond, Bool.false_eq_true, if_false, getT_eq]
          try (cases hq : (Nat.blt o ob.sz && Nat.blt i G) <;> simp [hq])
        · simp only [cond, if_true, getT_eq]
          try (cases hq : (Nat.ble (o + sz) ob.sz && Nat.blt i G) <;> simp [hq])
      · rw [if_neg hG, beqF hG]; rfl
  | _ => rfl
theorem sStore_eq (hf : VOk Gl f t) (sz : Nat) (x y : Opd) : sStore f h (slow Gl t h (.store sz x y)) sz x y = slow Gl t h (.store sz x y) := by
  unfold sStore
  rw [hf h x, hf h y]
  rw [slow_gen rfl]
  simp only [step, gB, tI]
  generalize hv : St.val Gl ⟨t, h⟩ x = v
  cases v with
  | ptr id G i o =>
    simp only [getH_eq]
    cases ho : h[id]? with
    | none => rfl
    | some ob =>
      simp only [store2, lenL_eq, setC_eq]
      by_cases hG : ob.es.length = G
      · rw [if_pos hG, beqT hG]
        cases hs : stCells ob.pr (St.val Gl ⟨t, h⟩ y) with
        | none => rfl
        | some cs =>
          simp only [cond]
          by_cases hl : cs.length = sz
          · rw [if_pos hl, beqT hl]
            simp only [setH_eq, setT_eq, getT_eq]
            try (cases hq : (Nat.ble (o + sz) ob.sz && Nat.blt i G && Nat.ble ob.fz i) <;> simp [hq])
          · rw [if_neg hl, beqF hl]
      · rw [if_neg hG, beqF hG]; rfl
  | _ => rfl
theorem sLen_eq (hf : VOk Gl f t) (x : Opd) : sLen f h x = slow Gl t h (.len x) := by
  unfold sLen
  rw [slow_gen rfl]
  simp only [step, gB, tI]
  rw [hf h x]
  generalize St.val Gl ⟨t, h⟩ x = v
  split
  · rfl
  · rfl
  · rfl
  · rename_i n1 n2 n3
    split
    · rename_i p a h' hs
      exfalso
      split at hs
      · exact n1 _ _ rfl
      · exact n2 _ _ _ _ _ rfl
      · exact n3 rfl
      · cases hs
    · rfl
theorem sSlen_eq (hf : VOk Gl f t) (x : Opd) : sSlen f h x = slow Gl t h (.slen x) := by
  unfold sSlen
  rw [slow_gen rfl]
  simp only [step, gB, tI]
  rw [hf h x]
  generalize St.val Gl ⟨t, h⟩ x = v
  cases v <;> first
    | rfl
    | (rename_i u; cases u <;> first
        | rfl
        | (rename_i s; simp only [asStr, avR, vsR, lenB_eq]; rfl))
theorem sIdx_eq (hf : VOk Gl f t) (x i : Opd) : sIdx f h x i = slow Gl t h (.idx x i) := by
  unfold sIdx
  rw [slow_gen rfl]
  simp only [step, gB, tI]
  rw [hf h x, hf h i]
  generalize St.val Gl ⟨t, h⟩ x = v
  generalize St.val Gl ⟨t, h⟩ i = u
  cases v <;> first
    | (cases u <;> rfl)
    | (rename_i s
       cases s <;> first
         | (cases u <;> rfl)
         | (rename_i s
            cases u <;> first
              | rfl
              | (rename_i q; cases q <;> first
                  | rfl
                  | (rename_i k n
                     simp only [asInt, asStr, avR, viR, vsR]
                     cases n with
                     | negSucc m => rfl
                     | ofNat m =>
                       simp only [byteK_eq]
                       by_cases hm : m < s.size
                       · have h1 : s.data.toList[m]? = some s.data[m] := by rw [Array.getElem?_toList]; exact Array.getElem?_eq_getElem hm
                         have h2 : inNat (Int.ofNat m) s.size = true := Nat.ble_eq_true_of_le hm
                         have h3 : s.data.getD (Int.ofNat m).toNat 0 = s.data[m] := by
                           show s.data.getD m 0 = _
                           simp [Array.getD, hm]
                         rw [h1, h2, h3]; rfl
                       · have h1 : s.data.toList[m]? = none := by rw [Array.getElem?_toList]; exact Array.getElem?_eq_none (Nat.le_of_not_lt hm)
                         have h2 : inNat (Int.ofNat m) s.size = false := Bool.eq_false_iff.2 fun q => hm (blt_lt q)
                         rw [h1, h2]; rfl))))
theorem buildV_eq (hf : VOk Gl f t) : ∀ (ps : List (Nat × Nat × Opd)) (cs : List AV), buildV f cs ps = buildC Gl ⟨t, h⟩ cs ps
  | [], cs => rfl
  | (off, sz, x) :: ps, cs => by
    simp only [buildV, buildC, lenL_eq, dropL_eq, takeL_eq]
    rw [hf h x]
    cases hs : stCells false (St.val Gl ⟨t, h⟩ x) with
    | none => rfl
    | some vs =>
      simp only
      rw [buildV_eq hf ps]
      by_cases hc : vs.length = sz ∧ off + sz ≤ cs.length
      · rw [if_pos hc, beqT hc.1, Nat.ble_eq_true_of_le hc.2]; rfl
      · rw [if_neg hc]
        have : (Nat.beq vs.length sz && Nat.ble (off + sz) cs.length) = false := Bool.eq_false_iff.2 fun q => by
          rw [Bool.and_eq_true] at q
          exact hc ⟨Nat.eq_of_beq_eq_true q.1, Nat.le_of_ble_eq_true q.2⟩
        rw [this]; rfl
theorem sBuild_eq (hf : VOk Gl f t) (z : List Value) (ps : List (Nat × Nat × Opd)) : sBuild f h z ps = slow Gl t h (.build z ps) := by
  unfold sBuild
  rw [slow_gen rfl]
  simp only [step, gB, tI]
  rw [buildV_eq hf (h := h)]
  cases buildC Gl ⟨t, h⟩ (z.map .v) ps <;> rfl
theorem sBox_eq (hf : VOk Gl f t) (ty sz : Nat) (x : Opd) : sBox f h ty sz x = slow Gl t h (.box ty sz x) := by
  unfold sBox
  try simp only [lenL_eq, snocL_eq, dropL_eq, takeL_eq, setC_eq]
  rw [slow_gen rfl]
  simp only [step, gB, tI]
  rw [hf h x]
  cases hs : stCells false (St.val Gl ⟨t, h⟩ x) with
  | none => rfl
  | some cs =>
    simp only [cond]
    by_cases hl : cs.length = sz
    · rw [if_pos hl, beqT hl]
    · rw [if_neg hl, beqF hl]
theorem sAlloc_eq (ty : Nat) (z : Value) : sAlloc h ty z = slow Gl t h (.alloc ty z) := by
  unfold sAlloc; simp only [lenL_eq, snocL_eq]; rfl
theorem sApp_eq (hf : VOk Gl f t) (ty sz bytes : Nat) (s x : Opd) : sApp f h ty sz bytes s x = slow Gl t h (.app ty sz bytes s x) := by
  unfold sApp
  rw [slow_gen rfl]
  simp only [step, gB, tI]
  rw [hf h x, hf h s]
  cases hx : elemsOf h sz (St.val Gl ⟨t, h⟩ x) with
  | none => rfl
  | some ys =>
    simp only
    cases hy : appY h ty sz bytes (St.val Gl ⟨t, h⟩ s) ys with
    | none => cases appG h bytes (St.val Gl ⟨t, h⟩ s) ys.length ys.isEmpty <;> rfl
    | some q => 
      obtain ⟨p, a, h'⟩ := q
      cases hg : appG h bytes (St.val Gl ⟨t, h⟩ s) ys.length ys.isEmpty
      · rfl
      · simp only [cond]; cases St.val Gl ⟨t, h⟩ s <;> rfl
theorem sBslice_eq (hf : VOk Gl f t) (ty sz : Nat) (xs : List Opd) : sBslice f h ty sz xs = slow Gl t h (.bslice ty sz xs) := by
  have hm : xs.map f = xs.map (St.val Gl ⟨t, h⟩) := List.map_congr_left fun x _ => hf h x
  unfold sBslice
  rw [slow_gen rfl]
  simp only [step, gB, tI, hm]
  cases hk : keepAL h (xs.map (St.val Gl ⟨t, h⟩)) with
  | none => rfl
  | some ys => simp only; cases (ys.all fun y => y.cells.length == sz) <;> simp
end
/-- A step that is no call, by its kind. -/
def fS : I → (Opd → AV) → List AObj → FR → FR
  | .mov x => fun f h _ => sMov f h x
  | .pick c a b => fun f h _ => sPick f h c a b
  | .bin op x y => sBin op x y
  | .conv k x => fun f h _ => sConv f h k x
  | .beq n x y => fun f h _ => sBeq f h n x y
  | .nilq n x => fun f h _ => sNilq f h n x
  | .fld o s g x => fun f h _ => sFld f h o s g x
  | .ext i x => fun f h _ => sExt f h i x
  | .faddr o x => fun f h _ => sFaddr f h o x
  | .nck x => fun f h _ => sNck f h x
  | .iaddr z x i => fun f h _ => sIaddr f h z x i
  | .load z g x => fun f h _ => sLoad f h z g x
  | .store z x y => fun f h sl => sStore f h sl z x y
  | .len x => fun f h _ => sLen f h x
  | .slen x => fun f h _ => sSlen f h x
  | .idx x i => fun f h _ => sIdx f h x i
  | .build z ps => fun f h _ => sBuild f h z ps
  | .box y z x => fun f h _ => sBox f h y z x
  | .alloc y z => fun _ h _ => sAlloc h y z
  | .app y z b s x => fun f h _ => sApp f h y z b s x
  | .bslice y z xs => fun f h _ => sBslice f h y z xs
  | .un .not x => fun f h _ => sNot f h x
  | _ => fun _ _ sl => sl
theorem fS_eq {Gl : Nat → Option (List AV)} {t : List AV} {f : Opd → AV} (hf : VOk Gl f t) (i : I) (h : List AObj) : fS i f h (slow Gl t h i) = slow Gl t h i := by
  cases i with
  | mov x => exact sMov_eq hf x
  | pick c a b => exact sPick_eq hf c a b
  | bin op x y => exact sBin_eq hf op x y h
  | conv k x => exact sConv_eq hf k x
  | beq n x y => exact sBeq_eq hf n x y
  | nilq n x => exact sNilq_eq hf n x
  | fld o s g x => exact sFld_eq hf o s g x
  | ext i x => exact sExt_eq hf i x
  | faddr o x => exact sFaddr_eq hf o x
  | nck x => exact sNck_eq hf x
  | iaddr z x i => exact sIaddr_eq hf z x i
  | load z g x => exact sLoad_eq hf z g x
  | store z x y => exact sStore_eq hf z x y
  | len x => exact sLen_eq hf x
  | slen x => exact sSlen_eq hf x
  | idx x i => exact sIdx_eq hf x i
  | build z ps => exact sBuild_eq hf z ps
  | box y z x => exact sBox_eq hf y z x
  | alloc y z => exact sAlloc_eq y z
  | app y z b s x => exact sApp_eq hf y z b s x
  | bslice y z xs => exact sBslice_eq hf y z xs
  | un op x => cases op <;> first | exact sNot_eq hf x | rfl
  | _ => rfl
end
end Abs
end Go.Proofs.YtnhgeocdffhkjaaDoor
