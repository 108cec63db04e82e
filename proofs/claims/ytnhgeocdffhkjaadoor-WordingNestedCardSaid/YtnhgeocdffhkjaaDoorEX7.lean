/- The abstract machine, run faster: boxes made ready once. -/
import Derived.Test.YtnhgeocdffhkjaaDoorEX6
namespace Go.Proofs.YtnhgeocdffhkjaaDoor
namespace Abs
open Go.RowKit
set_option linter.unusedVariables false
set_option linter.unusedSimpArgs false
noncomputable section
/-- An operand, made ready. -/
inductive OV where
  | s (p : PB)
  | k (a : AV)
def vO (T : TT) (o : OV) : AV := OV.rec (fun p => getP p T) (fun a => a) o
def cO (n : Nat) (Gl : Nat → Option (List AV)) : Opd → OV
  | .t i => cond (Nat.blt i n) (.s (way i)) (.k .any)
  | .k x => .k (.v x)
  | .g i => match Gl i with
    | some cs => .k (.lptr cs)
    | none => .k .any
theorem vO_eq (n : Nat) (Gl : Nat → Option (List AV)) (T : TT) (x : Opd) : vO T (cO n Gl x) = vT n Gl T x := by
  cases x with
  | t i => simp only [cO, vT]; cases Nat.blt i n <;> rfl
  | k x => rfl
  | g i => simp only [cO, vT]; cases Gl i <;> rfl
def wI64 (n : Int) : Int := Int.rec (fun m => Bool.rec (IntKind.wrap .i64 (.ofNat m)) (.ofNat m) (Nat.blt m 9223372036854775808)) (fun m => Bool.rec (IntKind.wrap .i64 (.negSucc m)) (.negSucc m) (Nat.blt m 9223372036854775808)) n
def wU8 (n : Int) : Int := Int.rec (fun m => Bool.rec (IntKind.wrap .u8 (.ofNat m)) (.ofNat m) (Nat.blt m 256)) (fun m => IntKind.wrap .u8 (.negSucc m)) n
def wrapF (k : IntKind) : Int → Int := IntKind.rec (IntKind.wrap .i8) (IntKind.wrap .i16) (IntKind.wrap .i32) wI64 wU8 (IntKind.wrap .u16) (IntKind.wrap .u32) (IntKind.wrap .u64) k
theorem boolRec_if (b : Bool) (x y : Int) : @Bool.rec (fun _ => Int) x y b = if b = true then y else x := by cases b <;> rfl
theorem wrapF_eq (k : IntKind) (n : Int) : wrapF k n = wrapB k n := by
  cases k <;> cases n <;> first
    | rfl
    | exact boolRec_if _ _ _
def ltF (a b : Int) : Bool := Int.rec (fun a => Int.rec (fun b => Nat.blt a b) (fun _ => false) b) (fun a => Int.rec (fun _ => true) (fun b => Nat.blt b a) b) a
def eqF (a b : Int) : Bool := Int.rec (fun a => Int.rec (fun b => Nat.beq a b) (fun _ => false) b) (fun a => Int.rec (fun _ => false) (fun b => Nat.beq a b) b) a
theorem ltF_eq (a b : Int) : ltF a b = ltI a b := by cases a <;> cases b <;> rfl
theorem eqF_eq (a b : Int) : eqF a b = eqI a b := by cases a <;> cases b <;> rfl
def nB (b : Bool) : Bool := Bool.rec true false b
theorem nB_eq (b : Bool) : nB b = not b := by cases b <;> rfl
def iNe (a b : Int) : Bool := nB (eqF a b)
def iGt (a b : Int) : Bool := ltF b a
def iLe (a b : Int) : Bool := nB (ltF b a)
def iGe (a b : Int) : Bool := nB (ltF a b)
def catL {α : Type} (l m : List α) : List α := List.rec m (fun a _ ih => a :: ih) l
theorem catL_eq {α : Type} : ∀ (l m : List α), catL l m = l ++ m
  | [], m => rfl
  | a :: l, m => by show a :: catL l m = _; rw [catL_eq l m]; rfl
theorem catB (s t : ByteArray) : (⟨⟨catL s.data.toList t.data.toList⟩⟩ : ByteArray) = s ++ t := by
  rw [catL_eq]
  apply ByteArray.ext
  rw [ByteArray.data_append]
  apply Array.ext'
  rw [Array.toList_append]
section
variable (h : List AObj)
def aI (g : Int → Int → Int) (k : IntKind) (x : Int) (k' : IntKind) (y : Int) : FR := Bool.rec .no (.val (.v (.int k (wrapF k (g x y)))) h []) (kB k k')
def aC (g : Int → Int → Bool) (k : IntKind) (x : Int) (k' : IntKind) (y : Int) : FR := Bool.rec .no (.val (.v (.bool (g x y))) h []) (kB k k')
def aA (s t : ByteArray) : FR := Bool.rec .no (.val (.v (.string ⟨⟨catL s.data.toList t.data.toList⟩⟩)) h []) (Nat.ble (Nat.add (lenB s.data.toList) (lenB t.data.toList)) 9223372036854775807)
def aS (g : Bool → Bool) (s t : ByteArray) : FR := .val (.v (.bool (g (sameS s t)))) h []
def iI (g : Int → Int → Int) (v : AV) (k : IntKind) (x : Int) : FR := avR (viR (aI h g k x)) v
def iC (g : Int → Int → Bool) (v : AV) (k : IntKind) (x : Int) : FR := avR (viR (aC h g k x)) v
def jA (v : AV) (s : ByteArray) : FR := avR (vsR (aA h s)) v
def jS (g : Bool → Bool) (v : AV) (s : ByteArray) : FR := avR (vsR (aS h g s)) v
end
def vmR (K : IntKind → Int → FR) (S : ByteArray → FR) (v : Value) : FR := @Value.rec (fun _ => FR) (fun _ => FR) (fun _ => FR) (fun _ => .no) K (fun _ _ => .no) (fun _ _ _ => .no) S (fun _ => .no) (fun _ _ _ => .no) (fun _ => .no) (fun _ => .no) (fun _ _ _ _ _ => .no) .no (fun _ _ _ => .no) .no (fun _ _ => .no) (fun _ _ => .no) (fun _ _ => .no) .no (fun _ _ _ _ => .no) v
def pAdd (a b : OV) (T : TT) (h : List AObj) : FR := avR (vmR (iI h Int.add (vO T b)) (jA h (vO T b))) (vO T a)
def pSub (a b : OV) (T : TT) (h : List AObj) : FR := avR (viR (iI h Int.sub (vO T b))) (vO T a)
def pEql (a b : OV) (T : TT) (h : List AObj) : FR := avR (vmR (iC h eqF (vO T b)) (jS h id (vO T b))) (vO T a)
def pNeq (a b : OV) (T : TT) (h : List AObj) : FR := avR (vmR (iC h iNe (vO T b)) (jS h nB (vO T b))) (vO T a)
def pCmp (g : Int → Int → Bool) (a b : OV) (T : TT) (h : List AObj) : FR := avR (viR (iC h g (vO T b))) (vO T a)
theorem kB_cond {k k' : IntKind} {x : FR} : @Bool.rec (fun _ => FR) .no x (kB k k') = cond (kB k k') x .no := by cases kB k k' <;> rfl
theorem iI_old (h : List AObj) (g g' : Int → Int → Int) (hg : ∀ a b, g a b = g' a b) (f : Opd → AV) (x y : Opd) : avR (viR (iI h g (f y))) (f x) = bI f h g' x y := by
  unfold bI asInt iI aI
  congr 1; congr 1; funext k a; congr 1; congr 1; funext k' b
  rw [kB_cond, wrapF_eq, hg]
theorem iC_old (h : List AObj) (g g' : Int → Int → Bool) (hg : ∀ a b, g a b = g' a b) (f : Opd → AV) (x y : Opd) : avR (viR (iC h g (f y))) (f x) = cI' f h g' x y := by
  unfold cI' asInt iC aC
  congr 1; congr 1; funext k a; congr 1; congr 1; funext k' b
  rw [kB_cond, hg]
theorem jS_old (h : List AObj) (g g' : Bool → Bool) (hg : ∀ a, g a = g' a) (f : Opd → AV) (x y : Opd) : avR (vsR (jS h g (f y))) (f x) = cS f h g' x y := by
  unfold cS asStr jS aS
  congr 1; congr 1; funext s; congr 1; congr 1; funext s'
  rw [hg]
theorem jA_old (h : List AObj) (f : Opd → AV) (x y : Opd) : avR (vsR (jA h (f y))) (f x) = sAdd f h x y := by
  unfold sAdd asStr jA aA
  congr 1; congr 1; funext s; congr 1; congr 1; funext s'
  rw [catB, lenB_eq, lenB_eq]
  show @Bool.rec (fun _ => FR) .no (FR.val (.v (.string (s ++ s'))) h []) (Nat.ble (s.size + s'.size) 9223372036854775807) = _
  cases Nat.ble (s.size + s'.size) 9223372036854775807 <;> rfl
theorem vmR_old (K : IntKind → Int → FR) (S : ByteArray → FR) (a : AV) : avR (vmR K S) a = cond (isStr a) (avR (vsR S) a) (avR (viR K) a) := by
  cases a <;> first
    | rfl
    | (rename_i v; cases v <;> rfl)
def pPick (c a b : OV) (T : TT) (h : List AObj) : FR := asBool (vO T c) fun q => .val (Bool.rec (vO T b) (vO T a) q) h []
def pIdx (a i : OV) (T : TT) (h : List AObj) : FR := asStr (vO T a) fun s => asInt (vO T i) fun _ n => match n with
  | .ofNat m => byteK (.no) (fun c => .val (.v (.int .u8 (.ofNat c.toNat))) h []) s.data.toList m
  | .negSucc _ => .no
def pSlen (a : OV) (T : TT) (h : List AObj) : FR := asStr (vO T a) fun s => .val (.v (.int .i64 (.ofNat (lenB s.data.toList)))) h []
/-- An instruction, made ready. -/
inductive B3 where
  | f (g : TT → List AObj → FR)
  | o (g : (Opd → AV) → List AObj → FR)
  | w (g : (Opd → AV) → List AObj → FR → FR) (i : I)
  | l (i : I)
  | c (g : Nat) (args : List OV)
  | d (fo : Opd) (args : List Opd)
def toBin (op : BinOp) (a b : OV) (i : I) : B3 := match op with
  | .add => .f (pAdd a b)
  | .sub => .f (pSub a b)
  | .eql => .f (pEql a b)
  | .neq => .f (pNeq a b)
  | .lss => .f (pCmp ltF a b)
  | .gtr => .f (pCmp iGt a b)
  | .leq => .f (pCmp iLe a b)
  | .geq => .f (pCmp iGe a b)
  | _ => .l i
def cutK (h : List AObj) (s : ByteArray) (a b : Int) : FR := Int.rec (fun l => Int.rec (fun m => Bool.rec .no (.val (.v (.string ⟨⟨takeL (dropL s.data.toList l) (m - l)⟩⟩)) h []) (Nat.ble l m && Nat.ble m (lenB s.data.toList))) (fun _ => .no) b) (fun _ => .no) a
def oSsl (x lo hi : Opd) (f : Opd → AV) (h : List AObj) : FR := asStr (f x) fun s => asInt (f lo) fun _ a => asInt (f hi) fun _ b => cutK h s a b
def oMov (x : Opd) (f : Opd → AV) (h : List AObj) : FR := sMov f h x
def oConv (k : IntKind) (x : Opd) (f : Opd → AV) (h : List AObj) : FR := sConv f h k x
def oBeq (n : Bool) (x y : Opd) (f : Opd → AV) (h : List AObj) : FR := sBeq f h n x y
def oNilq (n : Bool) (x : Opd) (f : Opd → AV) (h : List AObj) : FR := sNilq f h n x
def oFld (o s : Nat) (g : Bool) (x : Opd) (f : Opd → AV) (h : List AObj) : FR := sFld f h o s g x
def oExt (i : Nat) (x : Opd) (f : Opd → AV) (h : List AObj) : FR := sExt f h i x
def oFaddr (o : Nat) (x : Opd) (f : Opd → AV) (h : List AObj) : FR := sFaddr f h o x
def oNck (x : Opd) (f : Opd → AV) (h : List AObj) : FR := sNck f h x
def oIaddr (z : Nat) (x i : Opd) (f : Opd → AV) (h : List AObj) : FR := sIaddr f h z x i
def oLoad (z : Nat) (g : Bool) (x : Opd) (f : Opd → AV) (h : List AObj) : FR := sLoad f h z g x
def oStore (z : Nat) (x y : Opd) (f : Opd → AV) (h : List AObj) (sl : FR) : FR := sStore f h sl z x y
def oLen (x : Opd) (f : Opd → AV) (h : List AObj) : FR := sLen f h x
def oBuild (z : List Value) (ps : List (Nat × Nat × Opd)) (f : Opd → AV) (h : List AObj) : FR := sBuild f h z ps
def oBox (y z : Nat) (x : Opd) (f : Opd → AV) (h : List AObj) : FR := sBox f h y z x
def oAlloc (y : Nat) (z : Value) (f : Opd → AV) (h : List AObj) : FR := sAlloc h y z
def oApp (y z b : Nat) (s x : Opd) (f : Opd → AV) (h : List AObj) : FR := sApp f h y z b s x
def oBslice (y z : Nat) (xs : List Opd) (f : Opd → AV) (h : List AObj) : FR := sBslice f h y z xs
def oNot (x : Opd) (f : Opd → AV) (h : List AObj) : FR := sNot f h x
def toCall (n : Nat) (Gl : Nat → Option (List AV)) (fo : Opd) (args : List Opd) : B3 := match fo with
  | .k v => match fnV v with
    | some g => .c g (args.map (cO n Gl))
    | none => .d fo args
  | fo => .d fo args
def toB3 (n : Nat) (Gl : Nat → Option (List AV)) : I → B3
  | .call fo args => toCall n Gl fo args
  | .mov x => .o (oMov x)
  | .pick c a b => .f (pPick (cO n Gl c) (cO n Gl a) (cO n Gl b))
  | .bin op x y => toBin op (cO n Gl x) (cO n Gl y) (.bin op x y)
  | .idx x i => .f (pIdx (cO n Gl x) (cO n Gl i))
  | .slen x => .f (pSlen (cO n Gl x))
  | .conv k x => .o (oConv k x)
  | .beq q x y => .o (oBeq q x y)
  | .nilq q x => .o (oNilq q x)
  | .fld o s g x => .o (oFld o s g x)
  | .ext i x => .o (oExt i x)
  | .faddr o x => .o (oFaddr o x)
  | .nck x => .o (oNck x)
  | .iaddr z x i => .o (oIaddr z x i)
  | .load z g x => .o (oLoad z g x)
  | .store z x y => .w (oStore z x y) (.store z x y)
  | .len x => .o (oLen x)
  | .build z ps => .o (oBuild z ps)
  | .box y z x => .o (oBox y z x)
  | .alloc y z => .o (oAlloc y z)
  | .app y z b s x => .o (oApp y z b s x)
  | .bslice y z xs => .o (oBslice y z xs)
  | .un .not x => .o (oNot x)
  | .sslice x (some lo) (some hi) => .o (oSsl x lo hi)
  | i => .l i
section
variable (cf : CF) (pf : PF) (Gl : Nat → Option (List AV)) (n : Nat)
def r3F (d : Bool) (T : TT) (h : List AObj) (g : TT → List AObj → FR) : FR := g T h
def r3O (d : Bool) (T : TT) (h : List AObj) (g : (Opd → AV) → List AObj → FR) : FR := g (vT n Gl T) h
def r3W (d : Bool) (T : TT) (h : List AObj) (g : (Opd → AV) → List AObj → FR → FR) (i : I) : FR := g (vT n Gl T) h (slow Gl (slots n T) h i)
def r3L (d : Bool) (T : TT) (h : List AObj) (i : I) : FR := slow Gl (slots n T) h i
def r3C (d : Bool) (T : TT) (h : List AObj) (g : Nat) (args : List OV) : FR := Bool.rec (cf g (args.map (vO T)) h) (callD pf g h (args.map (vO T))) d
def r3D (d : Bool) (T : TT) (h : List AObj) (fo : Opd) (args : List Opd) : FR := kCall fo args cf pf d (vT n Gl T) h
def r3 (b : B3) (d : Bool) (T : TT) (h : List AObj) : FR := B3.rec (r3F d T h) (r3O Gl n d T h) (r3W Gl n d T h) (r3L Gl n d T h) (r3C cf pf d T h) (r3D cf pf Gl n d T h) b
end
theorem oSsl_eq {Gl : Nat → Option (List AV)} {t : List AV} {h : List AObj} {f : Opd → AV} (hf : VOk Gl f t) (x lo hi : Opd) : oSsl x lo hi f h = slow Gl t h (.sslice x (some lo) (some hi)) := by
  unfold oSsl
  rw [slow_gen rfl]
  simp only [step, gB, tI, Option.map_some]
  rw [hf h x, hf h lo, hf h hi]
  generalize St.val Gl ⟨t, h⟩ x = u
  generalize St.val Gl ⟨t, h⟩ lo = v
  generalize St.val Gl ⟨t, h⟩ hi = w
  cases u with
  | v u =>
    cases u with
    | string s =>
      show asInt v (fun _ a => asInt w fun _ b => cutK h s a b) = _
      cases v with
      | v v =>
        cases v with
        | int k a =>
          show asInt w (fun _ b => cutK h s a b) = _
          cases w with
          | v w =>
            cases w with
            | int k' b =>
              show cutK h s a b = _
              simp only [cutB, cutG, asN, Option.map_some]
              cases a with
              | negSucc l => rfl
              | ofNat l =>
                cases b with
                | negSucc m => rfl
                | ofNat m =>
                  show Bool.rec .no (FR.val (.v (.string ⟨⟨takeL (dropL s.data.toList l) (m - l)⟩⟩)) h []) (Nat.ble l m && Nat.ble m (lenB s.data.toList)) = cond (not (ltI (Int.ofNat l) 0) && not (ltI (Int.ofNat m) (Int.ofNat l)) && not (ltI (Int.ofNat s.size) (Int.ofNat m))) (FR.val (.v (.string (s.extract l m))) h []) .no
                  have e1 : (⟨⟨takeL (dropL s.data.toList l) (m - l)⟩⟩ : ByteArray) = s.extract l m := by
                    rw [takeL_eq, dropL_eq]
                    apply ByteArray.ext
                    rw [ByteArray.data_extract]
                    apply Array.ext'
                    rw [Array.toList_extract]
                  have e2 : lenB s.data.toList = s.size := by rw [lenB_eq]; rfl
                  have e3 : ltI (Int.ofNat l) 0 = false := by
                    show Nat.blt l 0 = false
                    exact Bool.eq_false_iff.2 fun q => by have := Nat.le_of_ble_eq_true q; omega
                  have e4 : ∀ a b : Nat, not (ltI (Int.ofNat b) (Int.ofNat a)) = Nat.ble a b := fun a b => by
                    show not (Nat.ble (b + 1) a) = Nat.ble a b
                    by_cases q : a ≤ b
                    · rw [Nat.ble_eq_true_of_le q, show Nat.ble (b + 1) a = false from Bool.eq_false_iff.2 fun r => by have := Nat.le_of_ble_eq_true r; omega]; rfl
                    · rw [show Nat.ble a b = false from Bool.eq_false_iff.2 fun r => q (Nat.le_of_ble_eq_true r), Nat.ble_eq_true_of_le (by omega)]; rfl
                  rw [e1, e2, e3, e4, e4]
                  cases (Nat.ble l m) <;> cases (Nat.ble m s.size) <;> rfl
            | _ => rfl
          | _ => rfl
        | _ => cases w <;> first | rfl | (rename_i w; cases w <;> rfl)
      | _ => cases w <;> first | rfl | (rename_i w; cases w <;> rfl)
    | _ => rfl
  | _ => rfl
theorem r3_eq (cf : CF) (pf : PF) (Gl : Nat → Option (List AV)) (n : Nat) (i : I) (d : Bool) (T : TT) (h : List AObj) : r3 cf pf Gl n (toB3 n Gl i) d T h = runB (toBI i) cf pf d (vT n Gl T) h (slow Gl (slots n T) h i) := by
  have ev := vO_eq n Gl T
  cases i with
  | call fo args =>
    have em : (args.map (cO n Gl)).map (vO T) = args.map (vT n Gl T) := by rw [List.map_map]; exact List.map_congr_left fun x _ => ev x
    cases fo with
    | k v =>
      show r3 cf pf Gl n (match fnV v with | some g => B3.c g (args.map (cO n Gl)) | none => .d (.k v) args) d T h = kCall (.k v) args cf pf d (vT n Gl T) h
      cases hf : fnV v with
      | none => rfl
      | some g =>
        show r3C cf pf d T h g (args.map (cO n Gl)) = _
        unfold r3C kCall
        rw [em]
        simp only [vT, hf]
    | _ => rfl
  | pick c a b => show pPick _ _ _ T h = sPick _ h c a b; unfold pPick sPick; rw [ev, ev, ev]
  | idx x i => show pIdx _ _ T h = sIdx _ h x i; unfold pIdx sIdx; rw [ev, ev]; rfl
  | slen x => show pSlen _ T h = sSlen _ h x; unfold pSlen sSlen; rw [ev]
  | bin op x y =>
    cases op <;> first
      | rfl
      | (show pAdd _ _ T h = _; unfold pAdd; rw [ev, ev, vmR_old, iI_old h Int.add iAddI (fun _ _ => rfl) (vT n Gl T) x y, jA_old h (vT n Gl T) x y]; rfl)
      | (show pSub _ _ T h = _; unfold pSub; rw [ev, ev, iI_old h Int.sub iSubI (fun _ _ => rfl) (vT n Gl T) x y]; rfl)
      | (show pEql _ _ T h = _; unfold pEql; rw [ev, ev, vmR_old, iC_old h eqF eqI eqF_eq (vT n Gl T) x y, jS_old h id id (fun _ => rfl) (vT n Gl T) x y]; rfl)
      | (show pNeq _ _ T h = _; unfold pNeq; rw [ev, ev, vmR_old, iC_old h iNe (fun a b => not (eqI a b)) (fun a b => by rw [iNe, nB_eq, eqF_eq]) (vT n Gl T) x y, jS_old h nB not nB_eq (vT n Gl T) x y]; rfl)
      | (show pCmp ltF _ _ T h = _; unfold pCmp; rw [ev, ev, iC_old h ltF ltI ltF_eq (vT n Gl T) x y]; rfl)
      | (show pCmp iGt _ _ T h = _; unfold pCmp; rw [ev, ev, iC_old h iGt (fun a b => ltI b a) (fun a b => ltF_eq b a) (vT n Gl T) x y]; rfl)
      | (show pCmp iLe _ _ T h = _; unfold pCmp; rw [ev, ev, iC_old h iLe (fun a b => not (ltI b a)) (fun a b => by rw [iLe, nB_eq, ltF_eq]) (vT n Gl T) x y]; rfl)
      | (show pCmp iGe _ _ T h = _; unfold pCmp; rw [ev, ev, iC_old h iGe (fun a b => not (ltI a b)) (fun a b => by rw [iGe, nB_eq, ltF_eq]) (vT n Gl T) x y]; rfl)
  | un op x => cases op <;> rfl
  | sslice x lo hi =>
    cases lo with
    | none => rfl
    | some lo =>
      cases hi with
      | none => rfl
      | some hi => exact oSsl_eq (vT_ok n Gl T) x lo hi
  | _ => rfl
/-- A box, made ready. -/
inductive X3 where
  | m (w : PB) (x : OV)
  | p (w : PB) (b : B3)
  | q (b : B3)
  | g (w : PB) (s : OV) (v : Bool) (b : B3)
  | u (s : OV) (v : Bool) (b : B3)
def isMov : I → Bool
  | .mov _ => true
  | _ => false
def movX (n : Nat) (Gl : Nat → Option (List AV)) : I → OV
  | .mov x => cO n Gl x
  | _ => .k .any
def toX3 (n : Nat) (Gl : Nat → Option (List AV)) (o : Ins) : X3 := match o.gd with
  | none => match o.dst with
    | some d => cond (Nat.blt d n) (cond (isMov o.i) (.m (way d) (movX n Gl o.i)) (.p (way d) (toB3 n Gl o.i))) (.q (toB3 n Gl o.i))
    | none => .q (toB3 n Gl o.i)
  | some (s, v) => match o.dst with
    | some d => cond (Nat.blt d n) (.g (way d) (cO n Gl (.t s)) v (toB3 n Gl o.i)) (.u (cO n Gl (.t s)) v (toB3 n Gl o.i))
    | none => .u (cO n Gl (.t s)) v (toB3 n Gl o.i)
section
variable (cf : CF) (pf : PF) (Gl : Nat → Option (List AV)) (n : Nat)
/-- What follows an answer. -/
def kP (d : Bool) (N : Nat) (ih : TT → List AObj → List Nat → FO) (U : List Nat) (S : AV → TT) (x : FR) : FO :=
  FR.rec .no (fun a h' ids => addR N ids U (ih (S a) h')) (fun v => cond d .no (.pan v)) x
def gK (a : AV) (w : Bool) (x y : FO) : FO := match a with
  | .v v => match v with
    | .bool b => Bool.rec (Bool.rec x y b) (Bool.rec y x b) w
    | .tuple _ => y
    | _ => .no
  | _ => .no
def oM (d : Bool) (N : Nat) (ih : TT → List AObj → List Nat → FO) (T : TT) (h : List AObj) (U : List Nat) (w : PB) (x : OV) : FO := ih (setP (vO T x) w T) h U
def oP (d : Bool) (N : Nat) (ih : TT → List AObj → List Nat → FO) (T : TT) (h : List AObj) (U : List Nat) (w : PB) (b : B3) : FO := kP d N ih U (fun a => setP a w T) (r3 cf pf Gl n b d T h)
def oQ (d : Bool) (N : Nat) (ih : TT → List AObj → List Nat → FO) (T : TT) (h : List AObj) (U : List Nat) (b : B3) : FO := kP d N ih U (fun _ => T) (r3 cf pf Gl n b d T h)
def oG (d : Bool) (N : Nat) (ih : TT → List AObj → List Nat → FO) (T : TT) (h : List AObj) (U : List Nat) (w : PB) (s : OV) (v : Bool) (b : B3) : FO := gK (vO T s) v (kP true N ih U (fun a => setP a w T) (r3 cf pf Gl n b d T h)) (ih (setP und w T) h U)
def oU (d : Bool) (N : Nat) (ih : TT → List AObj → List Nat → FO) (T : TT) (h : List AObj) (U : List Nat) (s : OV) (v : Bool) (b : B3) : FO := gK (vO T s) v (kP true N ih U (fun _ => T) (r3 cf pf Gl n b d T h)) (ih T h U)
def ops3K (d : Bool) (N : Nat) (b : X3) (ih : TT → List AObj → List Nat → FO) (T : TT) (h : List AObj) (U : List Nat) : FO :=
  X3.rec (oM d N ih T h U) (oP cf pf Gl n d N ih T h U) (oQ cf pf Gl n d N ih T h U) (oG cf pf Gl n d N ih T h U) (oU cf pf Gl n d N ih T h U) b
def ops3 (d : Bool) (N : Nat) (l : List X3) : TT → List AObj → List Nat → FO :=
  List.rec (fun T h U => .nrm .normal T h U) (fun b _ ih => ops3K cf pf Gl n d N b ih) l
end
theorem kP_eq (d : Bool) (N : Nat) (ih : TT → List AObj → List Nat → FO) (U : List Nat) (S : AV → TT) (x : FR) : kP d N ih U S x = match x with
    | .val a h' ids => addR N ids U (ih (S a) h')
    | .pan v => cond d .no (.pan v)
    | .no => .no := by cases x <;> rfl
theorem ops3K_eq (cf : CF) (pf : PF) (Gl : Nat → Option (List AV)) (n : Nat) (d : Bool) (N : Nat) (o : Ins) (ih : TT → List AObj → List Nat → FO) (T : TT) (h : List AObj) (U : List Nat) : ops3K cf pf Gl n d N (toX3 n Gl o) ih T h U = opsK cf pf Gl n d N (toBox o) ih T h U := by
  obtain ⟨dst, gd, i⟩ := o
  have e := r3_eq cf pf Gl n i d T h
  have ev : ∀ s, vO T (cO n Gl (.t s)) = cond (Nat.blt s n) (getP (way s) T) .any := fun s => vO_eq n Gl T (.t s)
  have gds : ∀ (a : AV) (v : Bool) (S : AV → TT) (x : FR), gK a v (kP true N ih U S x) (ih (S und) h U) = match gdF a v h x with
      | .val a h' ids => addR N ids U (ih (S a) h')
      | .pan v => cond true .no (.pan v)
      | .no => .no := fun a v S x => by
    unfold gK gdF
    cases a with
    | v y =>
      cases y with
      | bool b => cases v <;> cases b <;> first | (exact kP_eq true N ih U S x) | rfl
      | tuple xs => rfl
      | _ => rfl
    | _ => rfl
  cases gd with
  | none =>
    cases dst with
    | none =>
      show kP d N ih U (fun _ => T) (r3 cf pf Gl n (toB3 n Gl i) d T h) = _
      rw [e, kP_eq]
      show _ = (match runB (toBI i) cf pf d (vT n Gl T) h (slow Gl (slots n T) h i) with | .val a h' ids => addR N ids U (ih T h') | .pan v => cond (d || false) .no (.pan v) | .no => .no)
      cases runB (toBI i) cf pf d (vT n Gl T) h (slow Gl (slots n T) h i) <;> simp
    | some w =>
      show ops3K cf pf Gl n d N (cond (Nat.blt w n) (cond (isMov i) (.m (way w) (movX n Gl i)) (.p (way w) (toB3 n Gl i))) (.q (toB3 n Gl i))) ih T h U = (match runB (toBI i) cf pf d (vT n Gl T) h (slow Gl (slots n T) h i) with | .val a h' ids => addR N ids U (ih (cond (Nat.blt w n) (setP a (way w) T) T) h') | .pan v => cond (d || false) .no (.pan v) | .no => .no)
      cases hw : Nat.blt w n with
      | false =>
        show kP d N ih U (fun _ => T) (r3 cf pf Gl n (toB3 n Gl i) d T h) = _
        rw [e, kP_eq]
        cases runB (toBI i) cf pf d (vT n Gl T) h (slow Gl (slots n T) h i) <;> simp
      | true =>
        have gen : kP d N ih U (fun a => setP a (way w) T) (r3 cf pf Gl n (toB3 n Gl i) d T h) = (match runB (toBI i) cf pf d (vT n Gl T) h (slow Gl (slots n T) h i) with | .val a h' ids => addR N ids U (ih (cond true (setP a (way w) T) T) h') | .pan v => cond (d || false) .no (.pan v) | .no => .no) := by
          rw [e, kP_eq]
          cases runB (toBI i) cf pf d (vT n Gl T) h (slow Gl (slots n T) h i) <;> simp
        cases hm : isMov i with
        | false => exact gen
        | true =>
          cases i with
          | mov x =>
            show ih (setP (vO T (cO n Gl x)) (way w) T) h U = ih (setP (vT n Gl T x) (way w) T) h U
            rw [vO_eq]
          | _ => cases hm
  | some q =>
    obtain ⟨s, v⟩ := q
    cases dst with
    | none =>
      show gK (vO T (cO n Gl (.t s))) v (kP true N ih U (fun _ => T) (r3 cf pf Gl n (toB3 n Gl i) d T h)) (ih T h U) = (match gdF (cond (Nat.blt s n) (getP (way s) T) .any) v h (runB (toBI i) cf pf d (vT n Gl T) h (slow Gl (slots n T) h i)) with | .val a h' ids => addR N ids U (ih T h') | .pan v => cond (d || true) .no (.pan v) | .no => .no)
      rw [ev, gds _ v (fun _ => T), e]
      cases gdF (cond (Nat.blt s n) (getP (way s) T) .any) v h (runB (toBI i) cf pf d (vT n Gl T) h (slow Gl (slots n T) h i)) <;> simp
    | some w =>
      show ops3K cf pf Gl n d N (cond (Nat.blt w n) (.g (way w) (cO n Gl (.t s)) v (toB3 n Gl i)) (.u (cO n Gl (.t s)) v (toB3 n Gl i))) ih T h U = (match gdF (cond (Nat.blt s n) (getP (way s) T) .any) v h (runB (toBI i) cf pf d (vT n Gl T) h (slow Gl (slots n T) h i)) with | .val a h' ids => addR N ids U (ih (cond (Nat.blt w n) (setP a (way w) T) T) h') | .pan v => cond (d || true) .no (.pan v) | .no => .no)
      cases hw : Nat.blt w n with
      | false =>
        show gK (vO T (cO n Gl (.t s))) v (kP true N ih U (fun _ => T) (r3 cf pf Gl n (toB3 n Gl i) d T h)) (ih T h U) = _
        rw [ev, gds _ v (fun _ => T), e]
        cases gdF (cond (Nat.blt s n) (getP (way s) T) .any) v h (runB (toBI i) cf pf d (vT n Gl T) h (slow Gl (slots n T) h i)) <;> simp
      | true =>
        show gK (vO T (cO n Gl (.t s))) v (kP true N ih U (fun a => setP a (way w) T) (r3 cf pf Gl n (toB3 n Gl i) d T h)) (ih (setP und (way w) T) h U) = _
        rw [ev, gds _ v (fun a => setP a (way w) T), e]
        cases gdF (cond (Nat.blt s n) (getP (way s) T) .any) v h (runB (toBI i) cf pf d (vT n Gl T) h (slow Gl (slots n T) h i)) <;> simp
theorem ops3_eq (cf : CF) (pf : PF) (Gl : Nat → Option (List AV)) (n : Nat) (d : Bool) (N : Nat) : ∀ (l : List Ins) (T : TT) (h : List AObj) (U : List Nat), ops3 cf pf Gl n d N (l.map (toX3 n Gl)) T h U = fOps cf pf Gl n d N (l.map toBox) T h U
  | [], T, h, U => rfl
  | o :: l, T, h, U => by
    show ops3K cf pf Gl n d N (toX3 n Gl o) (ops3 cf pf Gl n d N (l.map (toX3 n Gl))) T h U = opsK cf pf Gl n d N (toBox o) (fOps cf pf Gl n d N (l.map toBox)) T h U
    rw [show ops3 cf pf Gl n d N (l.map (toX3 n Gl)) = fOps cf pf Gl n d N (l.map toBox) from funext fun T => funext fun h => funext fun U => ops3_eq cf pf Gl n d N l T h U]
    exact ops3K_eq cf pf Gl n d N o _ T h U
/-- A program made ready. -/
structure PR where
  Gl : Nat → Option (List AV)
  tab : Nat → Option FnE
  hd : HandF
def c3Ops (p : PR) (ih : EX) (N n : Nat) (T : TT) (h : List AObj) (U : List Nat) (d : Bool) (l : List Ins) : FO := ops3 (cfF p.tab p.hd ih) (pfF p.tab p.hd ih) p.Gl n d N (l.map (toX3 n p.Gl)) T h U
def c3Rops (p : PR) (ih : EX) (N n : Nat) (T : TT) (h : List AObj) (U : List Nat) (l : List (Nat × Ins)) : FO := cRops p.Gl p.tab p.hd l ih N n T h U
def c3Seq (ih : EX) (N n : Nat) (T : TT) (h : List AObj) (U : List Nat) (a b : C) : FO := seqK (ih N n a T h U) (ih N n b)
def c3Cond (p : PR) (ih : EX) (N n : Nat) (T : TT) (h : List AObj) (U : List Nat) (x : Opd) (a b : C) : FO := cndK (vO T (cO n p.Gl x)) (ih N n a T h U) (ih N n b T h U)
def c3Blk (ih : EX) (N n : Nat) (T : TT) (h : List AObj) (U : List Nat) (id : Nat) (b : C) : FO := blkK id (ih N n b T h U)
def c3Loop (ih : EX) (N n : Nat) (T : TT) (h : List AObj) (U : List Nat) (b : C) : FO := seqK (ih N n b T h U) (ih N n (.loop b))
def fC3 (p : PR) (c : C) (ih : EX) (N n : Nat) (T : TT) (h : List AObj) (U : List Nat) : FO := match c with
  | .skip => .nrm .normal T h U
  | .ops d l => c3Ops p ih N n T h U d l
  | .rops l => c3Rops p ih N n T h U l
  | .seq a b => c3Seq ih N n T h U a b
  | .cond x a b => c3Cond p ih N n T h U x a b
  | .block id b => c3Blk ih N n T h U id b
  | .loop b => c3Loop ih N n T h U b
  | .exit id => .nrm (.exit id) T h U
  | .ret => .nrm .ret T h U
def gC (p : PR) (k : Nat) : EX := Nat.rec (fun _ _ _ _ _ _ => .no) (fun _ ih N n c T h U => fC3 p c ih N n T h U) k
theorem gC_eq (p : PR) (k : Nat) : gC p k = fC p.Gl p.tab p.hd k := by
  induction k with
  | zero => rfl
  | succ k ih =>
    funext N n c T h U
    show fC3 p c (gC p k) N n T h U = fC1 p.Gl p.tab p.hd c (fC p.Gl p.tab p.hd k) N n T h U
    rw [ih]
    cases c with
    | ops d l => exact ops3_eq _ _ _ _ _ _ _ _ _ _
    | cond x a b =>
      show cndK (vO T (cO n p.Gl x)) _ _ = cndK (vT n p.Gl T x) _ _
      rw [vO_eq]
    | _ => rfl
theorem fast3 {P : Program} {Gl : Nat → Option (List AV)} {hd : HandF} (hm : P.follows .mixedOrders = true) {hl : List Nat} (hh : HandOk P Gl hd.hand) (k : Nat) {f : Nat} {as : List AV} {res : AV} (h : pfF0 (fnE P hl) (gC ⟨Gl, fnE P hl, hd⟩ k) f as = some res) : Pure P Gl f as res := by
  rw [gC_eq] at h
  exact fast_pure hm hh k h
end
end Abs
end Go.Proofs.YtnhgeocdffhkjaaDoor
