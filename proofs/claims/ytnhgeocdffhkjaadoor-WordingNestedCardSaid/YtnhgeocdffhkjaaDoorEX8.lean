/- The abstract machine, run faster still: code as closures made ready once. -/
import Derived.Test.YtnhgeocdffhkjaaDoorEX7
namespace Go.Proofs.YtnhgeocdffhkjaaDoor
namespace Abs
open Go.RowKit
set_option linter.unusedVariables false
set_option linter.unusedSimpArgs false
noncomputable section
def mapL {α β : Type} (f : α → β) (l : List α) : List β := List.rec [] (fun a _ ih => f a :: ih) l
theorem mapL_eq {α β : Type} (f : α → β) : ∀ l : List α, mapL f l = l.map f
  | [] => rfl
  | a :: l => by show f a :: mapL f l = _; rw [mapL_eq f l]; rfl
/-- An operation as a closure. -/
structure Op3 where
  run : CF → PF → Bool → Nat → (TT → List AObj → List Nat → FO) → TT → List AObj → List Nat → FO
def opF (w : PB) (g : TT → List AObj → FR) : Op3 := ⟨fun cf pf d N ih T h U => kP d N ih U (fun a => setP a w T) (g T h)⟩
def opO (n : Nat) (Gl : Nat → Option (List AV)) (w : PB) (g : (Opd → AV) → List AObj → FR) : Op3 := ⟨fun cf pf d N ih T h U => kP d N ih U (fun a => setP a w T) (g (vT n Gl T) h)⟩
def opC (w : PB) (f : Nat) (args : List OV) : Op3 := ⟨fun cf pf d N ih T h U => kP d N ih U (fun a => setP a w T) (Bool.rec (cf f (mapL (vO T) args) h) (callD pf f h (mapL (vO T) args)) d)⟩
def opC' (f : Nat) (args : List OV) : Op3 := ⟨fun cf pf d N ih T h U => kP d N ih U (fun _ => T) (Bool.rec (cf f (mapL (vO T) args) h) (callD pf f h (mapL (vO T) args)) d)⟩
def opW (n : Nat) (Gl : Nat → Option (List AV)) (g : (Opd → AV) → List AObj → FR → FR) (i : I) : Op3 := ⟨fun cf pf d N ih T h U => kP d N ih U (fun _ => T) (g (vT n Gl T) h (slow Gl (slots n T) h i))⟩
def opX (n : Nat) (Gl : Nat → Option (List AV)) (x : X3) : Op3 := ⟨fun cf pf d N ih T h U => ops3K cf pf Gl n d N x ih T h U⟩
def opM (w : PB) (x : OV) : Op3 := ⟨fun cf pf d N ih T h U => ih (setP (vO T x) w T) h U⟩
def opG (w : PB) (s : OV) (v : Bool) (x : Op3) : Op3 := ⟨fun cf pf d N ih T h U => gK (vO T s) v (x.run cf pf d N ih T h U) (ih (setP und w T) h U)⟩
def opP (n : Nat) (Gl : Nat → Option (List AV)) (w : PB) (b : B3) : Op3 := match b with
  | .f g => opF w g
  | .o g => opO n Gl w g
  | .c f args => opC w f args
  | b => opX n Gl (.p w b)
def opQ (n : Nat) (Gl : Nat → Option (List AV)) (b : B3) : Op3 := match b with
  | .c f args => opC' f args
  | .w g i => opW n Gl g i
  | b => opX n Gl (.q b)
def fOf : B3 → TT → List AObj → FR
  | .f g => g
  | _ => fun _ _ => .no
def toOp (n : Nat) (Gl : Nat → Option (List AV)) (x : X3) : Op3 := match x with
  | .m w x => opM w x
  | .p w b => opP n Gl w b
  | .q b => opQ n Gl b
  | .g w s v b => opX n Gl (.g w s v b)
  | .u s v b => opX n Gl (.u s v b)
theorem toOp_eq (n : Nat) (Gl : Nat → Option (List AV)) (x : X3) (cf : CF) (pf : PF) (d : Bool) (N : Nat) (ih : TT → List AObj → List Nat → FO) (T : TT) (h : List AObj) (U : List Nat) : (toOp n Gl x).run cf pf d N ih T h U = ops3K cf pf Gl n d N x ih T h U := by
  cases x with
  | p w b =>
    cases b with
    | c f args =>
      show kP d N ih U (fun a => setP a w T) (Bool.rec (cf f (mapL (vO T) args) h) (callD pf f h (mapL (vO T) args)) d) = kP d N ih U (fun a => setP a w T) (r3C cf pf d T h f args)
      unfold r3C; rw [mapL_eq]
    | _ => rfl
  | q b =>
    cases b with
    | c f args =>
      show kP d N ih U (fun _ => T) (Bool.rec (cf f (mapL (vO T) args) h) (callD pf f h (mapL (vO T) args)) d) = kP d N ih U (fun _ => T) (r3C cf pf d T h f args)
      unfold r3C; rw [mapL_eq]
    | _ => rfl
  | _ => rfl
/-- A list of them. -/
def readyL (n : Nat) (Gl : Nat → Option (List AV)) (l : List Ins) : List Op3 := mapL (fun o => toOp n Gl (toX3 n Gl o)) l
def runL (cf : CF) (pf : PF) (d : Bool) (N : Nat) (l : List Op3) : TT → List AObj → List Nat → FO :=
  List.rec (fun T h U => .nrm .normal T h U) (fun b _ ih => b.run cf pf d N ih) l
theorem runL_eq (cf : CF) (pf : PF) (Gl : Nat → Option (List AV)) (n : Nat) (d : Bool) (N : Nat) : ∀ l : List Ins, runL cf pf d N (readyL n Gl l) = ops3 cf pf Gl n d N (l.map (toX3 n Gl))
  | [] => rfl
  | o :: l => by
    show (toOp n Gl (toX3 n Gl o)).run cf pf d N (runL cf pf d N (readyL n Gl l)) = ops3K cf pf Gl n d N (toX3 n Gl o) (ops3 cf pf Gl n d N (l.map (toX3 n Gl)))
    rw [runL_eq cf pf Gl n d N l]
    funext T h U
    exact toOp_eq n Gl _ cf pf d N _ T h U
/-- Code as a closure. -/
structure K3 where
  run : EX → Nat → TT → List AObj → List Nat → FO
def kOps (p : PR) (n : Nat) (d : Bool) (l : List Ins) : K3 := ⟨fun ih N T h U => runL (cfF p.tab p.hd ih) (pfF p.tab p.hd ih) d N (readyL n p.Gl l) T h U⟩
def kRops (p : PR) (n : Nat) (l : List (Nat × Ins)) : K3 := ⟨fun ih N T h U => cRops p.Gl p.tab p.hd l ih N n T h U⟩
def kSeq (n : Nat) (a b : C) : K3 := ⟨fun ih N T h U => seqK (ih N n a T h U) (ih N n b)⟩
def kCond (p : PR) (n : Nat) (x : Opd) (a b : C) : K3 := ⟨fun ih N T h U => cndK (vO T (cO n p.Gl x)) (ih N n a T h U) (ih N n b T h U)⟩
def kBlk (n : Nat) (id : Nat) (b : C) : K3 := ⟨fun ih N T h U => blkK id (ih N n b T h U)⟩
def kLoop (n : Nat) (b : C) : K3 := ⟨fun ih N T h U => seqK (ih N n b T h U) (ih N n (.loop b))⟩
def kEnd (e : Exit) : K3 := ⟨fun ih N T h U => .nrm e T h U⟩
def comp (p : PR) (n : Nat) (c : C) : K3 := match c with
  | .skip => kEnd .normal
  | .ops d l => kOps p n d l
  | .rops l => kRops p n l
  | .seq a b => kSeq n a b
  | .cond x a b => kCond p n x a b
  | .block id b => kBlk n id b
  | .loop b => kLoop n b
  | .exit id => kEnd (.exit id)
  | .ret => kEnd .ret
theorem comp_eq (p : PR) (n : Nat) (c : C) (ih : EX) (N : Nat) (T : TT) (h : List AObj) (U : List Nat) : (comp p n c).run ih N T h U = fC3 p c ih N n T h U := by
  cases c with
  | ops d l =>
    show runL _ _ d N (readyL n p.Gl l) T h U = ops3 _ _ p.Gl n d N (l.map (toX3 n p.Gl)) T h U
    rw [runL_eq]
  | _ => rfl
def hC (p : PR) (k : Nat) : EX := Nat.rec (fun _ _ _ _ _ _ => .no) (fun _ ih N n c T h U => (comp p n c).run ih N T h U) k
theorem hC_eq (p : PR) (k : Nat) : hC p k = gC p k := by
  induction k with
  | zero => rfl
  | succ k ih =>
    funext N n c T h U
    show (comp p n c).run (hC p k) N T h U = fC3 p c (gC p k) N n T h U
    rw [ih, comp_eq]
theorem fast4 {P : Program} {Gl : Nat → Option (List AV)} {hd : HandF} (hm : P.follows .mixedOrders = true) {hl : List Nat} (hh : HandOk P Gl hd.hand) (k : Nat) {f : Nat} {as : List AV} {res : AV} (h : pfF0 (fnE P hl) (hC ⟨Gl, fnE P hl, hd⟩ k) f as = some res) : Pure P Gl f as res := by
  rw [hC_eq] at h
  exact fast3 hm hh k h
end
end Abs
end Go.Proofs.YtnhgeocdffhkjaaDoor
