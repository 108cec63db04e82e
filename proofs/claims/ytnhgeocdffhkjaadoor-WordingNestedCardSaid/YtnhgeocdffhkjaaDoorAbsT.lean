/- Types of native values. -/
import Derived.Test.YtnhgeocdffhkjaaDoorAbsL
namespace Go.Proofs.YtnhgeocdffhkjaaDoor
namespace Abs
open Go.RowKit

/-- Plain types. -/
inductive Ty where
  | int (k : IntKind)
  | bool
  | str
  | list (e : Ty)
  | tup (fs : List Ty)
  | fnc (f : Nat)
  | listF (e : Ty)
  | rl (ty sz : Nat)
mutual
def Ty.size : Ty → Nat
  | .tup fs => Ty.sizeL fs
  | _ => 1
def Ty.sizeL : List Ty → Nat
  | [] => 0
  | t :: ts => t.size + Ty.sizeL ts
end
def Ty.isTup : Ty → Bool
  | .tup _ => true
  | _ => false
/-- An element out of its cells. -/
def pack (T : Ty) (cs : List AV) : AV := if T.isTup then .agg cs else cs.headD .any
/-- Types that hold lists of themselves: what an element is. -/
def rTab : Nat → Option Ty := fun _ => none
end Abs
end Go.Proofs.YtnhgeocdffhkjaaDoor
