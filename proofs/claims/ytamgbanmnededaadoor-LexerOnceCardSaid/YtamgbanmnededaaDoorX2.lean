/- The typed machine: shapes, instances, regions, code. Definitions alone. -/
import Derived.Test.YtamgbanmnededaaDoorX1
namespace Go.Proofs.YtamgbanmnededaaDoor
namespace Abs
open Go.RowKit
set_option linter.unusedVariables false

/-- A loop over a native state. -/
def runO {S R : Type} (step : S → Option (S ⊕ R)) : Nat → S → Option R
  | 0, _ => none
  | n + 1, s => match step s with
    | some (.inl s') => runO step n s'
    | some (.inr r) => some r
    | none => none
open Classical in
noncomputable def loopO {S R : Type} (step : S → Option (S ⊕ R)) (s : S) : Option R :=
  if h : ∃ n r, runO step n s = some r then runO step h.choose s else none

def listX : (ps : List Ty) → Ty.denL ps → List XV
  | [], _ => []
  | T :: ps, x => .d T x.1 :: listX ps x.2
def argsD (h : List XO) : (ps : List Ty) → List XV → Option (Ty.denL ps)
  | [], [] => some ()
  | T :: ps, v :: vs => match toD h T v, argsD h ps vs with
    | some x, some y => some (x, y)
    | _, _ => none
  | _, _ => none
def resX (rs : List Ty) (y : Ty.denL rs) : XV := match listX rs y with
  | [v] => v
  | vs => .tup vs
mutual
/-- Lists that may be nil. -/
def hasF : Ty → Bool
  | .listF _ => true
  | .tup fs => hasFL fs
  | _ => false
def hasFL : List Ty → Bool
  | [] => false
  | t :: ts => hasF t || hasFL ts
end
mutual
def scalT : Ty → Bool
  | .list _ => false
  | .listF _ => false
  | .tup fs => scalL fs
  | _ => true
def scalL : List Ty → Bool
  | [] => true
  | t :: ts => scalT t && scalL ts
end

/-- What a function makes of native arguments. -/
structure PI where
  f : Nat
  ps : List Ty
  rs : List Ty
  run : Ty.denL ps → Option (Ty.denL rs)

/-- Shapes of slots and of objects. -/
inductive SC where
  | d (T : Ty)
  | row (j : Nat)
  | ptr (j i off : Nat)
  | me (j : Nat)
  | nil
  | any
inductive SR where
  | row (j : Nat)
  | ptr (j i off : Nat)
  | nil
  | agg (cs : List SC)
inductive SO where
  | row (ty : Nat) (T : Ty) (fz : Bool)
  | box (ty : Nat) (cs : List SC)
structure Sh where
  n : Nat
  vars : List (Nat × Ty)
  refs : List (Nat × SR)
  objs : List SO
def SC.tys : List SC → List Ty → List Ty
  | [], r => r
  | .d T :: cs, r => T :: SC.tys cs r
  | .row _ :: cs, r => SC.tys cs r
  | .ptr _ _ _ :: cs, r => SC.tys cs r
  | .me _ :: cs, r => SC.tys cs r
  | .nil :: cs, r => SC.tys cs r
  | .any :: cs, r => SC.tys cs r
def SO.tys : List SO → List Ty
  | [] => []
  | .row _ T _ :: os => .list T :: SO.tys os
  | .box _ cs :: os => SC.tys cs (SO.tys os)
def varTys : List (Nat × Ty) → List Ty → List Ty
  | [], r => r
  | (_, T) :: vs, r => T :: varTys vs r
def refTys : List (Nat × SR) → List Ty → List Ty
  | [], r => r
  | (_, .row _) :: l, r => refTys l r
  | (_, .ptr _ _ _) :: l, r => refTys l r
  | (_, .nil) :: l, r => refTys l r
  | (_, .agg cs) :: l, r => SC.tys cs (refTys l r)
def Sh.tys (sh : Sh) : List Ty := varTys sh.vars (refTys sh.refs (SO.tys sh.objs))
def embV : (vs : List (Nat × Ty)) → (r : List Ty) → Ty.denL (varTys vs r) → List XV → List XV × Ty.denL r
  | [], r, x, t => (t, x)
  | (i, T) :: vs, r, x, t => embV vs r x.2 (t.set i (.d T x.1))
def embC : (cs : List SC) → (r : List Ty) → Ty.denL (SC.tys cs r) → List XV × Ty.denL r
  | [], r, x => ([], x)
  | .d T :: cs, r, x => (.d T x.1 :: (embC cs r x.2).1, (embC cs r x.2).2)
  | .row j :: cs, r, x => (.row j :: (embC cs r x).1, (embC cs r x).2)
  | .ptr j i o :: cs, r, x => (.ptr j i o :: (embC cs r x).1, (embC cs r x).2)
  | .me j :: cs, r, x => (.me j :: (embC cs r x).1, (embC cs r x).2)
  | .nil :: cs, r, x => (.k (.slice none 0 0) :: (embC cs r x).1, (embC cs r x).2)
  | .any :: cs, r, x => (.any :: (embC cs r x).1, (embC cs r x).2)
def embO : (os : List SO) → Ty.denL (SO.tys os) → List XO
  | [], _ => []
  | .row ty T fz :: os, x => .row ty T fz x.1 :: embO os x.2
  | .box ty cs :: os, x => .box ty (embC cs (SO.tys os) x).1 :: embO os (embC cs (SO.tys os) x).2
def embRf : (refs : List (Nat × SR)) → (r : List Ty) → Ty.denL (refTys refs r) → List XV → List XV × Ty.denL r
  | [], r, x, t => (t, x)
  | (s, .row j) :: l, r, x, t => embRf l r x (t.set s (.row j))
  | (s, .ptr j i o) :: l, r, x, t => embRf l r x (t.set s (.ptr j i o))
  | (s, .nil) :: l, r, x, t => embRf l r x (t.set s (.k (.slice none 0 0)))
  | (s, .agg cs) :: l, r, x, t => embRf l r (embC cs (refTys l r) x).2 (t.set s (.agg (embC cs (refTys l r) x).1))
/-- The state of a shape. -/
def embS (sh : Sh) (x : Ty.denL sh.tys) : List XV × Ty.denL (SO.tys sh.objs) :=
  embRf sh.refs (SO.tys sh.objs) (embV sh.vars (refTys sh.refs (SO.tys sh.objs)) x (List.replicate sh.n .any)).2 (embV sh.vars (refTys sh.refs (SO.tys sh.objs)) x (List.replicate sh.n .any)).1
def emb (sh : Sh) (x : Ty.denL sh.tys) : XS := ⟨(embS sh x).1, embO sh.objs (embS sh x).2⟩

/-- The objects that a shape speaks of, as they are found. -/
def asg (foc : List (Option Nat)) (j id : Nat) : Option (List (Option Nat)) := match foc[j]? with
  | some none => some (foc.set j (some id))
  | some (some id') => if Nat.beq id id' = true then some foc else none
  | none => none
def isNilX : XV → Bool
  | .k (.slice none 0 0) => true
  | _ => false
/-- An object's own address, or none. -/
def nilP : Value → Bool
  | .pointer none => true
  | _ => false
def meId : XV → Option (Option Nat)
  | .me id => some (some id)
  | .ptr id i o => if (Nat.beq i 0 && Nat.beq o 0) = true then some (some id) else none
  | .k v => if nilP v = true then some none else none
  | _ => none
def extC : (cs : List SC) → (r : List Ty) → List XV → List (Option Nat) → Option (List (Option Nat) × (Ty.denL r → Ty.denL (SC.tys cs r)))
  | [], r, vs, foc => match vs with
    | [] => some (foc, fun x => x)
    | _ :: _ => none
  | .d T :: cs, r, vs, foc => match vs with
    | [] => none
    | v :: vs => match toD [] T v, extC cs r vs foc with
      | some x, some (foc, g) => some (foc, fun y => (x, g y))
      | _, _ => none
  | .row j :: cs, r, vs, foc => match vs with
    | .row id :: vs => match asg foc j id with
      | some foc => extC cs r vs foc
      | none => none
    | _ => none
  | .ptr j i o :: cs, r, vs, foc => match vs with
    | .ptr id i' o' :: vs => if (Nat.beq i i' && Nat.beq o o') = true then match asg foc j id with
      | some foc => extC cs r vs foc
      | none => none
      else none
    | _ => none
  | .me j :: cs, r, vs, foc => match vs with
    | [] => none
    | v :: vs => match meId v with
      | some (some id) => match asg foc j id with
        | some foc => extC cs r vs foc
        | none => none
      | some none => extC cs r vs foc
      | none => none
  | .nil :: cs, r, vs, foc => match vs with
    | [] => none
    | v :: vs => if isNilX v = true then extC cs r vs foc else none
  | .any :: cs, r, vs, foc => match vs with
    | [] => none
    | _ :: vs => extC cs r vs foc
def extR (t : List XV) : (refs : List (Nat × SR)) → (r : List Ty) → List (Option Nat) → Option (List (Option Nat) × (Ty.denL r → Ty.denL (refTys refs r)))
  | [], r, foc => some (foc, fun y => y)
  | (s, .row j) :: l, r, foc => match t.getD s .any with
    | .row id => match asg foc j id with
      | some foc => extR t l r foc
      | none => none
    | _ => none
  | (s, .ptr j i o) :: l, r, foc => match t.getD s .any with
    | .ptr id i' o' => if (Nat.beq i i' && Nat.beq o o') = true then match asg foc j id with
      | some foc => extR t l r foc
      | none => none
      else none
    | _ => none
  | (s, .nil) :: l, r, foc => if isNilX (t.getD s .any) = true then extR t l r foc else none
  | (s, .agg cs) :: l, r, foc => match t.getD s .any with
    | .agg vs => match extC cs (refTys l r) vs foc with
      | some (foc, g) => match extR t l r foc with
        | some (foc, g') => some (foc, fun y => g (g' y))
        | none => none
      | none => none
    | _ => none
def extO (h : List XO) : (os : List SO) → Nat → List (Option Nat) → Option (List (Option Nat) × Ty.denL (SO.tys os))
  | [], _, foc => some (foc, ())
  | .row ty T fz :: os, j, foc => match foc[j]? with
    | some (some id) => match h[id]? with
      | some (.row ty' T' fz' es) => if (Nat.beq ty ty' && (fz == fz')) = true then match castT (a := .list T') (b := .list T) es, extO h os (j + 1) foc with
        | some es, some (foc, y) => some (foc, (es, y))
        | _, _ => none
        else none
      | _ => none
    | _ => none
  | .box ty cs :: os, j, foc => match foc[j]? with
    | some (some id) => match h[id]? with
      | some (.box ty' vs) => if Nat.beq ty ty' = true then match extC cs (SO.tys os) vs foc with
        | some (foc, g) => match extO h os (j + 1) foc with
          | some (foc, y) => some (foc, g y)
          | none => none
        | none => none
        else none
      | _ => none
    | _ => none
def extV (t : List XV) : (vs : List (Nat × Ty)) → (r : List Ty) → Ty.denL r → Option (Ty.denL (varTys vs r))
  | [], r, y => some y
  | (s, T) :: vs, r, y => match toD [] T (t.getD s .any), extV t vs r y with
    | some x, some z => some (x, z)
    | _, _ => none
def allSome : List (Option Nat) → Option (List Nat)
  | [] => some []
  | some a :: l => match allSome l with
    | some m => some (a :: m)
    | none => none
  | none :: _ => none
def nodupB : List Nat → Bool
  | [] => true
  | a :: l => !(l.any (Nat.beq a)) && nodupB l
def startsR : Nat → Nat → List Nat → Bool
  | 0, _, _ => true
  | n + 1, j, a :: l => Nat.beq a j && startsR n (j + 1) l
  | _ + 1, _, [] => false
/-- The first objects are those of the caller's. -/
def initF (nf : Nat) : Nat → Nat → List (Option Nat)
  | _, 0 => []
  | j, n + 1 => (if Nat.blt j nf = true then some j else none) :: initF nf (j + 1) n
/-- A state by its shape: the objects found, the native values. -/
def ext (nf : Nat) (sh : Sh) (X : XS) : Option (List Nat × Ty.denL sh.tys) := match extR X.t sh.refs (SO.tys sh.objs) (initF nf 0 sh.objs.length) with
  | some (foc, g) => match extO X.h sh.objs 0 foc with
    | some (foc, y) => match allSome foc, extV X.t sh.vars (refTys sh.refs (SO.tys sh.objs)) (g y) with
      | some foc, some x => if nodupB foc = true then some (foc, x) else none
      | _, _ => none
    | none => none
  | none => none
/-- What is done to slots ahead of a loop's round: nil as an empty row of the call's own; rows kept for good. -/
inductive Pre where
  | gh (s ty : Nat) (T : Ty)
  | fz (s : Nat) (T : Ty)
  | ghc (s o ty : Nat) (T : Ty)
  | gha (s o ty : Nat) (T : Ty)
  | tr (s : Nat)
def preX1 (nf : Nat) (X : XS) : Pre → XS
  | .gh s ty T => match X.t.getD s .any with
    | .k (.slice none 0 0) => if Nat.blt 0 T.size = true then ⟨X.t.set s (.row X.h.length), X.h ++ [.row ty T false []]⟩ else X
    | _ => X
  | .fz s T => match toD X.h T (X.t.getD s .any) with
    | some x => ⟨X.t.set s (.d T x), frzX X.h (rowsX (X.t.getD s .any))⟩
    | none => X
  | .ghc s o ty T => match X.t.getD s .any with
    | .ptr id i off => match X.h[id]? with
      | some (.box ty' cs) => match cs[o]? with
        | some (.k (.slice none 0 0)) => if Nat.blt 0 T.size = true then ⟨X.t, (X.h ++ [XO.row ty T false []]).set id (.box ty' (cs.set o (.row X.h.length)))⟩ else X
        | _ => X
      | _ => X
    | _ => X
  | .gha s o ty T => match X.t.getD s .any with
    | .agg cs => match cs[o]? with
      | some (.k (.slice none 0 0)) => if Nat.blt 0 T.size = true then ⟨X.t.set s (.agg (cs.set o (.row X.h.length))), X.h ++ [XO.row ty T false []]⟩ else X
      | _ => X
    | _ => X
  | .tr s => match X.t.getD s .any with
    | .sub id off len => match X.h[id]? with
      | some (.row ty T fz es) => if (Nat.beq off 0 && Nat.ble nf id && !fz) = true then ⟨(X.t.map (killT id)).set s (.row id), (X.h.map (killO id)).set id (.row ty T false (es.take len))⟩ else X
      | _ => X
    | _ => X
def preX (nf : Nat) (l : List Pre) (X : XS) : XS := l.foldl (preX1 nf) X

/-- What a function makes of memory of its caller's own. -/
structure HI where
  f : Nat
  ish : Sh
  osh : Sh
  run : Ty.denL ish.tys → Option (Ty.denL osh.tys)
structure Cfg where
  tt : Nat → Option Ty
  GX : GXT
  pis : List PI
  his : List HI

def ren1 (foc : List Nat) (base : Nat) : XV → XV
  | .row j => .row (if Nat.blt j foc.length = true then foc.getD j 0 else base + (j - foc.length))
  | .ptr j i o => .ptr (if Nat.blt j foc.length = true then foc.getD j 0 else base + (j - foc.length)) i o
  | .sub _ _ _ => .any
  | .csub _ _ => .any
  | .vrow _ => .any
  | .me j => .me (if Nat.blt j foc.length = true then foc.getD j 0 else base + (j - foc.length))
  | x => x
def renA (foc : List Nat) (base : Nat) : XV → XV
  | .agg cs => .agg (cs.map (ren1 foc base))
  | x => ren1 foc base x
def renO (foc : List Nat) (base : Nat) : XO → XO
  | .box ty cs => .box ty (cs.map (ren1 foc base))
  | o => o
def setFoc (foc : List Nat) (base : Nat) : List Nat → List XO → List XO → List XO
  | [], h, os => h ++ os.map (renO foc base)
  | id :: l, h, o :: os => setFoc foc base l (h.set id (renO foc base o)) os
  | _ :: _, h, [] => h
/-- The rows among the objects found: what else was known of them is forgotten. -/
def rowIds : List Nat → List SO → List Nat
  | id :: l, .row .. :: os => id :: rowIds l os
  | _ :: l, _ :: os => rowIds l os
  | _, _ => []
/-- The objects of two shapes are of the same kinds. -/
def kinds : List SO → List SO → Bool
  | [], _ => true
  | .row _ _ _ :: os, .row _ _ _ :: os' => kinds os os'
  | .box _ _ :: os, .box _ _ :: os' => kinds os os'
  | _, _ => false
def outX (foc : List Nat) (base : Nat) (t : List XV) : XV := match t with
  | [v] => renA foc base v
  | vs => .tup (vs.map (renA foc base))

def allOk : Nat → Bool := fun _ => true
def plainX : XV → Bool
  | .agg cs => cs.all plain1
  | x => plain1 x
/-- An instruction turns objects that are ok alone. -/
def leaves (ok : Nat → Bool) (rd : Opd → XV) : I → Bool
  | .store _ x y => match rd x with
    | .ptr id _ _ => ok id && (rowsX (rd y)).all ok
    | _ => false
  | .app _ _ _ s _ => match rd s with
    | .row id => ok id
    | .k _ => true
    | .csub _ _ => true
    | _ => false
  | .apps _ _ s _ => match rd s with
    | .row id => ok id
    | .k _ => true
    | _ => false
  | .copy .. => false
  | .bslice _ _ xs => ((xs.map rd).flatMap rowsX).all ok
  | .call _ args => ((args.map rd).flatMap rowsX).all ok
  | _ => true

def killH (kl : List Nat) (h : List XO) : List XO := kl.foldl (fun h id => h.map (killO id)) h
section
variable {β : Type}
def xcallH (f : Nat) (ok : Nat → Bool) (h : List XO) (vs : List XV) (K : XV → List Nat → List XO → Option β) : List HI → Option β
  | [] => none
  | p :: ps => if (Nat.beq p.f f && Nat.beq p.ish.n vs.length && kinds p.ish.objs p.osh.objs) = true then match ext 0 p.ish ⟨vs, h⟩ with
      | some (foc, x) => if foc.all ok = true then (p.run x).bind fun y => K (outX foc h.length (emb p.osh y).t) (rowIds foc p.ish.objs) (setFoc foc h.length foc (killH (rowIds foc p.ish.objs) h) (emb p.osh y).h) else none
      | none => xcallH f ok h vs K ps
    else xcallH f ok h vs K ps
def xcallP (f : Nat) (d : Bool) (h : List XO) (vs : List XV) (K : XV → List Nat → List XO → Option β) (o : Option β) : List PI → Option β
  | [] => o
  | p :: ps => if Nat.beq p.f f = true then match argsD h p.ps vs with
      | some x => if scalL p.rs = true then (p.run x).bind fun y => K (resX p.rs y) [] h
        else if ((!d && !(hasFL p.rs)) || (vs.flatMap rowsX).all (isFz h)) = true then (p.run x).bind fun y => K (resX p.rs y) [] (frzX h (vs.flatMap rowsX)) else none
      | none => xcallP f d h vs K o ps
    else xcallP f d h vs K o ps
def xexec (c : Cfg) (d : Bool) (ok : Nat → Bool) (h : List XO) (rd : Opd → XV) (K : XV → List Nat → List XO → Option β) : I → Option β
  | .call fo args => match rd fo with
    | .d (.fnc f) _ => xcallP f d h (args.map rd) K (if d = true then none else xcallH f ok h (args.map rd) K c.his) c.pis
    | _ => none
  | .app ty sz bytes s x => match rd s with
    | .csub id len => match c.tt ty, h[id]? with
      | some T, some (.row _ T' _ es) => if Nat.beq T.size sz = true then match elemsX h T (rd x), castT (a := .list T') (b := .list T) es with
          | some ys, some es => cond (someE ys) (cond (fits (len + List.length ys) bytes) (K (.row h.length) [] (h ++ [.row ty T false (List.take len es ++ ys)])) none) (K (.sub id 0 len) [] h)
          | _, _ => none
        else none
      | _, _ => none
    | _ => match xstep c.tt h rd (.app ty sz bytes s x) with
      | some (p, v, kl, h') => cond p (K v kl.toList (killH kl.toList h')) none
      | none => none
  | i => match xstep c.tt h rd i with
    | some (p, v, kl, h') => cond p (K v kl.toList (killH kl.toList h')) none
    | none => none

/-- Values that count if a slot holds a truth value. -/
abbrev Sp := List (Nat × Nat × Bool × XV)
/-- What is read while guards hold. -/
def rdC (GX : GXT) (sp : Sp) (ctx : List (Nat × Bool)) (t : List XV) : Opd → XV
  | .t i => match sp.find? (fun q => Nat.beq q.1 i && ctx.any fun g => Nat.beq g.1 q.2.1 && (g.2 == q.2.2.1)) with
    | some q => q.2.2.2
    | none => t.getD i .any
  | o => rdG GX t o
/-- A slot that was not written to. -/
def kU : XV := .k (.tuple #[])
/-- A slot's truth value is known: what hangs on it is written down. -/
def matL (s : Nat) (v : Bool) (sp : Sp) (t : List XV) : List XV := sp.foldl (fun t q => if Nat.beq q.2.1 s = true then t.set q.1 (if (q.2.2.1 == v) = true then q.2.2.2 else kU) else t) (t.set s (.d .bool v))
def matS (s : Nat) (sp : Sp) : Sp := sp.filter fun q => !(Nat.beq q.2.1 s)
def killL (kl : List Nat) (t : List XV) : List XV := kl.foldl (fun t id => t.map (killT id)) t
def killS (kl : List Nat) (sp : Sp) : Sp := kl.foldl (fun sp id => sp.map fun q => (q.1, q.2.1, q.2.2.1, killT id q.2.2.2)) sp
def putX (t : List XV) (dst : Option Nat) (v : XV) : List XV := match dst with
  | some i => t.set i v
  | none => t
def spDrop (dst : Option Nat) (sp : Sp) : Sp := match dst with
  | some i => sp.filter fun q => !(Nat.beq q.1 i) && !(Nat.beq q.2.1 i)
  | none => sp
def specI : I → Bool
  | .call .. | .store .. | .app .. | .apps .. | .s2b .. | .bslice .. | .bvec .. | .box .. | .alloc .. | .alloca .. | .copy .. | .mk .. => false
  | _ => true
def mrg : Bool → XV → XV → Option XV
  | t, .d T x, .d T' y => match castT (b := T) y with
    | some y => some (.d T (cond t x y))
    | none => none
  | _, _, _ => none
def xpick (X : XS) (sp : Sp) (dst : Option Nat) (s : Nat) (c a b : XV) (K : XS → Sp → Option β) : Option β := match c with
  | .d .bool t => match mrg t a b with
    | some v => K ⟨putX X.t dst v, X.h⟩ (spDrop dst sp)
    | none => cond t (K ⟨putX (matL s true sp X.t) dst a, X.h⟩ (spDrop dst (matS s sp))) (K ⟨putX (matL s false sp X.t) dst b, X.h⟩ (spDrop dst (matS s sp)))
  | _ => none
/-- An instruction without a guard. -/
def xun (c : Cfg) (d : Bool) (ok : Nat → Bool) (X : XS) (sp : Sp) (dst : Option Nat) (K : XS → Sp → Option β) : I → Option β
  | .pick (.t s) a b => xpick X sp dst s (rdG c.GX X.t (.t s)) (rdC c.GX sp [(s, true)] X.t a) (rdC c.GX sp [(s, false)] X.t b) K
  | i => xexec c d ok X.h (rdG c.GX X.t) (fun x kl h' => K ⟨putX (killL kl X.t) dst x, h'⟩ (spDrop dst (killS kl sp))) i
def xsplit (c : Cfg) (d : Bool) (ok : Nat → Bool) (X : XS) (sp : Sp) (dst : Option Nat) (s : Nat) (want : Bool) (i : I) (K : XS → Sp → Option β) (v : Bool) : Option β :=
  if (v == want) = true then xun c d ok ⟨matL s v sp X.t, X.h⟩ (matS s sp) dst K i
  else K ⟨putX (matL s v sp X.t) dst kU, X.h⟩ (spDrop dst (matS s sp))
/-- An instruction ahead of its guard. -/
def xspec (GX : GXT) (tt : Nat → Option Ty) (h : List XO) (t : List XV) (sp : Sp) (s : Nat) (want : Bool) : I → Option (Bool × XV)
  | .pick (.t s') a b => match rdC GX sp [(s, want)] t (.t s') with
    | .d .bool t' => match mrg t' (rdC GX sp [(s', true), (s, want)] t a) (rdC GX sp [(s', false), (s, want)] t b) with
      | some v => some (true, v)
      | none => none
    | _ => none
  | i => match xstep tt h (rdC GX sp [(s, want)] t) i with
    | some (p, v, _, _) => some (p, v)
    | none => none
def xIns (c : Cfg) (d : Bool) (ok : Nat → Bool) : Nat → XS → Sp → (XS → Sp → Option β) → Ins → Option β
  | 0, _, _, _, _ => none
  | n + 1, X, sp, K, ins => match ins.gd with
    | none => xun c d ok X sp ins.dst K ins.i
    | some (s, want) => match X.t.getD s .any with
      | .d .bool b => match specI ins.i, ins.dst, xspec c.GX c.tt X.h X.t sp s want ins.i with
        | true, some u, some (p, v) => if (Nat.blt u X.t.length && !(Nat.beq u s)) = true then cond (p || not (bEq b want)) (K ⟨X.t.set u .any, X.h⟩ ((u, s, want, v) :: spDrop (some u) sp)) none else none
        | _, _, _ => cond b (xsplit c d ok X sp ins.dst s want ins.i K true) (xsplit c d ok X sp ins.dst s want ins.i K false)
      | .k (.tuple _) => K ⟨putX X.t ins.dst kU, X.h⟩ (spDrop ins.dst sp)
      | .any => match sp.find? (fun q => Nat.beq q.1 s) with
        | some q => match X.t.getD q.2.1 .any with
          | .d .bool b => cond b (xIns c d ok n ⟨matL q.2.1 true sp X.t, X.h⟩ (matS q.2.1 sp) K ins) (xIns c d ok n ⟨matL q.2.1 false sp X.t, X.h⟩ (matS q.2.1 sp) K ins)
          | _ => none
        | none => none
      | _ => none
def xops (c : Cfg) (d : Bool) (K : XS → Option β) : List Ins → XS → Sp → Option β
  | [], X, _ => K X
  | i :: r, X, sp => xIns c d allOk 8 X sp (fun X' sp' => xops c d K r X' sp') i
/-- What an unordered reader reads. -/
def idsX (ok : Nat → Bool) (rd : Opd → XV) : I → Bool
  | .load _ _ x => match rd x with
    | .ptr id _ _ => ok id
    | .lp _ _ _ => true
    | _ => false
  | .aaddr _ _ _ x _ => match rd x with
    | .ptr id _ _ => ok id
    | .lp _ _ _ => true
    | _ => false
  | .b2s x => match rd x with
    | .row id => ok id
    | .sub id _ _ => ok id
    | .d _ _ => true
    | .k _ => true
    | _ => false
  | .aslice _ _ x _ _ => match rd x with
    | .ptr id _ _ => ok id
    | _ => false
  | .call _ args => (args.map rd).all plainX && ((args.map rd).flatMap rowsX).all ok
  | _ => true
/-- An unordered reader. -/
def xrd (c : Cfg) (ok : Nat → Bool) (X : XS) (sp : Sp) (K : XS → Sp → Option β) (ins : Ins) : Option β := match ins.gd with
  | none => if idsX ok (rdG c.GX X.t) ins.i = true then xun c true allOk X sp ins.dst K ins.i else none
  | some (s, want) => match X.t.getD s .any with
    | .d .bool b => match specI ins.i, ins.dst, xspec c.GX c.tt X.h X.t sp s want ins.i with
      | true, some u, some (p, v) => if (Nat.blt u X.t.length && !(Nat.beq u s) && idsX ok (rdC c.GX sp [(s, want)] X.t) ins.i) = true then cond (p || not (bEq b want)) (K ⟨X.t.set u .any, X.h⟩ ((u, s, want, v) :: spDrop (some u) sp)) none else none
      | _, _, _ => none
    | _ => none
/-- A marked writer with a guard. -/
def xwr (c : Cfg) (ok : Nat → Bool) (X : XS) (sp : Sp) (dst : Option Nat) (s : Nat) (want : Bool) (i : I) (K : XS → Sp → Option β) (v : Bool) : Option β :=
  if (v == want) = true then (if leaves ok (rdG c.GX (matL s v sp X.t)) i = true then xun c false ok ⟨matL s v sp X.t, X.h⟩ (matS s sp) dst K i else none)
  else K ⟨putX (matL s v sp X.t) dst kU, X.h⟩ (spDrop dst (matS s sp))
def xopsR (c : Cfg) (m : Nat) (U : List Nat) (K : XS → Option β) : List (Nat × Ins) → XS → Sp → Option β
  | [], X, _ => K X
  | (0, i) :: r, X, sp => xIns c true allOk 8 X sp (fun X' sp' => xopsR c m U K r X' sp') i
  | (1, i) :: r, X, sp => if Nat.ble i.i.cls 1 = true then xrd c (fun id => Nat.blt id m && !(U.any (Nat.beq id))) X sp (fun X' sp' => xopsR c m U K r X' sp') i else none
  | (_, i) :: r, X, sp => match i.gd with
    | none => if leaves (fun id => Nat.ble m id || U.any (Nat.beq id)) (rdG c.GX X.t) i.i = true then xIns c false (fun id => Nat.ble m id || U.any (Nat.beq id)) 8 X sp (fun X' sp' => xopsR c m U K r X' sp') i else none
    | some (s, want) => match X.t.getD s .any with
      | .d .bool b => cond b (xwr c (fun id => Nat.ble m id || U.any (Nat.beq id)) X sp i.dst s want i.i (fun X' sp' => xopsR c m U K r X' sp') true) (xwr c (fun id => Nat.ble m id || U.any (Nat.beq id)) X sp i.dst s want i.i (fun X' sp' => xopsR c m U K r X' sp') false)
      | _ => none
end

/-- Code with the shapes of its loops. -/
inductive XC where
  | skip
  | ops (draw : Bool) (l : List Ins)
  | rops (U : List Nat) (l : List (Nat × Ins))
  | seq (a b : XC)
  | seqj (pre : List Pre) (sh : Sh) (a b : XC)
  | cond (c : Opd) (a b : XC)
  | block (id : Nat) (b : XC)
  | loop (pre : List Pre) (sh : Sh) (b : XC)
  | loopU (n : Nat) (b : XC)
  | exit (id : Nat)
  | ret
def XC.er : XC → C
  | .skip => .skip
  | .ops d l => .ops d l
  | .rops _ l => .rops l
  | .seq a b => .seq a.er b.er
  | .seqj _ _ a b => .seq a.er b.er
  | .cond c a b => .cond c a.er b.er
  | .block id b => .block id b.er
  | .loop _ _ b => .loop b.er
  | .loopU _ b => .loop b.er
  | .exit id => .exit id
  | .ret => .ret
def litX (o : Opd) (v : Bool) (X : XS) : XS := match o with
  | .t i => ⟨X.t.set i (.d .bool v), X.h⟩
  | _ => X
def extL (nf : Nat) (pre : List Pre) (sh : Sh) (X : XS) : Option (Ty.denL sh.tys) := match ext nf sh (preX nf pre X) with
  | some (foc, x) => if (startsR nf 0 foc && Nat.beq X.t.length sh.n) = true then some x else none
  | none => none
def unrollN {β : Type} (f : (XS → Option β) → XS → Option β) : Nat → XS → Option β
  | 0, _ => none
  | n + 1, X => f (unrollN f n) X
/-- Ways that join: the state where they do, or what was answered ahead of that. -/
def joinO {S R : Type} (o : Option (S ⊕ R)) (f : S → Option R) : Option R := match o with
  | some (.inl s) => f s
  | some (.inr r) => some r
  | none => none
noncomputable def xwp (c : Cfg) (nf : Nat) : XC → (β : Type) → (Exit → XS → Option β) → XS → Option β
  | .skip, β, K, X => K .normal X
  | .ops d l, β, K, X => xops c d (K .normal) l X []
  | .rops U l, β, K, X => xopsR c X.h.length U (K .normal) l X []
  | .seq a b, β, K, X => xwp c nf a β (fun e Y => match e with | .normal => xwp c nf b β K Y | e => K e Y) X
  | .seqj pre sh a b, β, K, X => joinO (xwp c nf a (Ty.denL sh.tys ⊕ β) (fun e Y => match e with
        | .normal => match extL nf pre sh Y with
          | some s' => some (.inl s')
          | none => none
        | e => Option.map Sum.inr (K e Y)) X) (fun s => xwp c nf b β K (emb sh s))
  | .cond o a b, β, K, X => match rdG c.GX X.t o with
    | .d .bool t => cond t (xwp c nf a β K (litX o true X)) (xwp c nf b β K (litX o false X))
    | _ => none
  | .block id b, β, K, X => xwp c nf b β (fun e Y => match e with | .exit i => if Nat.beq i id = true then K .normal Y else K (.exit i) Y | e => K e Y) X
  | .loop pre sh b, β, K, X => match extL nf pre sh X with
    | some s => loopO (fun s => xwp c nf b (Ty.denL sh.tys ⊕ β) (fun e Y => match e with
        | .normal => match extL nf pre sh Y with
          | some s' => some (.inl s')
          | none => none
        | e => Option.map Sum.inr (K e Y)) (emb sh s)) s
    | none => none
  | .loopU n b, β, K, X => unrollN (fun k Y => xwp c nf b β (fun e Z => match e with | .normal => k Z | e => K e Z) Y) n X
  | .exit id, β, K, X => K (.exit id) X
  | .ret, β, K, X => K .ret X
def xresL (c : Cfg) (X : XS) : List RV → Option (List XV)
  | [] => some []
  | .t i :: r => match xresL c X r with
    | some l => some (X.t.getD i .any :: l)
    | none => none
  | .c i sz ag :: r => match xstep c.tt X.h (rdG c.GX X.t) (.load sz ag (.t i)), xresL c X r with
    | some (true, v, _, _), some l => some (v :: l)
    | _, _ => none
/-- How a body ends. -/
def xend (c : Cfg) (rv : List RV) (rs : List Ty) (e : Exit) (X : XS) : Option (Ty.denL rs) := match e with
  | .normal => match xresL c X rv with
    | some vs => argsD X.h rs vs
    | none => none
  | .ret => match xresL c X rv with
    | some vs => argsD X.h rs vs
    | none => none
  | _ => none
/-- A function of native arguments. -/
noncomputable def xfun (c : Cfg) (xc : XC) (n : Nat) (rv : List RV) (ps rs : List Ty) (x : Ty.denL ps) : Option (Ty.denL rs) :=
  xwp c 0 xc (Ty.denL rs) (xend c rv rs) ⟨listX ps x ++ List.replicate (n - ps.length) .any, []⟩
/-- A function of memory of its caller's own. -/
noncomputable def xfunH (c : Cfg) (xc : XC) (n : Nat) (rv : List RV) (pre : List Pre) (ish osh : Sh) (x : Ty.denL ish.tys) : Option (Ty.denL osh.tys) :=
  xwp c ish.objs.length xc (Ty.denL osh.tys) (fun e X => match (match e with | .normal => true | .ret => true | _ => false), xresL c (preX ish.objs.length pre X) rv with
    | true, some vs => extL ish.objs.length [] osh ⟨vs, (preX ish.objs.length pre X).h⟩
    | _, _ => none) ⟨(emb ish x).t ++ List.replicate (n - ish.n) .any, (emb ish x).h⟩
end Abs
end Go.Proofs.YtamgbanmnededaaDoor
