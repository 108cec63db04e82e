/- The typed machine: its steps, regions, code. Definitions alone. -/
import Derived.Test.YtamgbanmnededaaDoorX0
namespace Go.Proofs.YtamgbanmnededaaDoor
namespace Abs
open Go.RowKit
set_option linter.unusedVariables false

/-- A constant. -/
def vx1 : Value → XV
  | .int k n => .d (.int k) n
  | .bool b => .d .bool b
  | .string s => .d .str s
  | .func (.func f) a b => match a.toList, b.toList with
    | [], [] => .d (.fnc f) ()
    | _, _ => .k (.func (.func f) a b)
  | v => .k v
def vx : Value → XV
  | .agg cs => .agg (cs.toList.map vx1)
  | v => vx1 v
mutual
/-- The cells of a native value. -/
def flat : (T : Ty) → T.den → List XV
  | .tup fs, x => flatL fs x
  | .int k, x => [.d (.int k) x]
  | .bool, x => [.d .bool x]
  | .str, x => [.d .str x]
  | .list e, x => [.d (.list e) x]
  | .fnc f, x => [.d (.fnc f) x]
  | .listF e, x => [.d (.listF e) x]
def flatL : (fs : List Ty) → Ty.denL fs → List XV
  | [], _ => []
  | t :: ts, x => flat t x.1 ++ flatL ts x.2
end
/-- A cell that may be stored. -/
def okX : XV → Bool
  | .d T _ => !T.isTup
  | .k v => v.oneCell'
  | .row _ => true
  | .sub _ _ _ => true
  | .ptr _ _ _ => true
  | _ => false
/-- The cells of a value. -/
def cellsX : XV → Option (List XV)
  | .d T x => some (flat T x)
  | .agg cs => if cs.all okX = true then some cs else none
  | .k v => if v.oneCell' then some [.k v] else none
  | .row id => some [.row id]
  | .sub id o l => some [.sub id o l]
  | .ptr id i o => some [.ptr id i o]
  | _ => none
mutual
/-- What lies at a place in a native value. -/
def atT : (T : Ty) → T.den → Nat → Nat → Bool → Option XV
  | .tup fs, x, o, sz, ag => if (Nat.beq o 0 && ag && Nat.beq sz (Ty.sizeL fs)) = true then some (.d (.tup fs) x) else atL fs x o sz ag
  | .int k, x, o, sz, ag => if (Nat.beq o 0 && !ag) = true then some (.d (.int k) x) else none
  | .bool, x, o, sz, ag => if (Nat.beq o 0 && !ag) = true then some (.d .bool x) else none
  | .str, x, o, sz, ag => if (Nat.beq o 0 && !ag) = true then some (.d .str x) else none
  | .list e, x, o, sz, ag => if (Nat.beq o 0 && !ag) = true then some (.d (.list e) x) else none
  | .fnc f, x, o, sz, ag => if (Nat.beq o 0 && !ag) = true then some (.d (.fnc f) x) else none
  | .listF e, x, o, sz, ag => if (Nat.beq o 0 && !ag) = true then some (.d (.listF e) x) else none
def atL : (fs : List Ty) → Ty.denL fs → Nat → Nat → Bool → Option XV
  | [], _, _, _, _ => none
  | f :: fs, x, o, sz, ag => if Nat.blt o f.size = true then atT f x.1 o sz ag else atL fs x.2 (o - f.size) sz ag
end
mutual
/-- A native value with another one in a place of it. -/
def setT {T' : Ty} (y : T'.den) : (T : Ty) → T.den → Nat → Option T.den
  | .tup fs, x, o => if (Nat.beq o 0 && Ty.same T' (.tup fs)) = true then castT y else setL y fs x o
  | .int k, x, o => if Nat.beq o 0 = true then castT y else none
  | .bool, x, o => if Nat.beq o 0 = true then castT y else none
  | .str, x, o => if Nat.beq o 0 = true then castT y else none
  | .list e, x, o => if Nat.beq o 0 = true then castT y else none
  | .fnc f, x, o => if Nat.beq o 0 = true then castT y else none
  | .listF e, x, o => if Nat.beq o 0 = true then castT y else none
def setL {T' : Ty} (y : T'.den) : (fs : List Ty) → Ty.denL fs → Nat → Option (Ty.denL fs)
  | [], _, _ => none
  | f :: fs, x, o => if Nat.blt o f.size = true then (setT y f x.1 o).map fun z => (z, x.2) else (setL y fs x.2 (o - f.size)).map fun z => (x.1, z)
end
/-- A list that may be nil, as a list. -/
def lst : XV → XV
  | .d (.listF e) o => .d (.list e) (Option.getD (α := List e.den) o [])
  | x => x
mutual
/-- A value as a native one (rows of the call's own read as lists). -/
def toD (h : List XO) : (T : Ty) → XV → Option T.den
  | .tup fs, c => match c with
    | .d T' x => castT x
    | .agg cs => match toDL h fs cs with
      | some (x, []) => some x
      | _ => none
    | _ => none
  | .list e, c => match lst c with
    | .d T' x => castT x
    | .k (.slice none 0 0) => some []
    | .row id => match h[id]? with
      | some (.row _ T _ es) => castT (a := .list T) es
      | _ => none
    | .sub id off len => match h[id]? with
      | some (.row _ T _ es) => castT (a := .list T) ((List.drop off es).take len)
      | _ => none
    | _ => none
  | .int k, c => match c with
    | .d T' x => castT x
    | _ => none
  | .bool, c => match c with
    | .d T' x => castT x
    | _ => none
  | .str, c => match c with
    | .d T' x => castT x
    | _ => none
  | .fnc f, c => match c with
    | .d T' x => castT x
    | _ => none
  | .listF e, c => match c with
    | .d T' x => match castT (b := .listF e) x with
      | some o => some o
      | none => match castT (b := .list e) x with
        | some xs => some (some xs)
        | none => none
    | .k (.slice none 0 0) => some none
    | .row id => match h[id]? with
      | some (.row _ T _ es) => match castT (a := .list T) (b := .list e) es with
        | some xs => some (some xs)
        | none => none
      | _ => none
    | .sub id off len => match h[id]? with
      | some (.row _ T _ es) => match castT (a := .list T) (b := .list e) ((List.drop off es).take len) with
        | some xs => some (some xs)
        | none => none
      | _ => none
    | _ => none
def toDL (h : List XO) : (fs : List Ty) → List XV → Option (Ty.denL fs × List XV)
  | [], cs => some ((), cs)
  | .tup gs :: fs, cs => match toDL h gs cs with
    | some (x, r) => match toDL h fs r with
      | some (y, r') => some ((x, y), r')
      | none => none
    | none => none
  | f :: fs, cs => match cs with
    | [] => none
    | c :: r => match toD h f c with
      | some x => match toDL h fs r with
        | some (y, r') => some ((x, y), r')
        | none => none
      | none => none
end
/-- A value without holes. -/
def plain1 : XV → Bool
  | .d T _ => true
  | .k _ => true
  | .row _ => true
  | .sub _ _ _ => true
  | _ => false
/-- The rows behind a value. -/
def rowsX1 : XV → List Nat
  | .row id => [id]
  | .sub id _ _ => [id]
  | _ => []
def rowsX : XV → List Nat
  | .agg cs => cs.flatMap rowsX1
  | x => rowsX1 x
def frzO : XO → XO
  | .row ty T _ es => .row ty T true es
  | o => o
def frzX (h : List XO) (ids : List Nat) : List XO := ids.foldl (fun h id => match h[id]? with | some o => h.set id (frzO o) | none => h) h
def isFz (h : List XO) (id : Nat) : Bool := match h[id]? with
  | some (.row _ _ fz _) => fz
  | _ => false
/-- What is known of a row is forgotten. -/
def kill1 (id : Nat) : XV → XV
  | .row j => if Nat.beq j id = true then .any else .row j
  | .sub j o l => if Nat.beq j id = true then .any else .sub j o l
  | .csub j l => if Nat.beq j id = true then .any else .csub j l
  | .vrow j => if Nat.beq j id = true then .any else .vrow j
  | .me j => if Nat.beq j id = true then .any else .me j
  | .ptr j i o => if Nat.beq j id = true then .any else .ptr j i o
  | x => x
def killA (id : Nat) : XV → XV
  | .agg cs => .agg (cs.map (kill1 id))
  | x => kill1 id x
def killT (id : Nat) : XV → XV
  | .tup vs => .tup (vs.map (killA id))
  | x => killA id x
def killO (id : Nat) : XO → XO
  | .box ty cs => .box ty (cs.map (kill1 id))
  | .vec ty cs => .vec ty (cs.map (kill1 id))
  | o => o

abbrev GXT := Nat → Option ((T : Ty) × T.den)
def rdG (GX : GXT) (t : List XV) : Opd → XV
  | .t i => t.getD i .any
  | .k v => vx1 v
  | .g i => if Nat.blt i 1000000 = true then match GX i with
      | some ⟨T, x⟩ => .lp T x 0
      | none => .any
    else .any

/-- Arithmetic on native values, named. -/
def iAdd (k : IntKind) (a b : Int) : Int := k.wrap (a + b)
def iSub (k : IntKind) (a b : Int) : Int := k.wrap (a - b)
def iMul (k : IntKind) (a b : Int) : Int := k.wrap (a * b)
def iQuo (k : IntKind) (a b : Int) : Int := k.wrap (a.tdiv b)
def iRem (a b : Int) : Int := a.tmod b
def iAnd (k : IntKind) (a b : Int) : Int := k.wrap (BitVec.ofInt k.bits a &&& BitVec.ofInt k.bits b).toNat
def iOr (k : IntKind) (a b : Int) : Int := k.wrap (BitVec.ofInt k.bits a ||| BitVec.ofInt k.bits b).toNat
def iXor (k : IntKind) (a b : Int) : Int := k.wrap (BitVec.ofInt k.bits a ^^^ BitVec.ofInt k.bits b).toNat
def iShl (k : IntKind) (a b : Int) : Int := k.wrap (a * 2 ^ (min b.toNat k.bits))
def iShr (k : IntKind) (a b : Int) : Int := a.fdiv (2 ^ (min b.toNat k.bits))
def iNeg (k : IntKind) (a : Int) : Int := k.wrap (0 - a)
def iEq (a b : Int) : Bool := a == b
def iNe (a b : Int) : Bool := a != b
def iLt (a b : Int) : Bool := decide (a < b)
def iLe (a b : Int) : Bool := decide (a ≤ b)
def iMin (a b : Int) : Int := min a b
def iMax (a b : Int) : Int := max a b
def bEq (a b : Bool) : Bool := a == b
def sEq (a b : ByteArray) : Bool := a.toList == b.toList
def sLt (a b : ByteArray) : Bool := Op.bytesLess a.toList b.toList
def sCat (a b : ByteArray) : ByteArray := a ++ b
def sFits (a b : ByteArray) : Bool := decide (a.size + b.size ≤ 9223372036854775807)
def sAt (s : ByteArray) (n : Int) : Int := ((s.data.getD n.toNat 0).toNat : Int)
def sLen (s : ByteArray) : Int := (s.size : Int)
def lenI {α : Type} (xs : List α) : Int := (xs.length : Int)
/-- A number within a length. -/
def bnd (n : Int) (len : Int) : Bool := decide (0 ≤ n) && decide (n < len)
/-- Room for so many elements of so many bytes. -/
def fits (n bytes : Nat) : Bool := decide (n * bytes ≤ maxB) && decide (n ≤ 4611686018427387904)
def fitsI (n : Int) (bytes : Nat) : Bool := decide (0 ≤ n) && decide (n * bytes ≤ maxB) && decide (n ≤ 4611686018427387904)
def inB {α : Type} (i : Nat) (xs : List α) : Bool := decide (i < xs.length)
def cutL {α : Type} (l u : Int) (xs : List α) : List α := (xs.take u.toNat).drop l.toNat
def cutS (l u : Int) (s : ByteArray) : ByteArray := s.extract l.toNat u.toNat
def someE {α : Type} (xs : List α) : Bool := !xs.isEmpty
/-- So many elements are there. -/
def leN {α : Type} (n : Nat) (xs : List α) : Bool := decide (n ≤ xs.length)
/-- A list with others copied over it. -/
def cpy {α : Type} (xs : List α) (off len : Nat) (ys : List α) : List α := xs.take off ++ ys.take len ++ xs.drop (off + (ys.take len).length)
def atI {α : Type} (xs : List α) (n : Int) (z : α) : α := xs.getD n.toNat z
/-- Bytes as a string, and back. -/
def bsI (xs : List Int) : ByteArray := ⟨(xs.map fun n => UInt8.ofNat n.toNat).toArray⟩
def bytesI (s : ByteArray) : List Int := s.data.toList.map fun c => (c.toNat : Int)
def bytesT (s : ByteArray) : List (Ty.den (.int .u8)) := s.data.toList.map fun c => (show Ty.den (.int .u8) from (c.toNat : Int))
def sFit (s : ByteArray) : Bool := decide (s.size ≤ 4611686018427387904)
/-- A table's elements. -/
def tupL (T : Ty) : (fs : List Ty) → Ty.denL fs → Option (List T.den)
  | [], _ => some []
  | t :: ts, x => match castT (a := t) (b := T) x.1, tupL T ts x.2 with
    | some a, some l => some (a :: l)
    | _, _ => none

def xbinI (k : IntKind) (a b : Int) : BinOp → Option (Bool × XV)
  | .add => some (true, .d (.int k) (iAdd k a b))
  | .sub => some (true, .d (.int k) (iSub k a b))
  | .mul => some (true, .d (.int k) (iMul k a b))
  | .quo => some (iNe b 0, .d (.int k) (iQuo k a b))
  | .rem => some (iNe b 0, .d (.int k) (iRem a b))
  | .and => some (true, .d (.int k) (iAnd k a b))
  | .or => some (true, .d (.int k) (iOr k a b))
  | .xor => some (true, .d (.int k) (iXor k a b))
  | .eql => some (true, .d .bool (iEq a b))
  | .neq => some (true, .d .bool (iNe a b))
  | .lss => some (true, .d .bool (iLt a b))
  | .leq => some (true, .d .bool (iLe a b))
  | .gtr => some (true, .d .bool (iLt b a))
  | .geq => some (true, .d .bool (iLe b a))
  | _ => none
def xbinS (a b : ByteArray) : BinOp → Option (Bool × XV)
  | .add => some (sFits a b, .d .str (sCat a b))
  | .eql => some (true, .d .bool (sEq a b))
  | .neq => some (true, .d .bool (not (sEq a b)))
  | .lss => some (true, .d .bool (sLt a b))
  | .leq => some (true, .d .bool (or (sLt a b) (sEq a b)))
  | .gtr => some (true, .d .bool (not (or (sLt a b) (sEq a b))))
  | .geq => some (true, .d .bool (not (sLt a b)))
  | _ => none
/-- Two plain values: what is asked, the result. -/
def xbin (op : BinOp) : XV → XV → Option (Bool × XV)
  | .d (.int k) a, .d (.int k') b => match op with
    | .shl => some (iLe 0 b, .d (.int k) (iShl k a b))
    | .shr => some (iLe 0 b, .d (.int k) (iShr k a b))
    | op => if k = k' then xbinI k a b op else none
  | .d .str a, .d .str b => xbinS a b op
  | _, _ => none
def xeq1 : Nat → XV → XV → Option Bool
  | 1, .d (.int k) a, .d (.int k') b => if k = k' then some (iEq a b) else none
  | 2, .d .bool a, .d .bool b => some (bEq a b)
  | 3, .d .str a, .d .str b => some (sEq a b)
  | _, _, _ => none
def xeqA (xs ys : List XV) : List (Nat × Nat) → Option Bool
  | [] => some true
  | (i, c) :: fs => if c = 0 then xeqA xs ys fs else match xeq1 c (xs.getD i .any) (ys.getD i .any), xeqA xs ys fs with
      | some a, some b => some (a && b)
      | _, _ => none
def xasN : XV → Option Int
  | .d (.int _) n => some n
  | _ => none
/-- The bounds of a cut. -/
def cutOk (l u : Int) (n : Nat) : Bool := decide (0 ≤ l) && decide (l ≤ u) && decide (u ≤ n)
def xcut (n : Nat) (lo hi : Option XV) : Option (Bool × Int × Int) :=
  match lo, hi with
  | none, none => some (true, 0, n)
  | none, some b => match xasN b with
    | some h => some (cutOk 0 h n, 0, h)
    | none => none
  | some a, none => match xasN a with
    | some l => some (cutOk l n n, l, n)
    | none => none
  | some a, some b => match xasN a, xasN b with
    | some l, some h => some (cutOk l h n, l, h)
    | _, _ => none
def elemsX0 (h : List XO) (T : Ty) : XV → Option (List T.den)
  | .d T' x => castT (b := .list T) x
  | .k (.slice none 0 0) => some []
  | .row id => match h[id]? with
    | some (.row _ T' _ es) => castT (a := .list T') (b := .list T) es
    | _ => none
  | .sub id off len => match h[id]? with
    | some (.row _ T' _ es) => castT (a := .list T') (b := .list T) ((List.drop off es).take len)
    | _ => none
  | _ => none
def elemsX (h : List XO) (T : Ty) (x : XV) : Option (List T.den) := elemsX0 h T (lst x)
def toDs (h : List XO) (T : Ty) : List XV → Option (List T.den)
  | [] => some []
  | x :: xs => match toD h T x, toDs h T xs with
    | some a, some l => some (a :: l)
    | _, _ => none
def buildX (rd : Opd → XV) : List XV → List (Nat × Nat × Opd) → Option (List XV)
  | cs, [] => some cs
  | cs, (off, sz, x) :: r => match cellsX (rd x) with
    | some vs => if (Nat.beq vs.length sz && Nat.ble (off + sz) cs.length) = true then buildX rd (cs.take off ++ vs ++ cs.drop (off + sz)) r else none
    | none => none
/-- A field of a value. -/
def fldX (off sz : Nat) (ag : Bool) : XV → Option XV
  | .d (.tup fs) x => atT (.tup fs) x off sz ag
  | .agg cs => if ag = true then (if Nat.ble (off + sz) cs.length = true then some (.agg ((cs.drop off).take sz)) else none) else cs[off]?
  | _ => none

/-- The cells of a struct. -/
def aggX : XV → Option (List XV)
  | .d (.tup fs) x => some (flatL fs x)
  | .agg cs => some cs
  | _ => none
/-- One step: what is asked, the value, the row that is turned, the heap. -/
def xstep (tt : Nat → Option Ty) (h : List XO) (rd : Opd → XV) : I → Option (Bool × XV × Option Nat × List XO)
  | .mov x => some (true, rd x, none, h)
  | .pick c a b => match rd c, rd a, rd b with
    | .d .bool t, .d T x, .d T' y => match castT (b := T) y with
      | some y => some (true, .d T (cond t x y), none, h)
      | none => none
    | _, _, _ => none
  | .bin op x y => match xbin op (rd x) (rd y) with
    | some (p, v) => some (p, v, none, h)
    | none => none
  | .beq neg x y => match rd x, rd y with
    | .d .bool a, .d .bool b => some (true, .d .bool (if neg = true then not (bEq a b) else bEq a b), none, h)
    | _, _ => none
  | .nilq neg x => match rd x with
    | .d (.list e) xs => some (someE (show List e.den from xs), .d .bool neg, none, h)
    | .d (.listF e) o => some (match (show Option (List e.den) from o) with | none => true | some xs => someE xs, .d .bool (if neg = true then Option.isSome (show Option (List e.den) from o) else Option.isNone (show Option (List e.den) from o)), none, h)
    | .k (.slice none 0 0) => some (true, .d .bool (not neg), none, h)
    | .row id => match h[id]? with
      | some (.row _ _ _ es) => some (someE es, .d .bool neg, none, h)
      | _ => none
    | _ => none
  | .aeq neg fs x y => match aggX (rd x), aggX (rd y) with
    | some xs, some ys => match xeqA xs ys fs with
      | some b => some (true, .d .bool (if neg = true then not b else b), none, h)
      | none => none
    | _, _ => none
  | .un op x => match op, rd x with
    | .neg, .d (.int k) n => some (true, .d (.int k) (iNeg k n), none, h)
    | .not, .d .bool b => some (true, .d .bool (not b), none, h)
    | _, _ => none
  | .conv k x => match rd x with
    | .d (.int _) n => some (true, .d (.int k) (k.wrap n), none, h)
    | _ => none
  | .fld off sz ag x => match fldX off sz ag (rd x) with
    | some v => some (true, v, none, h)
    | none => none
  | .ext i x => match rd x with
    | .tup vs => match vs[i]? with
      | some v => some (true, v, none, h)
      | none => none
    | _ => none
  | .faddr off x => match rd x with
    | .ptr id i o => some (true, .ptr id i (o + off), none, h)
    | .lp T x o => some (true, .lp T x (o + off), none, h)
    | _ => none
  | .iaddr sz x i => match lst (rd x), rd i with
    | .d (.list e) xs, .d (.int _) n => if Nat.beq e.size sz = true then some (bnd n (lenI (show List e.den from xs)), .lp e (atI (show List e.den from xs) n e.dflt) 0, none, h) else none
    | .row id, .d (.int _) n => match h[id]? with
      | some (.row _ T _ es) => if Nat.beq T.size sz = true then some (bnd n (lenI es), .ptr id (Int.toNat n) 0, none, h) else none
      | _ => none
    | .sub id off len, .d (.int _) n => match h[id]? with
      | some (.row _ T _ es) => if Nat.beq T.size sz = true then some (bnd n (len : Nat), .ptr id (off + Int.toNat n) 0, none, h) else none
      | _ => none
    | .vrow id, .d (.int _) n => match h[id]? with
      | some (.vec _ cs) => if Nat.beq sz 1 = true then some (bnd n (lenI cs), .ptr id (Int.toNat n) 0, none, h) else none
      | _ => none
    | _, _ => none
  | .load sz ag x => match rd x with
    | .lp T x o => match atT T x o sz ag with
      | some v => some (true, v, none, h)
      | none => none
    | .ptr id i o => match h[id]? with
      | some (.row _ T _ es) => match atT T (List.getD es i T.dflt) o sz ag with
        | some v => some (inB i es, v, none, h)
        | none => none
      | some (.box _ cs) => if ag = true then (if (Nat.beq i 0 && Nat.ble (o + sz) cs.length) = true then some (true, .agg ((cs.drop o).take sz), none, h) else none)
          else (if Nat.beq i 0 = true then match cs[o]? with
            | some v => some (true, v, none, h)
            | none => none
          else none)
      | some (.vec _ cs) => if (!ag && Nat.beq o 0) = true then match cs[i]? with
          | some v => some (true, v, none, h)
          | none => none
        else none
      | none => none
    | _ => none
  | .store sz x y => match rd x with
    | .ptr id i o => match h[id]? with
      | some (.row ty T fz es) => match fz, rd y with
        | false, .d T' v => if Nat.beq T'.size sz = true then match setT v T (List.getD es i T.dflt) o with
            | some z => some (inB i es, .any, none, h.set id (.row ty T false (List.set es i z)))
            | none => none
          else none
        | false, .agg cs => if Nat.beq o 0 = true then match toD [] T (.agg cs) with
            | some z => if Nat.beq T.size sz = true then some (inB i es, .any, none, h.set id (.row ty T false (List.set es i z))) else none
            | none => match toD h T (.agg cs) with
              | some z => if (Nat.beq T.size sz && cs.any (fun c => !(rowsX1 c).isEmpty) && !((rowsX (.agg cs)).any (Nat.beq id))) = true then some (inB i es, .any, none, (frzX h (rowsX (.agg cs))).set id (.row ty T false (List.set es i z))) else none
              | none => none
          else none
        | _, _ => none
      | some (.vec _ _) => none
      | some (.box ty cs) => match cellsX (rd y) with
        | some vs => if (Nat.beq i 0 && Nat.beq vs.length sz && Nat.ble (o + sz) cs.length && Nat.blt 0 sz) = true then some (true, .any, none, h.set id (.box ty (cs.take o ++ vs ++ cs.drop (o + vs.length)))) else none
        | none => none
      | none => none
    | _ => none
  | .slice sz x lo hi => match lst (rd x) with
    | .d (.list e) xs => if Nat.beq e.size sz = true then match xcut (List.length (show List e.den from xs)) (lo.map rd) (hi.map rd) with
        | some (p, l, u) => some (p, .d (.list e) (cutL l u (show List e.den from xs)), none, h)
        | none => none
      else none
    | .k (.slice none 0 0) => match xcut 0 (lo.map rd) (hi.map rd) with
      | some (p, l, u) => some (p, .k (.slice none 0 0), none, h)
      | none => none
    | .row id => match h[id]? with
      | some (.row _ T _ es) => if Nat.beq T.size sz = true then match xcut (List.length es) (lo.map rd) (hi.map rd) with
          | some (p, l, u) => some (p, .sub id (Int.toNat l) (Int.toNat (u - l)), none, h)
          | none => none
        else none
      | _ => none
    | .sub id off len => match h[id]? with
      | some (.row _ T _ es) => if Nat.beq T.size sz = true then match xcut len (lo.map rd) (hi.map rd) with
          | some (p, l, u) => some (p, .sub id (off + Int.toNat l) (Int.toNat (u - l)), none, h)
          | none => none
        else none
      | _ => none
    | _ => none
  | .slice3 sz x hi mx => match rd x, rd hi, rd mx with
    | .row id, .d (.int _) n, .d (.int _) m => match h[id]? with
      | some (.row _ T _ es) => if Nat.beq T.size sz = true then some (cutOk 0 n (List.length es) && iEq m n, .csub id (Int.toNat n), none, h) else none
      | _ => none
    | _, _, _ => none
  | .sslice x lo hi => match rd x with
    | .d .str s => match xcut (ByteArray.size s) (lo.map rd) (hi.map rd) with
      | some (p, l, u) => some (p, .d .str (cutS l u s), none, h)
      | none => none
    | _ => none
  | .len x => match lst (rd x) with
    | .d (.list e) xs => some (true, .d (.int .i64) (lenI (show List e.den from xs)), none, h)
    | .row id => match h[id]? with
      | some (.row _ _ _ es) => some (true, .d (.int .i64) (lenI es), none, h)
      | _ => none
    | .sub id off len => some (true, .d (.int .i64) ((len : Nat) : Int), none, h)
    | .vrow id => match h[id]? with
      | some (.vec _ cs) => some (true, .d (.int .i64) (lenI cs), none, h)
      | _ => none
    | .k (.slice none 0 0) => some (true, .d (.int .i64) (0 : Int), none, h)
    | _ => none
  | .nck x => match rd x with
    | .ptr id i o => some (true, .ptr id i o, none, h)
    | .lp T x o => some (true, .lp T x o, none, h)
    | _ => none
  | .slen x => match rd x with
    | .d .str s => some (true, .d (.int .i64) (sLen s), none, h)
    | _ => none
  | .idx x i => match rd x, rd i with
    | .d .str s, .d (.int _) n => some (bnd n (sLen s), .d (.int .u8) (sAt s n), none, h)
    | _, _ => none
  | .app ty sz bytes s x => match tt ty with
    | some T => if Nat.beq T.size sz = true then match elemsX h T (rd x) with
      | some ys => match rd s with
        | .k (.slice none 0 0) => some (fits ys.length bytes, .row h.length, none, h ++ [.row ty T false ys])
        | .row id => match h[id]? with
          | some (.row ty' T' fz es) => match fz, castT (a := .list T) (b := .list T') ys with
            | false, some ys => if Nat.beq ty ty' = true then some (fits (es.length + (show List T'.den from ys).length) bytes, .row id, some id, h.set id (.row ty T' false (es ++ (show List T'.den from ys)))) else none
            | _, _ => none
          | _ => none
        | _ => none
      | none => none
      else none
    | none => none
  | .apps ty bytes s x => match tt ty, rd x with
    | some (.int .u8), .d .str b => match rd s with
      | .k (.slice none 0 0) => some (fits (bytesT b).length bytes, .row h.length, none, h ++ [.row ty (.int .u8) false (bytesT b)])
      | .row id => match h[id]? with
        | some (.row ty' (.int .u8) false es) => if Nat.beq ty ty' = true then some (fits (es.length + (bytesT b).length) bytes, .row id, some id, h.set id (.row ty (.int .u8) false (es ++ bytesT b))) else none
        | _ => none
      | _ => none
    | _, _ => none
  | .b2s x => match elemsX h (.int .u8) (rd x) with
    | some xs => some (true, .d .str (bsI xs), none, h)
    | none => none
  | .s2b ty x => match tt ty, rd x with
    | some (.int .u8), .d .str b => some (sFit b, .row h.length, none, h ++ [.row ty (.int .u8) false (bytesT b)])
    | _, _ => none
  | .bslice ty sz xs => match tt ty with
    | some T => if Nat.beq T.size sz = true then match toDs h T (xs.map rd) with
      | some ys => some (true, .row h.length, none, frzX h ((xs.map rd).flatMap rowsX) ++ [.row ty T false ys])
      | none => none
      else none
    | none => none
  | .blist ty sz xs => match tt ty with
    | some T => if Nat.beq T.size sz = true then match toDs [] T (xs.map rd) with
      | some ys => some (true, .d (.list T) ys, none, h)
      | none => none
      else none
    | none => none
  | .bvec ty xs => if (xs.map rd).all okX = true then some (true, .vrow h.length, none, h ++ [.vec ty (xs.map rd)]) else none
  | .build zero parts => match buildX rd (zero.map vx1) parts with
    | some cs => some (true, .agg cs, none, h)
    | none => none
  | .box ty sz x => match cellsX (rd x) with
    | some cs => if Nat.beq cs.length sz = true then some (true, .ptr h.length 0 0, none, h ++ [.box ty cs]) else none
    | none => none
  | .alloc ty zero => match cellsX (vx zero) with
    | some cs => some (true, .ptr h.length 0 0, none, h ++ [.box ty cs])
    | none => none
  | .mk ty sz bytes zero n => match tt ty, rd n with
    | some T, .d (.int .i64) n => if Nat.beq T.size sz = true then match toD [] T (vx zero) with
        | some z => some (fitsI n bytes, .row h.length, none, h ++ [.row ty T false (List.replicate (Int.toNat n) z)])
        | none => none
      else none
    | _, _ => none
  | .alloca ty sz n zero => match tt ty with
    | some T => if Nat.beq T.size sz = true then match toD [] T (vx zero) with
        | some z => some (true, .ptr h.length 0 0, none, h ++ [.row ty T false (List.replicate n z)])
        | none => none
      else none
    | none => none
  | .aaddr bsz st n x i => match rd x, rd i with
    | .ptr id j o, .d (.int _) m => match h[id]? with
      | some (.row _ T _ es) => if (Nat.beq o 0 && Nat.beq T.size bsz) = true then some (bnd m (n : Nat), .ptr id (j + Int.toNat m * st) 0, none, h) else none
      | _ => none
    | .lp (.tup (T :: ts)) x o, .d (.int _) m => match tupL T (T :: ts) x with
      | some xs => if (Nat.beq o 0 && Nat.beq T.size bsz && Nat.beq st 1 && Nat.beq xs.length n) = true then some (bnd m (n : Nat), .lp T (atI xs m T.dflt) 0, none, h) else none
      | none => none
    | _, _ => none
  | .aslice bsz n x lo hi => match rd x with
    | .ptr id j o => match h[id]? with
      | some (.row _ T _ es) => if (Nat.beq o 0 && Nat.beq T.size bsz && Nat.beq j 0) = true then match xcut n (lo.map rd) (hi.map rd) with
          | some (p, l, u) => some (p && leN n es, .sub id (Int.toNat l) (Int.toNat (u - l)), none, h)
          | none => none
        else none
      | _ => none
    | _ => none
  | .copy sz d s => match rd d with
    | .sub id off len => match h[id]? with
      | some (.row ty T fz es) => match fz, elemsX h T (rd s) with
        | false, some ys => if Nat.beq T.size sz = true then some (leN (off + len) es, .d (.int .i64) ((min ys.length len : Nat) : Int), none, h.set id (.row ty T false (cpy es off len ys))) else none
        | _, _ => none
      | _ => none
    | .row id => match h[id]? with
      | some (.row ty T fz es) => match fz, elemsX h T (rd s) with
        | false, some ys => if Nat.beq T.size sz = true then some (true, .d (.int .i64) ((min ys.length es.length : Nat) : Int), none, h.set id (.row ty T false (cpy es 0 es.length ys))) else none
        | _, _ => none
      | _ => none
    | _ => none
  | .min2 x y => match rd x, rd y with
    | .d (.int k) a, .d (.int _) b => some (true, .d (.int k) (iMin a b), none, h)
    | _, _ => none
  | .max2 x y => match rd x, rd y with
    | .d (.int k) a, .d (.int _) b => some (true, .d (.int k) (iMax a b), none, h)
    | _, _ => none
  | .call _ _ => none
end Abs
end Go.Proofs.YtamgbanmnededaaDoor
