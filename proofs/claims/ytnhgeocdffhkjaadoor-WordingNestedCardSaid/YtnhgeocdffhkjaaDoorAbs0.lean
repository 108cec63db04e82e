/- An abstract machine over Go's operations: values by what they read as, memory of the call's own as rows of elements. Definitions alone. -/
import Derived.WalkKit
import Derived.Below
import Derived.Orders
import Derived.Laws.AppendOwn
import Derived.Laws.StructEq
namespace Go.Proofs.YtnhgeocdffhkjaaDoor
namespace Abs
open Go.RowKit

/-- A value by what it reads as. -/
inductive AV where
  | any
  | v (x : Value)
  | list (sz : Nat) (xs : List AV)
  | lptr (cs : List AV)
  | row (id G sz off len : Nat)
  | crow (id G sz len : Nat)
  | ptr (id G i off : Nat)
  | mp (id : Nat)
  | clo (f : Nat) (cs : List AV)
  | agg (cs : List AV)
  | tup (vs : List AV)
  deriving Inhabited

def AV.cells : AV → List AV
  | .agg cs => cs
  | a => [a]

/-- A block of the call's own: its number, the elements in it, the size of one, the room. -/
structure Ent where
  g : Option Nat
  G : Nat
  sz : Nat
  cap : Nat

structure AObj where
  ty : Nat
  sz : Nat
  fz : Nat
  pr : Bool
  es : List AV
  deriving Inhabited

structure St where
  t : List AV
  h : List AObj

/-- What a value reads as in memory that stays as it is. -/
inductive RP (F : Addr → Option Value) : Value → AV → Prop
  | any (x : Value) : RP F x .any
  | v (x : Value) : RP F x (.v x)
  | nil (sz : Nat) : RP F (.slice none 0 0) (.list sz [])
  | list (ad : Addr) (n cap sz : Nat) (xs : List AV) (cv : Nat → Value) (hn : xs.length = n) (hc : n ≤ cap) (hz : ∀ (i : Nat) (e : AV), xs[i]? = some e → e.cells.length = sz)
      (hF : ∀ (i j : Nat) (e a : AV), xs[i]? = some e → e.cells[j]? = some a → F (ad.add (i * sz + j)) = some (cv (i * sz + j)) ∧ (cv (i * sz + j)).oneCell' = true)
      (hR : ∀ (i j : Nat) (e a : AV), xs[i]? = some e → e.cells[j]? = some a → RP F (cv (i * sz + j)) a) : RP F (.slice (some ad) n cap) (.list sz xs)
  | lptr (ad : Addr) (cs : List AV) (cv : Nat → Value) (hF : ∀ (j : Nat) (a : AV), cs[j]? = some a → F (ad.add j) = some (cv j) ∧ (cv j).oneCell' = true)
      (hR : ∀ (j : Nat) (a : AV), cs[j]? = some a → RP F (cv j) a) : RP F (.pointer (some ad)) (.lptr cs)
  | agg (xs : Array Value) (cs : List AV) (hl : xs.size = cs.length) (h1 : ∀ (j : Nat) (x : Value), xs[j]? = some x → x.oneCell' = true) (hR : ∀ (j : Nat) (x : Value) (a : AV), xs[j]? = some x → cs[j]? = some a → RP F x a) : RP F (.agg xs) (.agg cs)
  | tup (xs : Array Value) (cs : List AV) (hl : xs.size = cs.length) (hR : ∀ (j : Nat) (x : Value) (a : AV), xs[j]? = some x → cs[j]? = some a → RP F x a) : RP F (.tuple xs) (.tup cs)

/-- The same, memory of the call's own let in. -/
inductive R (F : Addr → Option Value) (own : List Ent) : Value → AV → Prop
  | pure {x : Value} {a : AV} (h : RP F x a) : R F own x a
  | row (x : Value) (id G sz off len : Nat) (e : Ent) (he : own[id]? = some e) (hG : G ≤ e.G) (hs : ∃ a cap, x = .slice a len cap ∧ len ≤ cap ∧ (0 < len ∨ off ≠ 0 → a.isSome = true)) (hx : G = e.G → sz = e.sz ∧ off + len ≤ G ∧ (0 < len ∨ off = 0 → ∃ cp, off + cp ≤ e.cap ∧ x = .slice (e.g.map fun g => ⟨g, off * sz, none⟩) len cp)) (hz : 0 < e.sz) : R F own x (.row id G sz off len)
  | crow (x : Value) (id G sz len : Nat) (e : Ent) (he : own[id]? = some e) (hG : G ≤ e.G) (hs : ∃ a, x = .slice a len len ∧ (0 < len → a.isSome = true)) (hx : G = e.G → sz = e.sz ∧ len ≤ G ∧ x = .slice (e.g.map fun g => ⟨g, 0, none⟩) len len) (hz : 0 < e.sz) : R F own x (.crow id G sz len)
  | ptr (x : Value) (id G i off : Nat) (e : Ent) (he : own[id]? = some e) (hG : G ≤ e.G) (hs : ∃ a, x = .pointer (some a)) (hx : G = e.G → ∃ g, e.g = some g ∧ x = .pointer (some ⟨g, i * e.sz + off, none⟩)) (hz : 0 < e.sz) : R F own x (.ptr id G i off)
  | mp (x : Value) (id : Nat) (e : Ent) (he : own[id]? = some e) (h0 : e.sz = 0) (hx : ∃ g, e.g = some g ∧ x = .map (some g)) : R F own x (.mp id)
  | clo (f : Nat) (xs : Array Value) (cs : List AV) (hl : xs.size = cs.length) (hR : ∀ (j : Nat) (x : Value) (a : AV), xs[j]? = some x → cs[j]? = some a → R F own x a) : R F own (.func (.func f) #[] xs) (.clo f cs)
  | agg (xs : Array Value) (cs : List AV) (hl : xs.size = cs.length) (h1 : ∀ (j : Nat) (x : Value), xs[j]? = some x → x.oneCell' = true) (hR : ∀ (j : Nat) (x : Value) (a : AV), xs[j]? = some x → cs[j]? = some a → R F own x a) : R F own (.agg xs) (.agg cs)
  | tup (xs : Array Value) (cs : List AV) (hl : xs.size = cs.length) (hR : ∀ (j : Nat) (x : Value) (a : AV), xs[j]? = some x → cs[j]? = some a → R F own x a) : R F own (.tuple xs) (.tup cs)

/-- A cell of a block of the call's own: a row's cells never hold the call's own memory. -/
def RC (F : Addr → Option Value) (own : List Ent) (pr : Bool) (y : Value) (a : AV) : Prop := if pr = true then RP F y a else R F own y a

/-- The cells of a block that a string shares: none, or the row is shut. -/
def NoFz (fr : Nat × Nat) (n : Nat) : Prop := ∀ j, j < n → ¬ (fr.1 ≤ j ∧ j < fr.2)
def FrOk (fr : Nat × Nat) (n : Nat) (_ : Bool) (fz len : Nat) : Prop := NoFz fr n ∨ (fz = len ∧ 0 < len)
/-- A plain value. -/
def avOf : Value → AV
  | .agg cs => .agg (cs.toList.map .v)
  | z => .v z

/-- A map's entry. -/
def EntR (F : Addr → Option Value) (en : MapEntry) (x : AV) : Prop := ∃ a, x = .agg ((avOf en.key).cells ++ [a]) ∧ (∀ cs, en.key = .agg cs → cs.size ≠ 1) ∧ en.val.oneCell' = true ∧ RP F en.val a
/-- A map of the call's own (an object whose elements have no size): its entries, in order. -/
def MapR (F : Addr → Option Value) (w : World) (e : Ent) (o : AObj) : Prop :=
  e.sz = 0 ∧ o.pr = true ∧ ∃ g, e.g = some g ∧ ∃ (es : Array MapEntry) (clock : Nat), w.heap[g]? = some (.map es clock) ∧ es.size = o.es.length ∧ (∀ (i : Nat) (en : MapEntry) (x : AV), es[i]? = some en → o.es[i]? = some x → EntR F en x) ∧ ∀ j, F ⟨g, j, none⟩ = none
/-- A block of the call's own holds what the object says. -/
def ObjC (F : Addr → Option Value) (own : List Ent) (w : World) (e : Ent) (o : AObj) : Prop :=
  e.G = o.es.length ∧ e.sz = o.sz ∧ 0 < o.sz ∧ e.G ≤ e.cap ∧ (e.cap ≤ maxLen ∧ (o.pr = false → e.cap = o.es.length)) ∧ o.fz ≤ o.es.length ∧ (∀ (i : Nat) (x : AV), o.es[i]? = some x → x.cells.length = o.sz) ∧
  match e.g with
  | none => e.cap = 0
  | some g => ∃ cs : Array Value, (∃ fr, w.heap[g]? = some (.cells cs o.ty fr) ∧ FrOk fr cs.size o.pr o.fz o.es.length) ∧ cs.size = e.cap * o.sz ∧
      (∀ (i j : Nat) (x a : AV), o.es[i]? = some x → x.cells[j]? = some a → ∃ y, cs[i * o.sz + j]? = some y ∧ y.oneCell' = true ∧ RC F own o.pr y a) ∧
      (∀ j, o.fz * o.sz ≤ j → F ⟨g, j, none⟩ = none)

def ObjR (F : Addr → Option Value) (own : List Ent) (w : World) (e : Ent) (o : AObj) : Prop := (0 < o.sz ∧ ObjC F own w e o) ∨ (o.sz = 0 ∧ MapR F w e o)
/-- What the globals hold. -/
def GlOk (Gl : Nat → Option (List AV)) (F : Addr → Option Value) : Prop := ∀ g cs, Gl g = some cs → RP F (.pointer (some ⟨g, 0, none⟩)) (.lptr cs)

/-- The globals' blocks are as long as what they hold. -/
def GlW (Gl : Nat → Option (List AV)) (B : Nat) (w : World) : Prop := ∀ g cs, Gl g = some cs → g < B ∧ ∃ vs ty fr, w.heap[g]? = some (.cells vs ty fr) ∧ vs.size = cs.length
/-- Where the call began: the world, and the memory that stays as it is. -/
structure PdE where
  obj : Obj
  e : Ent
  ob : AObj
  ok : ∀ (F : Addr → Option Value) (own : List Ent) (w : World), (∀ g, e.g = some g → w.heap[g]? = some obj ∧ ∀ j, F ⟨g, j, none⟩ = none) → ObjR F own w e ob
structure W0 where
  w : World
  F : Addr → Option Value
  N : Nat
  fr : List (Nat × Value × AV)
  hfr : ∀ q ∈ fr, q.1 ≤ N
  pd : List PdE
  pdn : pd.Pairwise fun a b => ∀ g, a.e.g = some g → b.e.g ≠ some g
  df : List Deferred
/-- No block of the call's own. -/
def NoOwn (own : List Ent) (g : Nat) : Prop := ∀ (id : Nat) (e : Ent), own[id]? = some e → e.g ≠ some g
/-- Blocks that were made ahead of their time. -/
def PdIn (B : Nat) (l : List PdE) (F : Addr → Option Value) (own : List Ent) (w : World) : Prop := ∀ q ∈ l, ∀ g, q.e.g = some g → w.heap[g]? = some q.obj ∧ (∀ j, F ⟨g, j, none⟩ = none) ∧ NoOwn own g ∧ B ≤ g

structure Inv (Gl : Nat → Option (List AV)) (F : Addr → Option Value) (own : List Ent) (B : Nat) (w0 : W0) (σ : St) (act : Act) (w : World) : Prop where
  tl : act.tmps.size = σ.t.length
  tr : ∀ (i : Nat) (x : Value) (a : AV), act.tmps[i]? = some x → σ.t[i]? = some a → R F own x a
  defers : act.defers = w0.df
  sub : ∀ a x, F a = some x → w.cell? a = some x
  hl : own.length = σ.h.length
  objs : ∀ (id : Nat) (e : Ent) (o : AObj), own[id]? = some e → σ.h[id]? = some o → ObjR F own w e o
  inj : ∀ (i j : Nat) (e e' : Ent) (g : Nat), own[i]? = some e → own[j]? = some e' → e.g = some g → e'.g = some g → i = j
  below : Below B w0.w w
  base : ∀ (id : Nat) (e : Ent) (g : Nat), own[id]? = some e → e.g = some g → B ≤ g
  gl : GlOk Gl F
  gw : GlW Gl B w0.w
  room : B ≤ w0.w.heap.size
  ext : ∀ (ad : Addr) (y : Value), F ad = some y → w0.F ad = some y ∨ B ≤ ad.block
  ext0 : ∀ (ad : Addr) (y : Value), w0.F ad = some y → F ad = some y
  nl : w0.N ≤ σ.h.length
  fr : ∀ q ∈ w0.fr, R F (own.take q.1) q.2.1 q.2.2
  pd : PdIn B w0.pd F own w

/-- Operands. -/
inductive Opd where
  | t (i : Nat)
  | k (x : Value)
  | g (i : Nat)
  deriving Inhabited

@[reducible] def Opd.fn (f : FuncId) : Opd := .k (.func (.func f) #[] #[])
/-- A map's keys: numbers of a kind, texts, rows of numbers. -/
inductive KT where
  | int (k : IntKind)
  | str
  | arr (n : Nat) (k : IntKind)
  deriving Inhabited
def KT.n : KT → Nat
  | .arr n _ => n
  | _ => 1
def okI (k : IntKind) : AV → Bool
  | .v (.int k' _) => decide (k' = k)
  | _ => false
/-- The cells of a key. -/
def KT.ok : KT → List AV → Bool
  | .int k, [a] => okI k a
  | .str, [.v (.string _)] => true
  | .arr n k, cs => Nat.beq cs.length n && cs.all (okI k)
  | _, _ => false
/-- A row of one cell is no key. -/
def fitK : AV → Bool
  | .agg cs => !(Nat.beq cs.length 1)
  | _ => true
def eqC : AV → AV → Bool
  | .v (.int _ a), .v (.int _ b) => a == b
  | .v (.string a), .v (.string b) => a.toList == b.toList
  | _, _ => false
def eqCs : List AV → List AV → Bool
  | [], [] => true
  | a :: as, b :: bs => eqC a b && eqCs as bs
  | _, _ => false
def KT.entOk (kt : KT) : AV → Bool
  | .agg cs => Nat.beq cs.length (kt.n + 1) && kt.ok (cs.take kt.n)
  | _ => false
/-- A map's first entry with a key. -/
def findE (n : Nat) (k : List AV) : List AV → Nat → Option (Nat × AV)
  | [], _ => none
  | .agg cs :: es, i => if eqCs k (cs.take n) = true then some (i, cs.getD n .any) else findE n k es (i + 1)
  | _ :: es, i => findE n k es (i + 1)
inductive I where
  | mov (x : Opd)
  | pick (c a b : Opd)
  | bin (op : BinOp) (x y : Opd)
  | beq (neg : Bool) (x y : Opd)
  | nilq (neg : Bool) (x : Opd)
  | aeq (neg : Bool) (fs : List (Nat × Nat)) (x y : Opd)
  | un (op : UnOp) (x : Opd)
  | conv (k : IntKind) (x : Opd)
  | fld (off sz : Nat) (ag : Bool) (x : Opd)
  | ext (i : Nat) (x : Opd)
  | faddr (off : Nat) (x : Opd)
  | iaddr (sz : Nat) (x i : Opd)
  | load (sz : Nat) (ag : Bool) (x : Opd)
  | store (sz : Nat) (x y : Opd)
  | slice (sz : Nat) (x : Opd) (lo hi : Option Opd)
  | slice3 (sz : Nat) (x hi mx : Opd)
  | sslice (x : Opd) (lo hi : Option Opd)
  | len (x : Opd)
  | slen (x : Opd)
  | nck (x : Opd)
  | idx (x i : Opd)
  | aidx (sz : Nat) (ag : Bool) (n : Nat) (x i : Opd)
  | app (ty sz bytes : Nat) (s x : Opd)
  | apps (ty bytes : Nat) (s x : Opd)
  | b2s (x : Opd)
  | s2b (ty : Nat) (x : Opd)
  | bslice (ty sz : Nat) (xs : List Opd)
  | blist (ty sz : Nat) (xs : List Opd)
  | bvec (ty : Nat) (xs : List Opd)
  | bsc (ty : Nat) (xs : List Opd)
  | build (zero : List Value) (parts : List (Nat × Nat × Opd))
  | box (ty sz : Nat) (x : Opd)
  | alloc (ty : Nat) (zero : Value)
  | mk (ty sz bytes : Nat) (zero : Value) (n : Opd)
  | alloca (ty sz n : Nat) (zero : Value)
  | aaddr (bsz st n : Nat) (x i : Opd)
  | aslice (bsz n : Nat) (x : Opd) (lo hi : Option Opd)
  | aslf (n : Nat) (x : Opd) (lo hi : Option Opd)
  | copy (sz : Nat) (d s : Opd)
  | mk2 (ty sz bytes : Nat) (zero : Value) (l c : Opd)
  | mmk (ty : Nat) (hint : Option Opd)
  | mget (kt : KT) (ok : Bool) (zero : Value) (m k : Opd)
  | mput (kt : KT) (m k v : Opd)
  | min2 (x y : Opd)
  | max2 (x y : Opd)
  | clo (f : FuncId) (xs : List Opd)
  | boxz (ty sz : Nat) (k : IntKind) (x : Opd)
  | call (fn : Opd) (args : List Opd)
  deriving Inhabited

/-- An operation: its slot, its guard (a slot and the answer wanted). -/
structure Ins where
  dst : Option Nat
  gd : Option (Nat × Bool)
  i : I
  deriving Inhabited

inductive C where
  | skip
  | ops (draw : Bool) (l : List Ins)
  | rops (l : List (Nat × Ins))
  | seq (a b : C)
  | cond (c : Opd) (a b : C)
  | block (id : Nat) (b : C)
  | loop (b : C)
  | exit (id : Nat)
  | ret
  deriving Inhabited

def St.val (Gl : Nat → Option (List AV)) (σ : St) : Opd → AV
  | .t i => σ.t.getD i .any
  | .k x => .v x
  | .g i => match Gl i with
    | some cs => .lptr cs
    | none => .any

def St.put (σ : St) (d : Option Nat) (a : AV) : St :=
  match d with
  | some i => { σ with t := σ.t.set i a }
  | none => σ

/-- A plain cell. -/
def sc1 : AV → Bool
  | .v x => x.oneCell'
  | _ => false
/-- Two plain values. -/
def binV : BinOp → Value → Value → Option (Prop × Value)
  | .add, .int k a, .int k' b => if k = k' then some (True, .int k (k.wrap (a + b))) else none
  | .sub, .int k a, .int k' b => if k = k' then some (True, .int k (k.wrap (a - b))) else none
  | .mul, .int k a, .int k' b => if k = k' then some (True, .int k (k.wrap (a * b))) else none
  | .quo, .int k a, .int k' b => if k = k' then some (b ≠ 0, .int k (k.wrap (a.tdiv b))) else none
  | .rem, .int k a, .int k' b => if k = k' then some (b ≠ 0, .int k (a.tmod b)) else none
  | .and, .int k a, .int k' b => if k = k' then some (True, .int k (k.wrap (BitVec.ofInt k.bits a &&& BitVec.ofInt k.bits b).toNat)) else none
  | .or, .int k a, .int k' b => if k = k' then some (True, .int k (k.wrap (BitVec.ofInt k.bits a ||| BitVec.ofInt k.bits b).toNat)) else none
  | .xor, .int k a, .int k' b => if k = k' then some (True, .int k (k.wrap (BitVec.ofInt k.bits a ^^^ BitVec.ofInt k.bits b).toNat)) else none
  | .shl, .int k a, .int _ b => some (0 ≤ b, .int k (k.wrap (a * 2 ^ (min b.toNat k.bits))))
  | .shr, .int k a, .int _ b => some (0 ≤ b, .int k (a.fdiv (2 ^ (min b.toNat k.bits))))
  | .eql, .int k a, .int k' b => if k = k' then some (True, .bool (a == b)) else none
  | .neq, .int k a, .int k' b => if k = k' then some (True, .bool (a != b)) else none
  | .lss, .int k a, .int k' b => if k = k' then some (True, .bool (a < b)) else none
  | .leq, .int k a, .int k' b => if k = k' then some (True, .bool (a ≤ b)) else none
  | .gtr, .int k a, .int k' b => if k = k' then some (True, .bool (b < a)) else none
  | .geq, .int k a, .int k' b => if k = k' then some (True, .bool (b ≤ a)) else none
  | .add, .string a, .string b => some (a.size + b.size ≤ 9223372036854775807, .string (a ++ b))
  | .eql, .string a, .string b => some (True, .bool (a.toList == b.toList))
  | .neq, .string a, .string b => some (True, .bool !(a.toList == b.toList))
  | .lss, .string a, .string b => some (True, .bool (Op.bytesLess a.toList b.toList))
  | .leq, .string a, .string b => some (True, .bool (Op.bytesLess a.toList b.toList || a.toList == b.toList))
  | .gtr, .string a, .string b => some (True, .bool !(Op.bytesLess a.toList b.toList || a.toList == b.toList))
  | .geq, .string a, .string b => some (True, .bool !(Op.bytesLess a.toList b.toList))
  | _, _, _ => none

/-- Two cells that may be compared: integers (1), truth values (2), texts (3). -/
def eq1 : Nat → AV → AV → Option Bool
  | 1, .v (.int k a), .v (.int k' b) => if k = k' then some (a == b) else none
  | 2, .v (.bool a), .v (.bool b) => some (a == b)
  | 3, .v (.string a), .v (.string b) => some (a.toList == b.toList)
  | _, _, _ => none
/-- Two structs, field by field (a field: its place, and its kind, 0: it does not count). -/
def eqA (xs ys : List AV) : List (Nat × Nat) → Option Bool
  | [] => some true
  | (i, c) :: fs => if c = 0 then eqA xs ys fs else match eq1 c (xs.getD i .any) (ys.getD i .any), eqA xs ys fs with
      | some a, some b => some (a && b)
      | _, _ => none

def unV : UnOp → Value → Option Value
  | .neg, .int k n => some (.int k (k.wrap (0 - n)))
  | .not, .bool b => some (.bool !b)
  | _, _ => none

def setCells (e : AV) (o : Nat) (cs : List AV) : AV :=
  match e with
  | .agg es => .agg (es.take o ++ cs ++ es.drop (o + cs.length))
  | _ => cs.headD .any

/-- One cell that may be stored (into a row: no memory of the call's own). -/
def st1 (pr : Bool) : AV → Bool
  | .v x => x.oneCell'
  | .list _ _ | .lptr _ => true
  | .row .. | .ptr .. | .mp .. | .clo .. => !pr
  | _ => false
def stCells (pr : Bool) : AV → Option (List AV)
  | .agg cs => if cs.all (st1 pr) then some cs else none
  | a => if st1 pr a then some [a] else none

/-- A cell's value, one that may be kept in a row: what it reads as for good, and the rows of the call's own behind it. -/
def keep1 (h : List AObj) : AV → Option AV
  | .any => none
  | .v x => if x.oneCell' then some (.v x) else none
  | .list sz xs => some (.list sz xs)
  | .lptr cs => some (.lptr cs)
  | .row id G sz off len => match h[id]? with
    | some o => if o.es.length = G ∧ o.sz = sz ∧ o.pr = true then some (.list sz ((o.es.drop off).take len)) else none
    | none => none
  | _ => none

def keepL (h : List AObj) : List AV → Option (List AV)
  | [] => some []
  | a :: l => match keep1 h a, keepL h l with
    | some b, some m => some (b :: m)
    | _, _ => none

def keepA (h : List AObj) : AV → Option AV
  | .agg cs => (keepL h cs).map .agg
  | a => keep1 h a

def keepAL (h : List AObj) : List AV → Option (List AV)
  | [] => some []
  | a :: l => match keepA h a, keepAL h l with
    | some b, some m => some (b :: m)
    | _, _ => none

def keepT (h : List AObj) : AV → Option AV
  | .tup vs => (keepAL h vs).map .tup
  | a => keepA h a

/-- The rows behind a value. -/
def rows1 : AV → List Nat
  | .row id _ _ _ _ => [id]
  | _ => []
def rowsA : AV → List Nat
  | .agg cs => cs.flatMap rows1
  | a => rows1 a
def freeze (h : List AObj) (ids : List Nat) : List AObj := ids.foldl (fun h id => match h[id]? with | some o => h.set id { o with fz := o.es.length } | none => h) h

def elemsOf (h : List AObj) (sz : Nat) : AV → Option (List AV)
  | .list sz' xs => if sz' = sz then some xs else none
  | .v (.slice none 0 0) => some []
  | .row id G sz' off len => match h[id]? with
    | some o => if o.es.length = G ∧ sz' = sz ∧ o.sz = sz ∧ o.pr = true then some ((o.es.drop off).take len) else none
    | none => none
  | _ => none

def asN : AV → Option Int
  | .v (.int _ n) => some n
  | _ => none

/-- The bounds of a cut. -/
def cutB (n : Nat) (lo hi : Option AV) : Option (Prop × Int × Int) :=
  match (match lo with | none => some 0 | some a => asN a), (match hi with | none => some (n : Int) | some a => asN a) with
  | some l, some h => some (0 ≤ l ∧ l ≤ h ∧ h ≤ n, l, h)
  | _, _ => none

def allV : AV → Bool
  | .v _ => true
  | _ => false
def scalar : AV → Bool
  | .v _ => true
  | .agg cs => cs.all allV
  | .tup vs => vs.all fun a => match a with | .v _ => true | .agg cs => cs.all allV | _ => false
  | _ => false

def buildC (Gl : Nat → Option (List AV)) (σ : St) : List AV → List (Nat × Nat × Opd) → Option (List AV)
  | cs, [] => some cs
  | cs, (off, sz, x) :: r => match stCells false (σ.val Gl x) with
    | some vs => if vs.length = sz ∧ off + sz ≤ cs.length then buildC Gl σ (cs.take off ++ vs ++ cs.drop (off + sz)) r else none
    | none => none

def maxB : Nat := 140737488355328
/-- A string's bytes. -/
def bytesAV (s : ByteArray) : List AV := s.data.toList.map fun c => .v (.int .u8 c.toNat)
def byteOf : AV → Option UInt8
  | .v (.int .u8 n) => some (UInt8.ofNat n.toNat)
  | _ => none
def bytesOf : List AV → Option (List UInt8)
  | [] => some []
  | a :: l => match byteOf a, bytesOf l with
    | some b, some m => some (b :: m)
    | _, _ => none
/-- An append of elements. -/
def appY (h : List AObj) (ty sz bytes : Nat) (a : AV) (ys : List AV) : Option (Prop × AV × List AObj) :=
  match a with
  | .v (.slice none 0 0) => some (ys.length * bytes ≤ maxB ∧ ys.length ≤ 4611686018427387904, .row h.length ys.length sz 0 ys.length, h ++ [⟨ty, sz, 0, true, ys⟩])
  | .row id G sz' off len => match h[id]? with
    | some ob => if ob.es.length = G ∧ sz' = sz ∧ ob.ty = ty ∧ ob.sz = sz ∧ off = 0 ∧ ob.pr = true ∧ ob.fz = 0 then
        some (len = G ∧ (G + ys.length) * bytes ≤ maxB ∧ G + ys.length ≤ 4611686018427387904, .row id (G + ys.length) sz 0 (G + ys.length), h.set id { ob with es := ob.es ++ ys })
      else none
    | none => none
  | .crow id G sz' len => match h[id]? with
    | some ob => if ob.es.length = G ∧ sz' = sz ∧ ob.sz = sz ∧ ob.pr = true then
        if ys.isEmpty then some (True, .row id G sz 0 len, h)
        else some ((len + ys.length) * bytes ≤ maxB ∧ len + ys.length ≤ 4611686018427387904, .row h.length (len + ys.length) sz 0 (len + ys.length), h ++ [⟨ty, sz, 0, true, ob.es.take len ++ ys⟩])
      else none
    | none => none
  | _ => none

/-- One step: what is asked, the value, the heap. -/
def step (Gl : Nat → Option (List AV)) (σ : St) : I → Option (Prop × AV × List AObj)
  | .mov x => some (True, σ.val Gl x, σ.h)
  | .pick c a b => match σ.val Gl c with
    | .v (.bool t) => some (True, if t then σ.val Gl a else σ.val Gl b, σ.h)
    | _ => none
  | .bin op x y => match σ.val Gl x, σ.val Gl y with
    | .v a, .v b => (binV op a b).map fun (p, r) => (p, .v r, σ.h)
    | _, _ => none
  | .beq neg x y => match σ.val Gl x, σ.val Gl y with
    | .v (.bool a), .v (.bool b) => some (True, .v (.bool (if neg then !(a == b) else a == b)), σ.h)
    | _, _ => none
  | .nilq neg x => match σ.val Gl x with
    | .list _ xs => some (xs ≠ [], .v (.bool neg), σ.h)
    | .v (.slice none 0 0) => some (True, .v (.bool !neg), σ.h)
    | .row _ _ _ _ len => some (0 < len, .v (.bool neg), σ.h)
    | _ => none
  | .aeq neg fs x y => match σ.val Gl x, σ.val Gl y with
    | .agg xs, .agg ys => (eqA xs ys fs).map fun b => (True, .v (.bool (if neg then !b else b)), σ.h)
    | _, _ => none
  | .un op x => match σ.val Gl x with
    | .v a => (unV op a).map fun r => (True, .v r, σ.h)
    | _ => none
  | .conv k x => match σ.val Gl x with
    | .v (.int _ n) => some (True, .v (.int k (k.wrap n)), σ.h)
    | _ => none
  | .fld off sz ag x => match σ.val Gl x with
    | .agg cs => if ag then (if off + sz ≤ cs.length then some (True, .agg ((cs.drop off).take sz), σ.h) else none) else (cs[off]?).map fun a => (True, a, σ.h)
    | _ => none
  | .ext i x => match σ.val Gl x with
    | .tup vs => (vs[i]?).map fun a => (True, a, σ.h)
    | _ => none
  | .faddr off x => match σ.val Gl x with
    | .ptr id G i o => some (True, .ptr id G i (o + off), σ.h)
    | .lptr cs => some (True, .lptr (cs.drop off), σ.h)
    | _ => none
  | .iaddr sz x i => match σ.val Gl x, σ.val Gl i with
    | .list sz' xs, .v (.int _ n) => if sz' = sz then some (0 ≤ n ∧ n < xs.length, .lptr (xs.getD n.toNat .any).cells, σ.h) else none
    | .row id G sz' off len, .v (.int _ n) => if sz' = sz then some (0 ≤ n ∧ n < len, .ptr id G (off + n.toNat) 0, σ.h) else none
    | _, _ => none
  | .load sz ag x => match σ.val Gl x with
    | .lptr cs => if ag then (if sz ≤ cs.length then some (True, .agg (cs.take sz), σ.h) else none) else cs.head?.map fun a => (True, a, σ.h)
    | .ptr id G i o => match σ.h[id]? with
      | some ob => if ob.es.length = G then
          if ag then some (o + sz ≤ ob.sz ∧ i < G, .agg (((ob.es.getD i .any).cells.drop o).take sz), σ.h)
          else some (o < ob.sz ∧ i < G, (ob.es.getD i .any).cells.getD o .any, σ.h)
        else none
      | none => none
    | _ => none
  | .store sz x y => match σ.val Gl x with
    | .ptr id G i o => match σ.h[id]? with
      | some ob => if ob.es.length = G then
          match stCells ob.pr (σ.val Gl y) with
          | some cs => if cs.length = sz then some (o + sz ≤ ob.sz ∧ i < G ∧ ob.fz ≤ i, .any, σ.h.set id { ob with es := ob.es.set i (setCells (ob.es.getD i .any) o cs) }) else none
          | none => match keepA σ.h (σ.val Gl y), (freeze σ.h (rowsA (σ.val Gl y)))[id]? with
            | some b, some oc => match stCells oc.pr b with
              | some cs => if cs.length = sz then some (o + sz ≤ oc.sz ∧ i < G ∧ oc.fz ≤ i, .any, (freeze σ.h (rowsA (σ.val Gl y))).set id { oc with es := oc.es.set i (setCells (oc.es.getD i .any) o cs) }) else none
              | none => none
            | _, _ => none
        else none
      | none => none
    | _ => none
  | .slice sz x lo hi => match σ.val Gl x with
    | .list sz' xs => if sz' = sz then (cutB xs.length (lo.map (σ.val Gl)) (hi.map (σ.val Gl))).map fun (p, l, h) => (p, .list sz ((xs.take h.toNat).drop l.toNat), σ.h) else none
    | .v (.slice none 0 0) => (cutB 0 (lo.map (σ.val Gl)) (hi.map (σ.val Gl))).map fun (p, _, _) => (p, .v (.slice none 0 0), σ.h)
    | .row id G sz' off len => if sz' = sz then (cutB len (lo.map (σ.val Gl)) (hi.map (σ.val Gl))).map fun (p, l, h) => (p, .row id G sz (off + l.toNat) (h - l).toNat, σ.h) else none
    | _ => none
  | .slice3 sz x hi mx => match σ.val Gl x, σ.val Gl hi, σ.val Gl mx with
    | .row id G sz' off len, .v (.int _ n), .v (.int _ m) => if sz' = sz ∧ off = 0 then some (0 ≤ n ∧ n ≤ len ∧ m = n, .crow id G sz n.toNat, σ.h) else none
    | _, _, _ => none
  | .sslice x lo hi => match σ.val Gl x with
    | .v (.string s) => (cutB s.size (lo.map (σ.val Gl)) (hi.map (σ.val Gl))).map fun (p, l, h) => (p, .v (.string (s.extract l.toNat h.toNat)), σ.h)
    | _ => none
  | .len x => match σ.val Gl x with
    | .list _ xs => some (True, .v (.int .i64 xs.length), σ.h)
    | .row _ _ _ _ len => some (True, .v (.int .i64 len), σ.h)
    | .v (.slice none 0 0) => some (True, .v (.int .i64 0), σ.h)
    | _ => none
  | .nck x => match σ.val Gl x with
    | .ptr id G i o => some (True, .ptr id G i o, σ.h)
    | .lptr cs => some (True, .lptr cs, σ.h)
    | _ => none
  | .slen x => match σ.val Gl x with
    | .v (.string s) => some (True, .v (.int .i64 s.size), σ.h)
    | _ => none
  | .idx x i => match σ.val Gl x, σ.val Gl i with
    | .v (.string s), .v (.int _ n) => some (0 ≤ n ∧ n < s.size, .v (.int .u8 (s.data.getD n.toNat 0).toNat), σ.h)
    | _, _ => none
  | .aidx sz ag n x i => match σ.val Gl x, σ.val Gl i with
    | .agg cs, .v (.int _ m) => if cs.length = n * sz then (if ag = true then some (0 ≤ m ∧ m < n, .agg ((cs.drop (m.toNat * sz)).take sz), σ.h) else some ((0 ≤ m ∧ m < n) ∧ m.toNat * sz < cs.length, cs.getD (m.toNat * sz) .any, σ.h)) else none
    | _, _ => none
  | .app ty sz bytes s x => match elemsOf σ.h sz (σ.val Gl x) with
    | some ys => appY σ.h ty sz bytes (σ.val Gl s) ys
    | none => none
  | .apps ty bytes s x => match σ.val Gl x with
    | .v (.string b) => appY σ.h ty 1 bytes (σ.val Gl s) (bytesAV b)
    | _ => none
  | .b2s x => match elemsOf σ.h 1 (σ.val Gl x) with
    | some ys => (bytesOf ys).map fun l => (True, .v (.string ⟨l.toArray⟩), σ.h)
    | none => none
  | .s2b ty x => match σ.val Gl x with
    | .v (.string b) => some (b.size ≤ 4611686018427387904, .row σ.h.length b.size 1 0 b.size, σ.h ++ [⟨ty, 1, 0, true, bytesAV b⟩])
    | _ => none
  | .bslice ty sz xs => match keepAL σ.h (xs.map (σ.val Gl)) with
    | some ys => if ys.all (fun y => y.cells.length == sz) then
        some (True, .row σ.h.length ys.length sz 0 ys.length, freeze σ.h ((xs.map (σ.val Gl)).flatMap rowsA) ++ [⟨ty, sz, 0, true, ys⟩]) else none
    | none => none
  | .blist _ sz xs => match keepAL σ.h (xs.map (σ.val Gl)) with
    | some ys => if ys.all (fun y => y.cells.length == sz) && (xs.map (σ.val Gl)).all (fun a => (rowsA a).isEmpty) then some (True, .list sz ys, σ.h) else none
    | none => none
  | .bvec ty xs => if (xs.map (σ.val Gl)).all (st1 false) then some (True, .row σ.h.length xs.length 1 0 xs.length, σ.h ++ [⟨ty, 1, 0, false, xs.map (σ.val Gl)⟩]) else none
  | .bsc ty xs => if (xs.map (σ.val Gl)).all sc1 = true then some (True, .row σ.h.length xs.length 1 0 xs.length, σ.h ++ [⟨ty, 1, 0, true, xs.map (σ.val Gl)⟩]) else none
  | .build zero parts => (buildC Gl σ (zero.map .v) parts).map fun cs => (True, .agg cs, σ.h)
  | .box ty sz x => match stCells false (σ.val Gl x) with
    | some cs => if cs.length = sz then some (True, .ptr σ.h.length 1 0 0, σ.h ++ [⟨ty, sz, 0, false, [σ.val Gl x]⟩]) else none
    | none => none
  | .alloc ty zero => some (True, .ptr σ.h.length 1 0 0, σ.h ++ [⟨ty, zero.cells.size, 0, false, [avOf zero]⟩])
  | .mk ty sz bytes zero n => match σ.val Gl n with
    | .v (.int .i64 n) => some (0 ≤ n ∧ n * bytes ≤ maxB ∧ n ≤ 4611686018427387904, .row σ.h.length n.toNat sz 0 n.toNat, σ.h ++ [⟨ty, sz, 0, true, List.replicate n.toNat (avOf zero)⟩])
    | _ => none
  | .alloca ty sz n zero => some (True, .ptr σ.h.length n 0 0, σ.h ++ [⟨ty, sz, 0, true, List.replicate n (avOf zero)⟩])
  | .aaddr bsz st n x i => match σ.val Gl x, σ.val Gl i with
    | .ptr id G j o, .v (.int _ m) => match σ.h[id]? with
      | some ob => if o = 0 ∧ ob.sz = bsz then some (0 ≤ m ∧ m < n, .ptr id G (j + m.toNat * st) 0, σ.h) else if st = 1 ∧ bsz = 1 then some (0 ≤ m ∧ m < n, .ptr id G j (o + m.toNat), σ.h) else none
      | none => none
    | .lptr cs, .v (.int _ m) => some (0 ≤ m ∧ m < n, .lptr ((cs.drop (m.toNat * (st * bsz))).take (st * bsz)), σ.h)
    | _, _ => none
  | .aslice bsz n x lo hi => match σ.val Gl x with
    | .ptr id G j o => match σ.h[id]? with
      | some ob => if o = 0 ∧ ob.sz = bsz then (cutB n (lo.map (σ.val Gl)) (hi.map (σ.val Gl))).map fun (p, l, u) => (p ∧ j + n ≤ G, .row id G bsz (j + l.toNat) (u - l).toNat, σ.h)
        else if bsz = 1 ∧ ob.es.length = G ∧ ob.es.all (fun e => e.cells.all allV) = true ∧ ob.pr = true ∧ ob.fz = ob.es.length then (cutB n (lo.map (σ.val Gl)) (hi.map (σ.val Gl))).map fun (p, l, u) => (p ∧ o + n ≤ ob.sz ∧ j < G, .list 1 ((((ob.es.getD j .any).cells.drop o).take u.toNat).drop l.toNat), σ.h) else none
      | none => none
    | _ => none
  | .aslf n x lo hi => match σ.val Gl x with
    | .ptr id G j o => match σ.h[id]? with
      | some ob => if ob.es.length = G ∧ ob.es.all (fun e => e.cells.all allV) = true then (cutB n (lo.map (σ.val Gl)) (hi.map (σ.val Gl))).map fun (p, l, u) => (p ∧ o + n ≤ ob.sz ∧ j < G, .list 1 ((((ob.es.getD j .any).cells.drop o).take u.toNat).drop l.toNat), σ.h.set id { ob with pr := true, fz := ob.es.length }) else none
      | none => none
    | _ => none
  | .copy sz d s => match elemsOf σ.h sz (σ.val Gl s) with
    | some ys => match σ.val Gl d with
      | .row id G sz' off len => match σ.h[id]? with
        | some ob => if ob.es.length = G ∧ sz' = sz ∧ ob.sz = sz ∧ ob.pr = true ∧ ob.fz = 0 then
            some (ob.fz ≤ off, .v (.int .i64 (min ys.length len : Nat)), σ.h.set id { ob with es := ob.es.take off ++ ys.take len ++ ob.es.drop (off + (ys.take len).length) })
          else none
        | none => none
      | _ => none
    | none => none
  | .mk2 ty sz bytes zero l c => match σ.val Gl l, σ.val Gl c with
    | .v (.int .i64 l), .v (.int .i64 c) => some (0 ≤ l ∧ l ≤ c ∧ c * bytes ≤ maxB ∧ c ≤ 4611686018427387904, .row σ.h.length l.toNat sz 0 l.toNat, σ.h ++ [⟨ty, sz, 0, true, List.replicate l.toNat (avOf zero)⟩])
    | _, _ => none
  | .mmk ty hint => match hint.map (σ.val Gl) with
    | none => some (True, .mp σ.h.length, σ.h ++ [⟨ty, 0, 0, true, []⟩])
    | some (.v (.int _ _)) => some (True, .mp σ.h.length, σ.h ++ [⟨ty, 0, 0, true, []⟩])
    | _ => none
  | .mget kt ok zero m k => match σ.val Gl m with
    | .mp id => match σ.h[id]? with
      | some ob => if ob.sz = 0 ∧ kt.ok (σ.val Gl k).cells = true ∧ ob.es.all kt.entOk = true ∧ fitK (σ.val Gl k) = true then match findE kt.n (σ.val Gl k).cells ob.es 0 with
          | some (_, v) => some (True, if ok = true then .tup [v, .v (.bool true)] else v, σ.h)
          | none => some (True, if ok = true then .tup [.v zero, .v (.bool false)] else .v zero, σ.h)
        else none
      | none => none
    | _ => none
  | .mput kt m k v => match σ.val Gl m with
    | .mp id => match σ.h[id]? with
      | some ob => if ob.sz = 0 ∧ kt.ok (σ.val Gl k).cells = true ∧ ob.es.all kt.entOk = true ∧ st1 true (σ.val Gl v) = true ∧ fitK (σ.val Gl k) = true then match findE kt.n (σ.val Gl k).cells ob.es 0 with
          | some (i, _) => some (True, .any, σ.h.set id { ob with es := ob.es.set i (.agg ((σ.val Gl k).cells ++ [σ.val Gl v])), pr := true })
          | none => some (True, .any, σ.h.set id { ob with es := ob.es ++ [.agg ((σ.val Gl k).cells ++ [σ.val Gl v])], pr := true })
        else none
      | none => none
    | _ => none
  | .min2 x y => match σ.val Gl x, σ.val Gl y with
    | .v (.int k a), .v (.int _ b) => some (True, .v (.int k (min a b)), σ.h)
    | _, _ => none
  | .max2 x y => match σ.val Gl x, σ.val Gl y with
    | .v (.int k a), .v (.int _ b) => some (True, .v (.int k (max a b)), σ.h)
    | _, _ => none
  | .clo f xs => some (True, .clo f (xs.map (σ.val Gl)), σ.h)
  | .boxz ty sz _ x => match σ.val Gl x with
    | .agg cs => if cs.length = sz ∧ 2 ≤ sz ∧ cs.all allV = true then some (True, .ptr σ.h.length 1 0 0, σ.h ++ [⟨ty, sz, 1, true, [.agg cs]⟩]) else none
    | _ => none
  | .call _ _ => none

end Abs
end Go.Proofs.YtnhgeocdffhkjaaDoor
