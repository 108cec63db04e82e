/- The abstract machine, run: what its steps ask, decided. Definitions alone. -/
import Derived.Test.YtnhgeocdffhkjaaDoorAbsC
namespace Go.Proofs.YtnhgeocdffhkjaaDoor
namespace Abs
open Go.RowKit
set_option linter.unusedVariables false

/-- A number within a length. -/
def inNat (n : Int) (len : Nat) : Bool := match n with
  | .ofNat m => Nat.blt m len
  | .negSucc _ => false
def ltI : Int → Int → Bool
  | .ofNat a, .ofNat b => Nat.blt a b
  | .ofNat _, .negSucc _ => false
  | .negSucc _, .ofNat _ => true
  | .negSucc a, .negSucc b => Nat.blt b a
def eqI : Int → Int → Bool
  | .ofNat a, .ofNat b => Nat.beq a b
  | .negSucc a, .negSucc b => Nat.beq a b
  | _, _ => false
/-- Wrapping that has nothing to do is none. -/
def wrapB (k : IntKind) (n : Int) : Int := match k, n with
  | .i64, .ofNat m => if Nat.blt m 9223372036854775808 = true then .ofNat m else IntKind.wrap .i64 (.ofNat m)
  | .i64, .negSucc m => if Nat.blt m 9223372036854775808 = true then .negSucc m else IntKind.wrap .i64 (.negSucc m)
  | .u8, .ofNat m => if Nat.blt m 256 = true then .ofNat m else IntKind.wrap .u8 (.ofNat m)
  | k, n => k.wrap n
def bytesB : List UInt8 → List UInt8 → Bool
  | [], [] => true
  | a :: as, b :: bs => if Nat.beq a.toNat b.toNat = true then bytesB as bs else false
  | _, _ => false
def sameS (a b : ByteArray) : Bool := bytesB a.data.toList b.data.toList
/-- Two plain values. -/
def binB : BinOp → Value → Value → Option Value
  | .add, .int k a, .int k' b => if k = k' then some (.int k (wrapB k (a + b))) else none
  | .sub, .int k a, .int k' b => if k = k' then some (.int k (wrapB k (a - b))) else none
  | .mul, .int k a, .int k' b => if k = k' then some (.int k (wrapB k (a * b))) else none
  | .quo, .int k a, .int k' b => if k = k' then (if eqI b 0 = true then none else some (.int k (wrapB k (a.tdiv b)))) else none
  | .rem, .int k a, .int k' b => if k = k' then (if eqI b 0 = true then none else some (.int k (a.tmod b))) else none
  | .eql, .int k a, .int k' b => if k = k' then some (.bool (eqI a b)) else none
  | .neq, .int k a, .int k' b => if k = k' then some (.bool (not (eqI a b))) else none
  | .lss, .int k a, .int k' b => if k = k' then some (.bool (ltI a b)) else none
  | .leq, .int k a, .int k' b => if k = k' then some (.bool (not (ltI b a))) else none
  | .gtr, .int k a, .int k' b => if k = k' then some (.bool (ltI b a)) else none
  | .geq, .int k a, .int k' b => if k = k' then some (.bool (not (ltI a b))) else none
  | .add, .string a, .string b => if Nat.ble (a.size + b.size) 9223372036854775807 = true then some (.string (a ++ b)) else none
  | .eql, .string a, .string b => some (.bool (sameS a b))
  | .neq, .string a, .string b => some (.bool (not (sameS a b)))
  | _, _, _ => none
def cutG (n : Nat) (lo hi : Option AV) : Bool := match cutB n lo hi with
  | some (_, l, h) => not (ltI l 0) && not (ltI h l) && not (ltI n h)
  | none => false
def fitB (n bytes : Nat) : Bool := Nat.ble (n * bytes) maxB && Nat.ble n 4611686018427387904
/-- What an append asks. -/
def appG (h : List AObj) (bytes : Nat) (a : AV) (k : Nat) (emp : Bool) : Bool := match a with
  | .v (.slice none 0 0) => fitB k bytes
  | .row id G _ _ len => Nat.beq len G && fitB (G + k) bytes
  | .crow _ _ _ len => emp || fitB (len + k) bytes
  | _ => false
/-- What a step asks, decided. -/
def gB (Gl : Nat → Option (List AV)) (σ : St) : I → Bool
  | .mov _ | .pick .. | .beq .. | .aeq .. | .un .. | .conv .. | .fld .. | .ext .. | .faddr .. | .len _ | .nck _ | .slen _ | .b2s _ | .bslice .. | .blist .. | .bvec .. | .bsc .. | .build .. | .box .. | .boxz .. | .alloc .. | .alloca .. | .min2 .. | .max2 .. | .clo .. | .mmk .. | .mget .. | .mput .. => true
  | .nilq _ x => match σ.val Gl x with
    | .list _ xs => !xs.isEmpty
    | .row _ _ _ _ len => Nat.blt 0 len
    | _ => true
  | .iaddr _ x i => match σ.val Gl x, σ.val Gl i with
    | .list _ xs, .v (.int _ n) => inNat n xs.length
    | .row _ _ _ _ len, .v (.int _ n) => inNat n len
    | _, _ => false
  | .load sz ag x => match σ.val Gl x with
    | .lptr _ => true
    | .ptr id G i o => match σ.h[id]? with
      | some ob => (if ag then Nat.ble (o + sz) ob.sz else Nat.blt o ob.sz) && Nat.blt i G
      | none => false
    | _ => false
  | .store sz x y => match σ.val Gl x with
    | .ptr id G i o => match σ.h[id]? with
      | some ob => match stCells ob.pr (σ.val Gl y) with
        | some _ => Nat.ble (o + sz) ob.sz && Nat.blt i G && Nat.ble ob.fz i
        | none => match (freeze σ.h (rowsA (σ.val Gl y)))[id]? with
          | some oc => Nat.ble (o + sz) oc.sz && Nat.blt i G && Nat.ble oc.fz i
          | none => false
      | none => false
    | _ => false
  | .slice _ x lo hi => match σ.val Gl x with
    | .list _ xs => cutG xs.length (lo.map (σ.val Gl)) (hi.map (σ.val Gl))
    | .v _ => cutG 0 (lo.map (σ.val Gl)) (hi.map (σ.val Gl))
    | .row _ _ _ _ len => cutG len (lo.map (σ.val Gl)) (hi.map (σ.val Gl))
    | _ => false
  | .slice3 _ x hi mx => match σ.val Gl x, σ.val Gl hi, σ.val Gl mx with
    | .row _ _ _ _ len, .v (.int _ n), .v (.int _ m) => not (ltI n 0) && not (ltI len n) && eqI m n
    | _, _, _ => false
  | .sslice x lo hi => match σ.val Gl x with
    | .v (.string s) => cutG s.size (lo.map (σ.val Gl)) (hi.map (σ.val Gl))
    | _ => false
  | .idx x i => match σ.val Gl x, σ.val Gl i with
    | .v (.string s), .v (.int _ n) => inNat n s.size
    | _, _ => false
  | .aidx sz ag n x i => match σ.val Gl x, σ.val Gl i with
    | .agg cs, .v (.int _ m) => inNat m n && (ag || Nat.blt (m.toNat * sz) cs.length)
    | _, _ => false
  | .app _ sz bytes s x => match elemsOf σ.h sz (σ.val Gl x) with
    | some ys => appG σ.h bytes (σ.val Gl s) ys.length ys.isEmpty
    | none => false
  | .apps _ bytes s x => match σ.val Gl x with
    | .v (.string b) => appG σ.h bytes (σ.val Gl s) (bytesAV b).length (bytesAV b).isEmpty
    | _ => false
  | .s2b _ x => match σ.val Gl x with
    | .v (.string b) => Nat.ble b.size 4611686018427387904
    | _ => false
  | .mk _ _ bytes _ n => match σ.val Gl n with
    | .v (.int .i64 (.ofNat m)) => fitB m bytes
    | _ => false
  | .mk2 _ _ bytes _ l c => match σ.val Gl l, σ.val Gl c with
    | .v (.int .i64 (.ofNat l)), .v (.int .i64 (.ofNat c)) => Nat.ble l c && fitB c bytes
    | _, _ => false
  | .aaddr _ _ n x i => match σ.val Gl i with
    | .v (.int _ m) => inNat m n
    | _ => false
  | .aslice bsz n x lo hi => match σ.val Gl x with
    | .ptr id G j o => match σ.h[id]? with
      | some ob => cutG n (lo.map (σ.val Gl)) (hi.map (σ.val Gl)) && Nat.ble (j + n) G && Nat.ble (o + n) ob.sz && Nat.blt j G
      | none => false
    | _ => false
  | .aslf n x lo hi => match σ.val Gl x with
    | .ptr id G j o => match σ.h[id]? with
      | some ob => cutG n (lo.map (σ.val Gl)) (hi.map (σ.val Gl)) && Nat.ble (o + n) ob.sz && Nat.blt j G
      | none => false
    | _ => false
  | .copy _ d _ => match σ.val Gl d with
    | .row id _ _ off _ => match σ.h[id]? with
      | some ob => Nat.ble ob.fz off
      | none => false
    | _ => false
  | .call .. => false
  | .bin .. => false
/-- The blocks that a step turns. -/
def tI (Gl : Nat → Option (List AV)) (σ : St) : I → List Nat
  | .store _ x y => match σ.val Gl x with
    | .ptr id _ _ _ => id :: rowsA (σ.val Gl y)
    | _ => []
  | .app _ _ _ s _ => match σ.val Gl s with
    | .row id _ _ _ _ => [id]
    | _ => []
  | .apps _ _ s _ => match σ.val Gl s with
    | .row id _ _ _ _ => [id]
    | _ => []
  | .bslice _ _ xs => (xs.map (σ.val Gl)).flatMap rowsA
  | .aslf _ x _ _ => match σ.val Gl x with
    | .ptr id _ _ _ => [id]
    | _ => []
  | .copy _ d _ => match σ.val Gl d with
    | .row id _ _ _ _ => [id]
    | _ => []
  | .mput _ m _ _ => match σ.val Gl m with
    | .mp id => [id]
    | _ => []
  | _ => []
/-- A step that is no call. -/
def exS (Gl : Nat → Option (List AV)) (σ : St) (i : I) : Option (AV × List AObj) := match i with
  | .bin op x y => match σ.val Gl x, σ.val Gl y with
    | .v a, .v b => match binB op a b with
      | some r => some (.v r, σ.h)
      | none => none
    | _, _ => none
  | .conv k x => match σ.val Gl x with
    | .v (.int _ n) => some (.v (.int k (wrapB k n)), σ.h)
    | _ => none
  | i => match step Gl σ i with
    | some (_, a, h') => if gB Gl σ i = true then some (a, h') else none
    | none => none

/-- What a call answers: a value, the heap, the blocks that it turned; or it dies. -/
inductive IR where
  | val (a : AV) (h : List AObj) (ids : List Nat)
  | pan (v : Value)
/-- What code answers. -/
inductive Out where
  | nrm (e : Exit) (σ : St) (U : List Nat)
  | pan (v : Value)
def addI (N : Nat) : List Nat → List Nat → List Nat
  | [], U => U
  | i :: l, U => if (Nat.blt i N && !(U.any (Nat.beq i))) = true then addI N l (i :: U) else addI N l U
def frzB (h : List AObj) (ids : List Nat) : Bool := ids.all fun id => match h[id]? with
  | some o => Nat.beq o.fz o.es.length
  | none => true
/-- A function that is called. -/
def fnV : Value → Option Nat
  | .func (.func f) a b => match a.toList, b.toList with
    | [], [] => some f
    | _, _ => none
  | _ => none

section
variable (Gl : Nat → Option (List AV)) (cf : Nat → List AV → List AObj → Option IR) (pf : Nat → List AV → Option AV)
/-- One instruction. -/
def exI (d : Bool) (σ : St) : I → Option IR
  | .call fo args => match σ.val Gl fo with
    | .v v => match fnV v with
      | some f => if d = true then match keepAL σ.h (args.map (σ.val Gl)) with
          | some as => match pf f as with
            | some res => if (scalar res || frzB σ.h ((args.map (σ.val Gl)).flatMap rowsA)) = true then some (.val res σ.h []) else none
            | none => none
          | none => none
        else cf f (args.map (σ.val Gl)) σ.h
      | none => none
    | .clo f cs => if d = true then none else cf f (args.map (σ.val Gl) ++ cs) σ.h
    | _ => none
  | i => match exS Gl σ i with
    | some (a, h') => some (.val a h' (tI Gl σ i))
    | none => none
/-- Whether a guard holds. -/
def gdB (σ : St) (ins : Ins) : Option Bool := match ins.gd with
  | none => some true
  | some (s, want) => match σ.t.getD s .any with
    | .v (.bool b) => some (b == want)
    | .v (.tuple _) => some false
    | _ => none
def exIns (d : Bool) (σ : St) (ins : Ins) : Option IR := match gdB σ ins with
  | some true => exI Gl cf pf d σ ins.i
  | some false => some (.val und σ.h [])
  | none => none
/-- A region in the text's order. -/
def exOps (d : Bool) (N : Nat) : List Ins → St → List Nat → Option Out
  | [], σ, U => some (.nrm .normal σ U)
  | i :: r, σ, U => match exIns Gl cf pf d σ i with
    | some (.val a h' ids) => exOps d N r (St.put ⟨σ.t, h'⟩ i.dst a) (addI N ids U)
    | some (.pan v) => if (d || i.gd.isSome) = true then none else some (.pan v)
    | none => none
/-- What a region with marks reads out of order, and turns. -/
structure RW where
  rd : List Nat
  uw : List Nat
/-- What lies behind a call that may die waits for it. -/
def waits (p : Nat × Ins) (r : List (Nat × Ins)) : Bool := r.all fun q => clashR p q && !mayGo q
/-- What lies ahead of it leaves memory alone. -/
def calm (p : Nat × Ins) : Bool := !(p.2.i.isCall) && Nat.ble p.2.i.cls 1 && Nat.ble p.1 1 && !mayGo p
/-- A region with marks, the text's order. -/
def exR (M N : Nat) : Bool → List (Nat × Ins) → St → RW → List Nat → Option (Out × RW)
  | _, [], σ, q, U => some (.nrm .normal σ U, q)
  | c, (0, i) :: r, σ, q, U => match exIns Gl cf pf true σ i with
    | some (.val a h' ids) => exR M N (c && calm (0, i)) r (St.put ⟨σ.t, h'⟩ i.dst a) q (addI N ids U)
    | _ => none
  | c, (1, i) :: r, σ, q, U => match exIns Gl cf pf true σ i with
    | some (.val a h' ids) => exR M N (c && calm (1, i)) r (St.put ⟨σ.t, h'⟩ i.dst a) ⟨(match gdB σ i with | some true => i.i.ids Gl σ | _ => []) ++ q.rd, q.uw⟩ (addI N ids U)
    | _ => none
  | c, (m + 2, i) :: r, σ, q, U => match exIns Gl cf pf false σ i with
    | some (.val a h' ids) => exR M N false r (St.put ⟨σ.t, h'⟩ i.dst a) ⟨q.rd, addI M ids q.uw⟩ (addI N ids U)
    | some (.pan v) => if (c && waits (m + 2, i) r && !(i.gd.isSome)) = true then some (.pan v, q) else none
    | none => none
def rwOk (M : Nat) (q : RW) : Bool := q.rd.all fun id => Nat.blt id M && !(q.uw.any (Nat.beq id))
end

/-- Results. -/
def resB (Gl : Nat → Option (List AV)) (σ : St) : List RV → Option (List AV)
  | [] => some []
  | .t i :: r => match resB Gl σ r with
    | some l => some (σ.t.getD i .any :: l)
    | none => none
  | .c i sz ag :: r => match exS Gl σ (.load sz ag (.t i)), resB Gl σ r with
    | some (a, _), some l => some (a :: l)
    | _, _ => none
def oneB : List AV → AV
  | [a] => a
  | l => .tup l
def isEnd : Exit → Bool
  | .normal => true
  | .ret => true
  | _ => false
/-- A function's code, its results, its slots. -/
structure FnE where
  c : C
  rs : List RV
  n : Nat
def fnE (P : Program) (hl : List Nat) (f : Nat) : Option FnE := match P.funcs[f]? with
  | some fn => match fn.body with
    | some b => match cC P hl b, cRes P fn.results.toList with
      | some c, some rs => if callable P f = true then some ⟨c, rs, fn.ntmps⟩ else none
      | _, _ => none
    | none => none
  | none => none
/-- Functions made by hand: over their caller's heap, and of frozen values. -/
structure Hand where
  h : (Nat → List AV → List AObj → Option IR) → (Nat → List AV → Option AV) → Nat → Option (List AV → List AObj → Option IR)
  p : (Nat → List AV → List AObj → Option IR) → (Nat → List AV → Option AV) → Nat → Option (List AV → Option AV)
section
variable (Gl : Nat → Option (List AV)) (tab : Nat → Option FnE) (hd : Hand) (ex : Nat → C → St → List Nat → Option Out)
/-- A call over its caller's heap. -/
def cfB (f : Nat) (as : List AV) (h : List AObj) : Option IR := match tab f with
  | some e => match ex h.length e.c ⟨as ++ List.replicate (e.n - as.length) .any, h⟩ [] with
    | some (.nrm x τ U) => if isEnd x = true then match resB Gl τ e.rs with
        | some l => some (.val (oneB l) τ.h U)
        | none => none
      else none
    | some (.pan v) => some (.pan v)
    | none => none
  | none => none
/-- A call of frozen values. -/
def pfB (f : Nat) (as : List AV) : Option AV := match tab f with
  | some e => match ex 0 e.c ⟨as ++ List.replicate (e.n - as.length) .any, []⟩ [] with
    | some (.nrm x τ _) => if isEnd x = true then match resB Gl τ e.rs with
        | some l => keepT τ.h (oneB l)
        | none => none
      else none
    | _ => none
  | none => none
def pfA (f : Nat) (as : List AV) : Option AV := match hd.p (cfB Gl tab ex) (pfB Gl tab ex) f with
  | some g => g as
  | none => pfB Gl tab ex f as
def cfA (f : Nat) (as : List AV) (h : List AObj) : Option IR := match hd.h (cfB Gl tab ex) (pfB Gl tab ex) f with
  | some g => g as h
  | none => match hd.p (cfB Gl tab ex) (pfB Gl tab ex) f with
    | some g => match keepAL h as with
      | some bs => match g bs with
        | some res => some (if scalar res = true then .val res h [] else .val res (freeze h (as.flatMap rowsA)) (as.flatMap rowsA))
        | none => none
      | none => none
    | none => cfB Gl tab ex f as h
end
/-- Code, run: n steps deep at most; N: the blocks whose turning is told. -/
def exC (Gl : Nat → Option (List AV)) (tab : Nat → Option FnE) (hd : Hand) : Nat → Nat → C → St → List Nat → Option Out
  | 0, _, _, _, _ => none
  | n + 1, N, c, σ, U => match c with
    | .skip => some (.nrm .normal σ U)
    | .ops d l => exOps Gl (cfA Gl tab hd (exC Gl tab hd n)) (pfA Gl tab hd (exC Gl tab hd n)) d N l σ U
    | .rops l => match exR Gl (cfA Gl tab hd (exC Gl tab hd n)) (pfA Gl tab hd (exC Gl tab hd n)) σ.h.length N true l σ ⟨[], []⟩ U with
      | some (o, q) => if rwOk σ.h.length q = true then some o else none
      | none => none
    | .seq a b => match exC Gl tab hd n N a σ U with
      | some (.nrm .normal τ V) => exC Gl tab hd n N b τ V
      | o => o
    | .cond o a b => match σ.val Gl o with
      | .v (.bool true) => exC Gl tab hd n N a σ U
      | .v (.bool false) => exC Gl tab hd n N b σ U
      | _ => none
    | .block id b => match exC Gl tab hd n N b σ U with
      | some (.nrm (.exit i) τ V) => if Nat.beq i id = true then some (.nrm .normal τ V) else some (.nrm (.exit i) τ V)
      | o => o
    | .loop b => match exC Gl tab hd n N b σ U with
      | some (.nrm .normal τ V) => exC Gl tab hd n N (.loop b) τ V
      | o => o
    | .exit id => some (.nrm (.exit id) σ U)
    | .ret => some (.nrm .ret σ U)
end Abs
end Go.Proofs.YtnhgeocdffhkjaaDoor
