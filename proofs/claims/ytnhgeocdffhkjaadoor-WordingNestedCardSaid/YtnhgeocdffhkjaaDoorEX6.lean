/- The abstract machine, run fast: code. -/
import Derived.Test.YtnhgeocdffhkjaaDoorEX5
namespace Go.Proofs.YtnhgeocdffhkjaaDoor
namespace Abs
open Go.RowKit
set_option linter.unusedVariables false
set_option linter.unusedSimpArgs false
noncomputable section
inductive FO where
  | no
  | nrm (e : Exit) (T : TT) (h : List AObj) (U : List Nat)
  | pan (v : Value)
def FO.out (n : Nat) : FO → Option Out
  | .no => none
  | .nrm e T h U => some (.nrm e ⟨slots n T, h⟩ U)
  | .pan v => some (.pan v)
/-- Functions made by hand. -/
structure HandF where
  h : Nat → Option (List AV → List AObj → FR)
  p : Nat → Option (List AV → Option AV)
def HandF.hand (hd : HandF) : Hand := ⟨fun _ _ f => match hd.h f with | some g => some fun as h => (g as h).ir | none => none, fun _ _ f => hd.p f⟩
abbrev CF := Nat → List AV → List AObj → FR
abbrev PF := Nat → List AV → Option AV
/-- An operand's value. -/
def vT (n : Nat) (Gl : Nat → Option (List AV)) (T : TT) : Opd → AV
  | .t i => cond (Nat.blt i n) (getP (way i) T) .any
  | .k x => .v x
  | .g i => match Gl i with
    | some cs => .lptr cs
    | none => .any
theorem vT_ok (n : Nat) (Gl : Nat → Option (List AV)) (T : TT) : VOk Gl (vT n Gl T) (slots n T) := by
  intro h x
  cases x with
  | t i =>
    show cond (Nat.blt i n) (getP (way i) T) .any = (slots n T).getD i .any
    rw [slots_get]
    by_cases hi : i < n
    · rw [if_pos hi, show Nat.blt i n = true from Nat.ble_eq_true_of_le hi]; rfl
    · rw [if_neg hi, show Nat.blt i n = false from Bool.eq_false_iff.2 fun q => hi (blt_lt q)]; rfl
  | k x => rfl
  | g i => rfl
def callD (pf : PF) (f : Nat) (h : List AObj) (as : List AV) : FR := match keepAL h as with
  | some bs => match pf f bs with
    | some res => cond (scalar res || frzB h (as.flatMap rowsA)) (.val res h []) .no
    | none => .no
  | none => .no
def kCall (fo : Opd) (args : List Opd) (cf : CF) (pf : PF) (d : Bool) (f : Opd → AV) (h : List AObj) : FR := match f fo with
  | .v v => match fnV v with
    | some g => Bool.rec (cf g (args.map f) h) (callD pf g h (args.map f)) d
    | none => .no
  | .clo g cs => Bool.rec (cf g (args.map f ++ cs) h) .no d
  | _ => .no
/-- An instruction, made ready. -/
inductive BI where
  | s (g : (Opd → AV) → List AObj → FR → FR)
  | c (g : CF → PF → Bool → (Opd → AV) → List AObj → FR)
def toBI : I → BI
  | .call fo args => .c (kCall fo args)
  | .mov x => .s fun f h _ => sMov f h x
  | .pick c a b => .s fun f h _ => sPick f h c a b
  | .bin op x y => .s (sBin op x y)
  | .load z g x => .s fun f h _ => sLoad f h z g x
  | .store z x y => .s fun f h sl => sStore f h sl z x y
  | .fld o s g x => .s fun f h _ => sFld f h o s g x
  | .faddr o x => .s fun f h _ => sFaddr f h o x
  | .idx x i => .s fun f h _ => sIdx f h x i
  | i => .s (fS i)
def runB (b : BI) (cf : CF) (pf : PF) (d : Bool) (f : Opd → AV) (h : List AObj) (sl : FR) : FR := match b with
  | .s g => g f h sl
  | .c g => g cf pf d f h
inductive Box where
  | p (d : Nat) (i : BI) (o : Ins)
  | q (i : BI) (o : Ins)
  | g (d : Nat) (s : Nat) (w : Bool) (i : BI) (o : Ins)
  | u (s : Nat) (w : Bool) (i : BI) (o : Ins)
def toBox (o : Ins) : Box := match o.gd with
  | none => match o.dst with
    | some d => .p d (toBI o.i) o
    | none => .q (toBI o.i) o
  | some (s, w) => match o.dst with
    | some d => .g d s w (toBI o.i) o
    | none => .u s w (toBI o.i) o
def Box.ins : Box → Ins
  | .p _ _ o => o
  | .q _ o => o
  | .g _ _ _ _ o => o
  | .u _ _ _ o => o
def gdF (a : AV) (w : Bool) (h : List AObj) (x : FR) : FR := match a with
  | .v v => match v with
    | .bool b => Bool.rec (Bool.rec x (.val und h []) b) (Bool.rec (.val und h []) x b) w
    | .tuple _ => .val und h []
    | _ => .no
  | _ => .no
/-- A box, run. -/
def fBox (b : Box) (cf : CF) (pf : PF) (d : Bool) (n : Nat) (Gl : Nat → Option (List AV)) (T : TT) (h : List AObj) : FR := match b with
  | .p _ i o => runB i cf pf d (vT n Gl T) h (slow Gl (slots n T) h o.i)
  | .q i o => runB i cf pf d (vT n Gl T) h (slow Gl (slots n T) h o.i)
  | .g _ s w i o => gdF (cond (Nat.blt s n) (getP (way s) T) .any) w h (runB i cf pf d (vT n Gl T) h (slow Gl (slots n T) h o.i))
  | .u s w i o => gdF (cond (Nat.blt s n) (getP (way s) T) .any) w h (runB i cf pf d (vT n Gl T) h (slow Gl (slots n T) h o.i))
def putB (b : Box) (n : Nat) (T : TT) (a : AV) : TT := match b with
  | .p d _ _ => cond (Nat.blt d n) (setP a (way d) T) T
  | .q _ _ => T
  | .g d _ _ _ _ => cond (Nat.blt d n) (setP a (way d) T) T
  | .u _ _ _ _ => T
def addF (N : Nat) (ids : List Nat) : List Nat → List Nat := List.rec (fun U => U) (fun i _ ih U => cond (Nat.blt i N && !(U.any (Nat.beq i))) (ih (i :: U)) (ih U)) ids
theorem addF_eq (N : Nat) : ∀ (ids U : List Nat), addF N ids U = addI N ids U
  | [], U => rfl
  | i :: ids, U => by
    show cond (Nat.blt i N && !(U.any (Nat.beq i))) (addF N ids (i :: U)) (addF N ids U) = _
    rw [addF_eq N ids (i :: U), addF_eq N ids U]
    simp only [addI]
    cases (Nat.blt i N && !(U.any (Nat.beq i))) <;> rfl
/-- None told: none added. -/
def addQ (N : Nat) (ids U : List Nat) (K : List Nat → FO) : FO := match ids with
  | [] => K U
  | i :: l => K (addF N (i :: l) U)
def addR (N : Nat) (ids U : List Nat) {α : Type} (K : List Nat → α) : α := match ids with
  | [] => K U
  | i :: l => K (addF N (i :: l) U)
theorem addR_eq {α : Type} (N : Nat) (ids U : List Nat) (K : List Nat → α) : addR N ids U K = K (addI N ids U) := by
  cases ids with
  | nil => rfl
  | cons i l => show K (addF N (i :: l) U) = _; rw [addF_eq]
section
variable (cf : CF) (pf : PF) (Gl : Nat → Option (List AV)) (n : Nat)
def opsK (d : Bool) (N : Nat) (b : Box) (ih : TT → List AObj → List Nat → FO) (T : TT) (h : List AObj) (U : List Nat) : FO := match fBox b cf pf d n Gl T h with
  | .val a h' ids => addR N ids U (ih (putB b n T a) h')
  | .pan v => cond (d || b.ins.gd.isSome) .no (.pan v)
  | .no => .no
def fOps (d : Bool) (N : Nat) (l : List Box) : TT → List AObj → List Nat → FO :=
  List.rec (fun T h U => .nrm .normal T h U) (fun b _ ih => opsK cf pf Gl n d N b ih) l
end
inductive FQ where
  | mk (o : FO) (q : RW)
abbrev RK := Bool → TT → List AObj → RW → List Nat → FQ
section
variable (cf : CF) (pf : PF) (Gl : Nat → Option (List AV)) (n : Nat)
def ropK0 (N : Nat) (p : Nat × Ins) (b : Box) (ih : RK) (c : Bool) (T : TT) (h : List AObj) (q : RW) (U : List Nat) : FQ := match fBox b cf pf true n Gl T h with
  | .val a h' ids => addR N ids U (ih (c && calm p) (putB b n T a) h' q)
  | _ => .mk .no q
def ropK1 (N : Nat) (p : Nat × Ins) (b : Box) (ih : RK) (c : Bool) (T : TT) (h : List AObj) (q : RW) (U : List Nat) : FQ := match fBox b cf pf true n Gl T h with
  | .val a h' ids => addR N ids U (ih (c && calm p) (putB b n T a) h' ⟨(match gdB ⟨slots n T, h⟩ p.2 with | some true => p.2.i.ids Gl ⟨slots n T, h⟩ | _ => []) ++ q.rd, q.uw⟩)
  | _ => .mk .no q
def ropK2 (M N : Nat) (p : Nat × Ins) (b : Box) (r : List (Nat × Ins)) (ih : RK) (c : Bool) (T : TT) (h : List AObj) (q : RW) (U : List Nat) : FQ := match fBox b cf pf false n Gl T h with
  | .val a h' ids => addR N ids U (ih false (putB b n T a) h' ⟨q.rd, addF M ids q.uw⟩)
  | .pan v => cond (c && waits p r && !(p.2.gd.isSome)) (.mk (.pan v) q) (.mk .no q)
  | .no => .mk .no q
def ropK (M N : Nat) (p : Nat × Ins) (b : Box) (r : List (Nat × Ins)) (ih : RK) : RK := Nat.rec (ropK0 cf pf Gl n N p b ih) (fun m _ => Nat.rec (ropK1 cf pf Gl n N p b ih) (fun _ _ => ropK2 cf pf Gl n M N p b r ih) m) p.1
def fR (M N : Nat) (l : List (Nat × Ins)) : RK :=
  List.rec (fun _ T h q U => .mk (.nrm .normal T h U) q) (fun p r ih => ropK cf pf Gl n M N p (toBox p.2) r ih) l
end
def runR (M : Nat) (x : FQ) : FO := match x with
  | .mk o q => cond (rwOk M q) o .no

/-- Results. -/
def loadR (n : Nat) (T : TT) (h : List AObj) (i sz : Nat) (ag : Bool) (K : AV → Option (List AV)) : Option (List AV) := match sLoad (fun _ => cond (Nat.blt i n) (getP (way i) T) .any) h sz ag (.t i) with
  | .val a _ _ => K a
  | _ => none
def resT (n : Nat) (T : TT) (h : List AObj) : List RV → Option (List AV)
  | [] => some []
  | .t i :: r => match resT n T h r with
    | some l => some (cond (Nat.blt i n) (getP (way i) T) .any :: l)
    | none => none
  | .c i sz ag :: r => loadR n T h i sz ag fun a => match resT n T h r with
    | some l => some (a :: l)
    | none => none
def fBack (rs : List RV) (n : Nat) (T : TT) (h : List AObj) (K : List AV → FR) : FR := match resT n T h rs with
  | some l => K l
  | none => .no
def endF (rs : List RV) (n : Nat) (o : FO) : FR := match o with
  | .nrm e T h U => cond (isEnd e) (fBack rs n T h fun l => .val (oneB l) h U) .no
  | .pan v => .pan v
  | .no => .no
def endP (rs : List RV) (n : Nat) (o : FO) : Option AV := match o with
  | .nrm e T h _ => cond (isEnd e) (match resT n T h rs with
    | some l => keepT h (oneB l)
    | none => none) none
  | _ => none
/-- Arguments in their slots. -/
def argT (as : List AV) : Nat → TT → TT := List.rec (fun _ T => T) (fun a _ ih i T => ih (i + 1) (setP a (way i) T)) as
abbrev EX := Nat → Nat → C → TT → List AObj → List Nat → FO
def cfF0 (tab : Nat → Option FnE) (ex : EX) (f : Nat) (as : List AV) (h : List AObj) : FR := match tab f with
  | some e => cond (Nat.ble (lenL as) e.n && Nat.ble e.n 65535) (endF e.rs e.n (ex (lenL h) e.n e.c (argT as 0 .e) h [])) .no
  | none => .no
def pfF0 (tab : Nat → Option FnE) (ex : EX) (f : Nat) (as : List AV) : Option AV := match tab f with
  | some e => cond (Nat.ble (lenL as) e.n && Nat.ble e.n 65535) (endP e.rs e.n (ex 0 e.n e.c (argT as 0 .e) [] [])) none
  | none => none
def pfF (tab : Nat → Option FnE) (hd : HandF) (ex : EX) (f : Nat) (as : List AV) : Option AV := match hd.p f with
  | some g => g as
  | none => pfF0 tab ex f as
def handP (g : List AV → Option AV) (as : List AV) (h : List AObj) : FR := match keepAL h as with
  | some bs => match g bs with
    | some res => cond (scalar res) (.val res h []) (.val res (freeze h (as.flatMap rowsA)) (as.flatMap rowsA))
    | none => .no
  | none => .no
def cfF (tab : Nat → Option FnE) (hd : HandF) (ex : EX) (f : Nat) (as : List AV) (h : List AObj) : FR := match hd.h f with
  | some g => g as h
  | none => match hd.p f with
    | some g => handP g as h
    | none => cfF0 tab ex f as h
def seqK (o : FO) (K : TT → List AObj → List Nat → FO) : FO := match o with
  | .nrm e T h U => match e with
    | .normal => K T h U
    | e => .nrm e T h U
  | .pan v => .pan v
  | .no => .no
def blkK (id : Nat) (o : FO) : FO := match o with
  | .nrm e T h U => match e with
    | .exit i => cond (Nat.beq i id) (.nrm .normal T h U) (.nrm (.exit i) T h U)
    | e => .nrm e T h U
  | .pan v => .pan v
  | .no => .no
def cndK (v : AV) (a b : FO) : FO := match v with
  | .v v => match v with
    | .bool q => Bool.rec b a q
    | _ => .no
  | _ => .no
section
variable (Gl : Nat → Option (List AV)) (tab : Nat → Option FnE) (hd : HandF)
def cOps (d : Bool) (l : List Ins) (ih : EX) (N n : Nat) (T : TT) (h : List AObj) (U : List Nat) : FO := fOps (cfF tab hd ih) (pfF tab hd ih) Gl n d N (l.map toBox) T h U
def cRops (l : List (Nat × Ins)) (ih : EX) (N n : Nat) (T : TT) (h : List AObj) (U : List Nat) : FO := runR (lenL h) (fR (cfF tab hd ih) (pfF tab hd ih) Gl n (lenL h) N l true T h ⟨[], []⟩ U)
def cSeq (a b : C) (ih : EX) (N n : Nat) (T : TT) (h : List AObj) (U : List Nat) : FO := seqK (ih N n a T h U) (ih N n b)
def cCond (x : Opd) (a b : C) (ih : EX) (N n : Nat) (T : TT) (h : List AObj) (U : List Nat) : FO := cndK (vT n Gl T x) (ih N n a T h U) (ih N n b T h U)
def cBlk (id : Nat) (b : C) (ih : EX) (N n : Nat) (T : TT) (h : List AObj) (U : List Nat) : FO := blkK id (ih N n b T h U)
def cLoop (b : C) (ih : EX) (N n : Nat) (T : TT) (h : List AObj) (U : List Nat) : FO := seqK (ih N n b T h U) (ih N n (.loop b))
def fC1 : C → EX → Nat → Nat → TT → List AObj → List Nat → FO
  | .skip => fun _ _ _ T h U => .nrm .normal T h U
  | .ops d l => cOps Gl tab hd d l
  | .rops l => cRops Gl tab hd l
  | .seq a b => cSeq a b
  | .cond x a b => cCond Gl x a b
  | .block id b => cBlk id b
  | .loop b => cLoop b
  | .exit id => fun _ _ _ T h U => .nrm (.exit id) T h U
  | .ret => fun _ _ _ T h U => .nrm .ret T h U
def fC (k : Nat) : EX := Nat.rec (fun _ _ _ _ _ _ => .no) (fun _ ih N n c T h U => fC1 Gl tab hd c ih N n T h U) k
end

section
variable {Gl : Nat → Option (List AV)} {tab : Nat → Option FnE} {hd : HandF}
theorem slow_ir (t : List AV) (h : List AObj) (i : I) : (slow Gl t h i).ir = match exS Gl ⟨t, h⟩ i with
    | some (a, h') => some (IR.val a h' (tI Gl ⟨t, h⟩ i))
    | none => none := by
  unfold slow
  cases exS Gl ⟨t, h⟩ i with
  | none => rfl
  | some q => rfl
def CfE (cf : CF) (cs : Nat → List AV → List AObj → Option IR) : Prop := ∀ f as h r, (cf f as h).ir = some r → cs f as h = some r
def PfE (pf : PF) (ps : Nat → List AV → Option AV) : Prop := ∀ f as r, pf f as = some r → ps f as = some r
theorem runB_eq {cf : CF} {cs : Nat → List AV → List AObj → Option IR} (hc : CfE cf cs) {pf : PF} {ps : Nat → List AV → Option AV} (hp : PfE pf ps) (d : Bool) (n : Nat) (T : TT) (h : List AObj) (i : I) {r : IR} (hr : (runB (toBI i) cf pf d (vT n Gl T) h (slow Gl (slots n T) h i)).ir = some r) : exI Gl cs ps d ⟨slots n T, h⟩ i = some r := by
  have hf := vT_ok n Gl T
  by_cases hn : i.isCall = false
  · have e1 : runB (toBI i) cf pf d (vT n Gl T) h (slow Gl (slots n T) h i) = fS i (vT n Gl T) h (slow Gl (slots n T) h i) := by cases i <;> first | rfl | cases hn
    have e2 : exI Gl cs ps d ⟨slots n T, h⟩ i = match exS Gl ⟨slots n T, h⟩ i with | some (a, h') => some (IR.val a h' (tI Gl ⟨slots n T, h⟩ i)) | none => none := by cases i <;> first | rfl | cases hn
    rw [e1, fS_eq hf, slow_ir] at hr
    rw [e2]; exact hr
  · obtain ⟨fo, args, rfl⟩ : ∃ fo args, i = .call fo args := by
      cases i with
      | call fo args => exact ⟨_, _, rfl⟩
      | _ => exact absurd rfl hn
    have hr : (kCall fo args cf pf d (vT n Gl T) h).ir = some r := hr
    unfold kCall at hr
    simp only [exI]
    have hm : args.map (vT n Gl T) = args.map (St.val Gl ⟨slots n T, h⟩) := List.map_congr_left fun x _ => hf h x
    rw [hf h fo, hm] at hr
    generalize St.val Gl ⟨slots n T, h⟩ fo = a at hr ⊢
    cases a with
    | v v =>
      simp only at hr ⊢
      cases hfn : fnV v with
      | none => rw [hfn] at hr; cases hr
      | some g =>
        rw [hfn] at hr
        cases d with
        | false => exact hc _ _ _ _ hr
        | true =>
          simp only [callD, if_true] at hr ⊢
          cases hk : keepAL h (args.map (St.val Gl ⟨slots n T, h⟩)) with
          | none => rw [hk] at hr; cases hr
          | some bs =>
            rw [hk] at hr
            simp only at hr ⊢
            cases hq : pf g bs with
            | none => rw [hq] at hr; cases hr
            | some res =>
              rw [hq] at hr
              rw [hp _ _ _ hq]
              simp only at hr ⊢
              cases hz : (scalar res || frzB h ((args.map (St.val Gl ⟨slots n T, h⟩)).flatMap rowsA)) with
              | true => rw [hz] at hr; exact hr
              | false => rw [hz] at hr; cases hr
    | clo g cs' =>
      cases d with
      | false => exact hc _ _ _ _ hr
      | true => cases hr
    | _ => cases hr
theorem fBox_eq {cf : CF} {cs : Nat → List AV → List AObj → Option IR} (hc : CfE cf cs) {pf : PF} {ps : Nat → List AV → Option AV} (hp : PfE pf ps) (d : Bool) (n : Nat) (T : TT) (h : List AObj) (o : Ins) {r : IR} (hr : (fBox (toBox o) cf pf d n Gl T h).ir = some r) : exIns Gl cs ps d ⟨slots n T, h⟩ o = some r := by
  obtain ⟨dst, gd, i⟩ := o
  have gds : ∀ (s : Nat) (w : Bool), (gdF (cond (Nat.blt s n) (getP (way s) T) .any) w h (runB (toBI i) cf pf d (vT n Gl T) h (slow Gl (slots n T) h i))).ir = some r → exIns Gl cs ps d ⟨slots n T, h⟩ ⟨dst, some (s, w), i⟩ = some r := fun s w hr => by
    have e : cond (Nat.blt s n) (getP (way s) T) .any = (slots n T).getD s .any := by
      rw [slots_get]
      by_cases hi : s < n
      · rw [if_pos hi, show Nat.blt s n = true from Nat.ble_eq_true_of_le hi]; rfl
      · rw [if_neg hi, show Nat.blt s n = false from Bool.eq_false_iff.2 fun q => hi (blt_lt q)]; rfl
    rw [e] at hr
    unfold exIns gdB
    simp only
    generalize (slots n T).getD s .any = a at hr ⊢
    cases a with
    | v v =>
      cases v with
      | bool b =>
        cases w <;> cases b
        · exact runB_eq hc hp d n T h i hr
        · exact hr
        · exact hr
        · exact runB_eq hc hp d n T h i hr
      | tuple xs => exact hr
      | _ => cases hr
    | _ => cases hr
  cases gd with
  | none => cases dst <;> exact runB_eq hc hp d n T h i hr
  | some q => obtain ⟨s, w⟩ := q; cases dst <;> exact gds s w hr
theorem putB_eq {n : Nat} (hn : n ≤ 65535) (o : Ins) (T : TT) (h : List AObj) (a : AV) : St.put ⟨slots n T, h⟩ o.dst a = ⟨slots n (putB (toBox o) n T a), h⟩ := by
  obtain ⟨dst, gd, i⟩ := o
  have key : ∀ d, (⟨(slots n T).set d a, h⟩ : St) = ⟨slots n (cond (Nat.blt d n) (setP a (way d) T) T), h⟩ := fun d => by
    by_cases hd : d < n
    · rw [show Nat.blt d n = true from Nat.ble_eq_true_of_le hd]
      show _ = (⟨slots n (setP a (way d) T), h⟩ : St)
      rw [slots_set hn hd]
    · rw [show Nat.blt d n = false from Bool.eq_false_iff.2 fun q => hd (blt_lt q)]
      show _ = (⟨slots n T, h⟩ : St)
      rw [List.set_eq_of_length_le (by simp [slots]; omega)]
  cases gd with
  | none => cases dst with
    | none => rfl
    | some d => exact key d
  | some q => obtain ⟨s, w⟩ := q; cases dst with
    | none => rfl
    | some d => exact key d
theorem box_ins (o : Ins) : (toBox o).ins = o := by
  obtain ⟨dst, gd, i⟩ := o
  cases gd with
  | none => cases dst <;> rfl
  | some q => obtain ⟨s, w⟩ := q; cases dst <;> rfl
theorem fOps_eq {cf : CF} {cs : Nat → List AV → List AObj → Option IR} (hc : CfE cf cs) {pf : PF} {ps : Nat → List AV → Option AV} (hp : PfE pf ps) {n : Nat} (hn : n ≤ 65535) (d : Bool) (N : Nat) : ∀ (l : List Ins) (T : TT) (h : List AObj) (U : List Nat) (r : Out), (fOps cf pf Gl n d N (l.map toBox) T h U).out n = some r → exOps Gl cs ps d N l ⟨slots n T, h⟩ U = some r
  | [], T, h, U, r, hr => hr
  | i :: l, T, h, U, r, hr => by
    have hr : (opsK cf pf Gl n d N (toBox i) (fOps cf pf Gl n d N (l.map toBox)) T h U).out n = some r := hr
    simp only [exOps]
    unfold opsK at hr
    cases hb : fBox (toBox i) cf pf d n Gl T h with
    | no => rw [hb] at hr; cases hr
    | val a h' ids =>
      rw [hb] at hr
      simp only at hr
      rw [addR_eq] at hr
      rw [fBox_eq hc hp d n T h i (r := .val a h' ids) (by rw [hb]; rfl)]
      simp only
      rw [putB_eq hn]
      exact fOps_eq hc hp hn d N l _ _ _ r hr
    | pan v =>
      rw [hb] at hr
      simp only [box_ins] at hr
      rw [fBox_eq hc hp d n T h i (r := .pan v) (by rw [hb]; rfl)]
      simp only
      cases hq : (d || i.gd.isSome) with
      | true => rw [hq] at hr; cases hr
      | false => rw [hq] at hr; simp only [Bool.false_eq_true, if_false]; exact hr
def FQ.out (n : Nat) : FQ → Option (Out × RW)
  | .mk o q => match o.out n with
    | some x => some (x, q)
    | none => none
theorem fR_eq {cf : CF} {cs : Nat → List AV → List AObj → Option IR} (hc : CfE cf cs) {pf : PF} {ps : Nat → List AV → Option AV} (hp : PfE pf ps) {n : Nat} (hn : n ≤ 65535) (M N : Nat) : ∀ (l : List (Nat × Ins)) (c : Bool) (T : TT) (h : List AObj) (q : RW) (U : List Nat) (r : Out × RW), (fR cf pf Gl n M N l c T h q U).out n = some r → exR Gl cs ps M N c l ⟨slots n T, h⟩ q U = some r
  | [], c, T, h, q, U, r, hr => hr
  | (0, i) :: l, c, T, h, q, U, r, hr => by
    have hr : (ropK0 cf pf Gl n N (0, i) (toBox i) (fR cf pf Gl n M N l) c T h q U).out n = some r := hr
    simp only [exR]
    unfold ropK0 at hr
    cases hb : fBox (toBox i) cf pf true n Gl T h with
    | val a h' ids =>
      rw [hb] at hr
      simp only at hr
      rw [addR_eq] at hr
      rw [fBox_eq hc hp true n T h i (r := .val a h' ids) (by rw [hb]; rfl)]
      simp only
      rw [putB_eq hn]
      exact fR_eq hc hp hn M N l _ _ _ _ _ r hr
    | _ => rw [hb] at hr; cases hr
  | (1, i) :: l, c, T, h, q, U, r, hr => by
    have hr : (ropK1 cf pf Gl n N (1, i) (toBox i) (fR cf pf Gl n M N l) c T h q U).out n = some r := hr
    simp only [exR]
    unfold ropK1 at hr
    cases hb : fBox (toBox i) cf pf true n Gl T h with
    | val a h' ids =>
      rw [hb] at hr
      simp only at hr
      rw [addR_eq] at hr
      rw [fBox_eq hc hp true n T h i (r := .val a h' ids) (by rw [hb]; rfl)]
      simp only
      rw [putB_eq hn]
      exact fR_eq hc hp hn M N l _ _ _ _ _ r hr
    | _ => rw [hb] at hr; cases hr
  | (m + 2, i) :: l, c, T, h, q, U, r, hr => by
    have hr : (ropK2 cf pf Gl n M N (m + 2, i) (toBox i) l (fR cf pf Gl n M N l) c T h q U).out n = some r := hr
    simp only [exR]
    unfold ropK2 at hr
    cases hb : fBox (toBox i) cf pf false n Gl T h with
    | val a h' ids =>
      rw [hb] at hr
      simp only at hr
      rw [addR_eq, addF_eq] at hr
      rw [fBox_eq hc hp false n T h i (r := .val a h' ids) (by rw [hb]; rfl)]
      simp only
      rw [putB_eq hn]
      exact fR_eq hc hp hn M N l _ _ _ _ _ r hr
    | pan v =>
      rw [hb] at hr
      simp only at hr
      rw [fBox_eq hc hp false n T h i (r := .pan v) (by rw [hb]; rfl)]
      simp only
      cases hq : (c && waits (m + 2, i) l && !(i.gd.isSome)) with
      | true => rw [hq] at hr; simp only [if_true]; exact hr
      | false => rw [hq] at hr; cases hr
    | no => rw [hb] at hr; cases hr
theorem resT_eq {n : Nat} {T : TT} {h : List AObj} : ∀ (rs : List RV) (l : List AV), resT n T h rs = some l → resB Gl ⟨slots n T, h⟩ rs = some l
  | [], l, hr => hr
  | .t i :: rs, l, hr => by
    simp only [resT] at hr
    simp only [resB]
    cases hq : resT n T h rs with
    | none => rw [hq] at hr; cases hr
    | some l' =>
      rw [hq] at hr
      cases hr
      rw [resT_eq rs l' hq]
      exact congrArg (fun x => some (x :: l')) (vT_ok n Gl T h (.t i)).symm
  | .c i sz ag :: rs, l, hr => by
    simp only [resT, loadR] at hr
    simp only [resB]
    have e : sLoad (fun _ => cond (Nat.blt i n) (getP (way i) T) .any) h sz ag (.t i) = sLoad (vT n Gl T) h sz ag (.t i) := rfl
    rw [e, sLoad_eq (vT_ok n Gl T)] at hr
    unfold slow at hr
    cases hs : exS Gl ⟨slots n T, h⟩ (.load sz ag (.t i)) with
    | none => rw [hs] at hr; cases hr
    | some q =>
      obtain ⟨a, h'⟩ := q
      rw [hs] at hr
      simp only at hr ⊢
      cases hq : resT n T h rs with
      | none => rw [hq] at hr; cases hr
      | some l' => rw [hq] at hr; cases hr; rw [resT_eq rs l' hq]
def ExE (ex : EX) (es : Nat → C → St → List Nat → Option Out) : Prop := ∀ N n c T h U r, n ≤ 65535 → (ex N n c T h U).out n = some r → es N c ⟨slots n T, h⟩ U = some r
theorem argT_eq {n : Nat} (hn : n ≤ 65535) : ∀ (as : List AV) (i : Nat) (T : TT), i + as.length ≤ n → slots n (argT as i T) = (slots n T).take i ++ as ++ (slots n T).drop (i + as.length)
  | [], i, T, _ => by
    show slots n T = _
    simp [List.take_append_drop]
  | a :: as, i, T, hl => by
    show slots n (argT as (i + 1) (setP a (way i) T)) = _
    simp only [List.length_cons] at hl
    have hlen : (slots n T).length = n := by simp [slots]
    rw [argT_eq hn as (i + 1) _ (by omega), slots_set hn (by omega)]
    have e : (slots n T).set i a = ((slots n T).take i ++ [a]) ++ (slots n T).drop (i + 1) := by
      rw [List.set_eq_take_append_cons_drop, if_pos (by omega)]
      simp
    have h1 : ((slots n T).take i ++ [a]).length = i + 1 := by simp; omega
    rw [e, List.take_left' h1, ← List.drop_drop, List.drop_left' h1, List.drop_drop, show i + 1 + as.length = i + (as.length + 1) by omega]
    simp
theorem slots_e (n : Nat) : slots n .e = List.replicate n .any := by
  apply List.ext_getElem?
  intro j
  unfold slots
  rw [List.getElem?_map, List.getElem?_replicate]
  split
  · rename_i h; rw [List.getElem?_range h]; simp [getP_e]
  · rename_i h; rw [List.getElem?_eq_none (by simpa using h)]; rfl
theorem arg_eq {n : Nat} {as : List AV} (hl : as.length ≤ n) (hn : n ≤ 65535) : slots n (argT as 0 .e) = as ++ List.replicate (n - as.length) .any := by
  rw [argT_eq hn as 0 .e (by omega), slots_e]
  simp
theorem cfF0_eq {ex : EX} {es : Nat → C → St → List Nat → Option Out} (he : ExE ex es) : CfE (cfF0 tab ex) (cfB Gl tab es) := by
  intro f as h r hr
  unfold cfF0 at hr
  simp only [lenL_eq] at hr
  unfold cfB
  cases ht : tab f with
  | none => rw [ht] at hr; cases hr
  | some e =>
    rw [ht] at hr
    simp only at hr ⊢
    cases hc : (Nat.ble as.length e.n && Nat.ble e.n 65535) with
    | false => rw [hc] at hr; cases hr
    | true =>
      rw [hc] at hr
      rw [Bool.and_eq_true] at hc
      have h1 := Nat.le_of_ble_eq_true hc.1
      have h2 := Nat.le_of_ble_eq_true hc.2
      simp only [cond, endF] at hr
      rw [← arg_eq h1 h2]
      cases hx : ex h.length e.n e.c (argT as 0 .e) h [] with
      | no => rw [hx] at hr; cases hr
      | pan v =>
        rw [hx] at hr
        rw [he h.length e.n e.c _ h [] (.pan v) h2 (by rw [hx]; rfl)]
        exact hr
      | nrm x T' h' U =>
        rw [hx] at hr
        rw [he h.length e.n e.c _ h [] (.nrm x ⟨slots e.n T', h'⟩ U) h2 (by rw [hx]; rfl)]
        simp only at hr ⊢
        cases hq : isEnd x with
        | false => rw [hq] at hr; cases hr
        | true =>
          rw [hq] at hr
          simp only [fBack] at hr
          simp only [if_true]
          cases hf : resT e.n T' h' e.rs with
          | none => rw [hf] at hr; cases hr
          | some l => rw [hf] at hr; rw [resT_eq _ _ hf]; exact hr
theorem pfF0_eq {ex : EX} {es : Nat → C → St → List Nat → Option Out} (he : ExE ex es) : PfE (pfF0 tab ex) (pfB Gl tab es) := by
  intro f as r hr
  unfold pfF0 at hr
  simp only [lenL_eq] at hr
  unfold pfB
  cases ht : tab f with
  | none => rw [ht] at hr; cases hr
  | some e =>
    rw [ht] at hr
    simp only at hr ⊢
    cases hc : (Nat.ble as.length e.n && Nat.ble e.n 65535) with
    | false => rw [hc] at hr; cases hr
    | true =>
      rw [hc] at hr
      rw [Bool.and_eq_true] at hc
      have h1 := Nat.le_of_ble_eq_true hc.1
      have h2 := Nat.le_of_ble_eq_true hc.2
      simp only [cond, endP] at hr
      rw [← arg_eq h1 h2]
      cases hx : ex 0 e.n e.c (argT as 0 .e) [] [] with
      | no => rw [hx] at hr; cases hr
      | pan v => rw [hx] at hr; cases hr
      | nrm x T' h' U =>
        rw [hx] at hr
        rw [he 0 e.n e.c _ [] [] (.nrm x ⟨slots e.n T', h'⟩ U) h2 (by rw [hx]; rfl)]
        simp only at hr ⊢
        cases hq : isEnd x with
        | false => rw [hq] at hr; cases hr
        | true =>
          rw [hq] at hr
          simp only at hr
          simp only [if_true]
          cases hf : resT e.n T' h' e.rs with
          | none => rw [hf] at hr; cases hr
          | some l => rw [hf] at hr; rw [resT_eq _ _ hf]; exact hr
theorem pfF_eq {ex : EX} {es : Nat → C → St → List Nat → Option Out} (he : ExE ex es) : PfE (pfF tab hd ex) (pfA Gl tab hd.hand es) := by
  intro f as r hr
  unfold pfF at hr
  unfold pfA
  show (match hd.p f with | some g => g as | none => _) = some r
  cases hh : hd.p f with
  | none => rw [hh] at hr; exact pfF0_eq he f as r hr
  | some g => rw [hh] at hr; exact hr
theorem cfF_eq {ex : EX} {es : Nat → C → St → List Nat → Option Out} (he : ExE ex es) : CfE (cfF tab hd ex) (cfA Gl tab hd.hand es) := by
  intro f as h r hr
  unfold cfF at hr
  unfold cfA
  simp only [HandF.hand]
  cases hh : hd.h f with
  | some g => rw [hh] at hr; exact hr
  | none =>
    rw [hh] at hr
    simp only at hr ⊢
    cases hq : hd.p f with
    | none => rw [hq] at hr; exact cfF0_eq he f as h r hr
    | some g =>
      rw [hq] at hr
      simp only [handP] at hr ⊢
      cases hk : keepAL h as with
      | none => rw [hk] at hr; cases hr
      | some bs =>
        rw [hk] at hr
        simp only at hr ⊢
        cases hg : g bs with
        | none => rw [hg] at hr; cases hr
        | some res => rw [hg] at hr; simp only at hr ⊢; cases hs : scalar res <;> rw [hs] at hr <;> exact hr
theorem fC_eq (k : Nat) : ExE (fC Gl tab hd k) (exC Gl tab hd.hand k) := by
  induction k with
  | zero => intro N n c T h U r _ hr; cases hr
  | succ k ih =>
    intro N n c T h U r hn hr
    have hc := cfF_eq (Gl := Gl) (tab := tab) (hd := hd) ih
    have hp := pfF_eq (Gl := Gl) (tab := tab) (hd := hd) ih
    have hr : (fC1 Gl tab hd c (fC Gl tab hd k) N n T h U).out n = some r := hr
    cases c with
    | skip => exact hr
    | ret => exact hr
    | exit id => exact hr
    | ops d l => exact fOps_eq hc hp hn d N l T h U r hr
    | rops l =>
      simp only [fC1, cRops, lenL_eq] at hr
      simp only [exC]
      cases hx : fR (cfF tab hd (fC Gl tab hd k)) (pfF tab hd (fC Gl tab hd k)) Gl n h.length N l true T h ⟨[], []⟩ U with
      | mk o q =>
        rw [hx] at hr
        simp only [runR] at hr
        cases hw : rwOk h.length q with
        | false => rw [hw] at hr; cases hr
        | true =>
          rw [hw] at hr
          have hr : o.out n = some r := hr
          rw [fR_eq hc hp hn h.length N l true T h ⟨[], []⟩ U (r, q) (by rw [hx]; simp only [FQ.out]; rw [hr])]
          simp only [hw, if_true]
    | seq a b =>
      simp only [fC1, cSeq] at hr
      simp only [exC]
      cases hx : fC Gl tab hd k N n a T h U with
      | no => rw [hx] at hr; cases hr
      | pan v =>
        rw [hx] at hr
        rw [ih N n a T h U (.pan v) hn (by rw [hx]; rfl)]
        exact hr
      | nrm e T' h' U' =>
        rw [hx] at hr
        rw [ih N n a T h U (.nrm e ⟨slots n T', h'⟩ U') hn (by rw [hx]; rfl)]
        cases e with
        | normal => exact ih N n b T' h' U' r hn hr
        | _ => exact hr
    | cond x a b =>
      simp only [fC1, cCond] at hr
      simp only [exC]
      rw [vT_ok n Gl T h x] at hr
      generalize St.val Gl ⟨slots n T, h⟩ x = v at hr ⊢
      cases v with
      | v v =>
        cases v with
        | bool q => cases q <;> exact ih _ _ _ _ _ _ _ hn hr
        | _ => cases hr
      | _ => cases hr
    | block id b =>
      simp only [fC1, cBlk] at hr
      simp only [exC]
      cases hx : fC Gl tab hd k N n b T h U with
      | no => rw [hx] at hr; cases hr
      | pan v =>
        rw [hx] at hr
        rw [ih N n b T h U (.pan v) hn (by rw [hx]; rfl)]
        exact hr
      | nrm e T' h' U' =>
        rw [hx] at hr
        rw [ih N n b T h U (.nrm e ⟨slots n T', h'⟩ U') hn (by rw [hx]; rfl)]
        cases e with
        | exit i =>
          simp only [blkK] at hr
          simp only
          cases hq : Nat.beq i id with
          | true => rw [hq] at hr; simp only [if_true]; exact hr
          | false => rw [hq] at hr; simp only [Bool.false_eq_true, if_false]; exact hr
        | _ => exact hr
    | loop b =>
      simp only [fC1, cLoop] at hr
      simp only [exC]
      cases hx : fC Gl tab hd k N n b T h U with
      | no => rw [hx] at hr; cases hr
      | pan v =>
        rw [hx] at hr
        rw [ih N n b T h U (.pan v) hn (by rw [hx]; rfl)]
        exact hr
      | nrm e T' h' U' =>
        rw [hx] at hr
        rw [ih N n b T h U (.nrm e ⟨slots n T', h'⟩ U') hn (by rw [hx]; rfl)]
        cases e with
        | normal => exact ih N n (.loop b) T' h' U' r hn hr
        | _ => exact hr
/-- A function of known arguments, run fast. -/
theorem fast_pure {P : Program} (hm : P.follows .mixedOrders = true) {hl : List Nat} (hh : HandOk P Gl hd.hand) (k : Nat) {f : Nat} {as : List AV} {res : AV} (h : pfF0 (fnE P hl) (fC Gl (fnE P hl) hd k) f as = some res) : Pure P Gl f as res :=
  run_pure hm hh k (pfF0_eq (fC_eq k) f as res h)
end
end
end Abs
end Go.Proofs.YtnhgeocdffhkjaaDoor
