/- The abstract machine: words for its use. -/
import Derived.Test.YtnhgeocdffhkjaaDoorAbsB
import Derived.IntWalk
namespace Go.Proofs.YtnhgeocdffhkjaaDoor
namespace Abs
open Go.RowKit
set_option linter.unusedVariables false

def bs (l : List UInt8) : ByteArray := ⟨l.toArray⟩

def Fn (P : Program) (f n : Nat) (c : C) (rs : List RV) : Prop := ∃ fn hl, P.funcs[f]? = some fn ∧ fn.body.bind (cC P hl) = some c ∧ cRes P fn.results.toList = some rs ∧ fn.ntmps = n ∧ callable P f = true
theorem Fn.callable {P : Program} {f n : Nat} {c : C} {rs : List RV} (h : Fn P f n c rs) : callable P f = true := by obtain ⟨_, _, _, _, _, _, h⟩ := h; exact h

theorem Fn.pure {P : Program} {Gl : Nat → Option (List AV)} (hm : P.follows .mixedOrders = true) {f n : Nat} {c : C} {rs : List RV} (h : Fn P f n c rs) {as : List AV} {res : AV} {t : List AV} (ht : as ++ List.replicate (n - as.length) .any = t) (ha : awp P Gl 0 c (Ends Gl rs res) ⟨t, []⟩) : Pure P Gl f as res := by
  obtain ⟨fn, hl, h1, h2, h3, rfl, _⟩ := h
  cases hb : fn.body with
  | none => rw [hb] at h2; cases h2
  | some code =>
    rw [hb] at h2
    subst ht
    exact Pure.of hm h1 hb h2 h3 ha

/-- What stands behind. -/
def Then (P : Program) (Gl : Nat → Option (List AV)) (N : Nat) (b : C) (Q : Exit → St → Prop) (e : Exit) (τ : St) : Prop := match e with | .normal => awp P Gl N b Q τ | e => Q e τ
def InBlock (id : Nat) (Q : Exit → St → Prop) (e : Exit) (τ : St) : Prop := match e with | .exit i => if i = id then Q .normal τ else Q (.exit i) τ | e => Q e τ
def InLoop (J : St → Prop) (μ : St → Nat) (dead : List Nat) (n : Nat) (σ : St) (Q : Exit → St → Prop) (e : Exit) (τ : St) : Prop := match e with | .normal => J (norm dead n τ) ∧ μ (norm dead n τ) < μ σ | e => Q e τ
section
variable {P : Program} {Gl : Nat → Option (List AV)} {N : Nat} {Q : Exit → St → Prop} {σ : St} {K : St → Prop} {d : Bool}
theorem awp_skip : awp P Gl N .skip Q σ = Q .normal σ := rfl
theorem awp_ops {l : List Ins} : awp P Gl N (.ops d l) Q σ = aOps P Gl d (Q .normal) l σ := rfl
theorem awp_seq {a b : C} : awp P Gl N (.seq a b) Q σ = awp P Gl N a (Then P Gl N b Q) σ := rfl
theorem awp_block {id : Nat} {b : C} : awp P Gl N (.block id b) Q σ = awp P Gl N b (InBlock id Q) σ := rfl
theorem awp_exit {id : Nat} : awp P Gl N (.exit id) Q σ = Q (.exit id) σ := rfl
theorem awp_ret : awp P Gl N .ret Q σ = Q .ret σ := rfl
theorem awp_cond {c : Opd} {a b : C} {t : Bool} (h : σ.val Gl c = .v (.bool t)) : awp P Gl N (.cond c a b) Q σ = (if t = true then awp P Gl N a Q σ else awp P Gl N b Q σ) := by simp only [awp, h]
theorem awp_cond_t {c : Opd} {a b : C} (h : σ.val Gl c = .v (.bool true)) : awp P Gl N (.cond c a b) Q σ = awp P Gl N a Q σ := by simp only [awp, h, if_true]
theorem awp_cond_f {c : Opd} {a b : C} (h : σ.val Gl c = .v (.bool false)) : awp P Gl N (.cond c a b) Q σ = awp P Gl N b Q σ := by simp only [awp, h, Bool.false_eq_true, if_false]
theorem awp_loop {b : C} (dead : List Nat) (gh : List (Nat × Nat × Nat)) (n : Nat) (J : St → Prop) (μ : St → Nat) (hN : N ≤ n) (h0 : J (norm dead n (gh.foldl ghost σ))) (hr : ∀ τ, J τ → awp P Gl N b (InLoop J μ dead n τ Q) τ) : awp P Gl N (.loop b) Q σ :=
  ⟨dead, gh, n, J, μ, hN, h0, hr⟩
theorem Then_normal {b : C} {τ : St} : Then P Gl N b Q .normal τ = awp P Gl N b Q τ := rfl
theorem Then_exit {b : C} {i : Nat} {τ : St} : Then P Gl N b Q (.exit i) τ = Q (.exit i) τ := rfl
theorem Then_ret {b : C} {τ : St} : Then P Gl N b Q .ret τ = Q .ret τ := rfl
theorem InBlock_normal {i : Nat} {τ : St} : InBlock i Q .normal τ = Q .normal τ := rfl
theorem InBlock_exit {i j : Nat} {τ : St} : InBlock i Q (.exit j) τ = if j = i then Q .normal τ else Q (.exit j) τ := rfl
theorem InBlock_ret {i : Nat} {τ : St} : InBlock i Q .ret τ = Q .ret τ := rfl
theorem InLoop_normal {J : St → Prop} {μ : St → Nat} {dead : List Nat} {n : Nat} {τ : St} : InLoop J μ dead n σ Q .normal τ = (J (norm dead n τ) ∧ μ (norm dead n τ) < μ σ) := rfl
theorem InLoop_exit {J : St → Prop} {μ : St → Nat} {dead : List Nat} {n i : Nat} {τ : St} : InLoop J μ dead n σ Q (.exit i) τ = Q (.exit i) τ := rfl
theorem InLoop_ret {J : St → Prop} {μ : St → Nat} {dead : List Nat} {n : Nat} {τ : St} : InLoop J μ dead n σ Q .ret τ = Q .ret τ := rfl
theorem aOps_nil : aOps P Gl d K [] σ = K σ := rfl
/-- An instruction that is no call. -/
theorem aOps_step {t : List AV} {h h' : List AObj} {dst : Option Nat} {i : I} {r : List Ins} {p : Prop} {a : AV} (hs : step Gl ⟨t, h⟩ i = some (p, a, h')) (hp : p) (hk : aOps P Gl d K r (St.put ⟨t, h'⟩ dst a)) : aOps P Gl d K (⟨dst, none, i⟩ :: r) ⟨t, h⟩ := by
  have key : ∀ L : St → Prop, L (St.put ⟨t, h'⟩ dst a) → aExec P Gl d ⟨t, h⟩ dst L i := fun L hL => by
    have e1 : (∀ f as, i ≠ .call f as) → aExec P Gl d ⟨t, h⟩ dst L i = (match step Gl ⟨t, h⟩ i with | some (p, a, h') => p ∧ L (St.put ⟨t, h'⟩ dst a) | none => False) := fun hne => by
      cases i <;> first | rfl | exact absurd rfl (hne _ _)
    rw [e1 (fun f as e => by subst e; cases hs), hs]
    exact ⟨hp, hL⟩
  exact key _ hk
theorem Fn.pureH (hm : P.follows .mixedOrders = true) {f n : Nat} {c : C} {rs : List RV} (h : Fn P f n c rs) {as : List AV} {h0 : List AObj} {Q : AV → List AObj → Prop} {t : List AV} (ht : as ++ List.replicate (n - as.length) .any = t) (ha : awp P Gl h0.length c (EndsH Gl rs Q) ⟨t, h0⟩) : PureH P Gl f h0 as Q := by
  obtain ⟨fn, hl, h1, h2, h3, rfl, _⟩ := h
  cases hb : fn.body with
  | none => rw [hb] at h2; cases h2
  | some code =>
    rw [hb] at h2
    subst ht
    exact PureH.of hm h1 hb h2 h3 ha
theorem PureH.mono {f : Nat} {h : List AObj} {as : List AV} {Q Q' : AV → List AObj → Prop} (hP : PureH P Gl f h as Q) (hq : ∀ a h', Q a h' → Q' a h') : PureH P Gl f h as Q' := by
  intro F own B w0 t act w xs hI hxs
  refine (hP F own B w0 t act w xs hI hxs).mono ?_
  rintro e w' ⟨v, res, h', F', own', a, b, c, q⟩
  exact ⟨v, res, h', F', own', a, b, c, hq _ _ q⟩
theorem aStep_none {dst : Option Nat} {i : I} : aStep P Gl d σ ⟨dst, none, i⟩ K = aExec P Gl d σ dst K i := rfl
theorem aStep_tt {dst : Option Nat} {i : I} {s : Nat} (h : σ.t.getD s .any = .v (.bool true)) : aStep P Gl d σ ⟨dst, some (s, true), i⟩ K = aExec P Gl d σ dst K i := by simp only [aStep, h, if_true]
theorem aStep_tf {dst : Option Nat} {i : I} {s : Nat} (h : σ.t.getD s .any = .v (.bool false)) : aStep P Gl d σ ⟨dst, some (s, true), i⟩ K = K (σ.put dst und) := by simp only [aStep, h]; rfl
theorem aStep_ff {dst : Option Nat} {i : I} {s : Nat} (h : σ.t.getD s .any = .v (.bool false)) : aStep P Gl d σ ⟨dst, some (s, false), i⟩ K = aExec P Gl d σ dst K i := by simp only [aStep, h, if_true]
theorem aStep_ft {dst : Option Nat} {i : I} {s : Nat} (h : σ.t.getD s .any = .v (.bool true)) : aStep P Gl d σ ⟨dst, some (s, false), i⟩ K = K (σ.put dst und) := by simp only [aStep, h]; rfl
theorem aOps_cons {i : Ins} {r : List Ins} : aOps P Gl d K (i :: r) σ = aStep P Gl d σ i (aOps P Gl d K r) := rfl
theorem awp_if {c : Opd} {a b : C} {t : Bool} (h : σ.val Gl c = .v (.bool t)) (h1 : t = true → awp P Gl N a Q σ) (h2 : t = false → awp P Gl N b Q σ) : awp P Gl N (.cond c a b) Q σ := by
  rw [awp_cond h]
  cases t
  · exact h2 rfl
  · exact h1 rfl
/-- A step, and what stands behind. -/
def stepK (Gl : Nat → Option (List AV)) (σ : St) (dst : Option Nat) (K : St → Prop) (i : I) : Prop := match step Gl σ i with
  | some (p, a, h') => p ∧ K (St.put ⟨σ.t, h'⟩ dst a)
  | none => False
theorem ax_mov {dst : Option Nat} {x} : aExec P Gl d σ dst K (.mov x) = stepK Gl σ dst K (.mov x) := rfl
theorem ax_pick {dst : Option Nat} {c} {a} {b} : aExec P Gl d σ dst K (.pick c a b) = stepK Gl σ dst K (.pick c a b) := rfl
theorem ax_bin {dst : Option Nat} {op} {x} {y} : aExec P Gl d σ dst K (.bin op x y) = stepK Gl σ dst K (.bin op x y) := rfl
theorem ax_beq {dst : Option Nat} {n} {x} {y} : aExec P Gl d σ dst K (.beq n x y) = stepK Gl σ dst K (.beq n x y) := rfl
theorem ax_nilq {dst : Option Nat} {n} {x} : aExec P Gl d σ dst K (.nilq n x) = stepK Gl σ dst K (.nilq n x) := rfl
theorem ax_aeq {dst : Option Nat} {n} {fs} {x} {y} : aExec P Gl d σ dst K (.aeq n fs x y) = stepK Gl σ dst K (.aeq n fs x y) := rfl
theorem ax_un {dst : Option Nat} {op} {x} : aExec P Gl d σ dst K (.un op x) = stepK Gl σ dst K (.un op x) := rfl
theorem ax_conv {dst : Option Nat} {k} {x} : aExec P Gl d σ dst K (.conv k x) = stepK Gl σ dst K (.conv k x) := rfl
theorem ax_fld {dst : Option Nat} {o} {s} {g} {x} : aExec P Gl d σ dst K (.fld o s g x) = stepK Gl σ dst K (.fld o s g x) := rfl
theorem ax_ext {dst : Option Nat} {i} {x} : aExec P Gl d σ dst K (.ext i x) = stepK Gl σ dst K (.ext i x) := rfl
theorem ax_faddr {dst : Option Nat} {o} {x} : aExec P Gl d σ dst K (.faddr o x) = stepK Gl σ dst K (.faddr o x) := rfl
theorem ax_iaddr {dst : Option Nat} {z} {x} {i} : aExec P Gl d σ dst K (.iaddr z x i) = stepK Gl σ dst K (.iaddr z x i) := rfl
theorem ax_load {dst : Option Nat} {z} {g} {x} : aExec P Gl d σ dst K (.load z g x) = stepK Gl σ dst K (.load z g x) := rfl
theorem ax_store {dst : Option Nat} {z} {x} {y} : aExec P Gl d σ dst K (.store z x y) = stepK Gl σ dst K (.store z x y) := rfl
theorem ax_slice {dst : Option Nat} {z} {x} {lo} {hi} : aExec P Gl d σ dst K (.slice z x lo hi) = stepK Gl σ dst K (.slice z x lo hi) := rfl
theorem ax_sslice {dst : Option Nat} {x} {lo} {hi} : aExec P Gl d σ dst K (.sslice x lo hi) = stepK Gl σ dst K (.sslice x lo hi) := rfl
theorem ax_len {dst : Option Nat} {x} : aExec P Gl d σ dst K (.len x) = stepK Gl σ dst K (.len x) := rfl
theorem ax_nck {dst : Option Nat} {x} : aExec P Gl d σ dst K (.nck x) = stepK Gl σ dst K (.nck x) := rfl
theorem ax_slen {dst : Option Nat} {x} : aExec P Gl d σ dst K (.slen x) = stepK Gl σ dst K (.slen x) := rfl
theorem ax_idx {dst : Option Nat} {x} {i} : aExec P Gl d σ dst K (.idx x i) = stepK Gl σ dst K (.idx x i) := rfl
theorem ax_app {dst : Option Nat} {ty} {z} {b} {x} {y} : aExec P Gl d σ dst K (.app ty z b x y) = stepK Gl σ dst K (.app ty z b x y) := rfl
theorem ax_bslice {dst : Option Nat} {ty} {z} {xs} : aExec P Gl d σ dst K (.bslice ty z xs) = stepK Gl σ dst K (.bslice ty z xs) := rfl
theorem ax_blist {dst : Option Nat} {ty} {z} {xs} : aExec P Gl d σ dst K (.blist ty z xs) = stepK Gl σ dst K (.blist ty z xs) := rfl
theorem ax_build {dst : Option Nat} {z} {ps} : aExec P Gl d σ dst K (.build z ps) = stepK Gl σ dst K (.build z ps) := rfl
theorem ax_box {dst : Option Nat} {ty} {z} {x} : aExec P Gl d σ dst K (.box ty z x) = stepK Gl σ dst K (.box ty z x) := rfl
theorem ax_alloc {dst : Option Nat} {ty} {z} : aExec P Gl d σ dst K (.alloc ty z) = stepK Gl σ dst K (.alloc ty z) := rfl
theorem ax_mk {dst : Option Nat} {ty} {z} {b} {v} {n} : aExec P Gl d σ dst K (.mk ty z b v n) = stepK Gl σ dst K (.mk ty z b v n) := rfl
theorem ax_min2 {dst : Option Nat} {x} {y} : aExec P Gl d σ dst K (.min2 x y) = stepK Gl σ dst K (.min2 x y) := rfl
theorem ax_max2 {dst : Option Nat} {x} {y} : aExec P Gl d σ dst K (.max2 x y) = stepK Gl σ dst K (.max2 x y) := rfl
theorem wrap64 {n : Int} (h1 : -9223372036854775808 ≤ n) (h2 : n ≤ 9223372036854775807) : IntKind.i64.wrap n = n := IntWalk.i64_in n ⟨h1, h2⟩
theorem wrap8 {n : Int} (h1 : 0 ≤ n) (h2 : n ≤ 255) : IntKind.u8.wrap n = n := IntWalk.u8_in n ⟨h1, h2⟩
theorem wrap32u {n : Int} (h1 : 0 ≤ n) (h2 : n ≤ 4294967295) : IntKind.u32.wrap n = n := IntWalk.u32_in n ⟨h1, h2⟩
end
end Abs
end Go.Proofs.YtnhgeocdffhkjaaDoor
