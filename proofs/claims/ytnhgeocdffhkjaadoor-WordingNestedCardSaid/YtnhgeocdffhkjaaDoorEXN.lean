/- The examples of the chapter. -/
import Derived.Test.YtnhgeocdffhkjaaDoorEXM
namespace Go.Proofs.YtnhgeocdffhkjaaDoor
namespace Abs
open Go.RowKit
set_option linter.unusedVariables false
set_option linter.unusedSimpArgs false
set_option maxRecDepth 20000
theorem sameS_ok {a b : ByteArray} (h : sameS a b = true) : a = b := by
  unfold sameS at h
  rw [bytesB_eq] at h
  have := eq_of_beq h
  exact ByteArray.ext (Array.ext' this)
theorem keyS {s : ByteArray} {az : List AV} (h : keyOk (some s) az = true) : az = [.v (.string s)] := by
  unfold keyOk at h
  simp only at h
  split at h
  · split at h
    · split at h
      · rw [sameS_ok h]
      · cases h
    · cases h
  · cases h
theorem tbS {f : Nat} {s : ByteArray} {res : AV} (hc : callable Tryd.prog f = true) (h : Pure Tryd.prog GlD f [.v (.string s)] res) : callable Tryd.prog (Tb.f ⟨f, some s, res⟩) = true ∧ ∀ az, keyOk (Tb.key ⟨f, some s, res⟩) az = true → Pure Tryd.prog GlD (Tb.f ⟨f, some s, res⟩) az (Tb.res ⟨f, some s, res⟩) :=
  ⟨hc, fun az q => by rw [keyS q]; exact h⟩
theorem tbN {f : Nat} {res : AV} (hc : callable Tryd.prog f = true) (h : Pure Tryd.prog GlD f [] res) : callable Tryd.prog (Tb.f ⟨f, none, res⟩) = true ∧ ∀ az, keyOk (Tb.key ⟨f, none, res⟩) az = true → Pure Tryd.prog GlD (Tb.f ⟨f, none, res⟩) az (Tb.res ⟨f, none, res⟩) :=
  ⟨hc, fun az q => by
    have : az = [] := by cases az with | nil => rfl | cons a l => cases q
    rw [this]; exact h⟩
theorem tb0 : TbOk [] := fun e h => by cases h
theorem tbC {e : Tb} {l : List Tb} (h : callable Tryd.prog e.f = true ∧ ∀ az, keyOk e.key az = true → Pure Tryd.prog GlD e.f az e.res) (hl : TbOk l) : TbOk (e :: l) := fun e' h' => by
  rcases List.mem_cons.1 h' with rfl | h'
  · exact h
  · exact hl e' h'
theorem cb8 : callable Tryd.prog 8 = true := by kernel_rfl
theorem cb4 : callable Tryd.prog 4 = true := by kernel_rfl
theorem cb6 : callable Tryd.prog 6 = true := by kernel_rfl
def txA : ByteArray := ⟨#[99, 111, 118, 101, 114, 32, 97, 108, 108, 58, 32, 116, 114, 117, 101, 59, 32, 101, 120, 99, 108, 117, 100, 101, 32, 119, 97, 114, 58, 32, 112, 101, 114, 105, 108, 32, 105, 110, 32, 40, 119, 97, 114, 41, 32, 117, 110, 108, 101, 115, 115, 32, 40, 109, 101, 100, 105, 99, 58, 32, 114, 111, 108, 101, 32, 105, 110, 32, 40, 109, 101, 100, 105, 99, 41, 41, 59, 32, 101, 110, 100, 111, 114, 115, 101, 32, 64, 50, 48, 51, 49, 45, 48, 49, 45, 48, 49, 32, 116, 111, 32, 64, 50, 48, 51, 50, 45, 48, 49, 45, 48, 49, 58, 32, 114, 101, 109, 111, 118, 101, 32, 119, 97, 114, 59, 32, 101, 110, 100, 59]⟩
def tkA : AV := (.tup [(.list 4 [(.agg [(.v (.int .i64 1)), (.v (.string ⟨#[99, 111, 118, 101, 114]⟩)), (.v (.int .i64 0)), (.v (.int .i64 0))]), (.agg [(.v (.int .i64 1)), (.v (.string ⟨#[97, 108, 108]⟩)), (.v (.int .i64 0)), (.v (.int .i64 6))]), (.agg [(.v (.int .i64 4)), (.v (.string ⟨#[58]⟩)), (.v (.int .i64 0)), (.v (.int .i64 9))]), (.agg [(.v (.int .i64 1)), (.v (.string ⟨#[116, 114, 117, 101]⟩)), (.v (.int .i64 0)), (.v (.int .i64 11))]), (.agg [(.v (.int .i64 4)), (.v (.string ⟨#[59]⟩)), (.v (.int .i64 0)), (.v (.int .i64 15))]), (.agg [(.v (.int .i64 1)), (.v (.string ⟨#[101, 120, 99, 108, 117, 100, 101]⟩)), (.v (.int .i64 0)), (.v (.int .i64 17))]), (.agg [(.v (.int .i64 1)), (.v (.string ⟨#[119, 97, 114]⟩)), (.v (.int .i64 0)), (.v (.int .i64 25))]), (.agg [(.v (.int .i64 4)), (.v (.string ⟨#[58]⟩)), (.v (.int .i64 0)), (.v (.int .i64 28))]), (.agg [(.v (.int .i64 1)), (.v (.string ⟨#[112, 101, 114, 105, 108]⟩)), (.v (.int .i64 0)), (.v (.int .i64 30))]), (.agg [(.v (.int .i64 1)), (.v (.string ⟨#[105, 110]⟩)), (.v (.int .i64 0)), (.v (.int .i64 36))]), (.agg [(.v (.int .i64 4)), (.v (.string ⟨#[40]⟩)), (.v (.int .i64 0)), (.v (.int .i64 39))]), (.agg [(.v (.int .i64 1)), (.v (.string ⟨#[119, 97, 114]⟩)), (.v (.int .i64 0)), (.v (.int .i64 40))]), (.agg [(.v (.int .i64 4)), (.v (.string ⟨#[41]⟩)), (.v (.int .i64 0)), (.v (.int .i64 43))]), (.agg [(.v (.int .i64 1)), (.v (.string ⟨#[117, 110, 108, 101, 115, 115]⟩)), (.v (.int .i64 0)), (.v (.int .i64 45))]), (.agg [(.v (.int .i64 4)), (.v (.string ⟨#[40]⟩)), (.v (.int .i64 0)), (.v (.int .i64 52))]), (.agg [(.v (.int .i64 1)), (.v (.string ⟨#[109, 101, 100, 105, 99]⟩)), (.v (.int .i64 0)), (.v (.int .i64 53))]), (.agg [(.v (.int .i64 4)), (.v (.string ⟨#[58]⟩)), (.v (.int .i64 0)), (.v (.int .i64 58))]), (.agg [(.v (.int .i64 1)), (.v (.string ⟨#[114, 111, 108, 101]⟩)), (.v (.int .i64 0)), (.v (.int .i64 60))]), (.agg [(.v (.int .i64 1)), (.v (.string ⟨#[105, 110]⟩)), (.v (.int .i64 0)), (.v (.int .i64 65))]), (.agg [(.v (.int .i64 4)), (.v (.string ⟨#[40]⟩)), (.v (.int .i64 0)), (.v (.int .i64 68))]), (.agg [(.v (.int .i64 1)), (.v (.string ⟨#[109, 101, 100, 105, 99]⟩)), (.v (.int .i64 0)), (.v (.int .i64 69))]), (.agg [(.v (.int .i64 4)), (.v (.string ⟨#[41]⟩)), (.v (.int .i64 0)), (.v (.int .i64 74))]), (.agg [(.v (.int .i64 4)), (.v (.string ⟨#[41]⟩)), (.v (.int .i64 0)), (.v (.int .i64 75))]), (.agg [(.v (.int .i64 4)), (.v (.string ⟨#[59]⟩)), (.v (.int .i64 0)), (.v (.int .i64 76))]), (.agg [(.v (.int .i64 1)), (.v (.string ⟨#[101, 110, 100, 111, 114, 115, 101]⟩)), (.v (.int .i64 0)), (.v (.int .i64 78))]), (.agg [(.v (.int .i64 3)), (.v (.string ⟨#[]⟩)), (.v (.int .i64 271752)), (.v (.int .i64 86))]), (.agg [(.v (.int .i64 1)), (.v (.string ⟨#[116, 111]⟩)), (.v (.int .i64 0)), (.v (.int .i64 98))]), (.agg [(.v (.int .i64 3)), (.v (.string ⟨#[]⟩)), (.v (.int .i64 280512)), (.v (.int .i64 101))]), (.agg [(.v (.int .i64 4)), (.v (.string ⟨#[58]⟩)), (.v (.int .i64 0)), (.v (.int .i64 112))]), (.agg [(.v (.int .i64 1)), (.v (.string ⟨#[114, 101, 109, 111, 118, 101]⟩)), (.v (.int .i64 0)), (.v (.int .i64 114))]), (.agg [(.v (.int .i64 1)), (.v (.string ⟨#[119, 97, 114]⟩)), (.v (.int .i64 0)), (.v (.int .i64 121))]), (.agg [(.v (.int .i64 4)), (.v (.string ⟨#[59]⟩)), (.v (.int .i64 0)), (.v (.int .i64 124))]), (.agg [(.v (.int .i64 1)), (.v (.string ⟨#[101, 110, 100]⟩)), (.v (.int .i64 0)), (.v (.int .i64 126))]), (.agg [(.v (.int .i64 4)), (.v (.string ⟨#[59]⟩)), (.v (.int .i64 0)), (.v (.int .i64 129))])]), (.v (.int .i64 0)), (.v (.int .i64 0))])
def rsA : AV := (.tup [(.agg [(.list 10 [(.agg [(.v (.int .i64 2)), (.v (.string ⟨#[97, 108, 108]⟩)), (.v (.int .i64 1)), (.v (.string ⟨#[]⟩)), (.v (.slice none 0 0)), (.v (.int .i64 0)), (.v (.int .i64 0)), (.v (.slice none 0 0)), (.v (.slice none 0 0)), (.v (.int .i64 0))]), (.agg [(.v (.int .i64 3)), (.v (.string ⟨#[119, 97, 114]⟩)), (.v (.int .i64 4)), (.v (.string ⟨#[112, 101, 114, 105, 108]⟩)), (.list 1 [(.v (.string ⟨#[119, 97, 114]⟩))]), (.v (.int .i64 0)), (.v (.int .i64 0)), (.v (.slice none 0 0)), (.list 8 [(.agg [(.v (.string ⟨#[109, 101, 100, 105, 99]⟩)), (.v (.int .i64 4)), (.v (.string ⟨#[114, 111, 108, 101]⟩)), (.list 1 [(.v (.string ⟨#[109, 101, 100, 105, 99]⟩))]), (.v (.int .i64 0)), (.v (.int .i64 0)), (.v (.slice none 0 0)), (.v (.slice none 0 0))])]), (.v (.int .i64 0))])]), (.list 4 [(.agg [(.v (.int .i64 271752)), (.v (.int .i64 280512)), (.list 1 [(.v (.string ⟨#[119, 97, 114]⟩))]), (.v (.slice none 0 0))])])]), (.v (.int .i64 0)), (.v (.int .i64 0))])
def txB : ByteArray := ⟨#[99, 111, 118, 101, 114, 32, 97, 108, 108, 58, 32, 116, 114, 117, 101]⟩
def rsB : AV := (.tup [(.agg [(.v (.slice none 0 0)), (.v (.slice none 0 0))]), (.v (.int .i64 15)), (.v (.int .i64 5))])
theorem scanA : Pure Tryd.prog GlD 8 [.v (.string txA)] tkA := run_fn tb0 (by kernel_rfl)
theorem parseA : Pure Tryd.prog GlD 4 [.v (.string txA)] rsA := okP_pure (tbC (tbS cb8 scanA) tb0) (by kernel_rfl)
theorem parseB : Pure Tryd.prog GlD 4 [.v (.string txB)] rsB := dies_pure (a := .int .i64 4) (b := .int .i64 5) tb0 rfl rfl (fun p2 p3 p4 => by kernel_rfl) (by kernel_rfl)
/-- The examples hold. -/
theorem awakeD : Pure Tryd.prog GlD 6 [] (.v (.bool true)) := run_fn (tbC (tbS cb4 parseA) (tbC (tbS cb4 parseB) tb0)) (by kernel_rfl)
end Abs
end Go.Proofs.YtnhgeocdffhkjaaDoor
