/- The law about nested write-backs. -/
import Derived.Test.YtnhgeocdffhkjaaDoorEXP
import Derived.Test.YtnhgeocdffhkjaaDoorEXQ
import Derived.Test.YtnhgeocdffhkjaaDoorEXR
import Derived.Test.YtnhgeocdffhkjaaDoorEXS
import Derived.Test.YtnhgeocdffhkjaaDoorEXT
import Derived.Test.YtnhgeocdffhkjaaDoorEXU
namespace Go.Proofs.YtnhgeocdffhkjaaDoor
namespace Abs
open Go.RowKit
theorem depth : ∀ k, k < 20 → ∃ l, TbOk l ∧ restK l (Int.ofNat (1 + k)) = true
  | 0, _ => ⟨qtb1, qto1, qrk1⟩
  | 1, _ => ⟨qtb2, qto2, qrk2⟩
  | 2, _ => ⟨qtb3, qto3, qrk3⟩
  | 3, _ => ⟨qtb4, qto4, qrk4⟩
  | 4, _ => ⟨qtb5, qto5, qrk5⟩
  | 5, _ => ⟨qtb6, qto6, qrk6⟩
  | 6, _ => ⟨qtb7, qto7, qrk7⟩
  | 7, _ => ⟨tb8, to8, rk8⟩
  | 8, _ => ⟨tb9, to9, rk9⟩
  | 9, _ => ⟨tb10, to10, rk10⟩
  | 10, _ => ⟨tb11, to11, rk11⟩
  | 11, _ => ⟨tb12, to12, rk12⟩
  | 12, _ => ⟨tb13, to13, rk13⟩
  | 13, _ => ⟨tb14, to14, rk14⟩
  | 14, _ => ⟨tb15, to15, rk15⟩
  | 15, _ => ⟨tb16, to16, rk16⟩
  | 16, _ => ⟨tb17, to17, rk17⟩
  | 17, _ => ⟨tb18, to18, rk18⟩
  | 18, _ => ⟨tb19, to19, rk19⟩
  | 19, _ => ⟨tb20, to20, rk20⟩
  | k + 20, h => by omega
/-- The law. -/
theorem law_nested {n : Nat} (hn : n < 256) : Pure Tryd.prog GlD 3 [.v (.int .u8 n), .any] (.v (.bool true)) := by
  obtain ⟨l, h1, h2⟩ := depth (n % 20) (Nat.mod_lt _ (by omega))
  exact law3 (begs n hn) h1 h2
end Abs
end Go.Proofs.YtnhgeocdffhkjaaDoor
