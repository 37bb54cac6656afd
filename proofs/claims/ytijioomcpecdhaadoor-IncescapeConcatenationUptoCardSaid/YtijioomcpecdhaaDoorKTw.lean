/- The program's facts of the incremental escaper; ranges of what is read. -/
import Derived.Test.YtijioomcpecdhaaDoorKS
import Derived.Test.YtijioomcpecdhaaDoorS20w
namespace Go.Proofs.YtijioomcpecdhaaDoor.law
open Go.AL Go.AL.Fun
theorem u8_rng {n : Int} (h : (Lit.int .u8 n).wf = true) : 0 ≤ n ∧ n ≤ 255 := by
  simp only [Lit.wf, Bool.and_eq_true, decide_eq_true_eq] at h
  have h1 : IntKind.min .u8 = 0 := by decide
  have h2 : IntKind.max .u8 = 255 := by decide
  omega
theorem i64_rng {n : Int} (h : (Lit.int .i64 n).wf = true) : -9223372036854775808 ≤ n ∧ n ≤ 9223372036854775807 := by
  simp only [Lit.wf, Bool.and_eq_true, decide_eq_true_eq] at h
  have h1 : IntKind.min .i64 = -9223372036854775808 := by decide
  have h2 : IntKind.max .i64 = 9223372036854775807 := by decide
  omega
theorem iok : IOk Tryd.prog := ⟨eok, f23_ok, f66_ok, f67_ok, f64_ok, f25_ok, f27_ok, f28_ok, f29_ok, f30_ok, f31_ok, f26_ok, f61_ok⟩
end Go.Proofs.YtijioomcpecdhaaDoor.law
