/- The program has what the provider laws want. -/
import Derived.Test.YtpeaphpibnikcaaF1
import Derived.Test.YtpeaphpibnikcaaV17
import Derived.Test.YtpeaphpibnikcaaK4
namespace Go.Proofs.Ytpeaphpibnikcaa.law
open Go.AL Go.AL.Fun Go.RowKit Go.Proofs
theorem pok : POk Try.prog := ⟨by kernel_rfl, f6_ok, f7_ok, f8_ok, f9_ok, f10_ok, f11_ok, f12_ok, f13_ok, f14_ok, f15_ok, f16_ok, f17_ok, f18_ok, f19_ok, f20_ok, f21_ok, f22_ok, f23_ok, f24_ok, f25_ok, f26_ok, f27_ok, f28_ok, f29_ok, f30_ok, f31_ok, f32_ok, f33_ok, f34_ok⟩
end Go.Proofs.Ytpeaphpibnikcaa.law
