/- The program has what the laws of the definitions want. -/
import Derived.Test.YthphaolkihageaaMK
namespace Go.Proofs.Ythphaolkihageaa.lib
open Go.AL Go.AL.Fun Go.RowKit Go.Proofs
theorem mok : MOk Try.prog := ⟨by kernel_rfl, ⟨by kernel_rfl, f5_ok, f15_ok, f25_ok, f26_ok, f32_ok, f33_ok, f34_ok, f35_ok, f47_ok, f48_ok, f49_ok, f50_ok, f57_ok⟩, f6_ok, f7_ok, f8_ok, f9_ok, f10_ok, f11_ok, f12_ok, f13_ok, f14_ok, f16_ok, f17_ok, f18_ok, f19_ok, f20_ok, f21_ok, f23_ok, f24_ok, f27_ok, f28_ok, f29_ok, h22⟩
end Go.Proofs.Ythphaolkihageaa.lib
