/- The program has what the reference automaton wants. -/
import Derived.Test.YtjlmonghelbihaaX1
import Derived.Test.YtjlmonghelbihaaH16
namespace Go.Proofs.Ytjlmonghelbihaa.lib
open Go.AL Go.AL.Fun Go.RowKit Go.Proofs
theorem rok : ROk Try.prog := ⟨hok, f13_ok, f15_ok, f16_ok, f30_ok, f31_ok, f32_ok, f33_ok, f47_ok, f48_ok, f49_ok, f50_ok, f51_ok, f52_ok⟩
end Go.Proofs.Ytjlmonghelbihaa.lib
