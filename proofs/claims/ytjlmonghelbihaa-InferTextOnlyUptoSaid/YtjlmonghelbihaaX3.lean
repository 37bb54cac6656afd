/- The program has what the laws of the analysis want. -/
import Derived.Test.YtjlmonghelbihaaX2
import Derived.Test.YtjlmonghelbihaaI11
namespace Go.Proofs.Ytjlmonghelbihaa.lib
open Go.AL Go.AL.Fun Go.RowKit Go.Proofs
theorem iok : IOk Try.prog := ⟨rok, ⟨by kernel_rfl, f18_ok, f34_ok, f53_ok, f54_ok, f60_ok, f61_ok, f62_ok, f63_ok, f65_ok, f66_ok, f67_ok, f68_ok, f70_ok⟩, f19_ok, f20_ok, f21_ok, f22_ok, f23_ok, f24_ok, f25_ok, f35_ok, f36_ok, f37_ok, f55_ok, f56_ok⟩
end Go.Proofs.Ytjlmonghelbihaa.lib
