/- What the laws of the decoder of chunked bodies share. -/
import Derived.Test.YtcaegdcldbggpaaDoorK7
import Derived.Test.YtcaegdcldbggpaaDoorE15
set_option maxRecDepth 100000
namespace Go.Proofs.YtcaegdcldbggpaaDoor.law
open Go.AL Go.AL.Fun
theorem fok : FOk Tryd.prog := { eok with h11 := f11_ok, h12 := f12_ok, h14 := f14_ok, h15 := f15_ok, h16 := f16_ok, h17 := f17_ok, h18 := f18_ok, h19 := f19_ok, h20 := f20_ok, h23 := f23_ok, h29 := f29_ok, h30 := f30_ok, h31 := f31_ok, h39 := f39_ok, h40 := f40_ok }
end Go.Proofs.YtcaegdcldbggpaaDoor.law
