/- What the laws of the decoder of chunked bodies and its reference share. -/
import Derived.Test.YtcaegdcldbggpaaDoorK8
import Derived.Test.YtcaegdcldbggpaaDoorE20
set_option maxRecDepth 100000
namespace Go.Proofs.YtcaegdcldbggpaaDoor.law
open Go.AL Go.AL.Fun
theorem gok : GOk Tryd.prog := { fok with h13 := f13_ok, h21 := f21_ok, h22 := f22_ok }
end Go.Proofs.YtcaegdcldbggpaaDoor.law
