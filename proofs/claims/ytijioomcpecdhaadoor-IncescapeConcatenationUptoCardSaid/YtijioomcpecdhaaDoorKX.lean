/- The program's facts of the last law of the incremental escaper. -/
import Derived.Test.YtijioomcpecdhaaDoorKTw
import Derived.Test.YtijioomcpecdhaaDoorS31
namespace Go.Proofs.YtijioomcpecdhaaDoor.law
open Go.AL Go.AL.Fun
theorem vok : VOk Tryd.prog := ⟨iok, f38_ok, lib.h69 rfl rfl, lib.h70, lib.h54g, lib.h71, lib.h72, lib.h55g⟩
end Go.Proofs.YtijioomcpecdhaaDoor.law
