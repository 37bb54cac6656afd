/- The program's facts of Safe. -/
import Derived.Test.YtijioomcpecdhaaDoorKT
import Derived.Test.YtijioomcpecdhaaDoorS23p
namespace Go.Proofs.YtijioomcpecdhaaDoor.law
open Go.AL Go.AL.Fun
theorem jok : JOk Tryd.prog := ⟨iok, f60_ok, f59_ok, f107_ok, f86_ok, f58_ok, f21_ok⟩
end Go.Proofs.YtijioomcpecdhaaDoor.law
