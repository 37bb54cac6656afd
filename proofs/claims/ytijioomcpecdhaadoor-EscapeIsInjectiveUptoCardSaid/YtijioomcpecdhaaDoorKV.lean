/- The program's facts of strings.Contains. -/
import Derived.Test.YtijioomcpecdhaaDoorKT
import Derived.Test.YtijioomcpecdhaaDoorS27
namespace Go.Proofs.YtijioomcpecdhaaDoor.law
open Go.AL Go.AL.Fun
theorem lok : LOk Tryd.prog := ⟨iok, fun _ xs H K => lib.h24 xs H K⟩
end Go.Proofs.YtijioomcpecdhaaDoor.law
