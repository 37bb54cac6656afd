/- The functions of this seat's program, turned. Printed by a program; each is checked against the program. -/
import Derived.Test.YtijioomcpecdhaaDoorF1
import Derived.Test.YtijioomcpecdhaaDoorProg
import Derived.KernelRfl
namespace Go.AL.Fun
open Go.AL


def f3 : AFun := ⟨32, 2, [.slot 4],
  (.seq (.run [0, 1] [⟨some 4, .mv, [.const (.bool false)], none⟩])
   (.seq (.run [0, 1, 5, 6] [⟨some 10, .mv, [.tmp 0], none⟩,
      ⟨some 11, .mv, [.tmp 1], none⟩,
      ⟨some 12, (.call 15), [.tmp 10, .tmp 11], none⟩,
      ⟨some 9, .mv, [.tmp 12], none⟩,
      ⟨some 13, (.ext 0), [.tmp 9], none⟩,
      ⟨some 14, (.ext 1), [.tmp 9], none⟩,
      ⟨some 5, .mv, [.tmp 13], none⟩,
      ⟨some 6, .mv, [.tmp 14], none⟩])
    (.seq (.run [5, 6, 7, 8] [⟨some 16, .mv, [.tmp 0], none⟩,
       ⟨some 17, .mv, [.tmp 1], none⟩,
       ⟨some 18, (.call 16), [.tmp 16, .tmp 17], none⟩,
       ⟨some 15, .mv, [.tmp 18], none⟩,
       ⟨some 19, (.ext 0), [.tmp 15], none⟩,
       ⟨some 20, (.ext 1), [.tmp 15], none⟩,
       ⟨some 7, .mv, [.tmp 19], none⟩,
       ⟨some 8, .mv, [.tmp 20], none⟩])
     (.seq (.run [4] [⟨some 21, (.call 17), [], none⟩,
        ⟨some 22, .mv, [.tmp 21], none⟩,
        ⟨some 23, .mv, [.tmp 5], some (22, true)⟩,
        ⟨some 24, .mv, [.tmp 7], some (22, true)⟩,
        ⟨some 25, (.eqg false 6), [.tmp 23, .tmp 24], some (22, true)⟩,
        ⟨some 26, .pick, [.tmp 22, .tmp 25, .const (.bool false)], none⟩,
        ⟨some 27, .mv, [.tmp 26], none⟩,
        ⟨some 28, .mv, [.tmp 6], some (27, true)⟩,
        ⟨some 29, .mv, [.tmp 8], some (27, true)⟩,
        ⟨some 30, (.eqg false 6), [.tmp 28, .tmp 29], some (27, true)⟩,
        ⟨some 31, .pick, [.tmp 27, .tmp 30, .const (.bool false)], none⟩,
        ⟨some 4, .mv, [.tmp 31], none⟩])
      .ret))))⟩

theorem f3_ok : compF Go.Proofs.Tryd.prog 3 f3.body.hints = some f3 := by kernel_rfl

end Go.AL.Fun
