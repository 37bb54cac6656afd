/- The functions of this seat's program, turned. Printed by a program; each is checked against the program. -/
import Derived.Test.YtijioomcpecdhaaDoorF1
import Derived.Test.YtijioomcpecdhaaDoorProg
import Derived.KernelRfl
namespace Go.AL.Fun
open Go.AL


def f7 : AFun := ⟨43, 2, [.slot 4],
  (.seq (.run [0, 1] [⟨some 4, .mv, [.const (.bool false)], none⟩])
   (.seq (.seq (.run [0, 1, 10] [⟨some 8, .mv, [.tmp 1], none⟩,
       ⟨some 9, (.len 0), [.tmp 8], none⟩,
       ⟨some 10, (.bin .gtr), [.tmp 9, .const (.int .i64 1000)], none⟩])
     (.cond (.tmp 10)
      (.seq (.run [4] [⟨some 11, (.call 17), [], none⟩,
         ⟨some 4, .mv, [.tmp 11], none⟩])
       .ret)
      .skip))
    (.seq (.run [1, 5] [⟨some 12, .mv, [.tmp 0], none⟩,
       ⟨some 13, (.cvi .i64), [.tmp 12], none⟩,
       ⟨some 14, (.bin .rem), [.tmp 13, .const (.int .i64 5)], none⟩,
       ⟨some 5, .mv, [.tmp 14], none⟩])
     (.seq (.run [1, 5, 6, 7] [⟨some 16, .mv, [.tmp 5], none⟩,
        ⟨some 17, .mv, [.tmp 1], none⟩,
        ⟨some 18, (.call 18), [.tmp 16, .tmp 17], none⟩,
        ⟨some 15, .mv, [.tmp 18], none⟩,
        ⟨some 19, (.ext 0), [.tmp 15], none⟩,
        ⟨some 20, (.ext 1), [.tmp 15], none⟩,
        ⟨some 6, .mv, [.tmp 19], none⟩,
        ⟨some 7, .mv, [.tmp 20], none⟩])
      (.seq (.run [4] [⟨some 21, (.call 17), [], none⟩,
         ⟨some 22, .mv, [.tmp 21], none⟩,
         ⟨some 23, .mv, [.tmp 7], some (22, true)⟩,
         ⟨some 24, (.eqg false 6), [.tmp 23, .const (.int .i64 0)], some (22, true)⟩,
         ⟨some 25, .pick, [.tmp 22, .tmp 24, .const (.bool false)], none⟩,
         ⟨some 26, .mv, [.tmp 25], none⟩,
         ⟨some 27, .mv, [.tmp 5], some (26, true)⟩,
         ⟨some 28, .mv, [.tmp 6], some (26, true)⟩,
         ⟨some 29, (.call 21), [.tmp 27, .tmp 28], some (26, true)⟩,
         ⟨some 30, .pick, [.tmp 26, .tmp 29, .const (.bool false)], none⟩,
         ⟨some 31, .mv, [.tmp 30], none⟩,
         ⟨some 32, .mv, [.tmp 6], some (31, true)⟩,
         ⟨some 33, (.call 19), [.tmp 32], some (31, true)⟩,
         ⟨some 34, .pick, [.tmp 31, .tmp 33, .const (.bool false)], none⟩,
         ⟨some 35, .mv, [.tmp 34], none⟩,
         ⟨some 36, .mv, [.tmp 6], some (35, true)⟩,
         ⟨some 37, (.len 0), [.tmp 36], some (35, true)⟩,
         ⟨some 38, .mv, [.tmp 1], some (35, true)⟩,
         ⟨some 39, (.call 23), [.tmp 38], some (35, true)⟩,
         ⟨some 40, (.len 1), [.tmp 39], some (35, true)⟩,
         ⟨some 41, (.bin .geq), [.tmp 37, .tmp 40], some (35, true)⟩,
         ⟨some 42, .pick, [.tmp 35, .tmp 41, .const (.bool false)], none⟩,
         ⟨some 4, .mv, [.tmp 42], none⟩])
       .ret)))))⟩

theorem f7_ok : compF Go.Proofs.Tryd.prog 7 f7.body.hints = some f7 := by kernel_rfl

end Go.AL.Fun
