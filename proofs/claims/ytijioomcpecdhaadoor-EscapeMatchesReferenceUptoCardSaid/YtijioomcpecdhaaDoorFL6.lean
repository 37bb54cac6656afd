/- The functions of this seat's program, turned. Printed by a program; each is checked against the program. -/
import Derived.Test.YtijioomcpecdhaaDoorF1
import Derived.Test.YtijioomcpecdhaaDoorProg
import Derived.KernelRfl
namespace Go.AL.Fun
open Go.AL


def f6 : AFun := ⟨45, 2, [.slot 4],
  (.seq (.run [0, 1] [⟨some 4, .mv, [.const (.bool false)], none⟩])
   (.seq (.seq (.run [0, 1, 11] [⟨some 9, .mv, [.tmp 1], none⟩,
       ⟨some 10, (.len 0), [.tmp 9], none⟩,
       ⟨some 11, (.bin .gtr), [.tmp 10, .const (.int .i64 1000)], none⟩])
     (.cond (.tmp 11)
      (.seq (.run [4] [⟨some 12, (.call 17), [], none⟩,
         ⟨some 4, .mv, [.tmp 12], none⟩])
       .ret)
      .skip))
    (.seq (.run [0, 1, 5, 6] [⟨some 14, .mv, [.tmp 0], none⟩,
       ⟨some 15, .mv, [.tmp 1], none⟩,
       ⟨some 16, (.call 18), [.tmp 14, .tmp 15], none⟩,
       ⟨some 13, .mv, [.tmp 16], none⟩,
       ⟨some 17, (.ext 0), [.tmp 13], none⟩,
       ⟨some 18, (.ext 1), [.tmp 13], none⟩,
       ⟨some 5, .mv, [.tmp 17], none⟩,
       ⟨some 6, .mv, [.tmp 18], none⟩])
     (.seq (.run [0, 1, 5, 6, 7, 8] [⟨some 20, .mv, [.tmp 0], none⟩,
        ⟨some 21, .mv, [.tmp 1], none⟩,
        ⟨some 22, (.call 20), [.tmp 20, .tmp 21], none⟩,
        ⟨some 19, .mv, [.tmp 22], none⟩,
        ⟨some 23, (.ext 0), [.tmp 19], none⟩,
        ⟨some 24, (.ext 1), [.tmp 19], none⟩,
        ⟨some 7, .mv, [.tmp 23], none⟩,
        ⟨some 8, .mv, [.tmp 24], none⟩])
      (.seq (.run [4] [⟨some 25, (.call 17), [], none⟩,
         ⟨some 26, .mv, [.tmp 25], none⟩,
         ⟨some 27, .mv, [.tmp 5], some (26, true)⟩,
         ⟨some 28, .mv, [.tmp 7], some (26, true)⟩,
         ⟨some 29, (.eqg false 6), [.tmp 27, .tmp 28], some (26, true)⟩,
         ⟨some 30, .pick, [.tmp 26, .tmp 29, .const (.bool false)], none⟩,
         ⟨some 31, .mv, [.tmp 30], none⟩,
         ⟨some 32, .mv, [.tmp 6], some (31, true)⟩,
         ⟨some 33, .mv, [.tmp 8], some (31, true)⟩,
         ⟨some 34, (.eqg false 6), [.tmp 32, .tmp 33], some (31, true)⟩,
         ⟨some 35, .pick, [.tmp 31, .tmp 34, .const (.bool false)], none⟩,
         ⟨some 36, .mv, [.tmp 35], none⟩,
         ⟨some 37, .mv, [.tmp 0], some (36, true)⟩,
         ⟨some 38, .mv, [.tmp 1], some (36, true)⟩,
         ⟨some 39, (.call 21), [.tmp 37, .tmp 38], some (36, true)⟩,
         ⟨some 40, .mv, [.tmp 0], some (36, true)⟩,
         ⟨some 41, .mv, [.tmp 1], some (36, true)⟩,
         ⟨some 42, (.call 22), [.tmp 40, .tmp 41], some (36, true)⟩,
         ⟨some 43, (.eqg false 0), [.tmp 39, .tmp 42], some (36, true)⟩,
         ⟨some 44, .pick, [.tmp 36, .tmp 43, .const (.bool false)], none⟩,
         ⟨some 4, .mv, [.tmp 44], none⟩])
       .ret)))))⟩

theorem f6_ok : compF Go.Proofs.Tryd.prog 6 f6.body.hints = some f6 := by kernel_rfl

end Go.AL.Fun
