/- The functions of this seat's program, turned. Printed by a program; each is checked against the program. -/
import Derived.Test.YtijioomcpecdhaaDoorF1
import Derived.Test.YtijioomcpecdhaaDoorProg
import Derived.KernelRfl
namespace Go.AL.Fun
open Go.AL


def f8 : AFun := ⟨70, 3, [.slot 6],
  (.seq (.run [0, 1, 2] [⟨some 6, .mv, [.const (.bool false)], none⟩])
   (.seq (.seq (.run [0, 1, 2, 35] [⟨some 12, .mv, [.tmp 1], none⟩,
       ⟨some 13, (.len 0), [.tmp 12], none⟩,
       ⟨some 14, (.bin .gtr), [.tmp 13, .const (.int .i64 1000)], none⟩,
       ⟨some 15, .mv, [.tmp 14], none⟩,
       ⟨some 16, .mv, [.tmp 2], some (15, false)⟩,
       ⟨some 17, (.len 0), [.tmp 16], some (15, false)⟩,
       ⟨some 18, (.bin .gtr), [.tmp 17, .const (.int .i64 1000)], some (15, false)⟩,
       ⟨some 19, .pick, [.tmp 15, .const (.bool true), .tmp 18], none⟩,
       ⟨some 20, .mv, [.tmp 19], none⟩,
       ⟨some 21, .mv, [.tmp 1], some (20, false)⟩,
       ⟨some 22, (.call 19), [.tmp 21], some (20, false)⟩,
       ⟨some 23, (.un .not), [.tmp 22], some (20, false)⟩,
       ⟨some 24, .pick, [.tmp 20, .const (.bool true), .tmp 23], none⟩,
       ⟨some 25, .mv, [.tmp 24], none⟩,
       ⟨some 26, .mv, [.tmp 2], some (25, false)⟩,
       ⟨some 27, (.call 19), [.tmp 26], some (25, false)⟩,
       ⟨some 28, (.un .not), [.tmp 27], some (25, false)⟩,
       ⟨some 29, .pick, [.tmp 25, .const (.bool true), .tmp 28], none⟩,
       ⟨some 30, .mv, [.tmp 29], none⟩,
       ⟨some 31, .mv, [.tmp 1], some (30, false)⟩,
       ⟨some 32, .mv, [.tmp 2], some (30, false)⟩,
       ⟨some 33, (.bin .add), [.tmp 31, .tmp 32], some (30, false)⟩,
       ⟨some 34, (.call 24), [.tmp 33, .const (.string ⟨#[0]⟩)], some (30, false)⟩,
       ⟨some 35, .pick, [.tmp 30, .const (.bool true), .tmp 34], none⟩])
     (.cond (.tmp 35)
      (.seq (.run [6] [⟨some 36, (.call 17), [], none⟩,
         ⟨some 6, .mv, [.tmp 36], none⟩])
       .ret)
      .skip))
    (.seq (.run [1, 2, 7] [⟨some 37, .mv, [.tmp 0], none⟩,
       ⟨some 38, (.cvi .i64), [.tmp 37], none⟩,
       ⟨some 39, (.bin .rem), [.tmp 38, .const (.int .i64 5)], none⟩,
       ⟨some 7, .mv, [.tmp 39], none⟩])
     (.seq (.run [1, 2, 7, 8, 9] [⟨some 41, .mv, [.tmp 7], none⟩,
        ⟨some 42, .mv, [.tmp 1], none⟩,
        ⟨some 43, (.call 18), [.tmp 41, .tmp 42], none⟩,
        ⟨some 40, .mv, [.tmp 43], none⟩,
        ⟨some 44, (.ext 0), [.tmp 40], none⟩,
        ⟨some 45, (.ext 1), [.tmp 40], none⟩,
        ⟨some 8, .mv, [.tmp 44], none⟩,
        ⟨some 9, .mv, [.tmp 45], none⟩])
      (.seq (.run [1, 2, 8, 9, 10, 11] [⟨some 47, .mv, [.tmp 7], none⟩,
         ⟨some 48, .mv, [.tmp 2], none⟩,
         ⟨some 49, (.call 18), [.tmp 47, .tmp 48], none⟩,
         ⟨some 46, .mv, [.tmp 49], none⟩,
         ⟨some 50, (.ext 0), [.tmp 46], none⟩,
         ⟨some 51, (.ext 1), [.tmp 46], none⟩,
         ⟨some 10, .mv, [.tmp 50], none⟩,
         ⟨some 11, .mv, [.tmp 51], none⟩])
       (.seq (.run [6] [⟨some 52, (.call 17), [], none⟩,
          ⟨some 53, .mv, [.tmp 52], none⟩,
          ⟨some 54, .mv, [.tmp 9], some (53, true)⟩,
          ⟨some 55, (.eqg false 6), [.tmp 54, .const (.int .i64 0)], some (53, true)⟩,
          ⟨some 56, .pick, [.tmp 53, .tmp 55, .const (.bool false)], none⟩,
          ⟨some 57, .mv, [.tmp 56], none⟩,
          ⟨some 58, .mv, [.tmp 11], some (57, true)⟩,
          ⟨some 59, (.eqg false 6), [.tmp 58, .const (.int .i64 0)], some (57, true)⟩,
          ⟨some 60, .pick, [.tmp 57, .tmp 59, .const (.bool false)], none⟩,
          ⟨some 61, .mv, [.tmp 60], none⟩,
          ⟨some 62, .mv, [.tmp 8], some (61, true)⟩,
          ⟨some 63, .mv, [.tmp 10], some (61, true)⟩,
          ⟨some 64, (.eqg false 6), [.tmp 62, .tmp 63], some (61, true)⟩,
          ⟨some 65, .mv, [.tmp 1], some (61, true)⟩,
          ⟨some 66, .mv, [.tmp 2], some (61, true)⟩,
          ⟨some 67, (.eqg false 6), [.tmp 65, .tmp 66], some (61, true)⟩,
          ⟨some 68, (.eqg false 0), [.tmp 64, .tmp 67], some (61, true)⟩,
          ⟨some 69, .pick, [.tmp 61, .tmp 68, .const (.bool false)], none⟩,
          ⟨some 6, .mv, [.tmp 69], none⟩])
        .ret))))))⟩

theorem f8_ok : compF Go.Proofs.Tryd.prog 8 f8.body.hints = some f8 := by kernel_rfl

end Go.AL.Fun
