/- The functions of this seat's program, turned. Printed by a program; each is checked against the program. -/
import Derived.Test.YtijioomcpecdhaaDoorF1
import Derived.Test.YtijioomcpecdhaaDoorProg
import Derived.KernelRfl
namespace Go.AL.Fun
open Go.AL


def f5 : AFun := ⟨71, 3, [.slot 6],
  (.seq (.run [0, 1, 2] [⟨some 6, .mv, [.const (.bool false)], none⟩])
   (.seq (.seq (.run [0, 1, 2, 26] [⟨some 14, .mv, [.tmp 1], none⟩,
       ⟨some 15, (.len 0), [.tmp 14], none⟩,
       ⟨some 16, (.bin .gtr), [.tmp 15, .const (.int .i64 1000)], none⟩,
       ⟨some 17, .mv, [.tmp 16], none⟩,
       ⟨some 18, .mv, [.tmp 2], some (17, false)⟩,
       ⟨some 19, (.len 0), [.tmp 18], some (17, false)⟩,
       ⟨some 20, (.bin .gtr), [.tmp 19, .const (.int .i64 1000)], some (17, false)⟩,
       ⟨some 21, .pick, [.tmp 17, .const (.bool true), .tmp 20], none⟩,
       ⟨some 22, .mv, [.tmp 21], none⟩,
       ⟨some 23, .mv, [.tmp 1], some (22, false)⟩,
       ⟨some 24, (.call 19), [.tmp 23], some (22, false)⟩,
       ⟨some 25, (.un .not), [.tmp 24], some (22, false)⟩,
       ⟨some 26, .pick, [.tmp 22, .const (.bool true), .tmp 25], none⟩])
     (.cond (.tmp 26)
      (.seq (.run [6] [⟨some 27, (.call 17), [], none⟩,
         ⟨some 6, .mv, [.tmp 27], none⟩])
       .ret)
      .skip))
    (.seq (.run [1, 2, 7] [⟨some 28, .mv, [.tmp 0], none⟩,
       ⟨some 29, (.cvi .i64), [.tmp 28], none⟩,
       ⟨some 30, (.bin .rem), [.tmp 29, .const (.int .i64 5)], none⟩,
       ⟨some 7, .mv, [.tmp 30], none⟩])
     (.seq (.run [1, 2, 7, 8, 9] [⟨some 32, .mv, [.tmp 7], none⟩,
        ⟨some 33, .mv, [.tmp 1], none⟩,
        ⟨some 34, (.call 18), [.tmp 32, .tmp 33], none⟩,
        ⟨some 31, .mv, [.tmp 34], none⟩,
        ⟨some 35, (.ext 0), [.tmp 31], none⟩,
        ⟨some 36, (.ext 1), [.tmp 31], none⟩,
        ⟨some 8, .mv, [.tmp 35], none⟩,
        ⟨some 9, .mv, [.tmp 36], none⟩])
      (.seq (.run [1, 2, 7, 8, 9, 10, 11] [⟨some 38, .mv, [.tmp 7], none⟩,
         ⟨some 39, .mv, [.tmp 2], none⟩,
         ⟨some 40, (.call 18), [.tmp 38, .tmp 39], none⟩,
         ⟨some 37, .mv, [.tmp 40], none⟩,
         ⟨some 41, (.ext 0), [.tmp 37], none⟩,
         ⟨some 42, (.ext 1), [.tmp 37], none⟩,
         ⟨some 10, .mv, [.tmp 41], none⟩,
         ⟨some 11, .mv, [.tmp 42], none⟩])
       (.seq (.run [8, 9, 10, 11, 12, 13] [⟨some 44, .mv, [.tmp 7], none⟩,
          ⟨some 45, .mv, [.tmp 1], none⟩,
          ⟨some 46, .mv, [.tmp 2], none⟩,
          ⟨some 47, (.bin .add), [.tmp 45, .tmp 46], none⟩,
          ⟨some 48, (.call 18), [.tmp 44, .tmp 47], none⟩,
          ⟨some 43, .mv, [.tmp 48], none⟩,
          ⟨some 49, (.ext 0), [.tmp 43], none⟩,
          ⟨some 50, (.ext 1), [.tmp 43], none⟩,
          ⟨some 12, .mv, [.tmp 49], none⟩,
          ⟨some 13, .mv, [.tmp 50], none⟩])
        (.seq (.run [6] [⟨some 51, (.call 17), [], none⟩,
           ⟨some 52, .mv, [.tmp 51], none⟩,
           ⟨some 53, .mv, [.tmp 9], some (52, true)⟩,
           ⟨some 54, (.eqg false 6), [.tmp 53, .const (.int .i64 0)], some (52, true)⟩,
           ⟨some 55, .pick, [.tmp 52, .tmp 54, .const (.bool false)], none⟩,
           ⟨some 56, .mv, [.tmp 55], none⟩,
           ⟨some 57, .mv, [.tmp 11], some (56, true)⟩,
           ⟨some 58, (.eqg false 6), [.tmp 57, .const (.int .i64 0)], some (56, true)⟩,
           ⟨some 59, .pick, [.tmp 56, .tmp 58, .const (.bool false)], none⟩,
           ⟨some 60, .mv, [.tmp 59], none⟩,
           ⟨some 61, .mv, [.tmp 13], some (60, true)⟩,
           ⟨some 62, (.eqg false 6), [.tmp 61, .const (.int .i64 0)], some (60, true)⟩,
           ⟨some 63, .pick, [.tmp 60, .tmp 62, .const (.bool false)], none⟩,
           ⟨some 64, .mv, [.tmp 63], none⟩,
           ⟨some 65, .mv, [.tmp 12], some (64, true)⟩,
           ⟨some 66, .mv, [.tmp 8], some (64, true)⟩,
           ⟨some 67, .mv, [.tmp 10], some (64, true)⟩,
           ⟨some 68, (.bin .add), [.tmp 66, .tmp 67], some (64, true)⟩,
           ⟨some 69, (.eqg false 6), [.tmp 65, .tmp 68], some (64, true)⟩,
           ⟨some 70, .pick, [.tmp 64, .tmp 69, .const (.bool false)], none⟩,
           ⟨some 6, .mv, [.tmp 70], none⟩])
         .ret)))))))⟩

theorem f5_ok : compF Go.Proofs.Tryd.prog 5 f5.body.hints = some f5 := by kernel_rfl

end Go.AL.Fun
