/- The functions of this seat's program, turned. Printed by a program; each is checked against the program. -/
import Derived.Test.YtcmgeflfapffoaaDoorF1
import Derived.Test.YtcmgeflfapffoaaDoorProg
import Derived.KernelRfl
namespace Go.AL.Fun
open Go.AL


def f5 : AFun := ⟨55, 2, [.slot 4],
  (.seq (.run [0, 1] [⟨some 4, .mv, [.const (.bool false)], none⟩])
   (.seq (.seq (.run [0, 1, 19] [⟨some 9, .mv, [.tmp 1], none⟩,
       ⟨some 10, (.bin .lss), [.tmp 9, .const (.int .i64 1)], none⟩,
       ⟨some 11, .mv, [.tmp 10], none⟩,
       ⟨some 12, .mv, [.tmp 1], some (11, false)⟩,
       ⟨some 13, (.bin .gtr), [.tmp 12, .const (.int .i64 65536)], some (11, false)⟩,
       ⟨some 14, .pick, [.tmp 11, .const (.bool true), .tmp 13], none⟩,
       ⟨some 15, .mv, [.tmp 14], none⟩,
       ⟨some 16, .mv, [.tmp 0], some (15, false)⟩,
       ⟨some 17, (.len 1), [.tmp 16], some (15, false)⟩,
       ⟨some 18, (.bin .gtr), [.tmp 17, .const (.int .i64 100000)], some (15, false)⟩,
       ⟨some 19, .pick, [.tmp 15, .const (.bool true), .tmp 18], none⟩])
     (.cond (.tmp 19)
      (.seq (.run [4] [⟨some 20, (.call 11), [], none⟩,
         ⟨some 4, .mv, [.tmp 20], none⟩])
       .ret)
      .skip))
    (.seq (.run [0, 1, 5, 6] [⟨some 22, .mv, [.tmp 0], none⟩,
       ⟨some 23, .mv, [.tmp 1], none⟩,
       ⟨some 24, (.call 12), [.tmp 22, .tmp 23], none⟩,
       ⟨some 21, .mv, [.tmp 24], none⟩,
       ⟨some 25, (.ext 0), [.tmp 21], none⟩,
       ⟨some 26, (.ext 1), [.tmp 21], none⟩,
       ⟨some 5, .mv, [.tmp 25], none⟩,
       ⟨some 6, .mv, [.tmp 26], none⟩])
     (.seq (.run [0, 1, 5, 6, 7] [⟨some 27, .mv, [.tmp 0], none⟩,
        ⟨some 28, (.len 1), [.tmp 27], none⟩,
        ⟨some 29, (.bin .add), [.tmp 28, .const (.int .i64 5)], none⟩,
        ⟨some 7, .mv, [.tmp 29], none⟩])
      (.seq (.seq (.run [1, 5, 6, 7, 8] [⟨some 30, .mv, [.tmp 0], none⟩,
          ⟨some 31, (.len 1), [.tmp 30], none⟩,
          ⟨some 8, .mv, [.tmp 31], none⟩])
        (.block 0 (.loop [1, 5, 6, 7, 8] (.seq (.seq (.run [1, 5, 6, 7, 8, 33] [⟨some 32, .mv, [.tmp 8], none⟩,
              ⟨some 33, (.bin .gtr), [.tmp 32, .const (.int .i64 0)], none⟩])
            (.cond (.tmp 33)
             .skip
             (.exit 0)))
           (.seq (.block 1 (.run [1, 5, 6, 7, 8] [⟨some 37, .mv, [.tmp 7], none⟩,
               ⟨some 38, .mv, [.tmp 8], none⟩,
               ⟨some 39, .mv, [.tmp 1], none⟩,
               ⟨some 40, .min, [.tmp 38, .tmp 39], none⟩,
               ⟨some 41, (.call 18), [.tmp 40], none⟩,
               ⟨some 42, (.bin .add), [.tmp 41, .const (.int .i64 4)], none⟩,
               ⟨some 43, (.bin .add), [.tmp 37, .tmp 42], none⟩,
               ⟨some 7, .mv, [.tmp 43], none⟩]))
            (.run [1, 5, 6, 7, 8] [⟨some 34, .mv, [.tmp 8], none⟩,
              ⟨some 35, .mv, [.tmp 1], none⟩,
              ⟨some 36, (.bin .sub), [.tmp 34, .tmp 35], none⟩,
              ⟨some 8, .mv, [.tmp 36], none⟩]))))))
       (.seq (.run [4] [⟨some 44, (.call 11), [], none⟩,
          ⟨some 45, .mv, [.tmp 44], none⟩,
          ⟨some 46, .mv, [.tmp 6], some (45, true)⟩,
          ⟨some 47, (.eqg false 6), [.tmp 46, .const (.int .i64 0)], some (45, true)⟩,
          ⟨some 48, .pick, [.tmp 45, .tmp 47, .const (.bool false)], none⟩,
          ⟨some 49, .mv, [.tmp 48], none⟩,
          ⟨some 50, .mv, [.tmp 5], some (49, true)⟩,
          ⟨some 51, (.len 1), [.tmp 50], some (49, true)⟩,
          ⟨some 52, .mv, [.tmp 7], some (49, true)⟩,
          ⟨some 53, (.eqg false 6), [.tmp 51, .tmp 52], some (49, true)⟩,
          ⟨some 54, .pick, [.tmp 49, .tmp 53, .const (.bool false)], none⟩,
          ⟨some 4, .mv, [.tmp 54], none⟩])
        .ret))))))⟩

theorem f5_ok : compF Go.Proofs.Tryd.prog 5 f5.body.hints = some f5 := by kernel_rfl

end Go.AL.Fun
