/- The functions of this seat's program, turned. Printed by a program; each is checked against the program. -/
import Derived.Test.YtcmgeflfapffoaaDoorF1
import Derived.Test.YtcmgeflfapffoaaDoorProg
import Derived.KernelRfl
namespace Go.AL.Fun
open Go.AL


def f3 : AFun := ⟨57, 2, [.slot 4],
  (.seq (.run [0, 1] [⟨some 4, .mv, [.const (.bool false)], none⟩])
   (.seq (.seq (.run [0, 1, 13] [⟨some 11, .mv, [.tmp 0], none⟩,
       ⟨some 12, (.len 1), [.tmp 11], none⟩,
       ⟨some 13, (.bin .gtr), [.tmp 12, .const (.int .i64 3000)], none⟩])
     (.cond (.tmp 13)
      (.seq (.run [4] [⟨some 14, (.call 11), [], none⟩,
         ⟨some 4, .mv, [.tmp 14], none⟩])
       .ret)
      .skip))
    (.seq (.run [0, 1, 5, 6] [⟨some 16, .mv, [.tmp 0], none⟩,
       ⟨some 17, .mv, [.tmp 1], none⟩,
       ⟨some 18, (.call 12), [.tmp 16, .tmp 17], none⟩,
       ⟨some 15, .mv, [.tmp 18], none⟩,
       ⟨some 19, (.ext 0), [.tmp 15], none⟩,
       ⟨some 20, (.ext 1), [.tmp 15], none⟩,
       ⟨some 5, .mv, [.tmp 19], none⟩,
       ⟨some 6, .mv, [.tmp 20], none⟩])
     (.seq (.run [1, 5, 6, 7, 8] [⟨some 22, .mv, [.tmp 0], none⟩,
        ⟨some 23, .mv, [.tmp 1], none⟩,
        ⟨some 24, (.call 13), [.tmp 22, .tmp 23], none⟩,
        ⟨some 21, .mv, [.tmp 24], none⟩,
        ⟨some 25, (.ext 0), [.tmp 21], none⟩,
        ⟨some 26, (.ext 1), [.tmp 21], none⟩,
        ⟨some 7, .mv, [.tmp 25], none⟩,
        ⟨some 8, .mv, [.tmp 26], none⟩])
      (.seq (.run [5, 6, 7, 8, 9, 10] [⟨some 28, .mv, [.tmp 1], none⟩,
         ⟨some 29, (.call 14), [.tmp 28], none⟩,
         ⟨some 27, .mv, [.tmp 29], none⟩,
         ⟨some 30, (.ext 0), [.tmp 27], none⟩,
         ⟨some 31, (.ext 1), [.tmp 27], none⟩,
         ⟨some 9, .mv, [.tmp 30], none⟩,
         ⟨some 10, .mv, [.tmp 31], none⟩])
       (.seq (.run [4] [⟨some 32, (.call 11), [], none⟩,
          ⟨some 33, .mv, [.tmp 32], none⟩,
          ⟨some 34, .mv, [.tmp 5], some (33, true)⟩,
          ⟨some 35, .cvb, [.tmp 34], some (33, true)⟩,
          ⟨some 36, .mv, [.tmp 7], some (33, true)⟩,
          ⟨some 37, .cvb, [.tmp 36], some (33, true)⟩,
          ⟨some 38, (.eqg false 6), [.tmp 35, .tmp 37], some (33, true)⟩,
          ⟨some 39, .pick, [.tmp 33, .tmp 38, .const (.bool false)], none⟩,
          ⟨some 40, .mv, [.tmp 39], none⟩,
          ⟨some 41, .mv, [.tmp 6], some (40, true)⟩,
          ⟨some 42, .mv, [.tmp 8], some (40, true)⟩,
          ⟨some 43, (.eqg false 6), [.tmp 41, .tmp 42], some (40, true)⟩,
          ⟨some 44, .pick, [.tmp 40, .tmp 43, .const (.bool false)], none⟩,
          ⟨some 45, .mv, [.tmp 44], none⟩,
          ⟨some 46, .mv, [.tmp 10], some (45, true)⟩,
          ⟨some 47, .mv, [.tmp 6], some (45, true)⟩,
          ⟨some 48, (.eqg false 6), [.tmp 46, .tmp 47], some (45, true)⟩,
          ⟨some 49, .pick, [.tmp 45, .tmp 48, .const (.bool false)], none⟩,
          ⟨some 50, .mv, [.tmp 49], none⟩,
          ⟨some 51, .mv, [.tmp 9], some (50, true)⟩,
          ⟨some 52, (.eqg false 1), [.tmp 51, .const (.pointer none)], some (50, true)⟩,
          ⟨some 53, .mv, [.tmp 10], some (50, true)⟩,
          ⟨some 54, (.eqg true 6), [.tmp 53, .const (.int .i64 0)], some (50, true)⟩,
          ⟨some 55, (.eqg false 0), [.tmp 52, .tmp 54], some (50, true)⟩,
          ⟨some 56, .pick, [.tmp 50, .tmp 55, .const (.bool false)], none⟩,
          ⟨some 4, .mv, [.tmp 56], none⟩])
        .ret))))))⟩

theorem f3_ok : compF Go.Proofs.Tryd.prog 3 f3.body.hints = some f3 := by kernel_rfl

end Go.AL.Fun
