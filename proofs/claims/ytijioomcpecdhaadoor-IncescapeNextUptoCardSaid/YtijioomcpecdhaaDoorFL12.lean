/- The functions of this seat's program, turned. Printed by a program; each is checked against the program. -/
import Derived.Test.YtijioomcpecdhaaDoorF1
import Derived.Test.YtijioomcpecdhaaDoorProg
import Derived.KernelRfl
namespace Go.AL.Fun
open Go.AL


def f12 : AFun := ⟨87, 3, [.slot 6],
  (.seq (.run [0, 1, 2] [⟨some 6, .mv, [.const (.bool false)], none⟩])
   (.seq (.seq (.run [0, 1, 2, 14] [⟨some 12, .mv, [.tmp 1], none⟩,
       ⟨some 13, (.len 0), [.tmp 12], none⟩,
       ⟨some 14, (.bin .gtr), [.tmp 13, .const (.int .i64 5000)], none⟩])
     (.cond (.tmp 14)
      (.seq (.run [6] [⟨some 15, (.call 26), [], none⟩,
         ⟨some 6, .mv, [.tmp 15], none⟩])
       .ret)
      .skip))
    (.seq (.run [1, 2, 7, 8] [⟨some 17, .mv, [.tmp 0], none⟩,
       ⟨some 18, (.cvi .i64), [.tmp 17], none⟩,
       ⟨some 19, (.bin .rem), [.tmp 18, .const (.int .i64 5)], none⟩,
       ⟨some 20, (.call 25), [.tmp 19], none⟩,
       ⟨some 16, .mv, [.tmp 20], none⟩,
       ⟨some 21, (.ext 0), [.tmp 16], none⟩,
       ⟨some 22, (.ext 1), [.tmp 16], none⟩,
       ⟨some 7, .mv, [.tmp 21], none⟩,
       ⟨some 8, .mv, [.tmp 22], none⟩])
     (.seq (.seq (.run [2, 7, 40] [⟨some 23, .mv, [.tmp 8], none⟩,
         ⟨some 24, (.eqg true 6), [.tmp 23, .const (.int .i64 0)], none⟩,
         ⟨some 25, .mv, [.tmp 24], none⟩,
         ⟨some 26, .mv, [.tmp 7], some (25, false)⟩,
         ⟨some 27, (.eqg false 1), [.tmp 26, .const (.pointer none)], some (25, false)⟩,
         ⟨some 28, .pick, [.tmp 25, .const (.bool true), .tmp 27], none⟩,
         ⟨some 29, .mv, [.tmp 28], none⟩,
         ⟨some 30, .mv, [.tmp 7], some (29, false)⟩,
         ⟨some 31, .mv, [.tmp 1], some (29, false)⟩,
         ⟨some 32, .sb, [.tmp 31], some (29, false)⟩,
         ⟨some 33, (.call 29), [.tmp 30, .tmp 32], some (29, false)⟩,
         ⟨some 34, (.eqg true 6), [.tmp 33, .const (.int .i64 0)], some (29, false)⟩,
         ⟨some 35, .pick, [.tmp 29, .const (.bool true), .tmp 34], none⟩,
         ⟨some 36, .mv, [.tmp 35], none⟩,
         ⟨some 37, .mv, [.tmp 7], some (36, false)⟩,
         ⟨some 38, (.call 30), [.tmp 37], some (36, false)⟩,
         ⟨some 39, (.eqg true 6), [.tmp 38, .const (.int .i64 0)], some (36, false)⟩,
         ⟨some 40, .pick, [.tmp 36, .const (.bool true), .tmp 39], none⟩])
       (.cond (.tmp 40)
        (.seq (.run [6] [⟨some 6, .mv, [.const (.bool false)], none⟩])
         .ret)
        .skip))
      (.seq (.run [2, 7, 9] [⟨some 41, .mv, [.tmp 7], none⟩,
         ⟨some 42, (.call 27), [.tmp 41], none⟩,
         ⟨some 9, .mv, [.tmp 42], none⟩])
       (.seq (.run [2, 7, 9, 10] [⟨some 43, .mv, [.tmp 7], none⟩,
          ⟨some 44, .mv, [.tmp 2], none⟩,
          ⟨some 45, (.call 31), [.tmp 43, .tmp 44], none⟩,
          ⟨some 10, .mv, [.tmp 45], none⟩])
        (.seq (.run [7, 9, 10, 11] [⟨some 46, .mv, [.tmp 2], none⟩,
           ⟨some 47, .mv, [.tmp 9], none⟩,
           ⟨some 48, .min, [.tmp 46, .tmp 47], none⟩,
           ⟨some 49, .max, [.const (.int .i64 0), .tmp 48], none⟩,
           ⟨some 11, .mv, [.tmp 49], none⟩])
         (.seq (.run [6] [⟨some 50, (.call 26), [], none⟩,
            ⟨some 51, .mv, [.tmp 50], none⟩,
            ⟨some 52, .mv, [.tmp 10], some (51, true)⟩,
            ⟨some 53, (.len 1), [.tmp 52], some (51, true)⟩,
            ⟨some 54, .mv, [.tmp 11], some (51, true)⟩,
            ⟨some 55, (.eqg false 6), [.tmp 53, .tmp 54], some (51, true)⟩,
            ⟨some 56, .pick, [.tmp 51, .tmp 55, .const (.bool false)], none⟩,
            ⟨some 57, .mv, [.tmp 56], none⟩,
            ⟨some 58, .mv, [.tmp 7], some (57, true)⟩,
            ⟨some 59, (.call 27), [.tmp 58], some (57, true)⟩,
            ⟨some 60, .mv, [.tmp 9], some (57, true)⟩,
            ⟨some 61, .mv, [.tmp 11], some (57, true)⟩,
            ⟨some 62, (.bin .sub), [.tmp 60, .tmp 61], some (57, true)⟩,
            ⟨some 63, (.eqg false 6), [.tmp 59, .tmp 62], some (57, true)⟩,
            ⟨some 64, .pick, [.tmp 57, .tmp 63, .const (.bool false)], none⟩,
            ⟨some 65, .mv, [.tmp 64], none⟩,
            ⟨some 66, .mv, [.tmp 7], some (65, true)⟩,
            ⟨some 67, (.call 28), [.tmp 66], some (65, true)⟩,
            ⟨some 68, .mv, [.tmp 9], some (65, true)⟩,
            ⟨some 69, .mv, [.tmp 11], some (65, true)⟩,
            ⟨some 70, (.eqg false 6), [.tmp 68, .tmp 69], some (65, true)⟩,
            ⟨some 71, (.eqg false 0), [.tmp 67, .tmp 70], some (65, true)⟩,
            ⟨some 72, .pick, [.tmp 65, .tmp 71, .const (.bool false)], none⟩,
            ⟨some 73, .mv, [.tmp 72], none⟩,
            ⟨some 74, .mv, [.tmp 7], some (73, true)⟩,
            ⟨some 75, (.call 31), [.tmp 74, .const (.int .i64 (-1))], some (73, true)⟩,
            ⟨some 76, (.len 1), [.tmp 75], some (73, true)⟩,
            ⟨some 77, (.eqg false 6), [.tmp 76, .const (.int .i64 0)], some (73, true)⟩,
            ⟨some 78, .pick, [.tmp 73, .tmp 77, .const (.bool false)], none⟩,
            ⟨some 79, .mv, [.tmp 78], none⟩,
            ⟨some 80, .mv, [.tmp 7], some (79, true)⟩,
            ⟨some 81, (.call 27), [.tmp 80], some (79, true)⟩,
            ⟨some 82, .mv, [.tmp 9], some (79, true)⟩,
            ⟨some 83, .mv, [.tmp 11], some (79, true)⟩,
            ⟨some 84, (.bin .sub), [.tmp 82, .tmp 83], some (79, true)⟩,
            ⟨some 85, (.eqg false 6), [.tmp 81, .tmp 84], some (79, true)⟩,
            ⟨some 86, .pick, [.tmp 79, .tmp 85, .const (.bool false)], none⟩,
            ⟨some 6, .mv, [.tmp 86], none⟩])
          .ret))))))))⟩

theorem f12_ok : compF Go.Proofs.Tryd.prog 12 f12.body.hints = some f12 := by kernel_rfl

end Go.AL.Fun
