/- The functions of this seat's program, turned. Printed by a program; each is checked against the program. -/
import Derived.Test.YtcmgeflfapffoaaDoorF2
import Derived.Test.YtcmgeflfapffoaaDoorProg
import Derived.KernelRfl
namespace Go.AL.Fun
open Go.AL


def f10 : AFun := ⟨86, 2, [.slot 4],
  (.seq (.run [0, 1] [⟨some 4, .mv, [.const (.bool false)], none⟩])
   (.seq (.run [0, 1, 5, 6] [⟨some 10, .mv, [.tmp 0], none⟩,
      ⟨some 11, (.call 12), [.tmp 10, .const (.int .i64 7)], none⟩,
      ⟨some 9, .mv, [.tmp 11], none⟩,
      ⟨some 12, (.ext 0), [.tmp 9], none⟩,
      ⟨some 13, (.ext 1), [.tmp 9], none⟩,
      ⟨some 5, .mv, [.tmp 12], none⟩,
      ⟨some 6, .mv, [.tmp 13], none⟩])
    (.seq (.run [0, 1, 5, 6, 7] [⟨some 14, (.call 28), [], none⟩,
       ⟨some 7, .mv, [.tmp 14], none⟩])
     (.seq (.seq (.run [0, 1, 5, 6, 7, 30] [⟨some 15, .mv, [.tmp 0], none⟩,
         ⟨some 16, (.len 1), [.tmp 15], none⟩,
         ⟨some 17, (.bin .gtr), [.tmp 16, .const (.int .i64 2000)], none⟩,
         ⟨some 18, .mv, [.tmp 17], none⟩,
         ⟨some 19, .mv, [.tmp 1], some (18, false)⟩,
         ⟨some 20, (.len 1), [.tmp 19], some (18, false)⟩,
         ⟨some 21, (.bin .gtr), [.tmp 20, .const (.int .i64 2000)], some (18, false)⟩,
         ⟨some 22, .pick, [.tmp 18, .const (.bool true), .tmp 21], none⟩,
         ⟨some 23, .mv, [.tmp 22], none⟩,
         ⟨some 24, .mv, [.tmp 6], some (23, false)⟩,
         ⟨some 25, (.eqg true 6), [.tmp 24, .const (.int .i64 0)], some (23, false)⟩,
         ⟨some 26, .pick, [.tmp 23, .const (.bool true), .tmp 25], none⟩,
         ⟨some 27, .mv, [.tmp 26], none⟩,
         ⟨some 28, .mv, [.tmp 7], some (27, false)⟩,
         ⟨some 29, (.eqg false 1), [.tmp 28, .const (.pointer none)], some (27, false)⟩,
         ⟨some 30, .pick, [.tmp 27, .const (.bool true), .tmp 29], none⟩])
       (.cond (.tmp 30)
        (.seq (.run [4] [⟨some 31, (.call 26), [], none⟩,
           ⟨some 32, .mv, [.tmp 31], none⟩,
           ⟨some 33, .mv, [.tmp 6], some (32, true)⟩,
           ⟨some 34, (.eqg false 6), [.tmp 33, .const (.int .i64 0)], some (32, true)⟩,
           ⟨some 35, .pick, [.tmp 32, .tmp 34, .const (.bool false)], none⟩,
           ⟨some 4, .mv, [.tmp 35], none⟩])
         .ret)
        .skip))
      (.seq (.seq (.run [0, 1, 5, 7, 54] [⟨some 36, .mv, [.tmp 7], none⟩,
          ⟨some 37, .mv, [.tmp 5], none⟩,
          ⟨some 38, (.call 29), [.tmp 36, .tmp 37], none⟩,
          ⟨some 39, (.eqg true 6), [.tmp 38, .const (.int .i64 0)], none⟩,
          ⟨some 40, .mv, [.tmp 39], none⟩,
          ⟨some 41, .mv, [.tmp 7], some (40, false)⟩,
          ⟨some 42, (.call 30), [.tmp 41], some (40, false)⟩,
          ⟨some 43, (.un .not), [.tmp 42], some (40, false)⟩,
          ⟨some 44, .pick, [.tmp 40, .const (.bool true), .tmp 43], none⟩,
          ⟨some 45, .mv, [.tmp 44], none⟩,
          ⟨some 46, .mv, [.tmp 7], some (45, false)⟩,
          ⟨some 47, (.call 31), [.tmp 46], some (45, false)⟩,
          ⟨some 48, (.un .not), [.tmp 47], some (45, false)⟩,
          ⟨some 49, .pick, [.tmp 45, .const (.bool true), .tmp 48], none⟩,
          ⟨some 50, .mv, [.tmp 49], none⟩,
          ⟨some 51, .mv, [.tmp 7], some (50, false)⟩,
          ⟨some 52, (.call 29), [.tmp 51, .const (.slice none 0 0)], some (50, false)⟩,
          ⟨some 53, (.eqg true 6), [.tmp 52, .const (.int .i64 0)], some (50, false)⟩,
          ⟨some 54, .pick, [.tmp 50, .const (.bool true), .tmp 53], none⟩])
        (.cond (.tmp 54)
         (.seq (.run [4] [⟨some 4, .mv, [.const (.bool false)], none⟩])
          .ret)
         .skip))
       (.seq (.run [0, 1, 5, 7, 8] [⟨some 55, .mv, [.tmp 7], none⟩,
          ⟨some 56, .mv, [.tmp 1], none⟩,
          ⟨some 57, (.call 29), [.tmp 55, .tmp 56], none⟩,
          ⟨some 8, .mv, [.tmp 57], none⟩])
        (.seq (.runD [4] [⟨0, ⟨some 58, (.call 26), [], none⟩, []⟩,
           ⟨1, ⟨some 59, .mv, [.tmp 58], none⟩, []⟩,
           ⟨2, ⟨some 60, .mv, [.tmp 8], some (59, true)⟩, []⟩,
           ⟨3, ⟨some 61, (.eqg false 6), [.tmp 60, .const (.int .i64 8)], some (59, true)⟩, []⟩,
           ⟨4, ⟨some 62, .mv, [.tmp 1], some (59, true)⟩, []⟩,
           ⟨5, ⟨some 63, (.len 1), [.tmp 62], some (59, true)⟩, []⟩,
           ⟨6, ⟨some 64, (.bin .gtr), [.tmp 63, .const (.int .i64 0)], some (59, true)⟩, []⟩,
           ⟨7, ⟨some 65, (.eqg false 0), [.tmp 61, .tmp 64], some (59, true)⟩, []⟩,
           ⟨8, ⟨some 66, .pick, [.tmp 59, .tmp 65, .const (.bool false)], none⟩, []⟩,
           ⟨9, ⟨some 67, .mv, [.tmp 66], none⟩, []⟩,
           ⟨10, ⟨some 68, .mv, [.tmp 7], some (67, true)⟩, []⟩,
           ⟨11, ⟨some 69, (.call 30), [.tmp 68], some (67, true)⟩, []⟩,
           ⟨12, ⟨some 70, .pick, [.tmp 67, .tmp 69, .const (.bool false)], none⟩, []⟩,
           ⟨13, ⟨some 71, .mv, [.tmp 70], none⟩, []⟩,
           ⟨14, ⟨some 72, .mv, [.tmp 7], some (71, true)⟩, []⟩,
           ⟨17, ⟨some 75, .mv, [.tmp 0], some (71, true)⟩, []⟩,
           ⟨18, ⟨some 76, .cvb, [.tmp 75], some (71, true)⟩, []⟩,
           ⟨15, ⟨some 73, (.call 32), [.tmp 72], some (71, true)⟩, [18]⟩,
           ⟨16, ⟨some 74, .cvb, [.tmp 73], some (71, true)⟩, []⟩,
           ⟨19, ⟨some 77, (.eqg false 6), [.tmp 74, .tmp 76], some (71, true)⟩, []⟩,
           ⟨20, ⟨some 78, .pick, [.tmp 71, .tmp 77, .const (.bool false)], none⟩, []⟩,
           ⟨21, ⟨some 79, .mv, [.tmp 78], none⟩, []⟩,
           ⟨22, ⟨some 80, .mv, [.tmp 7], some (79, true)⟩, []⟩,
           ⟨24, ⟨some 82, .mv, [.tmp 5], some (79, true)⟩, []⟩,
           ⟨25, ⟨some 83, (.len 1), [.tmp 82], some (79, true)⟩, []⟩,
           ⟨23, ⟨some 81, (.call 33), [.tmp 80], some (79, true)⟩, []⟩,
           ⟨26, ⟨some 84, (.eqg false 6), [.tmp 81, .tmp 83], some (79, true)⟩, []⟩,
           ⟨27, ⟨some 85, .pick, [.tmp 79, .tmp 84, .const (.bool false)], none⟩, []⟩,
           ⟨28, ⟨some 4, .mv, [.tmp 85], none⟩, []⟩])
         .ret)))))))⟩

theorem f10_ok : compF Go.Proofs.Tryd.prog 10 f10.body.hints = some f10 := by kernel_rfl

end Go.AL.Fun
