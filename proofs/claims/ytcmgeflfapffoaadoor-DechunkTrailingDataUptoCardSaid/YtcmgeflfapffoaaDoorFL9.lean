/- The functions of this seat's program, turned. Printed by a program; each is checked against the program. -/
import Derived.Test.YtcmgeflfapffoaaDoorF2
import Derived.Test.YtcmgeflfapffoaaDoorProg
import Derived.KernelRfl
namespace Go.AL.Fun
open Go.AL


def f9 : AFun := ⟨98, 3, [.slot 6],
  (.seq (.run [0, 1, 2] [⟨some 6, .mv, [.const (.bool false)], none⟩])
   (.seq (.seq (.run [0, 1, 2, 18] [⟨some 16, .mv, [.tmp 0], none⟩,
       ⟨some 17, (.len 1), [.tmp 16], none⟩,
       ⟨some 18, (.bin .gtr), [.tmp 17, .const (.int .i64 2000)], none⟩])
     (.cond (.tmp 18)
      (.seq (.run [6] [⟨some 19, (.call 26), [], none⟩,
         ⟨some 6, .mv, [.tmp 19], none⟩])
       .ret)
      .skip))
    (.seq (.run [0, 2, 7, 8] [⟨some 21, .mv, [.tmp 0], none⟩,
       ⟨some 22, .mv, [.tmp 1], none⟩,
       ⟨some 23, (.cvi .i64), [.tmp 22], none⟩,
       ⟨some 24, (.bin .add), [.const (.int .i64 1), .tmp 23], none⟩,
       ⟨some 25, (.call 12), [.tmp 21, .tmp 24], none⟩,
       ⟨some 20, .mv, [.tmp 25], none⟩,
       ⟨some 26, (.ext 0), [.tmp 20], none⟩,
       ⟨some 27, (.ext 1), [.tmp 20], none⟩,
       ⟨some 7, .mv, [.tmp 26], none⟩,
       ⟨some 8, .mv, [.tmp 27], none⟩])
     (.seq (.run [0, 2, 7, 8, 9, 10, 11] [⟨some 29, .mv, [.tmp 7], none⟩,
        ⟨some 30, (.call 27), [.tmp 29], none⟩,
        ⟨some 28, .mv, [.tmp 30], none⟩,
        ⟨some 31, (.ext 0), [.tmp 28], none⟩,
        ⟨some 32, (.ext 1), [.tmp 28], none⟩,
        ⟨some 33, (.ext 2), [.tmp 28], none⟩,
        ⟨some 9, .mv, [.tmp 31], none⟩,
        ⟨some 10, .mv, [.tmp 32], none⟩,
        ⟨some 11, .mv, [.tmp 33], none⟩])
      (.seq (.seq (.run [0, 2, 7, 55] [⟨some 34, .mv, [.tmp 8], none⟩,
          ⟨some 35, (.eqg true 6), [.tmp 34, .const (.int .i64 0)], none⟩,
          ⟨some 36, .mv, [.tmp 35], none⟩,
          ⟨some 37, .mv, [.tmp 11], some (36, false)⟩,
          ⟨some 38, (.eqg true 6), [.tmp 37, .const (.int .i64 0)], some (36, false)⟩,
          ⟨some 39, .pick, [.tmp 36, .const (.bool true), .tmp 38], none⟩,
          ⟨some 40, .mv, [.tmp 39], none⟩,
          ⟨some 41, .mv, [.tmp 10], some (40, false)⟩,
          ⟨some 42, (.un .not), [.tmp 41], some (40, false)⟩,
          ⟨some 43, .pick, [.tmp 40, .const (.bool true), .tmp 42], none⟩,
          ⟨some 44, .mv, [.tmp 43], none⟩,
          ⟨some 45, .mv, [.tmp 9], some (44, false)⟩,
          ⟨some 46, .cvb, [.tmp 45], some (44, false)⟩,
          ⟨some 47, .mv, [.tmp 0], some (44, false)⟩,
          ⟨some 48, .cvb, [.tmp 47], some (44, false)⟩,
          ⟨some 49, (.eqg true 6), [.tmp 46, .tmp 48], some (44, false)⟩,
          ⟨some 50, .pick, [.tmp 44, .const (.bool true), .tmp 49], none⟩,
          ⟨some 51, .mv, [.tmp 50], none⟩,
          ⟨some 52, .mv, [.tmp 7], some (51, false)⟩,
          ⟨some 53, (.len 1), [.tmp 52], some (51, false)⟩,
          ⟨some 54, (.bin .lss), [.tmp 53, .const (.int .i64 5)], some (51, false)⟩,
          ⟨some 55, .pick, [.tmp 51, .const (.bool true), .tmp 54], none⟩])
        (.cond (.tmp 55)
         (.seq (.run [6] [⟨some 6, .mv, [.const (.bool false)], none⟩])
          .ret)
         .skip))
       (.seq (.run [0, 7, 12] [⟨some 56, .mv, [.tmp 2], none⟩,
          ⟨some 57, (.cvi .i64), [.tmp 56], none⟩,
          ⟨some 58, .mv, [.tmp 7], none⟩,
          ⟨some 59, (.len 1), [.tmp 58], none⟩,
          ⟨some 60, (.bin .rem), [.tmp 57, .tmp 59], none⟩,
          ⟨some 12, .mv, [.tmp 60], none⟩])
        (.seq (.run [0, 13, 14, 15] [⟨some 62, .mv, [.tmp 7], none⟩,
           ⟨some 63, .mv, [.tmp 12], none⟩,
           ⟨some 64, (.slc 1 false true), [.tmp 62, .tmp 63], none⟩,
           ⟨some 65, (.call 27), [.tmp 64], none⟩,
           ⟨some 61, .mv, [.tmp 65], none⟩,
           ⟨some 66, (.ext 0), [.tmp 61], none⟩,
           ⟨some 67, (.ext 1), [.tmp 61], none⟩,
           ⟨some 68, (.ext 2), [.tmp 61], none⟩,
           ⟨some 13, .mv, [.tmp 66], none⟩,
           ⟨some 14, .mv, [.tmp 67], none⟩,
           ⟨some 15, .mv, [.tmp 68], none⟩])
         (.seq (.runD [6] [⟨0, ⟨some 69, (.call 26), [], none⟩, []⟩,
            ⟨1, ⟨some 70, .mv, [.tmp 69], none⟩, []⟩,
            ⟨2, ⟨some 71, .mv, [.tmp 15], some (70, true)⟩, []⟩,
            ⟨3, ⟨some 72, (.eqg false 6), [.tmp 71, .const (.int .i64 0)], some (70, true)⟩, []⟩,
            ⟨4, ⟨some 73, .pick, [.tmp 70, .tmp 72, .const (.bool false)], none⟩, []⟩,
            ⟨5, ⟨some 74, .mv, [.tmp 73], none⟩, []⟩,
            ⟨6, ⟨some 75, .mv, [.tmp 14], some (74, true)⟩, []⟩,
            ⟨7, ⟨some 76, (.un .not), [.tmp 75], some (74, true)⟩, []⟩,
            ⟨8, ⟨some 77, .pick, [.tmp 74, .tmp 76, .const (.bool false)], none⟩, []⟩,
            ⟨9, ⟨some 78, .mv, [.tmp 77], none⟩, []⟩,
            ⟨10, ⟨some 79, .mv, [.tmp 13], some (78, true)⟩, []⟩,
            ⟨11, ⟨some 80, (.len 1), [.tmp 79], some (78, true)⟩, []⟩,
            ⟨12, ⟨some 81, .mv, [.tmp 0], some (78, true)⟩, []⟩,
            ⟨13, ⟨some 82, (.len 1), [.tmp 81], some (78, true)⟩, []⟩,
            ⟨14, ⟨some 83, (.bin .leq), [.tmp 80, .tmp 82], some (78, true)⟩, []⟩,
            ⟨15, ⟨some 84, .pick, [.tmp 78, .tmp 83, .const (.bool false)], none⟩, []⟩,
            ⟨16, ⟨some 85, .mv, [.tmp 84], none⟩, []⟩,
            ⟨17, ⟨some 86, .mv, [.tmp 13], some (85, true)⟩, []⟩,
            ⟨18, ⟨some 87, .cvb, [.tmp 86], some (85, true)⟩, []⟩,
            ⟨19, ⟨some 88, .mv, [.tmp 0], some (85, true)⟩, []⟩,
            ⟨20, ⟨some 89, .mv, [.tmp 13], some (85, true)⟩, []⟩,
            ⟨21, ⟨some 90, (.len 1), [.tmp 89], some (85, true)⟩, []⟩,
            ⟨22, ⟨some 91, .mv, [.tmp 0], some (85, true)⟩, []⟩,
            ⟨23, ⟨some 92, (.len 1), [.tmp 91], some (85, true)⟩, []⟩,
            ⟨24, ⟨some 93, .min, [.tmp 90, .tmp 92], some (85, true)⟩, []⟩,
            ⟨25, ⟨some 94, (.slc 1 false true), [.tmp 88, .tmp 93], some (85, true)⟩, []⟩,
            ⟨26, ⟨some 95, .cvb, [.tmp 94], some (85, true)⟩, []⟩,
            ⟨27, ⟨some 96, (.eqg false 6), [.tmp 87, .tmp 95], some (85, true)⟩, []⟩,
            ⟨28, ⟨some 97, .pick, [.tmp 85, .tmp 96, .const (.bool false)], none⟩, []⟩,
            ⟨29, ⟨some 6, .mv, [.tmp 97], none⟩, []⟩])
          .ret))))))))⟩

theorem f9_ok : compF Go.Proofs.Tryd.prog 9 f9.body.hints = some f9 := by kernel_rfl

end Go.AL.Fun
