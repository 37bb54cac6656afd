/- The functions of this seat's program, turned. Printed by a program; each is checked against the program. -/
import Derived.Test.YtcmgeflfapffoaaDoorF1
import Derived.Test.YtcmgeflfapffoaaDoorProg
import Derived.KernelRfl
namespace Go.AL.Fun
open Go.AL


def f8 : AFun := ⟨116, 2, [.slot 4],
  (.seq (.run [0, 1] [⟨some 4, .mv, [.const (.bool false)], none⟩])
   (.seq (.run [0, 1, 5, 6] [⟨some 10, (.call 14), [.const (.int .i64 65536)], none⟩,
      ⟨some 9, .mv, [.tmp 10], none⟩,
      ⟨some 11, (.ext 0), [.tmp 9], none⟩,
      ⟨some 12, (.ext 1), [.tmp 9], none⟩,
      ⟨some 5, .mv, [.tmp 11], none⟩,
      ⟨some 6, .mv, [.tmp 12], none⟩])
    (.seq (.seq (.run [0, 1, 5, 6, 28] [⟨some 13, .mv, [.tmp 6], none⟩,
        ⟨some 14, (.eqg true 6), [.tmp 13, .const (.int .i64 0)], none⟩,
        ⟨some 15, .mv, [.tmp 14], none⟩,
        ⟨some 16, .mv, [.tmp 5], some (15, false)⟩,
        ⟨some 17, (.eqg false 1), [.tmp 16, .const (.pointer none)], some (15, false)⟩,
        ⟨some 18, .pick, [.tmp 15, .const (.bool true), .tmp 17], none⟩,
        ⟨some 19, .mv, [.tmp 18], none⟩,
        ⟨some 20, .mv, [.tmp 0], some (19, false)⟩,
        ⟨some 21, (.len 1), [.tmp 20], some (19, false)⟩,
        ⟨some 22, (.eqg false 6), [.tmp 21, .const (.int .i64 0)], some (19, false)⟩,
        ⟨some 23, .pick, [.tmp 19, .const (.bool true), .tmp 22], none⟩,
        ⟨some 24, .mv, [.tmp 23], none⟩,
        ⟨some 25, .mv, [.tmp 0], some (24, false)⟩,
        ⟨some 26, (.len 1), [.tmp 25], some (24, false)⟩,
        ⟨some 27, (.bin .gtr), [.tmp 26, .const (.int .i64 65536)], some (24, false)⟩,
        ⟨some 28, .pick, [.tmp 24, .const (.bool true), .tmp 27], none⟩])
      (.cond (.tmp 28)
       (.seq (.run [4] [⟨some 29, (.call 11), [], none⟩,
          ⟨some 30, .mv, [.tmp 29], none⟩,
          ⟨some 31, .mv, [.tmp 6], some (30, true)⟩,
          ⟨some 32, (.eqg false 6), [.tmp 31, .const (.int .i64 0)], some (30, true)⟩,
          ⟨some 33, .pick, [.tmp 30, .tmp 32, .const (.bool false)], none⟩,
          ⟨some 34, .mv, [.tmp 33], none⟩,
          ⟨some 35, .mv, [.tmp 5], some (34, true)⟩,
          ⟨some 36, (.eqg true 1), [.tmp 35, .const (.pointer none)], some (34, true)⟩,
          ⟨some 37, .pick, [.tmp 34, .tmp 36, .const (.bool false)], none⟩,
          ⟨some 4, .mv, [.tmp 37], none⟩])
        .ret)
       .skip))
     (.seq (.seq (.run [1, 5, 41] [⟨some 38, .mv, [.tmp 5], none⟩,
         ⟨some 39, .mv, [.tmp 0], none⟩,
         ⟨some 40, (.call 15), [.tmp 38, .tmp 39], none⟩,
         ⟨some 41, (.eqg true 6), [.tmp 40, .const (.int .i64 0)], none⟩])
       (.cond (.tmp 41)
        (.seq (.run [4] [⟨some 4, .mv, [.const (.bool false)], none⟩])
         .ret)
        .skip))
      (.seq (.run [1, 5, 7] [⟨some 42, .mv, [.tmp 5], none⟩,
         ⟨some 43, (.call 16), [.tmp 42], none⟩,
         ⟨some 7, .mv, [.tmp 43], none⟩])
       (.seq (.run [5, 7, 8] [⟨some 44, .mv, [.tmp 1], none⟩,
          ⟨some 45, (.cvi .i64), [.tmp 44], none⟩,
          ⟨some 46, .mv, [.tmp 7], none⟩,
          ⟨some 47, (.len 1), [.tmp 46], none⟩,
          ⟨some 48, .max, [.const (.int .i64 1), .tmp 47], none⟩,
          ⟨some 49, (.bin .rem), [.tmp 45, .tmp 48], none⟩,
          ⟨some 8, .mv, [.tmp 49], none⟩])
        (.seq (.seq (.run [5, 7, 8, 79] [⟨some 50, .mv, [.tmp 5], none⟩,
            ⟨some 51, .mv, [.tmp 8], none⟩,
            ⟨some 52, (.call 20), [.tmp 50, .tmp 51], none⟩,
            ⟨some 53, (.eqg true 6), [.tmp 52, .const (.int .i64 0)], none⟩,
            ⟨some 54, .mv, [.tmp 53], none⟩,
            ⟨some 55, .mv, [.tmp 5], some (54, false)⟩,
            ⟨some 56, (.bslice 1 1 [(.int .u8 0)] [(0, 1)]), [.const (.int .u8 1)], some (54, false)⟩,
            ⟨some 57, (.call 15), [.tmp 55, .tmp 56], some (54, false)⟩,
            ⟨some 58, (.eqg true 6), [.tmp 57, .const (.int .i64 4)], some (54, false)⟩,
            ⟨some 59, .pick, [.tmp 54, .const (.bool true), .tmp 58], none⟩,
            ⟨some 60, .mv, [.tmp 59], none⟩,
            ⟨some 61, .mv, [.tmp 5], some (60, false)⟩,
            ⟨some 62, (.call 19), [.tmp 61], some (60, false)⟩,
            ⟨some 63, (.eqg true 6), [.tmp 62, .const (.int .i64 4)], some (60, false)⟩,
            ⟨some 64, .pick, [.tmp 60, .const (.bool true), .tmp 63], none⟩,
            ⟨some 65, .mv, [.tmp 64], none⟩,
            ⟨some 66, .mv, [.tmp 5], some (65, false)⟩,
            ⟨some 67, .mv, [.tmp 7], some (65, false)⟩,
            ⟨some 68, (.len 1), [.tmp 67], some (65, false)⟩,
            ⟨some 69, .mv, [.tmp 8], some (65, false)⟩,
            ⟨some 70, (.bin .sub), [.tmp 68, .tmp 69], some (65, false)⟩,
            ⟨some 71, (.bin .add), [.tmp 70, .const (.int .i64 1)], some (65, false)⟩,
            ⟨some 72, (.call 20), [.tmp 66, .tmp 71], some (65, false)⟩,
            ⟨some 73, (.eqg true 6), [.tmp 72, .const (.int .i64 3)], some (65, false)⟩,
            ⟨some 74, .pick, [.tmp 65, .const (.bool true), .tmp 73], none⟩,
            ⟨some 75, .mv, [.tmp 74], none⟩,
            ⟨some 76, .mv, [.tmp 5], some (75, false)⟩,
            ⟨some 77, (.call 20), [.tmp 76, .const (.int .i64 (-1))], some (75, false)⟩,
            ⟨some 78, (.eqg true 6), [.tmp 77, .const (.int .i64 3)], some (75, false)⟩,
            ⟨some 79, .pick, [.tmp 75, .const (.bool true), .tmp 78], none⟩])
          (.cond (.tmp 79)
           (.seq (.run [4] [⟨some 4, .mv, [.const (.bool false)], none⟩])
            .ret)
           .skip))
         (.seq (.runD [4] [⟨0, ⟨some 80, (.call 11), [], none⟩, []⟩,
            ⟨1, ⟨some 81, .mv, [.tmp 80], none⟩, []⟩,
            ⟨2, ⟨some 82, .mv, [.tmp 7], some (81, true)⟩, []⟩,
            ⟨3, ⟨some 83, (.len 1), [.tmp 82], some (81, true)⟩, []⟩,
            ⟨4, ⟨some 84, .mv, [.tmp 8], some (81, true)⟩, []⟩,
            ⟨5, ⟨some 85, (.bin .gtr), [.tmp 83, .tmp 84], some (81, true)⟩, []⟩,
            ⟨6, ⟨some 86, .pick, [.tmp 81, .tmp 85, .const (.bool false)], none⟩, []⟩,
            ⟨7, ⟨some 87, .mv, [.tmp 86], none⟩, []⟩,
            ⟨8, ⟨some 88, .mv, [.tmp 5], some (87, true)⟩, []⟩,
            ⟨11, ⟨some 91, .mv, [.tmp 7], some (87, true)⟩, []⟩,
            ⟨12, ⟨some 92, .mv, [.tmp 8], some (87, true)⟩, []⟩,
            ⟨13, ⟨some 93, (.slc 1 true false), [.tmp 91, .tmp 92], some (87, true)⟩, []⟩,
            ⟨14, ⟨some 94, .cvb, [.tmp 93], some (87, true)⟩, []⟩,
            ⟨9, ⟨some 89, (.call 16), [.tmp 88], some (87, true)⟩, [14]⟩,
            ⟨10, ⟨some 90, .cvb, [.tmp 89], some (87, true)⟩, []⟩,
            ⟨15, ⟨some 95, (.eqg false 6), [.tmp 90, .tmp 94], some (87, true)⟩, []⟩,
            ⟨16, ⟨some 96, .pick, [.tmp 87, .tmp 95, .const (.bool false)], none⟩, []⟩,
            ⟨17, ⟨some 97, .mv, [.tmp 96], none⟩, []⟩,
            ⟨18, ⟨some 98, .mv, [.tmp 5], some (97, true)⟩, []⟩,
            ⟨19, ⟨some 99, (.call 21), [.tmp 98], some (97, true)⟩, []⟩,
            ⟨20, ⟨some 100, (.un .not), [.tmp 99], some (97, true)⟩, []⟩,
            ⟨21, ⟨some 101, .pick, [.tmp 97, .tmp 100, .const (.bool false)], none⟩, []⟩,
            ⟨22, ⟨some 102, .mv, [.tmp 101], none⟩, []⟩,
            ⟨23, ⟨some 103, .mv, [.tmp 5], some (102, true)⟩, []⟩,
            ⟨24, ⟨some 104, .mv, [.tmp 7], some (102, true)⟩, []⟩,
            ⟨25, ⟨some 105, (.len 1), [.tmp 104], some (102, true)⟩, []⟩,
            ⟨26, ⟨some 106, .mv, [.tmp 8], some (102, true)⟩, []⟩,
            ⟨27, ⟨some 107, (.bin .sub), [.tmp 105, .tmp 106], some (102, true)⟩, []⟩,
            ⟨28, ⟨some 108, (.call 20), [.tmp 103, .tmp 107], some (102, true)⟩, []⟩,
            ⟨29, ⟨some 109, (.eqg false 6), [.tmp 108, .const (.int .i64 0)], some (102, true)⟩, []⟩,
            ⟨30, ⟨some 110, .pick, [.tmp 102, .tmp 109, .const (.bool false)], none⟩, []⟩,
            ⟨31, ⟨some 111, .mv, [.tmp 110], none⟩, []⟩,
            ⟨32, ⟨some 112, .mv, [.tmp 5], some (111, true)⟩, []⟩,
            ⟨33, ⟨some 113, (.call 19), [.tmp 112], some (111, true)⟩, []⟩,
            ⟨34, ⟨some 114, (.eqg false 6), [.tmp 113, .const (.int .i64 0)], some (111, true)⟩, []⟩,
            ⟨35, ⟨some 115, .pick, [.tmp 111, .tmp 114, .const (.bool false)], none⟩, []⟩,
            ⟨36, ⟨some 4, .mv, [.tmp 115], none⟩, []⟩])
          .ret))))))))⟩

theorem f8_ok : compF Go.Proofs.Tryd.prog 8 f8.body.hints = some f8 := by kernel_rfl

end Go.AL.Fun
