/- The functions of this seat's program, turned. Printed by a program; each is checked against the program. -/
import Derived.Test.YtcaegdcldbggpaaDoorB3
import Derived.Test.YtcaegdcldbggpaaDoorProg
import Derived.KernelRfl
namespace Go.AL.Fun
open Go.AL


def f3 : AFun := ⟨43, 1, [.slot 2],
  (.seq (.run [0] [⟨some 2, .mv, [.const (.bool false)], none⟩])
   (.seq (.seq (.run [0, 11] [⟨some 9, .mv, [.tmp 0], none⟩,
       ⟨some 10, (.len 1), [.tmp 9], none⟩,
       ⟨some 11, (.bin .gtr), [.tmp 10, .const (.int .i64 800)], none⟩])
     (.cond (.tmp 11)
      (.seq (.run [2] [⟨some 12, (.call 11), [], none⟩,
         ⟨some 2, .mv, [.tmp 12], none⟩])
       .ret)
      .skip))
    (.seq (.run [0, 3, 4, 5] [⟨some 14, .mv, [.tmp 0], none⟩,
       ⟨some 15, (.call 12), [.tmp 14], none⟩,
       ⟨some 13, .mv, [.tmp 15], none⟩,
       ⟨some 16, (.ext 0), [.tmp 13], none⟩,
       ⟨some 17, (.ext 1), [.tmp 13], none⟩,
       ⟨some 18, (.ext 2), [.tmp 13], none⟩,
       ⟨some 3, .mv, [.tmp 16], none⟩,
       ⟨some 4, .mv, [.tmp 17], none⟩,
       ⟨some 5, .mv, [.tmp 18], none⟩])
     (.seq (.run [3, 4, 5, 6, 7, 8] [⟨some 20, .mv, [.tmp 0], none⟩,
        ⟨some 21, (.call 13), [.tmp 20], none⟩,
        ⟨some 19, .mv, [.tmp 21], none⟩,
        ⟨some 22, (.ext 0), [.tmp 19], none⟩,
        ⟨some 23, (.ext 1), [.tmp 19], none⟩,
        ⟨some 24, (.ext 2), [.tmp 19], none⟩,
        ⟨some 6, .mv, [.tmp 22], none⟩,
        ⟨some 7, .mv, [.tmp 23], none⟩,
        ⟨some 8, .mv, [.tmp 24], none⟩])
      (.seq (.run [2] [⟨some 25, (.call 11), [], none⟩,
         ⟨some 26, .mv, [.tmp 25], none⟩,
         ⟨some 27, .mv, [.tmp 3], some (26, true)⟩,
         ⟨some 28, .cvb, [.tmp 27], some (26, true)⟩,
         ⟨some 29, .mv, [.tmp 6], some (26, true)⟩,
         ⟨some 30, .cvb, [.tmp 29], some (26, true)⟩,
         ⟨some 31, (.eqg false 6), [.tmp 28, .tmp 30], some (26, true)⟩,
         ⟨some 32, .pick, [.tmp 26, .tmp 31, .const (.bool false)], none⟩,
         ⟨some 33, .mv, [.tmp 32], none⟩,
         ⟨some 34, .mv, [.tmp 4], some (33, true)⟩,
         ⟨some 35, .mv, [.tmp 7], some (33, true)⟩,
         ⟨some 36, (.eqg false 0), [.tmp 34, .tmp 35], some (33, true)⟩,
         ⟨some 37, .pick, [.tmp 33, .tmp 36, .const (.bool false)], none⟩,
         ⟨some 38, .mv, [.tmp 37], none⟩,
         ⟨some 39, .mv, [.tmp 5], some (38, true)⟩,
         ⟨some 40, .mv, [.tmp 8], some (38, true)⟩,
         ⟨some 41, (.eqg false 6), [.tmp 39, .tmp 40], some (38, true)⟩,
         ⟨some 42, .pick, [.tmp 38, .tmp 41, .const (.bool false)], none⟩,
         ⟨some 2, .mv, [.tmp 42], none⟩])
       .ret)))))⟩

theorem f3_ok : compF Go.Proofs.Tryd.prog 3 f3.body.hints = some f3 := by kernel_rfl


def f4 : AFun := ⟨129, 1, [.slot 2],
  (.seq (.run [0] [⟨some 2, .mv, [.const (.bool false)], none⟩])
   (.seq (.run [0, 3] [⟨some 3, .mv, [.const (.pointer none)], none⟩])
    (.seq (.seq (.run [0, 41] [⟨some 14, .mv, [.tmp 3], none⟩,
        ⟨some 15, (.call 14), [.tmp 14, .const (.slice none 0 0)], none⟩,
        ⟨some 16, (.eqg true 6), [.tmp 15, .const (.int .i64 1)], none⟩,
        ⟨some 17, .mv, [.tmp 16], none⟩,
        ⟨some 18, .mv, [.tmp 3], some (17, false)⟩,
        ⟨some 19, (.call 15), [.tmp 18], some (17, false)⟩,
        ⟨some 20, (.len 1), [.tmp 19], some (17, false)⟩,
        ⟨some 21, (.eqg true 6), [.tmp 20, .const (.int .i64 0)], some (17, false)⟩,
        ⟨some 22, .pick, [.tmp 17, .const (.bool true), .tmp 21], none⟩,
        ⟨some 23, .mv, [.tmp 22], none⟩,
        ⟨some 24, .mv, [.tmp 3], some (23, false)⟩,
        ⟨some 25, (.call 16), [.tmp 24], some (23, false)⟩,
        ⟨some 26, (.len 1), [.tmp 25], some (23, false)⟩,
        ⟨some 27, (.eqg true 6), [.tmp 26, .const (.int .i64 0)], some (23, false)⟩,
        ⟨some 28, .pick, [.tmp 23, .const (.bool true), .tmp 27], none⟩,
        ⟨some 29, .mv, [.tmp 28], none⟩,
        ⟨some 30, .mv, [.tmp 3], some (29, false)⟩,
        ⟨some 31, (.call 17), [.tmp 30], some (29, false)⟩,
        ⟨some 32, .pick, [.tmp 29, .const (.bool true), .tmp 31], none⟩,
        ⟨some 33, .mv, [.tmp 32], none⟩,
        ⟨some 34, .mv, [.tmp 3], some (33, false)⟩,
        ⟨some 35, (.call 18), [.tmp 34], some (33, false)⟩,
        ⟨some 36, .pick, [.tmp 33, .const (.bool true), .tmp 35], none⟩,
        ⟨some 37, .mv, [.tmp 36], none⟩,
        ⟨some 38, .mv, [.tmp 3], some (37, false)⟩,
        ⟨some 39, (.call 19), [.tmp 38], some (37, false)⟩,
        ⟨some 40, (.eqg true 6), [.tmp 39, .const (.int .i64 0)], some (37, false)⟩,
        ⟨some 41, .pick, [.tmp 37, .const (.bool true), .tmp 40], none⟩])
      (.cond (.tmp 41)
       (.seq (.run [2] [⟨some 2, .mv, [.const (.bool false)], none⟩])
        .ret)
       .skip))
     (.seq (.run [0, 4] [⟨some 4, .mv, [.const (.int .i64 0)], none⟩])
      (.seq (.seq (.run [0, 4, 42, 43, 44] [⟨some 42, .mv, [.tmp 0], none⟩,
          ⟨some 43, (.len 1), [.tmp 42], none⟩,
          ⟨some 44, .mv, [.const (.int .i64 0)], none⟩])
        (.block 0 (.loop [0, 4, 42, 43, 44] (.seq (.run [0, 4, 42, 43, 44, 45] [⟨some 45, (.bin .lss), [.tmp 44, .tmp 43], none⟩])
           (.seq (.cond (.tmp 45)
             .skip
             (.exit 0))
            (.seq (.block 1 (.seq (.run [0, 4, 6, 42, 43, 44] [⟨some 46, (.iaddr 1), [.tmp 42, .tmp 44], none⟩,
                 ⟨some 47, (.ld false 1), [.tmp 46], none⟩,
                 ⟨some 6, .mv, [.tmp 47], none⟩])
               (.run [0, 4, 42, 43, 44] [⟨some 48, .mv, [.tmp 4], none⟩,
                 ⟨some 49, .mv, [.tmp 6], none⟩,
                 ⟨some 50, (.len 1), [.tmp 49], none⟩,
                 ⟨some 51, (.bin .add), [.tmp 48, .tmp 50], none⟩,
                 ⟨some 4, .mv, [.tmp 51], none⟩])))
             (.run [0, 4, 42, 43, 44] [⟨some 52, (.bin .add), [.tmp 44, .const (.int .i64 1)], none⟩,
               ⟨some 44, .mv, [.tmp 52], none⟩])))))))
       (.seq (.seq (.run [0, 59] [⟨some 53, .mv, [.tmp 4], none⟩,
           ⟨some 54, (.bin .gtr), [.tmp 53, .const (.int .i64 800)], none⟩,
           ⟨some 55, .mv, [.tmp 54], none⟩,
           ⟨some 56, .mv, [.tmp 0], some (55, false)⟩,
           ⟨some 57, (.len 1), [.tmp 56], some (55, false)⟩,
           ⟨some 58, (.bin .gtr), [.tmp 57, .const (.int .i64 100)], some (55, false)⟩,
           ⟨some 59, .pick, [.tmp 55, .const (.bool true), .tmp 58], none⟩])
         (.cond (.tmp 59)
          (.seq (.run [2] [⟨some 60, (.call 11), [], none⟩,
             ⟨some 2, .mv, [.tmp 60], none⟩])
           .ret)
          .skip))
        (.seq (.run [0, 7, 8] [⟨some 61, (.call 20), [], none⟩,
           ⟨some 62, (.build [(.sl [] .nil), (.int .i64 0)] []), [], none⟩,
           ⟨some 63, .box, [.tmp 62], none⟩,
           ⟨some 7, .mv, [.tmp 61], none⟩,
           ⟨some 8, .mv, [.tmp 63], none⟩])
         (.seq (.seq (.run [0, 7, 8, 65] [⟨some 64, .mv, [.tmp 7], none⟩,
             ⟨some 65, (.eqg false 1), [.tmp 64, .const (.pointer none)], none⟩])
           (.cond (.tmp 65)
            (.seq (.run [2] [⟨some 2, .mv, [.const (.bool false)], none⟩])
             .ret)
            .skip))
          (.seq (.seq (.run [7, 8, 66, 67, 68] [⟨some 66, .mv, [.tmp 0], none⟩,
              ⟨some 67, (.len 1), [.tmp 66], none⟩,
              ⟨some 68, .mv, [.const (.int .i64 0)], none⟩])
            (.block 2 (.loop [7, 8, 66, 67, 68] (.seq (.run [7, 8, 66, 67, 68, 69] [⟨some 69, (.bin .lss), [.tmp 68, .tmp 67], none⟩])
               (.seq (.cond (.tmp 69)
                 .skip
                 (.exit 2))
                (.seq (.block 3 (.seq (.run [7, 8, 10, 66, 67, 68] [⟨some 70, (.iaddr 1), [.tmp 66, .tmp 68], none⟩,
                     ⟨some 71, (.ld false 1), [.tmp 70], none⟩,
                     ⟨some 10, .mv, [.tmp 71], none⟩])
                   (.seq (.run [7, 8, 10, 11, 66, 67, 68] [⟨some 72, .mv, [.tmp 7], none⟩,
                      ⟨some 73, .mv, [.tmp 10], none⟩,
                      ⟨some 74, (.call 14), [.tmp 72, .tmp 73], none⟩,
                      ⟨some 11, .mv, [.tmp 74], none⟩])
                    (.seq (.run [7, 8, 11, 12, 66, 67, 68] [⟨some 75, .mv, [.tmp 8], none⟩,
                       ⟨some 76, .mv, [.tmp 10], none⟩,
                       ⟨some 77, (.call 21), [.tmp 75, .tmp 76], none⟩,
                       ⟨some 12, .mv, [.tmp 77], none⟩])
                     (.seq (.run [7, 8, 11, 12, 13, 66, 67, 68] [⟨some 78, .mv, [.tmp 8], none⟩,
                        ⟨some 79, .nilck, [.tmp 78], none⟩,
                        ⟨some 80, (.faddr 0), [.tmp 79], none⟩,
                        ⟨some 81, (.ld false 1), [.tmp 80], none⟩,
                        ⟨some 82, (.call 22), [.tmp 81], none⟩,
                        ⟨some 13, (.alloc [(.sl [] .nil), (.sl [] .nil), (.bool false), (.bool false), (.bool false)]), [], none⟩,
                        ⟨none, (.st 5), [.tmp 13, .tmp 82], none⟩])
                      (.seq (.runD [7, 8, 66, 67, 68, 126] [⟨0, ⟨some 83, .mv, [.tmp 11], none⟩, []⟩,
                         ⟨1, ⟨some 84, .mv, [.tmp 12], none⟩, []⟩,
                         ⟨2, ⟨some 85, (.eqg true 6), [.tmp 83, .tmp 84], none⟩, []⟩,
                         ⟨3, ⟨some 86, .mv, [.tmp 85], none⟩, []⟩,
                         ⟨4, ⟨some 87, .mv, [.tmp 7], some (86, false)⟩, []⟩,
                         ⟨6, ⟨some 89, .mv, [.tmp 8], some (86, false)⟩, []⟩,
                         ⟨7, ⟨some 90, .nilck, [.tmp 89], some (86, false)⟩, []⟩,
                         ⟨8, ⟨some 91, (.faddr 0), [.tmp 90], some (86, false)⟩, []⟩,
                         ⟨9, ⟨some 92, (.ld false 1), [.tmp 91], some (86, false)⟩, []⟩,
                         ⟨10, ⟨some 93, (.len 1), [.tmp 92], some (86, false)⟩, []⟩,
                         ⟨5, ⟨some 88, (.call 19), [.tmp 87], some (86, false)⟩, [9]⟩,
                         ⟨11, ⟨some 94, (.eqg true 6), [.tmp 88, .tmp 93], some (86, false)⟩, []⟩,
                         ⟨12, ⟨some 95, .pick, [.tmp 86, .const (.bool true), .tmp 94], none⟩, []⟩,
                         ⟨13, ⟨some 96, .mv, [.tmp 95], none⟩, []⟩,
                         ⟨14, ⟨some 97, .mv, [.tmp 7], some (96, false)⟩, []⟩,
                         ⟨17, ⟨some 100, (.faddr 0), [.tmp 13], some (96, false)⟩, []⟩,
                         ⟨18, ⟨some 101, (.ld false 1), [.tmp 100], some (96, false)⟩, []⟩,
                         ⟨19, ⟨some 102, .cvb, [.tmp 101], some (96, false)⟩, []⟩,
                         ⟨15, ⟨some 98, (.call 15), [.tmp 97], some (96, false)⟩, [18, 19]⟩,
                         ⟨16, ⟨some 99, .cvb, [.tmp 98], some (96, false)⟩, []⟩,
                         ⟨20, ⟨some 103, (.eqg true 6), [.tmp 99, .tmp 102], some (96, false)⟩, []⟩,
                         ⟨21, ⟨some 104, .pick, [.tmp 96, .const (.bool true), .tmp 103], none⟩, []⟩,
                         ⟨22, ⟨some 105, .mv, [.tmp 104], none⟩, []⟩,
                         ⟨23, ⟨some 106, .mv, [.tmp 7], some (105, false)⟩, []⟩,
                         ⟨25, ⟨some 108, (.faddr 1), [.tmp 13], some (105, false)⟩, []⟩,
                         ⟨26, ⟨some 109, (.ld false 1), [.tmp 108], some (105, false)⟩, []⟩,
                         ⟨24, ⟨some 107, (.call 16), [.tmp 106], some (105, false)⟩, [26]⟩,
                         ⟨27, ⟨some 110, (.call 23), [.tmp 107, .tmp 109], some (105, false)⟩, []⟩,
                         ⟨28, ⟨some 111, (.un .not), [.tmp 110], some (105, false)⟩, []⟩,
                         ⟨29, ⟨some 112, .pick, [.tmp 105, .const (.bool true), .tmp 111], none⟩, []⟩,
                         ⟨30, ⟨some 113, .mv, [.tmp 112], none⟩, []⟩,
                         ⟨31, ⟨some 114, .mv, [.tmp 7], some (113, false)⟩, []⟩,
                         ⟨33, ⟨some 116, (.faddr 2), [.tmp 13], some (113, false)⟩, []⟩,
                         ⟨34, ⟨some 117, (.ld false 1), [.tmp 116], some (113, false)⟩, []⟩,
                         ⟨32, ⟨some 115, (.call 17), [.tmp 114], some (113, false)⟩, [34]⟩,
                         ⟨35, ⟨some 118, (.eqg true 0), [.tmp 115, .tmp 117], some (113, false)⟩, []⟩,
                         ⟨36, ⟨some 119, .pick, [.tmp 113, .const (.bool true), .tmp 118], none⟩, []⟩,
                         ⟨37, ⟨some 120, .mv, [.tmp 119], none⟩, []⟩,
                         ⟨38, ⟨some 121, .mv, [.tmp 7], some (120, false)⟩, []⟩,
                         ⟨40, ⟨some 123, (.faddr 3), [.tmp 13], some (120, false)⟩, []⟩,
                         ⟨41, ⟨some 124, (.ld false 1), [.tmp 123], some (120, false)⟩, []⟩,
                         ⟨39, ⟨some 122, (.call 18), [.tmp 121], some (120, false)⟩, [41]⟩,
                         ⟨42, ⟨some 125, (.eqg true 0), [.tmp 122, .tmp 124], some (120, false)⟩, []⟩,
                         ⟨43, ⟨some 126, .pick, [.tmp 120, .const (.bool true), .tmp 125], none⟩, []⟩])
                       (.cond (.tmp 126)
                        (.seq (.run [2] [⟨some 2, .mv, [.const (.bool false)], none⟩])
                         .ret)
                        .skip)))))))
                 (.run [7, 8, 66, 67, 68] [⟨some 127, (.bin .add), [.tmp 68, .const (.int .i64 1)], none⟩,
                   ⟨some 68, .mv, [.tmp 127], none⟩])))))))
           (.seq (.run [2] [⟨some 128, (.call 11), [], none⟩,
              ⟨some 2, .mv, [.tmp 128], none⟩])
            .ret))))))))))⟩

theorem f4_ok : compF Go.Proofs.Tryd.prog 4 f4.body.hints = some f4 := by kernel_rfl


def f5 : AFun := ⟨129, 2, [.slot 4],
  (.seq (.run [0, 1] [⟨some 4, .mv, [.const (.bool false)], none⟩])
   (.seq (.seq (.run [0, 1, 27] [⟨some 15, .mv, [.tmp 0], none⟩,
       ⟨some 16, (.len 1), [.tmp 15], none⟩,
       ⟨some 17, (.bin .gtr), [.tmp 16, .const (.int .i64 2000)], none⟩,
       ⟨some 18, .mv, [.tmp 17], none⟩,
       ⟨some 19, .mv, [.tmp 1], some (18, false)⟩,
       ⟨some 20, (.len 1), [.tmp 19], some (18, false)⟩,
       ⟨some 21, (.eqg false 6), [.tmp 20, .const (.int .i64 0)], some (18, false)⟩,
       ⟨some 22, .pick, [.tmp 18, .const (.bool true), .tmp 21], none⟩,
       ⟨some 23, .mv, [.tmp 22], none⟩,
       ⟨some 24, .mv, [.tmp 1], some (23, false)⟩,
       ⟨some 25, (.len 1), [.tmp 24], some (23, false)⟩,
       ⟨some 26, (.bin .gtr), [.tmp 25, .const (.int .i64 100)], some (23, false)⟩,
       ⟨some 27, .pick, [.tmp 23, .const (.bool true), .tmp 26], none⟩])
     (.cond (.tmp 27)
      (.seq (.run [4] [⟨some 28, (.call 11), [], none⟩,
         ⟨some 4, .mv, [.tmp 28], none⟩])
       .ret)
      .skip))
    (.seq (.run [0, 1, 5, 6] [⟨some 29, (.call 20), [], none⟩,
       ⟨some 30, (.call 20), [], none⟩,
       ⟨some 5, .mv, [.tmp 29], none⟩,
       ⟨some 6, .mv, [.tmp 30], none⟩])
     (.seq (.seq (.run [0, 1, 5, 6, 36] [⟨some 31, .mv, [.tmp 5], none⟩,
         ⟨some 32, (.eqg false 1), [.tmp 31, .const (.pointer none)], none⟩,
         ⟨some 33, .mv, [.tmp 32], none⟩,
         ⟨some 34, .mv, [.tmp 6], some (33, false)⟩,
         ⟨some 35, (.eqg false 1), [.tmp 34, .const (.pointer none)], some (33, false)⟩,
         ⟨some 36, .pick, [.tmp 33, .const (.bool true), .tmp 35], none⟩])
       (.cond (.tmp 36)
        (.seq (.run [4] [⟨some 4, .mv, [.const (.bool false)], none⟩])
         .ret)
        .skip))
      (.seq (.run [0, 1, 5, 6, 7] [⟨some 37, .mv, [.tmp 6], none⟩,
         ⟨some 38, .mv, [.tmp 0], none⟩,
         ⟨some 39, (.call 14), [.tmp 37, .tmp 38], none⟩,
         ⟨some 7, .mv, [.tmp 39], none⟩])
       (.seq (.run [0, 1, 5, 6, 7, 8] [⟨some 8, .mv, [.const (.int .i64 0)], none⟩])
        (.seq (.run [0, 1, 5, 6, 7, 8, 9] [⟨some 40, .mv, [.tmp 0], none⟩,
           ⟨some 9, .mv, [.tmp 40], none⟩])
         (.seq (.seq (.run [0, 1, 5, 6, 7, 8, 9, 10] [⟨some 10, .mv, [.const (.int .i64 0)], none⟩])
           (.block 0 (.loop [0, 1, 5, 6, 7, 8, 9, 10] (.seq (.seq (.run [0, 1, 5, 6, 7, 8, 9, 10, 43] [⟨some 41, .mv, [.tmp 9], none⟩,
                 ⟨some 42, (.len 1), [.tmp 41], none⟩,
                 ⟨some 43, (.bin .gtr), [.tmp 42, .const (.int .i64 0)], none⟩])
               (.cond (.tmp 43)
                .skip
                (.exit 0)))
              (.seq (.block 1 (.seq (.run [0, 1, 5, 6, 7, 9, 10, 11] [⟨some 46, .mv, [.tmp 9], none⟩,
                   ⟨some 47, (.len 1), [.tmp 46], none⟩,
                   ⟨some 48, .mv, [.tmp 1], none⟩,
                   ⟨some 49, .mv, [.tmp 10], none⟩,
                   ⟨some 50, .mv, [.tmp 1], none⟩,
                   ⟨some 51, (.len 1), [.tmp 50], none⟩,
                   ⟨some 52, (.bin .rem), [.tmp 49, .tmp 51], none⟩,
                   ⟨some 53, (.iaddr 1), [.tmp 48, .tmp 52], none⟩,
                   ⟨some 54, (.ld false 1), [.tmp 53], none⟩,
                   ⟨some 55, (.cvi .i64), [.tmp 54], none⟩,
                   ⟨some 56, (.bin .add), [.const (.int .i64 1), .tmp 55], none⟩,
                   ⟨some 57, .min, [.tmp 47, .tmp 56], none⟩,
                   ⟨some 11, .mv, [.tmp 57], none⟩])
                 (.seq (.run [0, 1, 5, 6, 7, 8, 9, 10, 11] [⟨some 58, .mv, [.tmp 5], none⟩,
                    ⟨some 59, .mv, [.tmp 9], none⟩,
                    ⟨some 60, .mv, [.tmp 11], none⟩,
                    ⟨some 61, (.slc 1 false true), [.tmp 59, .tmp 60], none⟩,
                    ⟨some 62, (.call 14), [.tmp 58, .tmp 61], none⟩,
                    ⟨some 8, .mv, [.tmp 62], none⟩])
                  (.run [0, 1, 5, 6, 7, 8, 9, 10] [⟨some 63, .mv, [.tmp 9], none⟩,
                    ⟨some 64, .mv, [.tmp 11], none⟩,
                    ⟨some 65, (.slc 1 true false), [.tmp 63, .tmp 64], none⟩,
                    ⟨some 9, .mv, [.tmp 65], none⟩]))))
               (.run [0, 1, 5, 6, 7, 8, 9, 10] [⟨some 44, .mv, [.tmp 10], none⟩,
                 ⟨some 45, (.bin .add), [.tmp 44, .const (.int .i64 1)], none⟩,
                 ⟨some 10, .mv, [.tmp 45], none⟩]))))))
          (.seq (.run [5, 6, 7, 8, 12, 13, 14] [⟨some 67, .mv, [.tmp 0], none⟩,
             ⟨some 68, (.call 12), [.tmp 67], none⟩,
             ⟨some 66, .mv, [.tmp 68], none⟩,
             ⟨some 69, (.ext 0), [.tmp 66], none⟩,
             ⟨some 70, (.ext 1), [.tmp 66], none⟩,
             ⟨some 71, (.ext 2), [.tmp 66], none⟩,
             ⟨some 12, .mv, [.tmp 69], none⟩,
             ⟨some 13, .mv, [.tmp 70], none⟩,
             ⟨some 14, .mv, [.tmp 71], none⟩])
           (.seq (.seq (.runD [5, 6, 7, 8, 14, 87] [⟨0, ⟨some 72, .mv, [.tmp 14], none⟩, []⟩,
               ⟨1, ⟨some 73, (.eqg false 6), [.tmp 72, .const (.int .i64 0)], none⟩, []⟩,
               ⟨2, ⟨some 74, .mv, [.tmp 73], none⟩, []⟩,
               ⟨3, ⟨some 75, .mv, [.tmp 12], some (74, true)⟩, []⟩,
               ⟨4, ⟨some 76, .cvb, [.tmp 75], some (74, true)⟩, []⟩,
               ⟨5, ⟨some 77, .mv, [.tmp 6], some (74, true)⟩, []⟩,
               ⟨6, ⟨some 78, (.call 15), [.tmp 77], some (74, true)⟩, [4]⟩,
               ⟨7, ⟨some 79, .cvb, [.tmp 78], some (74, true)⟩, []⟩,
               ⟨8, ⟨some 80, (.eqg true 6), [.tmp 76, .tmp 79], some (74, true)⟩, []⟩,
               ⟨9, ⟨some 81, .mv, [.tmp 80], some (74, true)⟩, []⟩,
               ⟨10, ⟨some 82, .mv, [.tmp 13], some (81, false)⟩, []⟩,
               ⟨11, ⟨some 83, .mv, [.tmp 6], some (81, false)⟩, []⟩,
               ⟨12, ⟨some 84, (.call 18), [.tmp 83], some (81, false)⟩, []⟩,
               ⟨13, ⟨some 85, (.eqg true 0), [.tmp 82, .tmp 84], some (81, false)⟩, []⟩,
               ⟨14, ⟨some 86, .pick, [.tmp 81, .const (.bool true), .tmp 85], some (74, true)⟩, []⟩,
               ⟨15, ⟨some 87, .pick, [.tmp 74, .tmp 86, .const (.bool false)], none⟩, []⟩])
             (.cond (.tmp 87)
              (.seq (.run [4] [⟨some 4, .mv, [.const (.bool false)], none⟩])
               .ret)
              .skip))
            (.seq (.runD [4] [⟨0, ⟨some 88, (.call 11), [], none⟩, []⟩,
               ⟨1, ⟨some 89, .mv, [.tmp 88], none⟩, []⟩,
               ⟨2, ⟨some 90, .mv, [.tmp 7], some (89, true)⟩, []⟩,
               ⟨3, ⟨some 91, .mv, [.tmp 8], some (89, true)⟩, []⟩,
               ⟨4, ⟨some 92, (.eqg false 6), [.tmp 90, .tmp 91], some (89, true)⟩, []⟩,
               ⟨5, ⟨some 93, .pick, [.tmp 89, .tmp 92, .const (.bool false)], none⟩, []⟩,
               ⟨6, ⟨some 94, .mv, [.tmp 93], none⟩, []⟩,
               ⟨7, ⟨some 95, .mv, [.tmp 7], some (94, true)⟩, []⟩,
               ⟨8, ⟨some 96, .mv, [.tmp 14], some (94, true)⟩, []⟩,
               ⟨9, ⟨some 97, (.eqg false 6), [.tmp 95, .tmp 96], some (94, true)⟩, []⟩,
               ⟨10, ⟨some 98, .pick, [.tmp 94, .tmp 97, .const (.bool false)], none⟩, []⟩,
               ⟨11, ⟨some 99, .mv, [.tmp 98], none⟩, []⟩,
               ⟨12, ⟨some 100, .mv, [.tmp 5], some (99, true)⟩, []⟩,
               ⟨15, ⟨some 103, .mv, [.tmp 6], some (99, true)⟩, []⟩,
               ⟨13, ⟨some 101, (.call 15), [.tmp 100], some (99, true)⟩, []⟩,
               ⟨14, ⟨some 102, .cvb, [.tmp 101], some (99, true)⟩, []⟩,
               ⟨16, ⟨some 104, (.call 15), [.tmp 103], some (99, true)⟩, [14]⟩,
               ⟨17, ⟨some 105, .cvb, [.tmp 104], some (99, true)⟩, []⟩,
               ⟨18, ⟨some 106, (.eqg false 6), [.tmp 102, .tmp 105], some (99, true)⟩, []⟩,
               ⟨19, ⟨some 107, .pick, [.tmp 99, .tmp 106, .const (.bool false)], none⟩, []⟩,
               ⟨20, ⟨some 108, .mv, [.tmp 107], none⟩, []⟩,
               ⟨21, ⟨some 109, .mv, [.tmp 5], some (108, true)⟩, []⟩,
               ⟨23, ⟨some 111, .mv, [.tmp 6], some (108, true)⟩, []⟩,
               ⟨22, ⟨some 110, (.call 19), [.tmp 109], some (108, true)⟩, []⟩,
               ⟨24, ⟨some 112, (.call 19), [.tmp 111], some (108, true)⟩, []⟩,
               ⟨25, ⟨some 113, (.eqg false 6), [.tmp 110, .tmp 112], some (108, true)⟩, []⟩,
               ⟨26, ⟨some 114, .pick, [.tmp 108, .tmp 113, .const (.bool false)], none⟩, []⟩,
               ⟨27, ⟨some 115, .mv, [.tmp 114], none⟩, []⟩,
               ⟨28, ⟨some 116, .mv, [.tmp 5], some (115, true)⟩, []⟩,
               ⟨30, ⟨some 118, .mv, [.tmp 6], some (115, true)⟩, []⟩,
               ⟨29, ⟨some 117, (.call 17), [.tmp 116], some (115, true)⟩, []⟩,
               ⟨31, ⟨some 119, (.call 17), [.tmp 118], some (115, true)⟩, []⟩,
               ⟨32, ⟨some 120, (.eqg false 0), [.tmp 117, .tmp 119], some (115, true)⟩, []⟩,
               ⟨33, ⟨some 121, .pick, [.tmp 115, .tmp 120, .const (.bool false)], none⟩, []⟩,
               ⟨34, ⟨some 122, .mv, [.tmp 121], none⟩, []⟩,
               ⟨35, ⟨some 123, .mv, [.tmp 5], some (122, true)⟩, []⟩,
               ⟨37, ⟨some 125, .mv, [.tmp 6], some (122, true)⟩, []⟩,
               ⟨36, ⟨some 124, (.call 16), [.tmp 123], some (122, true)⟩, []⟩,
               ⟨38, ⟨some 126, (.call 16), [.tmp 125], some (122, true)⟩, []⟩,
               ⟨39, ⟨some 127, (.call 23), [.tmp 124, .tmp 126], some (122, true)⟩, []⟩,
               ⟨40, ⟨some 128, .pick, [.tmp 122, .tmp 127, .const (.bool false)], none⟩, []⟩,
               ⟨41, ⟨some 4, .mv, [.tmp 128], none⟩, []⟩])
             .ret)))))))))))⟩

theorem f5_ok : compF Go.Proofs.Tryd.prog 5 f5.body.hints = some f5 := by kernel_rfl


def f6 : AFun := ⟨30, 1, [.slot 2],
  (.seq (.run [0] [⟨some 2, .mv, [.const (.bool false)], none⟩])
   (.seq (.run [0, 3, 4] [⟨some 8, .mv, [.tmp 0], none⟩,
      ⟨some 9, (.call 24), [.tmp 8], none⟩,
      ⟨some 7, .mv, [.tmp 9], none⟩,
      ⟨some 10, (.ext 0), [.tmp 7], none⟩,
      ⟨some 11, (.ext 1), [.tmp 7], none⟩,
      ⟨some 3, .mv, [.tmp 10], none⟩,
      ⟨some 4, .mv, [.tmp 11], none⟩])
    (.seq (.run [3, 4, 5, 6] [⟨some 13, .mv, [.tmp 0], none⟩,
       ⟨some 14, (.call 25), [.tmp 13], none⟩,
       ⟨some 12, .mv, [.tmp 14], none⟩,
       ⟨some 15, (.ext 0), [.tmp 12], none⟩,
       ⟨some 16, (.ext 1), [.tmp 12], none⟩,
       ⟨some 5, .mv, [.tmp 15], none⟩,
       ⟨some 6, .mv, [.tmp 16], none⟩])
     (.seq (.run [2] [⟨some 17, (.call 26), [], none⟩,
        ⟨some 18, .mv, [.tmp 17], none⟩,
        ⟨some 19, .mv, [.tmp 3], some (18, true)⟩,
        ⟨some 20, .cvb, [.tmp 19], some (18, true)⟩,
        ⟨some 21, .mv, [.tmp 5], some (18, true)⟩,
        ⟨some 22, .cvb, [.tmp 21], some (18, true)⟩,
        ⟨some 23, (.eqg false 6), [.tmp 20, .tmp 22], some (18, true)⟩,
        ⟨some 24, .pick, [.tmp 18, .tmp 23, .const (.bool false)], none⟩,
        ⟨some 25, .mv, [.tmp 24], none⟩,
        ⟨some 26, .mv, [.tmp 4], some (25, true)⟩,
        ⟨some 27, .mv, [.tmp 6], some (25, true)⟩,
        ⟨some 28, (.eqg false 6), [.tmp 26, .tmp 27], some (25, true)⟩,
        ⟨some 29, .pick, [.tmp 25, .tmp 28, .const (.bool false)], none⟩,
        ⟨some 2, .mv, [.tmp 29], none⟩])
      .ret))))⟩

theorem f6_ok : compF Go.Proofs.Tryd.prog 6 f6.body.hints = some f6 := by kernel_rfl


def f7 : AFun := ⟨41, 1, [.slot 2],
  (.seq (.run [0] [⟨some 2, .mv, [.const (.bool false)], none⟩])
   (.seq (.seq (.run [0, 11] [⟨some 9, .mv, [.tmp 0], none⟩,
       ⟨some 10, (.len 1), [.tmp 9], none⟩,
       ⟨some 11, (.bin .gtr), [.tmp 10, .const (.int .i64 1000)], none⟩])
     (.cond (.tmp 11)
      (.seq (.run [2] [⟨some 12, (.call 26), [], none⟩,
         ⟨some 2, .mv, [.tmp 12], none⟩])
       .ret)
      .skip))
    (.seq (.run [0, 3, 4, 5] [⟨some 14, .mv, [.tmp 0], none⟩,
       ⟨some 15, (.call 27), [.tmp 14], none⟩,
       ⟨some 13, .mv, [.tmp 15], none⟩,
       ⟨some 16, (.ext 0), [.tmp 13], none⟩,
       ⟨some 17, (.ext 1), [.tmp 13], none⟩,
       ⟨some 18, (.ext 2), [.tmp 13], none⟩,
       ⟨some 3, .mv, [.tmp 16], none⟩,
       ⟨some 4, .mv, [.tmp 17], none⟩,
       ⟨some 5, .mv, [.tmp 18], none⟩])
     (.seq (.run [3, 4, 5, 6, 7, 8] [⟨some 20, .mv, [.tmp 0], none⟩,
        ⟨some 21, (.call 28), [.tmp 20], none⟩,
        ⟨some 19, .mv, [.tmp 21], none⟩,
        ⟨some 22, (.ext 0), [.tmp 19], none⟩,
        ⟨some 23, (.ext 1), [.tmp 19], none⟩,
        ⟨some 24, (.ext 2), [.tmp 19], none⟩,
        ⟨some 6, .mv, [.tmp 22], none⟩,
        ⟨some 7, .mv, [.tmp 23], none⟩,
        ⟨some 8, .mv, [.tmp 24], none⟩])
      (.seq (.run [2] [⟨some 25, (.call 26), [], none⟩,
         ⟨some 26, .mv, [.tmp 25], none⟩,
         ⟨some 27, .mv, [.tmp 3], some (26, true)⟩,
         ⟨some 28, .mv, [.tmp 6], some (26, true)⟩,
         ⟨some 29, (.eqg false 6), [.tmp 27, .tmp 28], some (26, true)⟩,
         ⟨some 30, .pick, [.tmp 26, .tmp 29, .const (.bool false)], none⟩,
         ⟨some 31, .mv, [.tmp 30], none⟩,
         ⟨some 32, .mv, [.tmp 4], some (31, true)⟩,
         ⟨some 33, .mv, [.tmp 7], some (31, true)⟩,
         ⟨some 34, (.eqg false 6), [.tmp 32, .tmp 33], some (31, true)⟩,
         ⟨some 35, .pick, [.tmp 31, .tmp 34, .const (.bool false)], none⟩,
         ⟨some 36, .mv, [.tmp 35], none⟩,
         ⟨some 37, .mv, [.tmp 5], some (36, true)⟩,
         ⟨some 38, .mv, [.tmp 8], some (36, true)⟩,
         ⟨some 39, (.eqg false 6), [.tmp 37, .tmp 38], some (36, true)⟩,
         ⟨some 40, .pick, [.tmp 36, .tmp 39, .const (.bool false)], none⟩,
         ⟨some 2, .mv, [.tmp 40], none⟩])
       .ret)))))⟩

theorem f7_ok : compF Go.Proofs.Tryd.prog 7 f7.body.hints = some f7 := by kernel_rfl


def f8 : AFun := ⟨87, 2, [.slot 4],
  (.seq (.run [0, 1] [⟨some 4, .mv, [.const (.bool false)], none⟩])
   (.seq (.run [0, 1, 5, 6] [⟨some 15, .mv, [.tmp 0], none⟩,
      ⟨some 16, (.call 24), [.tmp 15], none⟩,
      ⟨some 14, .mv, [.tmp 16], none⟩,
      ⟨some 17, (.ext 0), [.tmp 14], none⟩,
      ⟨some 18, (.ext 1), [.tmp 14], none⟩,
      ⟨some 5, .mv, [.tmp 17], none⟩,
      ⟨some 6, .mv, [.tmp 18], none⟩])
    (.seq (.seq (.run [0, 1, 5, 6, 25] [⟨some 19, .mv, [.tmp 6], none⟩,
        ⟨some 20, (.eqg true 6), [.tmp 19, .const (.int .i64 0)], none⟩,
        ⟨some 21, .mv, [.tmp 20], none⟩,
        ⟨some 22, .mv, [.tmp 1], some (21, false)⟩,
        ⟨some 23, (.len 1), [.tmp 22], some (21, false)⟩,
        ⟨some 24, (.bin .gtr), [.tmp 23, .const (.int .i64 1000)], some (21, false)⟩,
        ⟨some 25, .pick, [.tmp 21, .const (.bool true), .tmp 24], none⟩])
      (.cond (.tmp 25)
       (.seq (.run [4] [⟨some 26, (.call 26), [], none⟩,
          ⟨some 27, .mv, [.tmp 26], none⟩,
          ⟨some 28, .mv, [.tmp 6], some (27, true)⟩,
          ⟨some 29, (.eqg false 6), [.tmp 28, .const (.int .i64 0)], some (27, true)⟩,
          ⟨some 30, .mv, [.tmp 29], some (27, true)⟩,
          ⟨some 31, .mv, [.tmp 0], some (30, false)⟩,
          ⟨some 32, (.bin .lss), [.tmp 31, .const (.int .i64 0)], some (30, false)⟩,
          ⟨some 33, .pick, [.tmp 30, .const (.bool true), .tmp 32], some (27, true)⟩,
          ⟨some 34, .mv, [.tmp 33], some (27, true)⟩,
          ⟨some 35, .mv, [.tmp 0], some (34, false)⟩,
          ⟨some 36, (.bin .gtr), [.tmp 35, .const (.int .i64 65536)], some (34, false)⟩,
          ⟨some 37, .pick, [.tmp 34, .const (.bool true), .tmp 36], some (27, true)⟩,
          ⟨some 38, .pick, [.tmp 27, .tmp 37, .const (.bool false)], none⟩,
          ⟨some 4, .mv, [.tmp 38], none⟩])
        .ret)
       .skip))
     (.seq (.run [0, 5, 7, 8, 9] [⟨some 40, (.bslice 1 0 [(.int .u8 0)] []), [], none⟩,
        ⟨some 41, .mv, [.tmp 5], none⟩,
        ⟨some 42, (.app 1 1), [.tmp 40, .tmp 41], none⟩,
        ⟨some 43, .mv, [.tmp 1], none⟩,
        ⟨some 44, (.app 1 1), [.tmp 42, .tmp 43], none⟩,
        ⟨some 45, (.call 27), [.tmp 44], none⟩,
        ⟨some 39, .mv, [.tmp 45], none⟩,
        ⟨some 46, (.ext 0), [.tmp 39], none⟩,
        ⟨some 47, (.ext 1), [.tmp 39], none⟩,
        ⟨some 48, (.ext 2), [.tmp 39], none⟩,
        ⟨some 7, .mv, [.tmp 46], none⟩,
        ⟨some 8, .mv, [.tmp 47], none⟩,
        ⟨some 9, .mv, [.tmp 48], none⟩])
      (.seq (.seq (.run [5, 61] [⟨some 49, .mv, [.tmp 9], none⟩,
          ⟨some 50, (.eqg true 6), [.tmp 49, .const (.int .i64 0)], none⟩,
          ⟨some 51, .mv, [.tmp 50], none⟩,
          ⟨some 52, .mv, [.tmp 7], some (51, false)⟩,
          ⟨some 53, .mv, [.tmp 0], some (51, false)⟩,
          ⟨some 54, (.eqg true 6), [.tmp 52, .tmp 53], some (51, false)⟩,
          ⟨some 55, .pick, [.tmp 51, .const (.bool true), .tmp 54], none⟩,
          ⟨some 56, .mv, [.tmp 55], none⟩,
          ⟨some 57, .mv, [.tmp 8], some (56, false)⟩,
          ⟨some 58, .mv, [.tmp 5], some (56, false)⟩,
          ⟨some 59, (.len 1), [.tmp 58], some (56, false)⟩,
          ⟨some 60, (.eqg true 6), [.tmp 57, .tmp 59], some (56, false)⟩,
          ⟨some 61, .pick, [.tmp 56, .const (.bool true), .tmp 60], none⟩])
        (.cond (.tmp 61)
         (.seq (.run [4] [⟨some 4, .mv, [.const (.bool false)], none⟩])
          .ret)
         .skip))
       (.seq (.seq (.run [5, 63, 64] [⟨some 62, .mv, [.tmp 5], none⟩,
           ⟨some 63, (.len 1), [.tmp 62], none⟩,
           ⟨some 64, .mv, [.const (.int .i64 0)], none⟩])
         (.block 0 (.loop [5, 63, 64] (.seq (.run [5, 63, 64, 65] [⟨some 65, (.bin .lss), [.tmp 64, .tmp 63], none⟩])
            (.seq (.cond (.tmp 65)
              .skip
              (.exit 0))
             (.seq (.block 1 (.seq (.run [5, 10, 63, 64] [⟨some 66, .mv, [.tmp 64], none⟩,
                  ⟨some 10, .mv, [.tmp 66], none⟩])
                (.seq (.run [5, 11, 12, 13, 63, 64] [⟨some 68, .mv, [.tmp 5], none⟩,
                   ⟨some 69, .mv, [.tmp 10], none⟩,
                   ⟨some 70, (.slc 1 false true), [.tmp 68, .tmp 69], none⟩,
                   ⟨some 71, (.call 27), [.tmp 70], none⟩,
                   ⟨some 67, .mv, [.tmp 71], none⟩,
                   ⟨some 72, (.ext 0), [.tmp 67], none⟩,
                   ⟨some 73, (.ext 1), [.tmp 67], none⟩,
                   ⟨some 74, (.ext 2), [.tmp 67], none⟩,
                   ⟨some 11, .mv, [.tmp 72], none⟩,
                   ⟨some 12, .mv, [.tmp 73], none⟩,
                   ⟨some 13, .mv, [.tmp 74], none⟩])
                 (.seq (.run [5, 63, 64, 84] [⟨some 75, .mv, [.tmp 11], none⟩,
                    ⟨some 76, (.eqg true 6), [.tmp 75, .const (.int .i64 0)], none⟩,
                    ⟨some 77, .mv, [.tmp 76], none⟩,
                    ⟨some 78, .mv, [.tmp 12], some (77, false)⟩,
                    ⟨some 79, (.eqg true 6), [.tmp 78, .const (.int .i64 0)], some (77, false)⟩,
                    ⟨some 80, .pick, [.tmp 77, .const (.bool true), .tmp 79], none⟩,
                    ⟨some 81, .mv, [.tmp 80], none⟩,
                    ⟨some 82, .mv, [.tmp 13], some (81, false)⟩,
                    ⟨some 83, (.eqg true 6), [.tmp 82, .const (.int .i64 7)], some (81, false)⟩,
                    ⟨some 84, .pick, [.tmp 81, .const (.bool true), .tmp 83], none⟩])
                  (.cond (.tmp 84)
                   (.seq (.run [4] [⟨some 4, .mv, [.const (.bool false)], none⟩])
                    .ret)
                   .skip)))))
              (.run [5, 63, 64] [⟨some 85, (.bin .add), [.tmp 64, .const (.int .i64 1)], none⟩,
                ⟨some 64, .mv, [.tmp 85], none⟩])))))))
        (.seq (.run [4] [⟨some 86, (.call 26), [], none⟩,
           ⟨some 4, .mv, [.tmp 86], none⟩])
         .ret)))))))⟩

theorem f8_ok : compF Go.Proofs.Tryd.prog 8 f8.body.hints = some f8 := by kernel_rfl


def f9 : AFun := ⟨56, 1, [.slot 2],
  (.seq (.run [0] [⟨some 2, .mv, [.const (.bool false)], none⟩])
   (.seq (.run [0, 3, 4, 5] [⟨some 9, .mv, [.tmp 0], none⟩,
      ⟨some 10, (.call 27), [.tmp 9], none⟩,
      ⟨some 8, .mv, [.tmp 10], none⟩,
      ⟨some 11, (.ext 0), [.tmp 8], none⟩,
      ⟨some 12, (.ext 1), [.tmp 8], none⟩,
      ⟨some 13, (.ext 2), [.tmp 8], none⟩,
      ⟨some 3, .mv, [.tmp 11], none⟩,
      ⟨some 4, .mv, [.tmp 12], none⟩,
      ⟨some 5, .mv, [.tmp 13], none⟩])
    (.seq (.seq (.run [0, 3, 4, 20] [⟨some 14, .mv, [.tmp 5], none⟩,
        ⟨some 15, (.eqg true 6), [.tmp 14, .const (.int .i64 0)], none⟩,
        ⟨some 16, .mv, [.tmp 15], none⟩,
        ⟨some 17, .mv, [.tmp 0], some (16, false)⟩,
        ⟨some 18, (.len 1), [.tmp 17], some (16, false)⟩,
        ⟨some 19, (.bin .gtr), [.tmp 18, .const (.int .i64 1000)], some (16, false)⟩,
        ⟨some 20, .pick, [.tmp 16, .const (.bool true), .tmp 19], none⟩])
      (.cond (.tmp 20)
       (.seq (.run [2] [⟨some 21, (.call 26), [], none⟩,
          ⟨some 2, .mv, [.tmp 21], none⟩])
        .ret)
       .skip))
     (.seq (.run [0, 4, 6, 7] [⟨some 23, .mv, [.tmp 3], none⟩,
        ⟨some 24, (.call 24), [.tmp 23], none⟩,
        ⟨some 22, .mv, [.tmp 24], none⟩,
        ⟨some 25, (.ext 0), [.tmp 22], none⟩,
        ⟨some 26, (.ext 1), [.tmp 22], none⟩,
        ⟨some 6, .mv, [.tmp 25], none⟩,
        ⟨some 7, .mv, [.tmp 26], none⟩])
      (.seq (.runD [2] [⟨0, ⟨some 27, (.call 26), [], none⟩, []⟩,
         ⟨1, ⟨some 28, .mv, [.tmp 27], none⟩, []⟩,
         ⟨2, ⟨some 29, .mv, [.tmp 7], some (28, true)⟩, []⟩,
         ⟨3, ⟨some 30, (.eqg false 6), [.tmp 29, .const (.int .i64 0)], some (28, true)⟩, []⟩,
         ⟨4, ⟨some 31, .pick, [.tmp 28, .tmp 30, .const (.bool false)], none⟩, []⟩,
         ⟨5, ⟨some 32, .mv, [.tmp 31], none⟩, []⟩,
         ⟨6, ⟨some 33, .mv, [.tmp 4], some (32, true)⟩, []⟩,
         ⟨7, ⟨some 34, .mv, [.tmp 6], some (32, true)⟩, []⟩,
         ⟨8, ⟨some 35, (.len 1), [.tmp 34], some (32, true)⟩, []⟩,
         ⟨9, ⟨some 36, (.eqg false 6), [.tmp 33, .tmp 35], some (32, true)⟩, []⟩,
         ⟨10, ⟨some 37, .pick, [.tmp 32, .tmp 36, .const (.bool false)], none⟩, []⟩,
         ⟨11, ⟨some 38, .mv, [.tmp 37], none⟩, []⟩,
         ⟨12, ⟨some 39, .mv, [.tmp 4], some (38, true)⟩, []⟩,
         ⟨13, ⟨some 40, .mv, [.tmp 0], some (38, true)⟩, []⟩,
         ⟨14, ⟨some 41, (.len 1), [.tmp 40], some (38, true)⟩, []⟩,
         ⟨15, ⟨some 42, (.bin .leq), [.tmp 39, .tmp 41], some (38, true)⟩, []⟩,
         ⟨16, ⟨some 43, .pick, [.tmp 38, .tmp 42, .const (.bool false)], none⟩, []⟩,
         ⟨17, ⟨some 44, .mv, [.tmp 43], none⟩, []⟩,
         ⟨18, ⟨some 45, .mv, [.tmp 6], some (44, true)⟩, []⟩,
         ⟨19, ⟨some 46, .cvb, [.tmp 45], some (44, true)⟩, []⟩,
         ⟨20, ⟨some 47, .mv, [.tmp 0], some (44, true)⟩, []⟩,
         ⟨21, ⟨some 48, .mv, [.tmp 4], some (44, true)⟩, []⟩,
         ⟨22, ⟨some 49, .mv, [.tmp 0], some (44, true)⟩, []⟩,
         ⟨23, ⟨some 50, (.len 1), [.tmp 49], some (44, true)⟩, []⟩,
         ⟨24, ⟨some 51, .min, [.tmp 48, .tmp 50], some (44, true)⟩, []⟩,
         ⟨25, ⟨some 52, (.slc 1 false true), [.tmp 47, .tmp 51], some (44, true)⟩, []⟩,
         ⟨26, ⟨some 53, .cvb, [.tmp 52], some (44, true)⟩, []⟩,
         ⟨27, ⟨some 54, (.eqg false 6), [.tmp 46, .tmp 53], some (44, true)⟩, []⟩,
         ⟨28, ⟨some 55, .pick, [.tmp 44, .tmp 54, .const (.bool false)], none⟩, []⟩,
         ⟨29, ⟨some 2, .mv, [.tmp 55], none⟩, []⟩])
       .ret)))))⟩

theorem f9_ok : compF Go.Proofs.Tryd.prog 9 f9.body.hints = some f9 := by kernel_rfl


def f10 : AFun := ⟨66, 2, [.slot 4],
  (.seq (.run [0, 1] [⟨some 4, .mv, [.const (.bool false)], none⟩])
   (.seq (.seq (.run [0, 1, 23] [⟨some 9, .mv, [.tmp 0], none⟩,
       ⟨some 10, (.bin .lss), [.tmp 9, .const (.int .i64 0)], none⟩,
       ⟨some 11, .mv, [.tmp 10], none⟩,
       ⟨some 12, .mv, [.tmp 1], some (11, false)⟩,
       ⟨some 13, (.bin .lss), [.tmp 12, .const (.int .i64 0)], some (11, false)⟩,
       ⟨some 14, .pick, [.tmp 11, .const (.bool true), .tmp 13], none⟩,
       ⟨some 15, .mv, [.tmp 14], none⟩,
       ⟨some 16, .mv, [.tmp 0], some (15, false)⟩,
       ⟨some 17, .mv, [.tmp 1], some (15, false)⟩,
       ⟨some 18, (.bin .geq), [.tmp 16, .tmp 17], some (15, false)⟩,
       ⟨some 19, .pick, [.tmp 15, .const (.bool true), .tmp 18], none⟩,
       ⟨some 20, .mv, [.tmp 19], none⟩,
       ⟨some 21, .mv, [.tmp 1], some (20, false)⟩,
       ⟨some 22, (.bin .gtr), [.tmp 21, .const (.int .i64 65536)], some (20, false)⟩,
       ⟨some 23, .pick, [.tmp 20, .const (.bool true), .tmp 22], none⟩])
     (.cond (.tmp 23)
      (.seq (.run [4] [⟨some 24, (.call 26), [], none⟩,
         ⟨some 4, .mv, [.tmp 24], none⟩])
       .ret)
      .skip))
    (.seq (.run [1, 5, 6] [⟨some 26, .mv, [.tmp 0], none⟩,
       ⟨some 27, (.call 24), [.tmp 26], none⟩,
       ⟨some 25, .mv, [.tmp 27], none⟩,
       ⟨some 28, (.ext 0), [.tmp 25], none⟩,
       ⟨some 29, (.ext 1), [.tmp 25], none⟩,
       ⟨some 5, .mv, [.tmp 28], none⟩,
       ⟨some 6, .mv, [.tmp 29], none⟩])
     (.seq (.run [5, 6, 7, 8] [⟨some 31, .mv, [.tmp 1], none⟩,
        ⟨some 32, (.call 24), [.tmp 31], none⟩,
        ⟨some 30, .mv, [.tmp 32], none⟩,
        ⟨some 33, (.ext 0), [.tmp 30], none⟩,
        ⟨some 34, (.ext 1), [.tmp 30], none⟩,
        ⟨some 7, .mv, [.tmp 33], none⟩,
        ⟨some 8, .mv, [.tmp 34], none⟩])
      (.seq (.runD [4] [⟨0, ⟨some 35, (.call 26), [], none⟩, []⟩,
         ⟨1, ⟨some 36, .mv, [.tmp 35], none⟩, []⟩,
         ⟨2, ⟨some 37, .mv, [.tmp 6], some (36, true)⟩, []⟩,
         ⟨3, ⟨some 38, (.eqg false 6), [.tmp 37, .const (.int .i64 0)], some (36, true)⟩, []⟩,
         ⟨4, ⟨some 39, .pick, [.tmp 36, .tmp 38, .const (.bool false)], none⟩, []⟩,
         ⟨5, ⟨some 40, .mv, [.tmp 39], none⟩, []⟩,
         ⟨6, ⟨some 41, .mv, [.tmp 8], some (40, true)⟩, []⟩,
         ⟨7, ⟨some 42, (.eqg false 6), [.tmp 41, .const (.int .i64 0)], some (40, true)⟩, []⟩,
         ⟨8, ⟨some 43, .pick, [.tmp 40, .tmp 42, .const (.bool false)], none⟩, []⟩,
         ⟨9, ⟨some 44, .mv, [.tmp 43], none⟩, []⟩,
         ⟨10, ⟨some 45, .mv, [.tmp 5], some (44, true)⟩, []⟩,
         ⟨11, ⟨some 46, (.len 1), [.tmp 45], some (44, true)⟩, []⟩,
         ⟨12, ⟨some 47, (.bin .gtr), [.tmp 46, .const (.int .i64 0)], some (44, true)⟩, []⟩,
         ⟨13, ⟨some 48, .pick, [.tmp 44, .tmp 47, .const (.bool false)], none⟩, []⟩,
         ⟨14, ⟨some 49, .mv, [.tmp 48], none⟩, []⟩,
         ⟨15, ⟨some 50, .mv, [.tmp 5], some (49, true)⟩, []⟩,
         ⟨16, ⟨some 51, (.len 1), [.tmp 50], some (49, true)⟩, []⟩,
         ⟨17, ⟨some 52, .mv, [.tmp 7], some (49, true)⟩, []⟩,
         ⟨18, ⟨some 53, (.len 1), [.tmp 52], some (49, true)⟩, []⟩,
         ⟨19, ⟨some 54, (.bin .leq), [.tmp 51, .tmp 53], some (49, true)⟩, []⟩,
         ⟨20, ⟨some 55, .pick, [.tmp 49, .tmp 54, .const (.bool false)], none⟩, []⟩,
         ⟨21, ⟨some 56, .mv, [.tmp 55], none⟩, []⟩,
         ⟨22, ⟨some 57, .mv, [.tmp 7], some (56, true)⟩, []⟩,
         ⟨23, ⟨some 58, .mv, [.tmp 5], some (56, true)⟩, []⟩,
         ⟨24, ⟨some 59, (.len 1), [.tmp 58], some (56, true)⟩, []⟩,
         ⟨25, ⟨some 60, (.slc 1 false true), [.tmp 57, .tmp 59], some (56, true)⟩, []⟩,
         ⟨26, ⟨some 61, .cvb, [.tmp 60], some (56, true)⟩, []⟩,
         ⟨27, ⟨some 62, .mv, [.tmp 5], some (56, true)⟩, []⟩,
         ⟨28, ⟨some 63, .cvb, [.tmp 62], some (56, true)⟩, []⟩,
         ⟨29, ⟨some 64, (.eqg true 6), [.tmp 61, .tmp 63], some (56, true)⟩, []⟩,
         ⟨30, ⟨some 65, .pick, [.tmp 56, .tmp 64, .const (.bool false)], none⟩, []⟩,
         ⟨31, ⟨some 4, .mv, [.tmp 65], none⟩, []⟩])
       .ret)))))⟩

theorem f10_ok : compF Go.Proofs.Tryd.prog 10 f10.body.hints = some f10 := by kernel_rfl


def f11 : AFun := ⟨36, 0, [.slot 0],
  (.seq (.run [] [⟨some 0, .mv, [.const (.bool false)], none⟩])
   (.seq (.run [1, 2, 3] [⟨some 8, (.bslice 1 4 [(.int .u8 0)] [(0, 1), (1, 1), (2, 1), (3, 1)]), [.const (.int .u8 49), .const (.int .u8 13), .const (.int .u8 10), .const (.int .u8 97)], none⟩,
      ⟨some 9, .cvm, [.tmp 8], none⟩,
      ⟨some 10, (.call 12), [.tmp 9], none⟩,
      ⟨some 7, .mv, [.tmp 10], none⟩,
      ⟨some 11, (.ext 0), [.tmp 7], none⟩,
      ⟨some 12, (.ext 1), [.tmp 7], none⟩,
      ⟨some 13, (.ext 2), [.tmp 7], none⟩,
      ⟨some 1, .mv, [.tmp 11], none⟩,
      ⟨some 2, .mv, [.tmp 12], none⟩,
      ⟨some 3, .mv, [.tmp 13], none⟩])
    (.seq (.run [1, 2, 3, 6] [⟨some 15, (.bslice 1 6 [(.int .u8 0)] [(0, 1), (1, 1), (2, 1), (3, 1), (4, 1), (5, 1)]), [.const (.int .u8 48), .const (.int .u8 13), .const (.int .u8 10), .const (.int .u8 13), .const (.int .u8 10), .const (.int .u8 120)], none⟩,
       ⟨some 16, .cvm, [.tmp 15], none⟩,
       ⟨some 17, (.call 12), [.tmp 16], none⟩,
       ⟨some 14, .mv, [.tmp 17], none⟩,
       ⟨some 18, (.ext 0), [.tmp 14], none⟩,
       ⟨some 19, (.ext 1), [.tmp 14], none⟩,
       ⟨some 20, (.ext 2), [.tmp 14], none⟩,
       ⟨some 4, .mv, [.tmp 18], none⟩,
       ⟨some 5, .mv, [.tmp 19], none⟩,
       ⟨some 6, .mv, [.tmp 20], none⟩])
     (.seq (.run [0] [⟨some 21, .mv, [.tmp 1], none⟩,
        ⟨some 22, .cvb, [.tmp 21], none⟩,
        ⟨some 23, (.eqg false 6), [.tmp 22, .const (.string ⟨#[97]⟩)], none⟩,
        ⟨some 24, .mv, [.tmp 23], none⟩,
        ⟨some 25, .mv, [.tmp 2], some (24, true)⟩,
        ⟨some 26, (.un .not), [.tmp 25], some (24, true)⟩,
        ⟨some 27, .pick, [.tmp 24, .tmp 26, .const (.bool false)], none⟩,
        ⟨some 28, .mv, [.tmp 27], none⟩,
        ⟨some 29, .mv, [.tmp 3], some (28, true)⟩,
        ⟨some 30, (.eqg false 6), [.tmp 29, .const (.int .i64 0)], some (28, true)⟩,
        ⟨some 31, .pick, [.tmp 28, .tmp 30, .const (.bool false)], none⟩,
        ⟨some 32, .mv, [.tmp 31], none⟩,
        ⟨some 33, .mv, [.tmp 6], some (32, true)⟩,
        ⟨some 34, (.eqg false 6), [.tmp 33, .const (.int .i64 8)], some (32, true)⟩,
        ⟨some 35, .pick, [.tmp 32, .tmp 34, .const (.bool false)], none⟩,
        ⟨some 0, .mv, [.tmp 35], none⟩])
      .ret))))⟩

theorem f11_ok : compF Go.Proofs.Tryd.prog 11 f11.body.hints = some f11 := by kernel_rfl


def f12 : AFun := ⟨20, 1, [.slot 2, .slot 3, .slot 4],
  (.seq (.run [0] [⟨some 2, .mv, [.const (.slice none 0 0)], none⟩,
     ⟨some 3, .mv, [.const (.bool false)], none⟩,
     ⟨some 4, .mv, [.const (.int .i64 0)], none⟩])
   (.seq (.run [0, 5] [⟨some 7, (.call 20), [], none⟩,
      ⟨some 5, .mv, [.tmp 7], none⟩])
    (.seq (.seq (.run [5, 6] [⟨some 8, .mv, [.tmp 5], none⟩,
        ⟨some 9, .mv, [.tmp 0], none⟩,
        ⟨some 10, (.call 14), [.tmp 8, .tmp 9], none⟩,
        ⟨some 6, .mv, [.tmp 10], none⟩])
      (.seq (.run [5, 6, 12] [⟨some 11, .mv, [.tmp 6], none⟩,
         ⟨some 12, (.eqg true 6), [.tmp 11, .const (.int .i64 0)], none⟩])
       (.cond (.tmp 12)
        (.seq (.run [2, 3, 4] [⟨some 13, .mv, [.tmp 6], none⟩,
           ⟨some 2, .mv, [.const (.slice none 0 0)], none⟩,
           ⟨some 3, .mv, [.const (.bool false)], none⟩,
           ⟨some 4, .mv, [.tmp 13], none⟩])
         .ret)
        .skip)))
     (.seq (.runD [2, 3, 4] [⟨0, ⟨some 14, .mv, [.tmp 5], none⟩, []⟩,
        ⟨1, ⟨some 15, .nilck, [.tmp 14], none⟩, []⟩,
        ⟨2, ⟨some 16, (.faddr 3), [.tmp 15], none⟩, []⟩,
        ⟨3, ⟨some 17, (.ld false 1), [.tmp 16], none⟩, []⟩,
        ⟨4, ⟨some 18, .mv, [.tmp 5], none⟩, []⟩,
        ⟨5, ⟨some 19, (.call 18), [.tmp 18], none⟩, [3]⟩,
        ⟨6, ⟨some 2, .mv, [.tmp 17], none⟩, []⟩,
        ⟨7, ⟨some 3, .mv, [.tmp 19], none⟩, []⟩,
        ⟨8, ⟨some 4, .mv, [.const (.int .i64 0)], none⟩, []⟩])
      .ret))))⟩

theorem f12_ok : compF Go.Proofs.Tryd.prog 12 f12.body.hints = some f12 := by kernel_rfl


def f13 : AFun := ⟨21, 1, [.slot 2, .slot 3, .slot 4],
  (.seq (.run [0] [⟨some 2, .mv, [.const (.slice none 0 0)], none⟩,
     ⟨some 3, .mv, [.const (.bool false)], none⟩,
     ⟨some 4, .mv, [.const (.int .i64 0)], none⟩])
   (.seq (.run [0, 5] [⟨some 7, .mv, [.tmp 0], none⟩,
      ⟨some 8, (.call 22), [.tmp 7], none⟩,
      ⟨some 5, (.alloc [(.sl [] .nil), (.sl [] .nil), (.bool false), (.bool false), (.bool false)]), [], none⟩,
      ⟨none, (.st 5), [.tmp 5, .tmp 8], none⟩])
    (.seq (.seq (.run [0, 5, 11] [⟨some 9, (.faddr 4), [.tmp 5], none⟩,
        ⟨some 10, (.ld false 1), [.tmp 9], none⟩,
        ⟨some 11, (.un .not), [.tmp 10], none⟩])
      (.cond (.tmp 11)
       (.seq (.run [0, 6] [⟨some 12, (.build [(.sl [] .nil), (.int .i64 0)] []), [], none⟩,
          ⟨some 13, .box, [.tmp 12], none⟩,
          ⟨some 6, .mv, [.tmp 13], none⟩])
        (.seq (.run [2, 3, 4] [⟨some 14, .mv, [.tmp 6], none⟩,
           ⟨some 15, .mv, [.tmp 0], none⟩,
           ⟨some 16, (.call 21), [.tmp 14, .tmp 15], none⟩,
           ⟨some 2, .mv, [.const (.slice none 0 0)], none⟩,
           ⟨some 3, .mv, [.const (.bool false)], none⟩,
           ⟨some 4, .mv, [.tmp 16], none⟩])
         .ret))
       .skip))
     (.seq (.runD [2, 3, 4] [⟨0, ⟨some 17, (.faddr 0), [.tmp 5], none⟩, []⟩,
        ⟨1, ⟨some 18, (.ld false 1), [.tmp 17], none⟩, []⟩,
        ⟨2, ⟨some 19, (.faddr 3), [.tmp 5], none⟩, []⟩,
        ⟨3, ⟨some 20, (.ld false 1), [.tmp 19], none⟩, []⟩,
        ⟨4, ⟨some 2, .mv, [.tmp 18], none⟩, []⟩,
        ⟨5, ⟨some 3, .mv, [.tmp 20], none⟩, []⟩,
        ⟨6, ⟨some 4, .mv, [.const (.int .i64 0)], none⟩, []⟩])
      .ret))))⟩

theorem f13_ok : compF Go.Proofs.Tryd.prog 13 f13.body.hints = some f13 := by kernel_rfl


def f14 : AFun := ⟨43, 2, [.slot 4],
  (.seq (.run [0, 1] [⟨some 4, .mv, [.const (.int .i64 0)], none⟩])
   (.seq (.seq (.run [0, 1, 8] [⟨some 7, .mv, [.tmp 0], none⟩,
       ⟨some 8, (.eqg false 1), [.tmp 7, .const (.pointer none)], none⟩])
     (.cond (.tmp 8)
      (.seq (.run [4] [⟨some 4, .mv, [.const (.int .i64 1)], none⟩])
       .ret)
      .skip))
    (.seq (.seq (.run [0, 9, 10, 11] [⟨some 9, .mv, [.tmp 1], none⟩,
        ⟨some 10, (.len 1), [.tmp 9], none⟩,
        ⟨some 11, .mv, [.const (.int .i64 0)], none⟩])
      (.block 0 (.loop [0, 9, 10, 11] (.seq (.run [0, 9, 10, 11, 12] [⟨some 12, (.bin .lss), [.tmp 11, .tmp 10], none⟩])
         (.seq (.cond (.tmp 12)
           .skip
           (.exit 0))
          (.seq (.block 1 (.seq (.run [0, 6, 9, 10, 11] [⟨some 13, (.iaddr 1), [.tmp 9, .tmp 11], none⟩,
               ⟨some 14, (.ld false 1), [.tmp 13], none⟩,
               ⟨some 6, .mv, [.tmp 14], none⟩])
             (.seq (.seq (.run [0, 6, 9, 10, 11, 19] [⟨some 15, .mv, [.tmp 0], none⟩,
                 ⟨some 16, .nilck, [.tmp 15], none⟩,
                 ⟨some 17, (.faddr 6), [.tmp 16], none⟩,
                 ⟨some 18, (.ld false 1), [.tmp 17], none⟩,
                 ⟨some 19, (.eqg true 6), [.tmp 18, .const (.int .i64 0)], none⟩])
               (.cond (.tmp 19)
                (.exit 0)
                .skip))
              (.seq (.run [0, 9, 10, 11] [⟨some 20, .mv, [.tmp 0], none⟩,
                 ⟨some 21, .mv, [.tmp 0], none⟩,
                 ⟨some 22, .mv, [.tmp 6], none⟩,
                 ⟨some 23, (.call 29), [.tmp 21, .tmp 22], none⟩,
                 ⟨some 24, .nilck, [.tmp 20], none⟩,
                 ⟨some 25, (.faddr 6), [.tmp 24], none⟩,
                 ⟨none, (.st 1), [.tmp 25, .tmp 23], none⟩])
               (.seq (.run [0, 9, 10, 11, 30] [⟨some 26, .mv, [.tmp 0], none⟩,
                  ⟨some 27, .nilck, [.tmp 26], none⟩,
                  ⟨some 28, (.faddr 6), [.tmp 27], none⟩,
                  ⟨some 29, (.ld false 1), [.tmp 28], none⟩,
                  ⟨some 30, (.eqg false 6), [.tmp 29, .const (.int .i64 0)], none⟩])
                (.cond (.tmp 30)
                 (.run [0, 9, 10, 11] [⟨some 31, .mv, [.tmp 0], none⟩,
                   ⟨some 32, .nilck, [.tmp 31], none⟩,
                   ⟨some 33, (.faddr 5), [.tmp 32], none⟩,
                   ⟨some 34, (.ld false 1), [.tmp 33], none⟩,
                   ⟨some 35, (.bin .add), [.tmp 34, .const (.int .i64 1)], none⟩,
                   ⟨some 36, .nilck, [.tmp 31], none⟩,
                   ⟨some 37, (.faddr 5), [.tmp 36], none⟩,
                   ⟨none, (.st 1), [.tmp 37, .tmp 35], none⟩])
                 .skip))))))
           (.run [0, 9, 10, 11] [⟨some 38, (.bin .add), [.tmp 11, .const (.int .i64 1)], none⟩,
             ⟨some 11, .mv, [.tmp 38], none⟩])))))))
     (.seq (.run [4] [⟨some 39, .mv, [.tmp 0], none⟩,
        ⟨some 40, .nilck, [.tmp 39], none⟩,
        ⟨some 41, (.faddr 6), [.tmp 40], none⟩,
        ⟨some 42, (.ld false 1), [.tmp 41], none⟩,
        ⟨some 4, .mv, [.tmp 42], none⟩])
      .ret))))⟩

theorem f14_ok : compF Go.Proofs.Tryd.prog 14 f14.body.hints = some f14 := by kernel_rfl


def f15 : AFun := ⟨10, 1, [.slot 2],
  (.seq (.run [0] [⟨some 2, .mv, [.const (.slice none 0 0)], none⟩])
   (.seq (.seq (.run [0, 4] [⟨some 3, .mv, [.tmp 0], none⟩,
       ⟨some 4, (.eqg false 1), [.tmp 3, .const (.pointer none)], none⟩])
     (.cond (.tmp 4)
      (.seq (.run [2] [⟨some 2, .mv, [.const (.slice none 0 0)], none⟩])
       .ret)
      .skip))
    (.seq (.run [2] [⟨some 5, .mv, [.tmp 0], none⟩,
       ⟨some 6, .nilck, [.tmp 5], none⟩,
       ⟨some 7, (.faddr 3), [.tmp 6], none⟩,
       ⟨some 8, (.ld false 1), [.tmp 7], none⟩,
       ⟨some 9, (.call 30), [.tmp 8], none⟩,
       ⟨some 2, .mv, [.tmp 9], none⟩])
     .ret)))⟩

theorem f15_ok : compF Go.Proofs.Tryd.prog 15 f15.body.hints = some f15 := by kernel_rfl


def f16 : AFun := ⟨10, 1, [.slot 2],
  (.seq (.run [0] [⟨some 2, .mv, [.const (.slice none 0 0)], none⟩])
   (.seq (.seq (.run [0, 4] [⟨some 3, .mv, [.tmp 0], none⟩,
       ⟨some 4, (.eqg false 1), [.tmp 3, .const (.pointer none)], none⟩])
     (.cond (.tmp 4)
      (.seq (.run [2] [⟨some 2, .mv, [.const (.slice none 0 0)], none⟩])
       .ret)
      .skip))
    (.seq (.run [2] [⟨some 5, .mv, [.tmp 0], none⟩,
       ⟨some 6, .nilck, [.tmp 5], none⟩,
       ⟨some 7, (.faddr 4), [.tmp 6], none⟩,
       ⟨some 8, (.ld false 1), [.tmp 7], none⟩,
       ⟨some 9, (.call 31), [.tmp 8], none⟩,
       ⟨some 2, .mv, [.tmp 9], none⟩])
     .ret)))⟩

theorem f16_ok : compF Go.Proofs.Tryd.prog 16 f16.body.hints = some f16 := by kernel_rfl


def f17 : AFun := ⟨27, 1, [.slot 2],
  (.seq (.run [0] [⟨some 2, .mv, [.const (.bool false)], none⟩])
   (.seq (.run [2] [⟨some 3, .mv, [.tmp 0], none⟩,
      ⟨some 4, (.eqg true 1), [.tmp 3, .const (.pointer none)], none⟩,
      ⟨some 5, .mv, [.tmp 4], none⟩,
      ⟨some 6, .mv, [.tmp 0], some (5, true)⟩,
      ⟨some 7, .nilck, [.tmp 6], some (5, true)⟩,
      ⟨some 8, (.faddr 0), [.tmp 7], some (5, true)⟩,
      ⟨some 9, (.ld false 1), [.tmp 8], some (5, true)⟩,
      ⟨some 10, (.eqg false 6), [.tmp 9, .const (.int .i64 4)], some (5, true)⟩,
      ⟨some 11, .mv, [.tmp 10], some (5, true)⟩,
      ⟨some 12, .mv, [.tmp 0], some (11, false)⟩,
      ⟨some 13, .nilck, [.tmp 12], some (11, false)⟩,
      ⟨some 14, (.faddr 0), [.tmp 13], some (11, false)⟩,
      ⟨some 15, (.ld false 1), [.tmp 14], some (11, false)⟩,
      ⟨some 16, (.eqg false 6), [.tmp 15, .const (.int .i64 0)], some (11, false)⟩,
      ⟨some 17, .mv, [.tmp 16], some (11, false)⟩,
      ⟨some 18, .mv, [.tmp 0], some (17, true)⟩,
      ⟨some 19, .nilck, [.tmp 18], some (17, true)⟩,
      ⟨some 20, (.faddr 1), [.tmp 19], some (17, true)⟩,
      ⟨some 21, (.ld false 1), [.tmp 20], some (17, true)⟩,
      ⟨some 22, (.len 1), [.tmp 21], some (17, true)⟩,
      ⟨some 23, (.eqg false 6), [.tmp 22, .const (.int .i64 0)], some (17, true)⟩,
      ⟨some 24, .pick, [.tmp 17, .tmp 23, .const (.bool false)], some (11, false)⟩,
      ⟨some 25, .pick, [.tmp 11, .const (.bool true), .tmp 24], some (5, true)⟩,
      ⟨some 26, .pick, [.tmp 5, .tmp 25, .const (.bool false)], none⟩,
      ⟨some 2, .mv, [.tmp 26], none⟩])
    .ret))⟩

theorem f17_ok : compF Go.Proofs.Tryd.prog 17 f17.body.hints = some f17 := by kernel_rfl


def f18 : AFun := ⟨12, 1, [.slot 2],
  (.seq (.run [0] [⟨some 2, .mv, [.const (.bool false)], none⟩])
   (.seq (.run [2] [⟨some 3, .mv, [.tmp 0], none⟩,
      ⟨some 4, (.eqg true 1), [.tmp 3, .const (.pointer none)], none⟩,
      ⟨some 5, .mv, [.tmp 4], none⟩,
      ⟨some 6, .mv, [.tmp 0], some (5, true)⟩,
      ⟨some 7, .nilck, [.tmp 6], some (5, true)⟩,
      ⟨some 8, (.faddr 0), [.tmp 7], some (5, true)⟩,
      ⟨some 9, (.ld false 1), [.tmp 8], some (5, true)⟩,
      ⟨some 10, (.eqg false 6), [.tmp 9, .const (.int .i64 4)], some (5, true)⟩,
      ⟨some 11, .pick, [.tmp 5, .tmp 10, .const (.bool false)], none⟩,
      ⟨some 2, .mv, [.tmp 11], none⟩])
    .ret))⟩

theorem f18_ok : compF Go.Proofs.Tryd.prog 18 f18.body.hints = some f18 := by kernel_rfl


def f19 : AFun := ⟨9, 1, [.slot 2],
  (.seq (.run [0] [⟨some 2, .mv, [.const (.int .i64 0)], none⟩])
   (.seq (.seq (.run [0, 4] [⟨some 3, .mv, [.tmp 0], none⟩,
       ⟨some 4, (.eqg false 1), [.tmp 3, .const (.pointer none)], none⟩])
     (.cond (.tmp 4)
      (.seq (.run [2] [⟨some 2, .mv, [.const (.int .i64 0)], none⟩])
       .ret)
      .skip))
    (.seq (.run [2] [⟨some 5, .mv, [.tmp 0], none⟩,
       ⟨some 6, .nilck, [.tmp 5], none⟩,
       ⟨some 7, (.faddr 5), [.tmp 6], none⟩,
       ⟨some 8, (.ld false 1), [.tmp 7], none⟩,
       ⟨some 2, .mv, [.tmp 8], none⟩])
     .ret)))⟩

theorem f19_ok : compF Go.Proofs.Tryd.prog 19 f19.body.hints = some f19 := by kernel_rfl


def f20 : AFun := ⟨3, 0, [.slot 0],
  (.seq (.run [] [⟨some 0, .mv, [.const (.pointer none)], none⟩])
   (.seq (.run [0] [⟨some 1, (.build [(.int .i64 0), (.sl [] .nil), (.int .i64 0), (.sl [] .nil), (.sl [] .nil), (.int .i64 0), (.int .i64 0)] []), [], none⟩,
      ⟨some 2, .box, [.tmp 1], none⟩,
      ⟨some 0, .mv, [.tmp 2], none⟩])
    .ret))⟩

theorem f20_ok : compF Go.Proofs.Tryd.prog 20 f20.body.hints = some f20 := by kernel_rfl


def f21 : AFun := ⟨55, 2, [.slot 4],
  (.seq (.run [0, 1] [⟨some 4, .mv, [.const (.int .i64 0)], none⟩])
   (.seq (.seq (.run [0, 1, 5] [⟨some 5, .mv, [.const (.int .i64 0)], none⟩])
     (.block 0 (.loop [0, 1, 5] (.seq (.seq (.run [0, 1, 5, 17] [⟨some 7, .mv, [.tmp 5], none⟩,
           ⟨some 8, .mv, [.tmp 1], none⟩,
           ⟨some 9, (.len 1), [.tmp 8], none⟩,
           ⟨some 10, (.bin .lss), [.tmp 7, .tmp 9], none⟩,
           ⟨some 11, .mv, [.tmp 10], none⟩,
           ⟨some 12, .mv, [.tmp 0], some (11, true)⟩,
           ⟨some 13, .nilck, [.tmp 12], some (11, true)⟩,
           ⟨some 14, (.faddr 1), [.tmp 13], some (11, true)⟩,
           ⟨some 15, (.ld false 1), [.tmp 14], some (11, true)⟩,
           ⟨some 16, (.eqg false 6), [.tmp 15, .const (.int .i64 0)], some (11, true)⟩,
           ⟨some 17, .pick, [.tmp 11, .tmp 16, .const (.bool false)], none⟩])
         (.cond (.tmp 17)
          .skip
          (.exit 0)))
        (.seq (.block 1 (.seq (.runT [0, 1, 5, 6]
            (.frk [⟨1, ⟨some 21, .mv, [.tmp 0], none⟩, []⟩,
              ⟨2, ⟨some 22, .nilck, [.tmp 21], none⟩, []⟩,
              ⟨3, ⟨some 23, (.faddr 0), [.tmp 22], none⟩, []⟩,
              ⟨4, ⟨some 24, (.ld false 1), [.tmp 23], none⟩, []⟩,
              ⟨6, ⟨some 26, .mv, [.tmp 1], none⟩, []⟩,
              ⟨7, ⟨some 27, .mv, [.tmp 5], none⟩, []⟩,
              ⟨8, ⟨some 28, (.iaddr 1), [.tmp 26, .tmp 27], none⟩, []⟩,
              ⟨9, ⟨some 29, (.ld false 1), [.tmp 28], none⟩, []⟩]
            ⟨0, ⟨some 20, (.bslice 1 0 [(.int .u8 0)] []), [], none⟩, [4, 9]⟩
            (.frk []
             ⟨5, ⟨some 25, (.app 1 1), [.tmp 20, .tmp 24], none⟩, [9]⟩
             (.lin [⟨10, ⟨some 30, (.bslice 1 1 [(.int .u8 0)] [(0, 1)]), [.tmp 29], none⟩, [4]⟩,
                ⟨11, ⟨some 31, (.app 1 1), [.tmp 25, .tmp 30], none⟩, []⟩,
                ⟨12, ⟨some 6, .mv, [.tmp 31], none⟩, []⟩])
             ⟨10, ⟨some 30, (.bslice 1 1 [(.int .u8 0)] [(0, 1)]), [.tmp 29], none⟩, [4]⟩
             (.lin [⟨5, ⟨some 25, (.app 1 1), [.tmp 20, .tmp 24], none⟩, [9]⟩,
                ⟨11, ⟨some 31, (.app 1 1), [.tmp 25, .tmp 30], none⟩, []⟩,
                ⟨12, ⟨some 6, .mv, [.tmp 31], none⟩, []⟩]))
            ⟨10, ⟨some 30, (.bslice 1 1 [(.int .u8 0)] [(0, 1)]), [.tmp 29], none⟩, [4]⟩
            (.lin [⟨0, ⟨some 20, (.bslice 1 0 [(.int .u8 0)] []), [], none⟩, [4, 9]⟩,
               ⟨5, ⟨some 25, (.app 1 1), [.tmp 20, .tmp 24], none⟩, [9]⟩,
               ⟨11, ⟨some 31, (.app 1 1), [.tmp 25, .tmp 30], none⟩, []⟩,
               ⟨12, ⟨some 6, .mv, [.tmp 31], none⟩, []⟩])))
           (.seq (.seq (.run [0, 1, 5, 6, 34] [⟨some 32, .mv, [.tmp 6], none⟩,
               ⟨some 33, (.call 22), [.tmp 32], none⟩,
               ⟨some 34, (.fld false 4 1), [.tmp 33], none⟩])
             (.cond (.tmp 34)
              (.seq (.run [0, 1, 5] [⟨some 35, .mv, [.tmp 0], none⟩,
                 ⟨some 36, .mv, [.tmp 6], none⟩,
                 ⟨some 37, .nilck, [.tmp 35], none⟩,
                 ⟨some 38, (.faddr 0), [.tmp 37], none⟩,
                 ⟨none, (.st 1), [.tmp 38, .tmp 36], none⟩])
               (.exit 1))
              .skip))
            (.seq (.run [0, 1, 5] [⟨some 39, .mv, [.tmp 0], none⟩,
               ⟨some 40, .nilck, [.tmp 39], none⟩,
               ⟨some 41, (.faddr 1), [.tmp 40], none⟩,
               ⟨none, (.st 1), [.tmp 41, .const (.int .i64 5)], none⟩])
             (.seq (.run [0, 1, 5, 47] [⟨some 42, .mv, [.tmp 0], none⟩,
                ⟨some 43, .nilck, [.tmp 42], none⟩,
                ⟨some 44, (.faddr 0), [.tmp 43], none⟩,
                ⟨some 45, (.ld false 1), [.tmp 44], none⟩,
                ⟨some 46, (.call 22), [.tmp 45], none⟩,
                ⟨some 47, (.fld false 3 1), [.tmp 46], none⟩])
              (.cond (.tmp 47)
               (.run [0, 1, 5] [⟨some 48, .mv, [.tmp 0], none⟩,
                 ⟨some 49, .nilck, [.tmp 48], none⟩,
                 ⟨some 50, (.faddr 1), [.tmp 49], none⟩,
                 ⟨none, (.st 1), [.tmp 50, .const (.int .i64 8)], none⟩])
               .skip))))))
         (.run [0, 1, 5] [⟨some 18, .mv, [.tmp 5], none⟩,
           ⟨some 19, (.bin .add), [.tmp 18, .const (.int .i64 1)], none⟩,
           ⟨some 5, .mv, [.tmp 19], none⟩]))))))
    (.seq (.run [4] [⟨some 51, .mv, [.tmp 0], none⟩,
       ⟨some 52, .nilck, [.tmp 51], none⟩,
       ⟨some 53, (.faddr 1), [.tmp 52], none⟩,
       ⟨some 54, (.ld false 1), [.tmp 53], none⟩,
       ⟨some 4, .mv, [.tmp 54], none⟩])
     .ret)))⟩

theorem f21_ok : compF Go.Proofs.Tryd.prog 21 f21.body.hints = some f21 := by kernel_rfl


def f22 : AFun := ⟨98, 1, [.cell 2 (.ld true 5)],
  (.seq (.run [0, 2] [⟨some 2, (.alloc [(.sl [] .nil), (.sl [] .nil), (.bool false), (.bool false), (.bool false)]), [], none⟩])
   (.seq (.run [0, 2, 3] [⟨some 8, (.build [(.sl [] .nil), (.sl [] .nil), (.bool false), (.bool false), (.bool false)] [(4, 1)]), [.const (.bool true)], none⟩,
      ⟨some 3, (.alloc [(.sl [] .nil), (.sl [] .nil), (.bool false), (.bool false), (.bool false)]), [], none⟩,
      ⟨none, (.st 5), [.tmp 3, .tmp 8], none⟩])
    (.block 0 (.loop [0, 2, 3] (.block 1 (.seq (.seq (.run [0, 2, 3, 10] [⟨some 9, (.faddr 3), [.tmp 3], none⟩,
           ⟨some 10, (.ld false 1), [.tmp 9], none⟩])
         (.cond (.tmp 10)
          (.seq (.run [2, 3] [⟨some 11, .mv, [.tmp 0], none⟩,
             ⟨some 12, (.len 1), [.tmp 11], none⟩,
             ⟨some 13, (.eqg false 6), [.tmp 12, .const (.int .i64 0)], none⟩,
             ⟨some 14, (.faddr 4), [.tmp 3], none⟩,
             ⟨none, (.st 1), [.tmp 14, .tmp 13], none⟩])
           (.seq (.run [2] [⟨some 15, (.ld true 5), [.tmp 3], none⟩,
              ⟨none, (.st 5), [.tmp 2, .tmp 15], none⟩])
            .ret))
          .skip))
        (.seq (.seq (.run [0, 2, 3, 18] [⟨some 16, .mv, [.tmp 0], none⟩,
            ⟨some 17, (.len 1), [.tmp 16], none⟩,
            ⟨some 18, (.eqg false 6), [.tmp 17, .const (.int .i64 0)], none⟩])
          (.cond (.tmp 18)
           (.seq (.run [2, 3] [⟨some 19, (.faddr 2), [.tmp 3], none⟩,
              ⟨none, (.st 1), [.tmp 19, .const (.bool true)], none⟩])
            (.seq (.run [2] [⟨some 20, (.ld true 5), [.tmp 3], none⟩,
               ⟨none, (.st 5), [.tmp 2, .tmp 20], none⟩])
             .ret))
           .skip))
         (.seq (.run [0, 2, 3, 4, 5, 6] [⟨some 22, .mv, [.tmp 0], none⟩,
            ⟨some 23, (.call 28), [.tmp 22], none⟩,
            ⟨some 21, .mv, [.tmp 23], none⟩,
            ⟨some 24, (.ext 0), [.tmp 21], none⟩,
            ⟨some 25, (.ext 1), [.tmp 21], none⟩,
            ⟨some 26, (.ext 2), [.tmp 21], none⟩,
            ⟨some 4, .mv, [.tmp 24], none⟩,
            ⟨some 5, .mv, [.tmp 25], none⟩,
            ⟨some 6, .mv, [.tmp 26], none⟩])
          (.seq (.seq (.run [0, 2, 3, 4, 5, 6, 28] [⟨some 27, .mv, [.tmp 6], none⟩,
              ⟨some 28, (.eqg false 6), [.tmp 27, .const (.int .i64 7)], none⟩])
            (.cond (.tmp 28)
             (.seq (.run [2] [⟨some 29, (.ld true 5), [.tmp 3], none⟩,
                ⟨none, (.st 5), [.tmp 2, .tmp 29], none⟩])
              .ret)
             .skip))
           (.seq (.seq (.run [0, 2, 3, 4, 5, 31] [⟨some 30, .mv, [.tmp 6], none⟩,
               ⟨some 31, (.eqg true 6), [.tmp 30, .const (.int .i64 0)], none⟩])
             (.cond (.tmp 31)
              (.seq (.run [2, 3] [⟨some 32, (.faddr 4), [.tmp 3], none⟩,
                 ⟨none, (.st 1), [.tmp 32, .const (.bool false)], none⟩])
               (.seq (.run [2] [⟨some 33, (.ld true 5), [.tmp 3], none⟩,
                  ⟨none, (.st 5), [.tmp 2, .tmp 33], none⟩])
                .ret))
              .skip))
            (.seq (.run [0, 2, 3, 4] [⟨some 34, .mv, [.tmp 0], none⟩,
               ⟨some 35, .mv, [.tmp 5], none⟩,
               ⟨some 36, (.slc 1 true false), [.tmp 34, .tmp 35], none⟩,
               ⟨some 0, .mv, [.tmp 36], none⟩])
             (.seq (.run [0, 2, 3, 4] [⟨some 37, (.faddr 1), [.tmp 3], none⟩,
                ⟨some 38, (.ld false 1), [.tmp 37], none⟩,
                ⟨some 39, .mv, [.tmp 4], none⟩,
                ⟨some 40, (.bslice 1 1 [(.int .i64 0)] [(0, 1)]), [.tmp 39], none⟩,
                ⟨some 41, (.app 1 8), [.tmp 38, .tmp 40], none⟩,
                ⟨some 42, (.faddr 1), [.tmp 3], none⟩,
                ⟨none, (.st 1), [.tmp 42, .tmp 41], none⟩])
              (.seq (.run [0, 2, 3, 4, 7] [⟨some 43, .mv, [.tmp 4], none⟩,
                 ⟨some 7, .mv, [.tmp 43], none⟩])
               (.seq (.seq (.run [0, 2, 3, 4, 7, 47] [⟨some 44, .mv, [.tmp 7], none⟩,
                   ⟨some 45, .mv, [.tmp 0], none⟩,
                   ⟨some 46, (.len 1), [.tmp 45], none⟩,
                   ⟨some 47, (.bin .gtr), [.tmp 44, .tmp 46], none⟩])
                 (.cond (.tmp 47)
                  (.run [0, 2, 3, 4, 7] [⟨some 48, .mv, [.tmp 0], none⟩,
                    ⟨some 49, (.len 1), [.tmp 48], none⟩,
                    ⟨some 7, .mv, [.tmp 49], none⟩])
                  .skip))
                (.seq (.runD [0, 2, 3, 4, 7] [⟨0, ⟨some 50, (.faddr 0), [.tmp 3], none⟩, []⟩,
                   ⟨1, ⟨some 51, (.ld false 1), [.tmp 50], none⟩, []⟩,
                   ⟨2, ⟨some 52, .mv, [.tmp 0], none⟩, []⟩,
                   ⟨3, ⟨some 53, .mv, [.tmp 7], none⟩, []⟩,
                   ⟨4, ⟨some 54, (.slc 1 false true), [.tmp 52, .tmp 53], none⟩, []⟩,
                   ⟨5, ⟨some 55, (.app 1 1), [.tmp 51, .tmp 54], none⟩, []⟩,
                   ⟨6, ⟨some 56, (.faddr 0), [.tmp 3], none⟩, []⟩,
                   ⟨7, ⟨none, (.st 1), [.tmp 56, .tmp 55], none⟩, []⟩])
                 (.seq (.run [0, 2, 3, 4, 7] [⟨some 57, .mv, [.tmp 0], none⟩,
                    ⟨some 58, .mv, [.tmp 7], none⟩,
                    ⟨some 59, (.slc 1 true false), [.tmp 57, .tmp 58], none⟩,
                    ⟨some 0, .mv, [.tmp 59], none⟩])
                  (.seq (.seq (.run [0, 2, 3, 4, 67] [⟨some 60, .mv, [.tmp 7], none⟩,
                      ⟨some 61, .mv, [.tmp 4], none⟩,
                      ⟨some 62, (.bin .lss), [.tmp 60, .tmp 61], none⟩,
                      ⟨some 63, .mv, [.tmp 62], none⟩,
                      ⟨some 64, .mv, [.tmp 0], some (63, false)⟩,
                      ⟨some 65, (.len 1), [.tmp 64], some (63, false)⟩,
                      ⟨some 66, (.eqg false 6), [.tmp 65, .const (.int .i64 0)], some (63, false)⟩,
                      ⟨some 67, .pick, [.tmp 63, .const (.bool true), .tmp 66], none⟩])
                    (.cond (.tmp 67)
                     (.seq (.run [2] [⟨some 68, (.ld true 5), [.tmp 3], none⟩,
                        ⟨none, (.st 5), [.tmp 2, .tmp 68], none⟩])
                      .ret)
                     .skip))
                   (.seq (.seq (.run [0, 2, 3, 4, 83] [⟨some 69, .mv, [.tmp 0], none⟩,
                       ⟨some 70, (.iaddr 1), [.tmp 69, .const (.int .i64 0)], none⟩,
                       ⟨some 71, (.ld false 1), [.tmp 70], none⟩,
                       ⟨some 72, (.eqg true 6), [.tmp 71, .const (.int .u8 13)], none⟩,
                       ⟨some 73, .mv, [.tmp 72], none⟩,
                       ⟨some 74, .mv, [.tmp 0], some (73, false)⟩,
                       ⟨some 75, (.len 1), [.tmp 74], some (73, false)⟩,
                       ⟨some 76, (.bin .gtr), [.tmp 75, .const (.int .i64 1)], some (73, false)⟩,
                       ⟨some 77, .mv, [.tmp 76], some (73, false)⟩,
                       ⟨some 78, .mv, [.tmp 0], some (77, true)⟩,
                       ⟨some 79, (.iaddr 1), [.tmp 78, .const (.int .i64 1)], some (77, true)⟩,
                       ⟨some 80, (.ld false 1), [.tmp 79], some (77, true)⟩,
                       ⟨some 81, (.eqg true 6), [.tmp 80, .const (.int .u8 10)], some (77, true)⟩,
                       ⟨some 82, .pick, [.tmp 77, .tmp 81, .const (.bool false)], some (73, false)⟩,
                       ⟨some 83, .pick, [.tmp 73, .const (.bool true), .tmp 82], none⟩])
                     (.cond (.tmp 83)
                      (.seq (.run [2, 3] [⟨some 84, (.faddr 4), [.tmp 3], none⟩,
                         ⟨none, (.st 1), [.tmp 84, .const (.bool false)], none⟩])
                       (.seq (.run [2] [⟨some 85, (.ld true 5), [.tmp 3], none⟩,
                          ⟨none, (.st 5), [.tmp 2, .tmp 85], none⟩])
                        .ret))
                      .skip))
                    (.seq (.seq (.run [0, 2, 3, 4, 88] [⟨some 86, .mv, [.tmp 0], none⟩,
                        ⟨some 87, (.len 1), [.tmp 86], none⟩,
                        ⟨some 88, (.eqg false 6), [.tmp 87, .const (.int .i64 1)], none⟩])
                      (.cond (.tmp 88)
                       (.seq (.run [2] [⟨some 89, (.ld true 5), [.tmp 3], none⟩,
                          ⟨none, (.st 5), [.tmp 2, .tmp 89], none⟩])
                        .ret)
                       .skip))
                     (.seq (.run [0, 2, 3, 4] [⟨some 90, .mv, [.tmp 0], none⟩,
                        ⟨some 91, (.slc 1 true false), [.tmp 90, .const (.int .i64 2)], none⟩,
                        ⟨some 0, .mv, [.tmp 91], none⟩])
                      (.seq (.run [0, 2, 3] [⟨some 92, .mv, [.tmp 4], none⟩,
                         ⟨some 93, (.eqg false 6), [.tmp 92, .const (.int .i64 0)], none⟩,
                         ⟨some 94, (.faddr 3), [.tmp 3], none⟩,
                         ⟨none, (.st 1), [.tmp 94, .tmp 93], none⟩])
                       (.run [0, 2, 3] [⟨some 95, (.faddr 3), [.tmp 3], none⟩,
                         ⟨some 96, (.ld false 1), [.tmp 95], none⟩,
                         ⟨some 97, (.faddr 2), [.tmp 3], none⟩,
                         ⟨none, (.st 1), [.tmp 97, .tmp 96], none⟩]))))))))))))))))))))))⟩

theorem f22_ok : compF Go.Proofs.Tryd.prog 22 f22.body.hints = some f22 := by kernel_rfl


def f23 : AFun := ⟨26, 2, [.slot 4],
  (.seq (.run [0, 1] [⟨some 4, .mv, [.const (.bool false)], none⟩])
   (.seq (.seq (.run [0, 1, 10] [⟨some 6, .mv, [.tmp 0], none⟩,
       ⟨some 7, (.len 1), [.tmp 6], none⟩,
       ⟨some 8, .mv, [.tmp 1], none⟩,
       ⟨some 9, (.len 1), [.tmp 8], none⟩,
       ⟨some 10, (.eqg true 6), [.tmp 7, .tmp 9], none⟩])
     (.cond (.tmp 10)
      (.seq (.run [4] [⟨some 4, .mv, [.const (.bool false)], none⟩])
       .ret)
      .skip))
    (.seq (.seq (.run [0, 1, 12, 13] [⟨some 11, .mv, [.tmp 0], none⟩,
        ⟨some 12, (.len 1), [.tmp 11], none⟩,
        ⟨some 13, .mv, [.const (.int .i64 0)], none⟩])
      (.block 0 (.loop [0, 1, 12, 13] (.seq (.run [0, 1, 12, 13, 14] [⟨some 14, (.bin .lss), [.tmp 13, .tmp 12], none⟩])
         (.seq (.cond (.tmp 14)
           .skip
           (.exit 0))
          (.seq (.block 1 (.seq (.run [0, 1, 5, 12, 13] [⟨some 15, .mv, [.tmp 13], none⟩,
               ⟨some 5, .mv, [.tmp 15], none⟩])
             (.seq (.runD [0, 1, 12, 13, 24] [⟨0, ⟨some 16, .mv, [.tmp 0], none⟩, []⟩,
                ⟨1, ⟨some 17, .mv, [.tmp 5], none⟩, []⟩,
                ⟨2, ⟨some 18, (.iaddr 1), [.tmp 16, .tmp 17], none⟩, []⟩,
                ⟨3, ⟨some 19, (.ld false 1), [.tmp 18], none⟩, []⟩,
                ⟨4, ⟨some 20, .mv, [.tmp 1], none⟩, []⟩,
                ⟨5, ⟨some 21, .mv, [.tmp 5], none⟩, []⟩,
                ⟨6, ⟨some 22, (.iaddr 1), [.tmp 20, .tmp 21], none⟩, []⟩,
                ⟨7, ⟨some 23, (.ld false 1), [.tmp 22], none⟩, []⟩,
                ⟨8, ⟨some 24, (.eqg true 6), [.tmp 19, .tmp 23], none⟩, []⟩])
              (.cond (.tmp 24)
               (.seq (.run [4] [⟨some 4, .mv, [.const (.bool false)], none⟩])
                .ret)
               .skip))))
           (.run [0, 1, 12, 13] [⟨some 25, (.bin .add), [.tmp 13, .const (.int .i64 1)], none⟩,
             ⟨some 13, .mv, [.tmp 25], none⟩])))))))
     (.seq (.run [4] [⟨some 4, .mv, [.const (.bool true)], none⟩])
      .ret))))⟩

theorem f23_ok : compF Go.Proofs.Tryd.prog 23 f23.body.hints = some f23 := by kernel_rfl


def f24 : AFun := ⟨13, 1, [.slot 2, .slot 3],
  (.seq (.run [0] [⟨some 2, .mv, [.const (.slice none 0 0)], none⟩,
     ⟨some 3, .mv, [.const (.int .i64 0)], none⟩])
   (.seq (.seq (.run [0, 9] [⟨some 4, .mv, [.tmp 0], none⟩,
       ⟨some 5, (.bin .lss), [.tmp 4, .const (.int .i64 0)], none⟩,
       ⟨some 6, .mv, [.tmp 5], none⟩,
       ⟨some 7, .mv, [.tmp 0], some (6, false)⟩,
       ⟨some 8, (.bin .gtr), [.tmp 7, .const (.int .i64 65536)], some (6, false)⟩,
       ⟨some 9, .pick, [.tmp 6, .const (.bool true), .tmp 8], none⟩])
     (.cond (.tmp 9)
      (.seq (.run [2, 3] [⟨some 2, .mv, [.const (.slice none 0 0)], none⟩,
         ⟨some 3, .mv, [.const (.int .i64 3)], none⟩])
       .ret)
      .skip))
    (.seq (.run [2, 3] [⟨some 10, .mv, [.tmp 0], none⟩,
       ⟨some 11, (.call 32), [.const (.slice none 0 0), .tmp 10, .const (.int .i64 16)], none⟩,
       ⟨some 12, (.app 1 1), [.tmp 11, .const (.string ⟨#[13, 10]⟩)], none⟩,
       ⟨some 2, .mv, [.tmp 12], none⟩,
       ⟨some 3, .mv, [.const (.int .i64 0)], none⟩])
     .ret)))⟩

theorem f24_ok : compF Go.Proofs.Tryd.prog 24 f24.body.hints = some f24 := by kernel_rfl


def f25 : AFun := ⟨14, 1, [.slot 2, .slot 3],
  (.seq (.run [0] [⟨some 2, .mv, [.const (.slice none 0 0)], none⟩,
     ⟨some 3, .mv, [.const (.int .i64 0)], none⟩])
   (.seq (.seq (.run [0, 9] [⟨some 4, .mv, [.tmp 0], none⟩,
       ⟨some 5, (.bin .lss), [.tmp 4, .const (.int .i64 0)], none⟩,
       ⟨some 6, .mv, [.tmp 5], none⟩,
       ⟨some 7, .mv, [.tmp 0], some (6, false)⟩,
       ⟨some 8, (.bin .gtr), [.tmp 7, .const (.int .i64 65536)], some (6, false)⟩,
       ⟨some 9, .pick, [.tmp 6, .const (.bool true), .tmp 8], none⟩])
     (.cond (.tmp 9)
      (.seq (.run [2, 3] [⟨some 2, .mv, [.const (.slice none 0 0)], none⟩,
         ⟨some 3, .mv, [.const (.int .i64 3)], none⟩])
       .ret)
      .skip))
    (.seq (.run [2, 3] [⟨some 10, .mv, [.tmp 0], none⟩,
       ⟨some 11, (.call 33), [.tmp 10], none⟩,
       ⟨some 12, (.bin .add), [.tmp 11, .const (.string ⟨#[13, 10]⟩)], none⟩,
       ⟨some 13, .sb, [.tmp 12], none⟩,
       ⟨some 2, .mv, [.tmp 13], none⟩,
       ⟨some 3, .mv, [.const (.int .i64 0)], none⟩])
     .ret)))⟩

theorem f25_ok : compF Go.Proofs.Tryd.prog 25 f25.body.hints = some f25 := by kernel_rfl


def f26 : AFun := ⟨42, 0, [.slot 0],
  (.seq (.run [] [⟨some 0, .mv, [.const (.bool false)], none⟩])
   (.seq (.run [1, 2] [⟨some 10, (.call 24), [.const (.int .i64 26)], none⟩,
      ⟨some 9, .mv, [.tmp 10], none⟩,
      ⟨some 11, (.ext 0), [.tmp 9], none⟩,
      ⟨some 12, (.ext 1), [.tmp 9], none⟩,
      ⟨some 1, .mv, [.tmp 11], none⟩,
      ⟨some 2, .mv, [.tmp 12], none⟩])
    (.seq (.run [1, 2, 5] [⟨some 14, (.bslice 1 2 [(.int .u8 0)] [(0, 1), (1, 1)]), [.const (.int .u8 49), .const (.int .u8 65)], none⟩,
       ⟨some 15, .cvm, [.tmp 14], none⟩,
       ⟨some 16, (.call 27), [.tmp 15], none⟩,
       ⟨some 13, .mv, [.tmp 16], none⟩,
       ⟨some 17, (.ext 0), [.tmp 13], none⟩,
       ⟨some 18, (.ext 1), [.tmp 13], none⟩,
       ⟨some 19, (.ext 2), [.tmp 13], none⟩,
       ⟨some 3, .mv, [.tmp 17], none⟩,
       ⟨some 4, .mv, [.tmp 18], none⟩,
       ⟨some 5, .mv, [.tmp 19], none⟩])
     (.seq (.run [1, 2, 5, 8] [⟨some 21, (.bslice 1 2 [(.int .u8 0)] [(0, 1), (1, 1)]), [.const (.int .u8 49), .const (.int .u8 97)], none⟩,
        ⟨some 22, .cvm, [.tmp 21], none⟩,
        ⟨some 23, (.call 27), [.tmp 22], none⟩,
        ⟨some 20, .mv, [.tmp 23], none⟩,
        ⟨some 24, (.ext 0), [.tmp 20], none⟩,
        ⟨some 25, (.ext 1), [.tmp 20], none⟩,
        ⟨some 26, (.ext 2), [.tmp 20], none⟩,
        ⟨some 6, .mv, [.tmp 24], none⟩,
        ⟨some 7, .mv, [.tmp 25], none⟩,
        ⟨some 8, .mv, [.tmp 26], none⟩])
      (.seq (.run [0] [⟨some 27, .mv, [.tmp 2], none⟩,
         ⟨some 28, (.eqg false 6), [.tmp 27, .const (.int .i64 0)], none⟩,
         ⟨some 29, .mv, [.tmp 28], none⟩,
         ⟨some 30, .mv, [.tmp 1], some (29, true)⟩,
         ⟨some 31, .cvb, [.tmp 30], some (29, true)⟩,
         ⟨some 32, (.eqg false 6), [.tmp 31, .const (.string ⟨#[49, 97, 13, 10]⟩)], some (29, true)⟩,
         ⟨some 33, .pick, [.tmp 29, .tmp 32, .const (.bool false)], none⟩,
         ⟨some 34, .mv, [.tmp 33], none⟩,
         ⟨some 35, .mv, [.tmp 5], some (34, true)⟩,
         ⟨some 36, (.eqg false 6), [.tmp 35, .const (.int .i64 5)], some (34, true)⟩,
         ⟨some 37, .pick, [.tmp 34, .tmp 36, .const (.bool false)], none⟩,
         ⟨some 38, .mv, [.tmp 37], none⟩,
         ⟨some 39, .mv, [.tmp 8], some (38, true)⟩,
         ⟨some 40, (.eqg false 6), [.tmp 39, .const (.int .i64 7)], some (38, true)⟩,
         ⟨some 41, .pick, [.tmp 38, .tmp 40, .const (.bool false)], none⟩,
         ⟨some 0, .mv, [.tmp 41], none⟩])
       .ret)))))⟩

theorem f26_ok : compF Go.Proofs.Tryd.prog 26 f26.body.hints = some f26 := by kernel_rfl


def f27 : AFun := ⟨77, 1, [.slot 2, .slot 3, .slot 4],
  (.seq (.run [0] [⟨some 2, .mv, [.const (.int .i64 0)], none⟩,
     ⟨some 3, .mv, [.const (.int .i64 0)], none⟩,
     ⟨some 4, .mv, [.const (.int .i64 0)], none⟩])
   (.seq (.run [0, 5] [⟨some 11, .mv, [.tmp 0], none⟩,
      ⟨some 12, (.call 34), [.tmp 11, .func 35], none⟩,
      ⟨some 5, .mv, [.tmp 12], none⟩])
    (.seq (.run [0, 5, 6] [⟨some 13, .mv, [.tmp 0], none⟩,
       ⟨some 6, .mv, [.tmp 13], none⟩])
     (.seq (.seq (.run [0, 5, 6, 15] [⟨some 14, .mv, [.tmp 5], none⟩,
         ⟨some 15, (.bin .geq), [.tmp 14, .const (.int .i64 0)], none⟩])
       (.cond (.tmp 15)
        (.run [0, 6] [⟨some 16, .mv, [.tmp 0], none⟩,
          ⟨some 17, .mv, [.tmp 5], none⟩,
          ⟨some 18, (.slc 1 false true), [.tmp 16, .tmp 17], none⟩,
          ⟨some 6, .mv, [.tmp 18], none⟩])
        .skip))
      (.seq (.run [0, 6, 7] [⟨some 7, .mv, [.const (.int .i64 0)], none⟩])
       (.seq (.seq (.run [0, 6, 7, 19, 20, 21] [⟨some 19, .mv, [.tmp 6], none⟩,
           ⟨some 20, (.len 1), [.tmp 19], none⟩,
           ⟨some 21, .mv, [.const (.int .i64 0)], none⟩])
         (.block 0 (.loop [0, 6, 7, 19, 20, 21] (.seq (.run [0, 6, 7, 19, 20, 21, 22] [⟨some 22, (.bin .lss), [.tmp 21, .tmp 20], none⟩])
            (.seq (.cond (.tmp 22)
              .skip
              (.exit 0))
             (.seq (.block 1 (.seq (.run [0, 6, 7, 9, 19, 20, 21] [⟨some 23, (.iaddr 1), [.tmp 19, .tmp 21], none⟩,
                  ⟨some 24, (.ld false 1), [.tmp 23], none⟩,
                  ⟨some 9, .mv, [.tmp 24], none⟩])
                (.seq (.run [0, 6, 7, 19, 20, 21] [⟨some 25, .mv, [.tmp 7], none⟩,
                   ⟨some 26, (.bin .mul), [.tmp 25, .const (.int .i64 16)], none⟩,
                   ⟨some 27, .mv, [.tmp 9], none⟩,
                   ⟨some 28, (.call 37), [.const (.string ⟨#[48, 49, 50, 51, 52, 53, 54, 55, 56, 57, 97, 98, 99, 100, 101, 102]⟩), .tmp 27], none⟩,
                   ⟨some 29, (.bin .add), [.tmp 26, .tmp 28], none⟩,
                   ⟨some 7, .mv, [.tmp 29], none⟩])
                 (.seq (.run [0, 6, 7, 19, 20, 21, 42] [⟨some 30, .mv, [.tmp 7], none⟩,
                    ⟨some 31, (.bin .gtr), [.tmp 30, .const (.int .i64 65536)], none⟩,
                    ⟨some 32, .mv, [.tmp 31], none⟩,
                    ⟨some 33, .mv, [.tmp 6], some (32, false)⟩,
                    ⟨some 34, (.len 1), [.tmp 33], some (32, false)⟩,
                    ⟨some 35, (.bin .gtr), [.tmp 34, .const (.int .i64 1)], some (32, false)⟩,
                    ⟨some 36, .mv, [.tmp 35], some (32, false)⟩,
                    ⟨some 37, .mv, [.tmp 6], some (36, true)⟩,
                    ⟨some 38, (.iaddr 1), [.tmp 37, .const (.int .i64 0)], some (36, true)⟩,
                    ⟨some 39, (.ld false 1), [.tmp 38], some (36, true)⟩,
                    ⟨some 40, (.eqg false 6), [.tmp 39, .const (.int .u8 48)], some (36, true)⟩,
                    ⟨some 41, .pick, [.tmp 36, .tmp 40, .const (.bool false)], some (32, false)⟩,
                    ⟨some 42, .pick, [.tmp 32, .const (.bool true), .tmp 41], none⟩])
                  (.cond (.tmp 42)
                   (.seq (.run [2, 3, 4] [⟨some 2, .mv, [.const (.int .i64 0)], none⟩,
                      ⟨some 3, .mv, [.const (.int .i64 0)], none⟩,
                      ⟨some 4, .mv, [.const (.int .i64 5)], none⟩])
                    .ret)
                   .skip)))))
              (.run [0, 6, 7, 19, 20, 21] [⟨some 43, (.bin .add), [.tmp 21, .const (.int .i64 1)], none⟩,
                ⟨some 21, .mv, [.tmp 43], none⟩])))))))
        (.seq (.run [6, 7, 10] [⟨some 44, .mv, [.tmp 0], none⟩,
           ⟨some 45, .mv, [.tmp 6], none⟩,
           ⟨some 46, (.len 1), [.tmp 45], none⟩,
           ⟨some 47, (.slc 1 true false), [.tmp 44, .tmp 46], none⟩,
           ⟨some 10, .mv, [.tmp 47], none⟩])
         (.seq (.block 2 (.seq (.run [6, 7, 10, 48] [⟨some 49, .mv, [.tmp 10], none⟩,
              ⟨some 50, (.len 1), [.tmp 49], none⟩,
              ⟨some 51, (.eqg false 6), [.tmp 50, .const (.int .i64 0)], none⟩,
              ⟨some 48, .mv, [.tmp 51], none⟩])
            (.cond (.tmp 48)
             (.seq (.run [2, 3, 4] [⟨some 2, .mv, [.const (.int .i64 0)], none⟩,
                ⟨some 3, .mv, [.const (.int .i64 0)], none⟩,
                ⟨some 4, .mv, [.const (.int .i64 7)], none⟩])
              .ret)
             (.seq (.runD [6, 7, 10, 52] [⟨0, ⟨some 53, .mv, [.tmp 6], none⟩, []⟩,
                ⟨1, ⟨some 54, (.len 1), [.tmp 53], none⟩, []⟩,
                ⟨2, ⟨some 55, (.eqg false 6), [.tmp 54, .const (.int .i64 0)], none⟩, []⟩,
                ⟨3, ⟨some 56, .mv, [.tmp 55], none⟩, []⟩,
                ⟨4, ⟨some 57, .mv, [.tmp 10], some (56, false)⟩, []⟩,
                ⟨5, ⟨some 58, (.iaddr 1), [.tmp 57, .const (.int .i64 0)], some (56, false)⟩, []⟩,
                ⟨6, ⟨some 59, (.ld false 1), [.tmp 58], some (56, false)⟩, []⟩,
                ⟨7, ⟨some 60, .ixs, [.const (.string ⟨#[13, 10]⟩), .const (.int .i64 0)], some (56, false)⟩, []⟩,
                ⟨8, ⟨some 61, (.eqg true 6), [.tmp 59, .tmp 60], some (56, false)⟩, []⟩,
                ⟨9, ⟨some 62, .pick, [.tmp 56, .const (.bool true), .tmp 61], none⟩, []⟩,
                ⟨10, ⟨some 52, .mv, [.tmp 62], none⟩, []⟩])
              (.cond (.tmp 52)
               (.seq (.run [2, 3, 4] [⟨some 2, .mv, [.const (.int .i64 0)], none⟩,
                  ⟨some 3, .mv, [.const (.int .i64 0)], none⟩,
                  ⟨some 4, .mv, [.const (.int .i64 5)], none⟩])
                .ret)
               (.seq (.run [6, 7, 10, 63] [⟨some 64, .mv, [.tmp 10], none⟩,
                  ⟨some 65, (.len 1), [.tmp 64], none⟩,
                  ⟨some 66, (.eqg false 6), [.tmp 65, .const (.int .i64 1)], none⟩,
                  ⟨some 63, .mv, [.tmp 66], none⟩])
                (.cond (.tmp 63)
                 (.seq (.run [2, 3, 4] [⟨some 2, .mv, [.const (.int .i64 0)], none⟩,
                    ⟨some 3, .mv, [.const (.int .i64 0)], none⟩,
                    ⟨some 4, .mv, [.const (.int .i64 7)], none⟩])
                  .ret)
                 (.seq (.runD [6, 7, 67] [⟨0, ⟨some 68, .mv, [.tmp 10], none⟩, []⟩,
                    ⟨1, ⟨some 69, (.iaddr 1), [.tmp 68, .const (.int .i64 1)], none⟩, []⟩,
                    ⟨2, ⟨some 70, (.ld false 1), [.tmp 69], none⟩, []⟩,
                    ⟨3, ⟨some 71, .ixs, [.const (.string ⟨#[13, 10]⟩), .const (.int .i64 1)], none⟩, []⟩,
                    ⟨4, ⟨some 72, (.eqg true 6), [.tmp 70, .tmp 71], none⟩, []⟩,
                    ⟨5, ⟨some 67, .mv, [.tmp 72], none⟩, []⟩])
                  (.cond (.tmp 67)
                   (.seq (.run [2, 3, 4] [⟨some 2, .mv, [.const (.int .i64 0)], none⟩,
                      ⟨some 3, .mv, [.const (.int .i64 0)], none⟩,
                      ⟨some 4, .mv, [.const (.int .i64 5)], none⟩])
                    .ret)
                   .skip)))))))))
          (.seq (.run [2, 3, 4] [⟨some 73, .mv, [.tmp 7], none⟩,
             ⟨some 74, .mv, [.tmp 6], none⟩,
             ⟨some 75, (.len 1), [.tmp 74], none⟩,
             ⟨some 76, (.bin .add), [.tmp 75, .const (.int .i64 2)], none⟩,
             ⟨some 2, .mv, [.tmp 73], none⟩,
             ⟨some 3, .mv, [.tmp 76], none⟩,
             ⟨some 4, .mv, [.const (.int .i64 0)], none⟩])
           .ret)))))))))⟩

theorem f27_ok : compF Go.Proofs.Tryd.prog 27 f27.body.hints = some f27 := by kernel_rfl


def f28 : AFun := ⟨68, 1, [.slot 2, .slot 3, .slot 4],
  (.seq (.run [0] [⟨some 2, .mv, [.const (.int .i64 0)], none⟩,
     ⟨some 3, .mv, [.const (.int .i64 0)], none⟩,
     ⟨some 4, .mv, [.const (.int .i64 0)], none⟩])
   (.seq (.run [0, 5] [⟨some 5, .mv, [.const (.int .i64 0)], none⟩])
    (.seq (.run [0, 5, 6] [⟨some 6, .mv, [.const (.int .i64 0)], none⟩])
     (.seq (.block 0 (.loop [0, 5, 6] (.seq (.seq (.run [0, 5, 6, 18] [⟨some 7, .mv, [.tmp 6], none⟩,
            ⟨some 8, .mv, [.tmp 0], none⟩,
            ⟨some 9, (.len 1), [.tmp 8], none⟩,
            ⟨some 10, (.bin .lss), [.tmp 7, .tmp 9], none⟩,
            ⟨some 11, .mv, [.tmp 10], none⟩,
            ⟨some 12, .mv, [.tmp 0], some (11, true)⟩,
            ⟨some 13, .mv, [.tmp 6], some (11, true)⟩,
            ⟨some 14, (.iaddr 1), [.tmp 12, .tmp 13], some (11, true)⟩,
            ⟨some 15, (.ld false 1), [.tmp 14], some (11, true)⟩,
            ⟨some 16, (.call 38), [.tmp 15], some (11, true)⟩,
            ⟨some 17, (.bin .geq), [.tmp 16, .const (.int .i64 0)], some (11, true)⟩,
            ⟨some 18, .pick, [.tmp 11, .tmp 17, .const (.bool false)], none⟩])
          (.cond (.tmp 18)
           .skip
           (.exit 0)))
         (.block 1 (.seq (.run [0, 5, 6] [⟨some 19, .mv, [.tmp 5], none⟩,
             ⟨some 20, (.bin .mul), [.const (.int .i64 16), .tmp 19], none⟩,
             ⟨some 21, .mv, [.tmp 0], none⟩,
             ⟨some 22, .mv, [.tmp 6], none⟩,
             ⟨some 23, (.iaddr 1), [.tmp 21, .tmp 22], none⟩,
             ⟨some 24, (.ld false 1), [.tmp 23], none⟩,
             ⟨some 25, (.call 38), [.tmp 24], none⟩,
             ⟨some 26, (.bin .add), [.tmp 20, .tmp 25], none⟩,
             ⟨some 5, .mv, [.tmp 26], none⟩])
           (.seq (.run [0, 5, 6] [⟨some 27, .mv, [.tmp 6], none⟩,
              ⟨some 28, (.bin .add), [.tmp 27, .const (.int .i64 1)], none⟩,
              ⟨some 6, .mv, [.tmp 28], none⟩])
            (.seq (.run [0, 5, 6, 40] [⟨some 29, .mv, [.tmp 5], none⟩,
               ⟨some 30, (.bin .gtr), [.tmp 29, .const (.int .i64 65536)], none⟩,
               ⟨some 31, .mv, [.tmp 30], none⟩,
               ⟨some 32, .mv, [.tmp 6], some (31, false)⟩,
               ⟨some 33, (.bin .gtr), [.tmp 32, .const (.int .i64 1)], some (31, false)⟩,
               ⟨some 34, .mv, [.tmp 33], some (31, false)⟩,
               ⟨some 35, .mv, [.tmp 0], some (34, true)⟩,
               ⟨some 36, (.iaddr 1), [.tmp 35, .const (.int .i64 0)], some (34, true)⟩,
               ⟨some 37, (.ld false 1), [.tmp 36], some (34, true)⟩,
               ⟨some 38, (.eqg false 6), [.tmp 37, .const (.int .u8 48)], some (34, true)⟩,
               ⟨some 39, .pick, [.tmp 34, .tmp 38, .const (.bool false)], some (31, false)⟩,
               ⟨some 40, .pick, [.tmp 31, .const (.bool true), .tmp 39], none⟩])
             (.cond (.tmp 40)
              (.seq (.run [2, 3, 4] [⟨some 2, .mv, [.const (.int .i64 0)], none⟩,
                 ⟨some 3, .mv, [.const (.int .i64 0)], none⟩,
                 ⟨some 4, .mv, [.const (.int .i64 5)], none⟩])
               .ret)
              .skip))))))))
      (.seq (.seq (.run [0, 5, 6, 44] [⟨some 41, .mv, [.tmp 6], none⟩,
          ⟨some 42, .mv, [.tmp 0], none⟩,
          ⟨some 43, (.len 1), [.tmp 42], none⟩,
          ⟨some 44, (.eqg false 6), [.tmp 41, .tmp 43], none⟩])
        (.cond (.tmp 44)
         (.seq (.run [2, 3, 4] [⟨some 2, .mv, [.const (.int .i64 0)], none⟩,
            ⟨some 3, .mv, [.const (.int .i64 0)], none⟩,
            ⟨some 4, .mv, [.const (.int .i64 7)], none⟩])
          .ret)
         .skip))
       (.seq (.seq (.run [0, 5, 6, 53] [⟨some 45, .mv, [.tmp 6], none⟩,
           ⟨some 46, (.eqg false 6), [.tmp 45, .const (.int .i64 0)], none⟩,
           ⟨some 47, .mv, [.tmp 46], none⟩,
           ⟨some 48, .mv, [.tmp 0], some (47, false)⟩,
           ⟨some 49, .mv, [.tmp 6], some (47, false)⟩,
           ⟨some 50, (.iaddr 1), [.tmp 48, .tmp 49], some (47, false)⟩,
           ⟨some 51, (.ld false 1), [.tmp 50], some (47, false)⟩,
           ⟨some 52, (.eqg true 6), [.tmp 51, .const (.int .u8 13)], some (47, false)⟩,
           ⟨some 53, .pick, [.tmp 47, .const (.bool true), .tmp 52], none⟩])
         (.cond (.tmp 53)
          (.seq (.run [2, 3, 4] [⟨some 2, .mv, [.const (.int .i64 0)], none⟩,
             ⟨some 3, .mv, [.const (.int .i64 0)], none⟩,
             ⟨some 4, .mv, [.const (.int .i64 5)], none⟩])
           .ret)
          .skip))
        (.seq (.seq (.run [0, 5, 6, 58] [⟨some 54, .mv, [.tmp 6], none⟩,
            ⟨some 55, (.bin .add), [.tmp 54, .const (.int .i64 1)], none⟩,
            ⟨some 56, .mv, [.tmp 0], none⟩,
            ⟨some 57, (.len 1), [.tmp 56], none⟩,
            ⟨some 58, (.eqg false 6), [.tmp 55, .tmp 57], none⟩])
          (.cond (.tmp 58)
           (.seq (.run [2, 3, 4] [⟨some 2, .mv, [.const (.int .i64 0)], none⟩,
              ⟨some 3, .mv, [.const (.int .i64 0)], none⟩,
              ⟨some 4, .mv, [.const (.int .i64 7)], none⟩])
            .ret)
           .skip))
         (.seq (.seq (.run [5, 6, 64] [⟨some 59, .mv, [.tmp 0], none⟩,
             ⟨some 60, .mv, [.tmp 6], none⟩,
             ⟨some 61, (.bin .add), [.tmp 60, .const (.int .i64 1)], none⟩,
             ⟨some 62, (.iaddr 1), [.tmp 59, .tmp 61], none⟩,
             ⟨some 63, (.ld false 1), [.tmp 62], none⟩,
             ⟨some 64, (.eqg true 6), [.tmp 63, .const (.int .u8 10)], none⟩])
           (.cond (.tmp 64)
            (.seq (.run [2, 3, 4] [⟨some 2, .mv, [.const (.int .i64 0)], none⟩,
               ⟨some 3, .mv, [.const (.int .i64 0)], none⟩,
               ⟨some 4, .mv, [.const (.int .i64 5)], none⟩])
             .ret)
            .skip))
          (.seq (.run [2, 3, 4] [⟨some 65, .mv, [.tmp 5], none⟩,
             ⟨some 66, .mv, [.tmp 6], none⟩,
             ⟨some 67, (.bin .add), [.tmp 66, .const (.int .i64 2)], none⟩,
             ⟨some 2, .mv, [.tmp 65], none⟩,
             ⟨some 3, .mv, [.tmp 67], none⟩,
             ⟨some 4, .mv, [.const (.int .i64 0)], none⟩])
           .ret)))))))))⟩

theorem f28_ok : compF Go.Proofs.Tryd.prog 28 f28.body.hints = some f28 := by kernel_rfl


def f29 : AFun := ⟨66, 2, [.slot 4],
  (.seq (.run [0, 1] [⟨some 4, .mv, [.const (.int .i64 0)], none⟩])
   (.seq (.seq (.run [0, 1, 9] [⟨some 6, .mv, [.tmp 0], none⟩,
       ⟨some 7, .nilck, [.tmp 6], none⟩,
       ⟨some 8, (.faddr 0), [.tmp 7], none⟩,
       ⟨some 9, (.ld false 1), [.tmp 8], none⟩])
     (.block 0 (.seq (.run [0, 1, 9, 10] [⟨some 11, (.eqg false 6), [.tmp 9, .const (.int .i64 0)], none⟩,
         ⟨some 10, .mv, [.tmp 11], none⟩])
       (.cond (.tmp 10)
        (.seq (.run [4] [⟨some 12, .mv, [.tmp 0], none⟩,
           ⟨some 13, .mv, [.tmp 1], none⟩,
           ⟨some 14, (.call 39), [.tmp 12, .tmp 13], none⟩,
           ⟨some 4, .mv, [.tmp 14], none⟩])
         .ret)
        (.seq (.run [0, 1, 9, 15] [⟨some 16, (.eqg false 6), [.tmp 9, .const (.int .i64 1)], none⟩,
           ⟨some 15, .mv, [.tmp 16], none⟩])
         (.cond (.tmp 15)
          (.seq (.run [0] [⟨some 17, .mv, [.tmp 0], none⟩,
             ⟨some 18, .mv, [.tmp 0], none⟩,
             ⟨some 19, .nilck, [.tmp 18], none⟩,
             ⟨some 20, (.faddr 3), [.tmp 19], none⟩,
             ⟨some 21, (.ld false 1), [.tmp 20], none⟩,
             ⟨some 22, .mv, [.tmp 1], none⟩,
             ⟨some 23, (.bslice 1 1 [(.int .u8 0)] [(0, 1)]), [.tmp 22], none⟩,
             ⟨some 24, (.app 1 1), [.tmp 21, .tmp 23], none⟩,
             ⟨some 25, .nilck, [.tmp 17], none⟩,
             ⟨some 26, (.faddr 3), [.tmp 25], none⟩,
             ⟨none, (.st 1), [.tmp 26, .tmp 24], none⟩])
           (.seq (.run [0] [⟨some 27, .mv, [.tmp 0], none⟩,
              ⟨some 28, .nilck, [.tmp 27], none⟩,
              ⟨some 29, (.faddr 2), [.tmp 28], none⟩,
              ⟨some 30, (.ld false 1), [.tmp 29], none⟩,
              ⟨some 31, (.bin .sub), [.tmp 30, .const (.int .i64 1)], none⟩,
              ⟨some 32, .nilck, [.tmp 27], none⟩,
              ⟨some 33, (.faddr 2), [.tmp 32], none⟩,
              ⟨none, (.st 1), [.tmp 33, .tmp 31], none⟩])
            (.seq (.seq (.run [0, 38] [⟨some 34, .mv, [.tmp 0], none⟩,
                ⟨some 35, .nilck, [.tmp 34], none⟩,
                ⟨some 36, (.faddr 2), [.tmp 35], none⟩,
                ⟨some 37, (.ld false 1), [.tmp 36], none⟩,
                ⟨some 38, (.eqg false 6), [.tmp 37, .const (.int .i64 0)], none⟩])
              (.cond (.tmp 38)
               (.run [] [⟨some 39, .mv, [.tmp 0], none⟩,
                 ⟨some 40, .nilck, [.tmp 39], none⟩,
                 ⟨some 41, (.faddr 0), [.tmp 40], none⟩,
                 ⟨none, (.st 1), [.tmp 41, .const (.int .i64 2)], none⟩])
               .skip))
             (.seq (.run [4] [⟨some 4, .mv, [.const (.int .i64 0)], none⟩])
              .ret))))
          (.seq (.run [0, 1, 9, 42] [⟨some 43, (.eqg false 6), [.tmp 9, .const (.int .i64 2)], none⟩,
             ⟨some 42, .mv, [.tmp 43], none⟩])
           (.cond (.tmp 42)
            (.seq (.run [4] [⟨some 44, .mv, [.tmp 0], none⟩,
               ⟨some 45, .mv, [.tmp 1], none⟩,
               ⟨some 46, (.call 40), [.tmp 44, .tmp 45, .const (.int .u8 13), .const (.int .i64 3)], none⟩,
               ⟨some 4, .mv, [.tmp 46], none⟩])
             .ret)
            (.seq (.run [0, 1, 47] [⟨some 48, (.eqg false 6), [.tmp 9, .const (.int .i64 3)], none⟩,
               ⟨some 47, .mv, [.tmp 48], none⟩])
             (.cond (.tmp 47)
              (.seq (.run [0, 1, 5] [⟨some 5, .mv, [.const (.int .i64 0)], none⟩])
               (.seq (.seq (.runD [0, 1, 5, 61] [⟨0, ⟨some 49, .mv, [.tmp 0], none⟩, []⟩,
                   ⟨1, ⟨some 50, .nilck, [.tmp 49], none⟩, []⟩,
                   ⟨2, ⟨some 51, (.faddr 4), [.tmp 50], none⟩, []⟩,
                   ⟨3, ⟨some 52, (.ld false 1), [.tmp 51], none⟩, []⟩,
                   ⟨4, ⟨some 53, .mv, [.tmp 0], none⟩, []⟩,
                   ⟨5, ⟨some 54, .nilck, [.tmp 53], none⟩, []⟩,
                   ⟨6, ⟨some 55, (.faddr 4), [.tmp 54], none⟩, []⟩,
                   ⟨7, ⟨some 56, (.ld false 1), [.tmp 55], none⟩, []⟩,
                   ⟨8, ⟨some 57, (.len 1), [.tmp 56], none⟩, []⟩,
                   ⟨9, ⟨some 58, (.bin .sub), [.tmp 57, .const (.int .i64 1)], none⟩, []⟩,
                   ⟨10, ⟨some 59, (.iaddr 1), [.tmp 52, .tmp 58], none⟩, []⟩,
                   ⟨11, ⟨some 60, (.ld false 1), [.tmp 59], none⟩, []⟩,
                   ⟨12, ⟨some 61, (.eqg false 6), [.tmp 60, .const (.int .i64 0)], none⟩, []⟩])
                 (.cond (.tmp 61)
                  (.run [0, 1, 5] [⟨some 5, .mv, [.const (.int .i64 4)], none⟩])
                  .skip))
                (.seq (.run [4] [⟨some 62, .mv, [.tmp 0], none⟩,
                   ⟨some 63, .mv, [.tmp 1], none⟩,
                   ⟨some 64, .mv, [.tmp 5], none⟩,
                   ⟨some 65, (.call 40), [.tmp 62, .tmp 63, .const (.int .u8 10), .tmp 64], none⟩,
                   ⟨some 4, .mv, [.tmp 65], none⟩])
                 .ret)))
              .skip))))))))))
    (.seq (.run [4] [⟨some 4, .mv, [.const (.int .i64 8)], none⟩])
     .ret)))⟩

theorem f29_ok : compF Go.Proofs.Tryd.prog 29 f29.body.hints = some f29 := by kernel_rfl


def f30 : AFun := ⟨8, 1, [.slot 2],
  (.seq (.run [0] [⟨some 2, .mv, [.const (.slice none 0 0)], none⟩])
   (.seq (.seq (.run [0, 4] [⟨some 3, .mv, [.tmp 0], none⟩,
       ⟨some 4, (.eqg false 2), [.tmp 3, .const (.slice none 0 0)], none⟩])
     (.cond (.tmp 4)
      (.seq (.run [2] [⟨some 2, .mv, [.const (.slice none 0 0)], none⟩])
       .ret)
      .skip))
    (.seq (.run [2] [⟨some 5, (.bslice 1 0 [(.int .u8 0)] []), [], none⟩,
       ⟨some 6, .mv, [.tmp 0], none⟩,
       ⟨some 7, (.app 1 1), [.tmp 5, .tmp 6], none⟩,
       ⟨some 2, .mv, [.tmp 7], none⟩])
     .ret)))⟩

theorem f30_ok : compF Go.Proofs.Tryd.prog 30 f30.body.hints = some f30 := by kernel_rfl


def f31 : AFun := ⟨8, 1, [.slot 2],
  (.seq (.run [0] [⟨some 2, .mv, [.const (.slice none 0 0)], none⟩])
   (.seq (.seq (.run [0, 4] [⟨some 3, .mv, [.tmp 0], none⟩,
       ⟨some 4, (.eqg false 2), [.tmp 3, .const (.slice none 0 0)], none⟩])
     (.cond (.tmp 4)
      (.seq (.run [2] [⟨some 2, .mv, [.const (.slice none 0 0)], none⟩])
       .ret)
      .skip))
    (.seq (.run [2] [⟨some 5, (.bslice 1 0 [(.int .i64 0)] []), [], none⟩,
       ⟨some 6, .mv, [.tmp 0], none⟩,
       ⟨some 7, (.app 1 8), [.tmp 5, .tmp 6], none⟩,
       ⟨some 2, .mv, [.tmp 7], none⟩])
     .ret)))⟩

theorem f31_ok : compF Go.Proofs.Tryd.prog 31 f31.body.hints = some f31 := by kernel_rfl


def f32 : AFun := ⟨11, 3, [.slot 6],
  (.seq (.run [0, 1, 2] [⟨some 6, .mv, [.const (.slice none 0 0)], none⟩])
   (.seq (.run [6] [⟨some 7, .mv, [.tmp 0], none⟩,
      ⟨some 8, .mv, [.tmp 1], none⟩,
      ⟨some 9, .mv, [.tmp 2], none⟩,
      ⟨some 10, (.call 41), [.tmp 7, .tmp 8, .tmp 9], none⟩,
      ⟨some 6, .mv, [.tmp 10], none⟩])
    .ret))⟩

theorem f32_ok : compF Go.Proofs.Tryd.prog 32 f32.body.hints = some f32 := by kernel_rfl


def f33 : AFun := ⟨21, 1, [.slot 2],
  (.seq (.run [0] [⟨some 2, .mv, [.const (.string ⟨#[]⟩)], none⟩])
   (.seq (.run [0, 3] [⟨some 3, .mv, [.const (.string ⟨#[]⟩)], none⟩])
    (.seq (.block 0 (.loop [0, 3] (.seq (.seq (.run [0, 3, 5] [⟨some 4, .mv, [.tmp 0], none⟩,
           ⟨some 5, (.bin .geq), [.tmp 4, .const (.int .i64 16)], none⟩])
         (.cond (.tmp 5)
          .skip
          (.exit 0)))
        (.block 1 (.seq (.run [0, 3] [⟨some 6, .mv, [.tmp 0], none⟩,
            ⟨some 7, (.bin .rem), [.tmp 6, .const (.int .i64 16)], none⟩,
            ⟨some 8, .ixs, [.const (.string ⟨#[48, 49, 50, 51, 52, 53, 54, 55, 56, 57, 97, 98, 99, 100, 101, 102]⟩), .tmp 7], none⟩,
            ⟨some 9, (.bslice 1 1 [(.int .u8 0)] [(0, 1)]), [.tmp 8], none⟩,
            ⟨some 10, .cvb, [.tmp 9], none⟩,
            ⟨some 11, .mv, [.tmp 3], none⟩,
            ⟨some 12, (.bin .add), [.tmp 10, .tmp 11], none⟩,
            ⟨some 3, .mv, [.tmp 12], none⟩])
          (.run [0, 3] [⟨some 13, .mv, [.tmp 0], none⟩,
            ⟨some 14, (.bin .quo), [.tmp 13, .const (.int .i64 16)], none⟩,
            ⟨some 0, .mv, [.tmp 14], none⟩]))))))
     (.seq (.run [2] [⟨some 15, .mv, [.tmp 0], none⟩,
        ⟨some 16, .ixs, [.const (.string ⟨#[48, 49, 50, 51, 52, 53, 54, 55, 56, 57, 97, 98, 99, 100, 101, 102]⟩), .tmp 15], none⟩,
        ⟨some 17, (.bslice 1 1 [(.int .u8 0)] [(0, 1)]), [.tmp 16], none⟩,
        ⟨some 18, .cvb, [.tmp 17], none⟩,
        ⟨some 19, .mv, [.tmp 3], none⟩,
        ⟨some 20, (.bin .add), [.tmp 18, .tmp 19], none⟩,
        ⟨some 2, .mv, [.tmp 20], none⟩])
      .ret))))⟩

theorem f33_ok : compF Go.Proofs.Tryd.prog 33 f33.body.hints = some f33 := by kernel_rfl


def f34 : AFun := ⟨8, 2, [.slot 4],
  (.seq (.run [0, 1] [⟨some 4, .mv, [.const (.int .i64 0)], none⟩])
   (.seq (.run [4] [⟨some 5, .mv, [.tmp 0], none⟩,
      ⟨some 6, .mv, [.tmp 1], none⟩,
      ⟨some 7, (.call 42), [.tmp 5, .tmp 6, .const (.bool true)], none⟩,
      ⟨some 4, .mv, [.tmp 7], none⟩])
    .ret))⟩

theorem f34_ok : compF Go.Proofs.Tryd.prog 34 f34.body.hints = some f34 := by kernel_rfl


def f35 : AFun := ⟨6, 1, [.slot 2],
  (.seq (.run [0] [⟨some 2, .mv, [.const (.bool false)], none⟩])
   (.seq (.run [2] [⟨some 3, .mv, [.tmp 0], none⟩,
      ⟨some 4, (.call 36), [.const (.string ⟨#[48, 49, 50, 51, 52, 53, 54, 55, 56, 57, 97, 98, 99, 100, 101, 102]⟩), .tmp 3], none⟩,
      ⟨some 5, (.un .not), [.tmp 4], none⟩,
      ⟨some 2, .mv, [.tmp 5], none⟩])
    .ret))⟩

theorem f35_ok : compF Go.Proofs.Tryd.prog 35 f35.body.hints = some f35 := by kernel_rfl


def f36 : AFun := ⟨9, 2, [.slot 4],
  (.seq (.run [0, 1] [⟨some 4, .mv, [.const (.bool false)], none⟩])
   (.seq (.run [4] [⟨some 5, .mv, [.tmp 0], none⟩,
      ⟨some 6, .mv, [.tmp 1], none⟩,
      ⟨some 7, (.call 43), [.tmp 5, .tmp 6], none⟩,
      ⟨some 8, (.bin .geq), [.tmp 7, .const (.int .i64 0)], none⟩,
      ⟨some 4, .mv, [.tmp 8], none⟩])
    .ret))⟩

theorem f36_ok : compF Go.Proofs.Tryd.prog 36 f36.body.hints = some f36 := by kernel_rfl


def f37 : AFun := ⟨8, 2, [.slot 4],
  (.seq (.run [0, 1] [⟨some 4, .mv, [.const (.int .i64 0)], none⟩])
   (.seq (.run [4] [⟨some 5, .mv, [.tmp 0], none⟩,
      ⟨some 6, .mv, [.tmp 1], none⟩,
      ⟨some 7, (.call 44), [.tmp 5, .tmp 6], none⟩,
      ⟨some 4, .mv, [.tmp 7], none⟩])
    .ret))⟩

theorem f37_ok : compF Go.Proofs.Tryd.prog 37 f37.body.hints = some f37 := by kernel_rfl


def f38 : AFun := ⟨21, 1, [.slot 2],
  (.seq (.run [0] [⟨some 2, .mv, [.const (.int .i64 0)], none⟩])
   (.seq (.seq (.run [0, 8] [⟨some 3, .mv, [.tmp 0], none⟩,
       ⟨some 4, (.bin .geq), [.tmp 3, .const (.int .u8 48)], none⟩,
       ⟨some 5, .mv, [.tmp 4], none⟩,
       ⟨some 6, .mv, [.tmp 0], some (5, true)⟩,
       ⟨some 7, (.bin .leq), [.tmp 6, .const (.int .u8 57)], some (5, true)⟩,
       ⟨some 8, .pick, [.tmp 5, .tmp 7, .const (.bool false)], none⟩])
     (.cond (.tmp 8)
      (.seq (.run [2] [⟨some 9, .mv, [.tmp 0], none⟩,
         ⟨some 10, (.cvi .i64), [.tmp 9], none⟩,
         ⟨some 11, (.bin .sub), [.tmp 10, .const (.int .i64 48)], none⟩,
         ⟨some 2, .mv, [.tmp 11], none⟩])
       .ret)
      .skip))
    (.seq (.seq (.run [0, 17] [⟨some 12, .mv, [.tmp 0], none⟩,
        ⟨some 13, (.bin .geq), [.tmp 12, .const (.int .u8 97)], none⟩,
        ⟨some 14, .mv, [.tmp 13], none⟩,
        ⟨some 15, .mv, [.tmp 0], some (14, true)⟩,
        ⟨some 16, (.bin .leq), [.tmp 15, .const (.int .u8 102)], some (14, true)⟩,
        ⟨some 17, .pick, [.tmp 14, .tmp 16, .const (.bool false)], none⟩])
      (.cond (.tmp 17)
       (.seq (.run [2] [⟨some 18, .mv, [.tmp 0], none⟩,
          ⟨some 19, (.cvi .i64), [.tmp 18], none⟩,
          ⟨some 20, (.bin .sub), [.tmp 19, .const (.int .i64 87)], none⟩,
          ⟨some 2, .mv, [.tmp 20], none⟩])
        .ret)
       .skip))
     (.seq (.run [2] [⟨some 2, .mv, [.const (.int .i64 (-1))], none⟩])
      .ret))))⟩

theorem f38_ok : compF Go.Proofs.Tryd.prog 38 f38.body.hints = some f38 := by kernel_rfl


def f39 : AFun := ⟨57, 2, [.slot 4],
  (.seq (.run [0, 1] [⟨some 4, .mv, [.const (.int .i64 0)], none⟩])
   (.seq (.run [0, 5] [⟨some 9, .mv, [.tmp 0], none⟩,
      ⟨some 10, .nilck, [.tmp 9], none⟩,
      ⟨some 11, (.faddr 1), [.tmp 10], none⟩,
      ⟨some 12, (.ld false 1), [.tmp 11], none⟩,
      ⟨some 13, .mv, [.tmp 1], none⟩,
      ⟨some 14, (.bslice 1 1 [(.int .u8 0)] [(0, 1)]), [.tmp 13], none⟩,
      ⟨some 15, (.app 1 1), [.tmp 12, .tmp 14], none⟩,
      ⟨some 5, .mv, [.tmp 15], none⟩])
    (.seq (.run [0, 5, 6, 8] [⟨some 17, .mv, [.tmp 5], none⟩,
       ⟨some 18, (.call 27), [.tmp 17], none⟩,
       ⟨some 16, .mv, [.tmp 18], none⟩,
       ⟨some 19, (.ext 0), [.tmp 16], none⟩,
       ⟨some 20, (.ext 1), [.tmp 16], none⟩,
       ⟨some 21, (.ext 2), [.tmp 16], none⟩,
       ⟨some 6, .mv, [.tmp 19], none⟩,
       ⟨some 7, .mv, [.tmp 20], none⟩,
       ⟨some 8, .mv, [.tmp 21], none⟩])
     (.seq (.seq (.run [0, 5, 6, 8, 22] [⟨some 22, .mv, [.tmp 8], none⟩])
       (.block 0 (.seq (.run [0, 5, 6, 8, 22, 23] [⟨some 24, (.eqg false 6), [.tmp 22, .const (.int .i64 7)], none⟩,
           ⟨some 23, .mv, [.tmp 24], none⟩])
         (.cond (.tmp 23)
          (.seq (.run [] [⟨some 25, .mv, [.tmp 0], none⟩,
             ⟨some 26, .mv, [.tmp 5], none⟩,
             ⟨some 27, .nilck, [.tmp 25], none⟩,
             ⟨some 28, (.faddr 1), [.tmp 27], none⟩,
             ⟨none, (.st 1), [.tmp 28, .tmp 26], none⟩])
           (.seq (.run [4] [⟨some 4, .mv, [.const (.int .i64 0)], none⟩])
            .ret))
          (.seq (.run [0, 6, 8, 29] [⟨some 30, (.eqg false 6), [.tmp 22, .const (.int .i64 0)], none⟩,
             ⟨some 29, .mv, [.tmp 30], none⟩])
           (.cond (.tmp 29)
            (.seq (.run [0, 6, 8] [⟨some 31, .mv, [.tmp 0], none⟩,
               ⟨some 32, .mv, [.tmp 0], none⟩,
               ⟨some 33, .mv, [.tmp 0], none⟩,
               ⟨some 34, .mv, [.tmp 6], none⟩,
               ⟨some 35, .nilck, [.tmp 31], none⟩,
               ⟨some 36, (.faddr 1), [.tmp 35], none⟩,
               ⟨none, (.st 1), [.tmp 36, .const (.slice none 0 0)], none⟩,
               ⟨some 37, .nilck, [.tmp 32], none⟩,
               ⟨some 38, (.faddr 2), [.tmp 37], none⟩,
               ⟨none, (.st 1), [.tmp 38, .tmp 34], none⟩,
               ⟨some 39, .nilck, [.tmp 33], none⟩,
               ⟨some 40, (.faddr 0), [.tmp 39], none⟩,
               ⟨none, (.st 1), [.tmp 40, .const (.int .i64 1)], none⟩])
             (.seq (.run [0, 6, 8] [⟨some 41, .mv, [.tmp 0], none⟩,
                ⟨some 42, .mv, [.tmp 0], none⟩,
                ⟨some 43, .nilck, [.tmp 42], none⟩,
                ⟨some 44, (.faddr 4), [.tmp 43], none⟩,
                ⟨some 45, (.ld false 1), [.tmp 44], none⟩,
                ⟨some 46, .mv, [.tmp 6], none⟩,
                ⟨some 47, (.bslice 1 1 [(.int .i64 0)] [(0, 1)]), [.tmp 46], none⟩,
                ⟨some 48, (.app 1 8), [.tmp 45, .tmp 47], none⟩,
                ⟨some 49, .nilck, [.tmp 41], none⟩,
                ⟨some 50, (.faddr 4), [.tmp 49], none⟩,
                ⟨none, (.st 1), [.tmp 50, .tmp 48], none⟩])
              (.seq (.run [0, 8, 52] [⟨some 51, .mv, [.tmp 6], none⟩,
                 ⟨some 52, (.eqg false 6), [.tmp 51, .const (.int .i64 0)], none⟩])
               (.cond (.tmp 52)
                (.run [8] [⟨some 53, .mv, [.tmp 0], none⟩,
                  ⟨some 54, .nilck, [.tmp 53], none⟩,
                  ⟨some 55, (.faddr 0), [.tmp 54], none⟩,
                  ⟨none, (.st 1), [.tmp 55, .const (.int .i64 2)], none⟩])
                .skip))))
            .skip))))))
      (.seq (.run [4] [⟨some 56, .mv, [.tmp 8], none⟩,
         ⟨some 4, .mv, [.tmp 56], none⟩])
       .ret)))))⟩

theorem f39_ok : compF Go.Proofs.Tryd.prog 39 f39.body.hints = some f39 := by kernel_rfl


def f40 : AFun := ⟨16, 4, [.slot 8],
  (.seq (.run [0, 1, 2, 3] [⟨some 8, .mv, [.const (.int .i64 0)], none⟩])
   (.seq (.seq (.run [0, 3, 11] [⟨some 9, .mv, [.tmp 1], none⟩,
       ⟨some 10, .mv, [.tmp 2], none⟩,
       ⟨some 11, (.eqg true 6), [.tmp 9, .tmp 10], none⟩])
     (.cond (.tmp 11)
      (.seq (.run [8] [⟨some 8, .mv, [.const (.int .i64 5)], none⟩])
       .ret)
      .skip))
    (.seq (.run [] [⟨some 12, .mv, [.tmp 0], none⟩,
       ⟨some 13, .mv, [.tmp 3], none⟩,
       ⟨some 14, .nilck, [.tmp 12], none⟩,
       ⟨some 15, (.faddr 0), [.tmp 14], none⟩,
       ⟨none, (.st 1), [.tmp 15, .tmp 13], none⟩])
     (.seq (.run [8] [⟨some 8, .mv, [.const (.int .i64 0)], none⟩])
      .ret))))⟩

theorem f40_ok : compF Go.Proofs.Tryd.prog 40 f40.body.hints = some f40 := by kernel_rfl


def f41 : AFun := ⟨21, 3, [.slot 6],
  (.seq (.run [0, 1, 2] [⟨some 6, .mv, [.const (.slice none 0 0)], none⟩])
   (.seq (.run [0, 1, 2, 7] [⟨some 8, .mv, [.tmp 1], none⟩,
      ⟨some 9, (.cvi .u64), [.tmp 8], none⟩,
      ⟨some 7, .mv, [.tmp 9], none⟩])
    (.seq (.seq (.run [0, 2, 7, 11] [⟨some 10, .mv, [.tmp 1], none⟩,
        ⟨some 11, (.bin .lss), [.tmp 10, .const (.int .i64 0)], none⟩])
      (.cond (.tmp 11)
       (.seq (.run [0, 2, 7] [⟨some 12, .mv, [.tmp 0], none⟩,
          ⟨some 13, (.bslice 1 1 [(.int .u8 0)] [(0, 1)]), [.const (.int .u8 45)], none⟩,
          ⟨some 14, (.app 1 1), [.tmp 12, .tmp 13], none⟩,
          ⟨some 0, .mv, [.tmp 14], none⟩])
        (.run [0, 2, 7] [⟨some 15, .mv, [.tmp 7], none⟩,
          ⟨some 16, (.un .neg), [.tmp 15], none⟩,
          ⟨some 7, .mv, [.tmp 16], none⟩]))
       .skip))
     (.seq (.run [6] [⟨some 17, .mv, [.tmp 0], none⟩,
        ⟨some 18, .mv, [.tmp 7], none⟩,
        ⟨some 19, .mv, [.tmp 2], none⟩,
        ⟨some 20, (.call 45), [.tmp 17, .tmp 18, .tmp 19], none⟩,
        ⟨some 6, .mv, [.tmp 20], none⟩])
      .ret))))⟩

theorem f41_ok : compF Go.Proofs.Tryd.prog 41 f41.body.hints = some f41 := by kernel_rfl


def f42 : AFun := ⟨30, 3, [.slot 6],
  (.seq (.run [0, 1, 2] [⟨some 6, .mv, [.const (.int .i64 0)], none⟩])
   (.seq (.run [0, 1, 2, 7] [⟨some 7, .mv, [.const (.int .i64 0)], none⟩])
    (.seq (.block 0 (.loop [0, 1, 2, 7] (.seq (.seq (.run [0, 1, 2, 7, 13] [⟨some 10, .mv, [.tmp 7], none⟩,
           ⟨some 11, .mv, [.tmp 0], none⟩,
           ⟨some 12, (.len 1), [.tmp 11], none⟩,
           ⟨some 13, (.bin .lss), [.tmp 10, .tmp 12], none⟩])
         (.cond (.tmp 13)
          .skip
          (.exit 0)))
        (.block 1 (.seq (.run [0, 1, 2, 7, 8, 9] [⟨some 15, .mv, [.tmp 0], none⟩,
            ⟨some 16, .mv, [.tmp 7], none⟩,
            ⟨some 17, (.slc 1 true false), [.tmp 15, .tmp 16], none⟩,
            ⟨some 18, (.call 46), [.tmp 17], none⟩,
            ⟨some 14, .mv, [.tmp 18], none⟩,
            ⟨some 19, (.ext 0), [.tmp 14], none⟩,
            ⟨some 20, (.ext 1), [.tmp 14], none⟩,
            ⟨some 8, .mv, [.tmp 19], none⟩,
            ⟨some 9, .mv, [.tmp 20], none⟩])
          (.seq (.seq (.run [0, 1, 2, 7, 9, 25] [⟨some 21, .mv, [.tmp 1], none⟩,
              ⟨some 22, .mv, [.tmp 8], none⟩,
              ⟨some 23, .callv, [.tmp 21, .tmp 22], none⟩,
              ⟨some 24, .mv, [.tmp 2], none⟩,
              ⟨some 25, (.eqg false 0), [.tmp 23, .tmp 24], none⟩])
            (.cond (.tmp 25)
             (.seq (.run [6] [⟨some 26, .mv, [.tmp 7], none⟩,
                ⟨some 6, .mv, [.tmp 26], none⟩])
              .ret)
             .skip))
           (.run [0, 1, 2, 7] [⟨some 27, .mv, [.tmp 7], none⟩,
             ⟨some 28, .mv, [.tmp 9], none⟩,
             ⟨some 29, (.bin .add), [.tmp 27, .tmp 28], none⟩,
             ⟨some 7, .mv, [.tmp 29], none⟩])))))))
     (.seq (.run [6] [⟨some 6, .mv, [.const (.int .i64 (-1))], none⟩])
      .ret))))⟩

theorem f42_ok : compF Go.Proofs.Tryd.prog 42 f42.body.hints = some f42 := by kernel_rfl


def f43 : AFun := ⟨187, 2, [.slot 4],
  (.seq (.run [0, 1] [⟨some 4, .mv, [.const (.int .i64 0)], none⟩])
   (.block 0 (.seq (.run [0, 1, 160] [⟨some 161, .mv, [.tmp 1], none⟩,
       ⟨some 162, (.bin .leq), [.const (.int .i32 0), .tmp 161], none⟩,
       ⟨some 163, .mv, [.tmp 162], none⟩,
       ⟨some 164, .mv, [.tmp 1], some (163, true)⟩,
       ⟨some 165, (.bin .lss), [.tmp 164, .const (.int .i32 128)], some (163, true)⟩,
       ⟨some 166, .pick, [.tmp 163, .tmp 165, .const (.bool false)], none⟩,
       ⟨some 160, .mv, [.tmp 166], none⟩])
     (.cond (.tmp 160)
      (.seq (.run [4] [⟨some 167, .mv, [.tmp 0], none⟩,
         ⟨some 168, .mv, [.tmp 1], none⟩,
         ⟨some 169, (.cvi .u8), [.tmp 168], none⟩,
         ⟨some 170, (.call 37), [.tmp 167, .tmp 169], none⟩,
         ⟨some 4, .mv, [.tmp 170], none⟩])
       .ret)
      (.seq (.run [0, 1, 171] [⟨some 172, .mv, [.tmp 1], none⟩,
         ⟨some 173, (.eqg false 6), [.tmp 172, .const (.int .i32 65533)], none⟩,
         ⟨some 171, .mv, [.tmp 173], none⟩])
       (.cond (.tmp 171)
        (.seq (.seq (.run [175] [⟨some 174, .mv, [.tmp 0], none⟩,
            ⟨some 175, .rngs, [.tmp 174], none⟩])
          (.block 9 (.loop [175] (.seq (.run [175, 176, 177] [⟨some 176, .nxts, [.tmp 175], none⟩,
               ⟨some 177, (.ext 0), [.tmp 176], none⟩])
             (.seq (.cond (.tmp 177)
               .skip
               (.exit 9))
              (.block 10 (.seq (.run [5, 6, 175] [⟨some 178, (.ext 1), [.tmp 176], none⟩,
                  ⟨some 179, (.ext 2), [.tmp 176], none⟩,
                  ⟨some 5, .mv, [.tmp 178], none⟩,
                  ⟨some 6, .mv, [.tmp 179], none⟩])
                (.seq (.run [5, 175, 181] [⟨some 180, .mv, [.tmp 6], none⟩,
                   ⟨some 181, (.eqg false 6), [.tmp 180, .const (.int .i32 65533)], none⟩])
                 (.cond (.tmp 181)
                  (.seq (.run [4] [⟨some 182, .mv, [.tmp 5], none⟩,
                     ⟨some 4, .mv, [.tmp 182], none⟩])
                   .ret)
                  .skip)))))))))
         (.seq (.run [4] [⟨some 4, .mv, [.const (.int .i64 (-1))], none⟩])
          .ret))
        (.seq (.run [0, 1, 183] [⟨some 184, .mv, [.tmp 1], none⟩,
           ⟨some 185, (.call 47), [.tmp 184], none⟩,
           ⟨some 186, (.un .not), [.tmp 185], none⟩,
           ⟨some 183, .mv, [.tmp 186], none⟩])
         (.cond (.tmp 183)
          (.seq (.run [4] [⟨some 4, .mv, [.const (.int .i64 (-1))], none⟩])
           .ret)
          (.seq (.run [0, 7] [⟨some 17, .mv, [.tmp 1], none⟩,
             ⟨some 18, .cvc, [.tmp 17], none⟩,
             ⟨some 7, .mv, [.tmp 18], none⟩])
           (.seq (.run [0, 7, 8] [⟨some 19, .mv, [.tmp 7], none⟩,
              ⟨some 20, (.len 0), [.tmp 19], none⟩,
              ⟨some 21, (.bin .sub), [.tmp 20, .const (.int .i64 1)], none⟩,
              ⟨some 8, .mv, [.tmp 21], none⟩])
            (.seq (.run [0, 7, 8, 9] [⟨some 22, .mv, [.tmp 8], none⟩,
               ⟨some 9, .mv, [.tmp 22], none⟩])
             (.seq (.run [0, 7, 8, 9] [⟨some 10, .mv, [.const (.int .i64 0)], none⟩])
              (.seq (.block 1 (.loop [0, 7, 8, 9] (.seq (.seq (.run [0, 7, 8, 9, 26] [⟨some 23, .mv, [.tmp 9], none⟩,
                     ⟨some 24, .mv, [.tmp 0], none⟩,
                     ⟨some 25, (.len 0), [.tmp 24], none⟩,
                     ⟨some 26, (.bin .lss), [.tmp 23, .tmp 25], none⟩])
                   (.cond (.tmp 26)
                    .skip
                    (.exit 1)))
                  (.block 2 (.seq (.seq (.runD [0, 7, 8, 9, 33] [⟨0, ⟨some 27, .mv, [.tmp 0], none⟩, []⟩,
                       ⟨1, ⟨some 28, .mv, [.tmp 9], none⟩, []⟩,
                       ⟨2, ⟨some 29, .ixs, [.tmp 27, .tmp 28], none⟩, []⟩,
                       ⟨3, ⟨some 30, .mv, [.tmp 7], none⟩, []⟩,
                       ⟨4, ⟨some 31, .mv, [.tmp 8], none⟩, []⟩,
                       ⟨5, ⟨some 32, .ixs, [.tmp 30, .tmp 31], none⟩, []⟩,
                       ⟨6, ⟨some 33, (.eqg true 6), [.tmp 29, .tmp 32], none⟩, []⟩])
                     (.cond (.tmp 33)
                      (.seq (.runD [0, 7, 8, 9, 11] [⟨0, ⟨some 34, .mv, [.tmp 0], none⟩, []⟩,
                         ⟨1, ⟨some 35, .mv, [.tmp 9], none⟩, []⟩,
                         ⟨2, ⟨some 36, (.bin .add), [.tmp 35, .const (.int .i64 1)], none⟩, []⟩,
                         ⟨3, ⟨some 37, (.slc 0 true false), [.tmp 34, .tmp 36], none⟩, []⟩,
                         ⟨4, ⟨some 38, .mv, [.tmp 7], none⟩, []⟩,
                         ⟨5, ⟨some 39, .mv, [.tmp 8], none⟩, []⟩,
                         ⟨6, ⟨some 40, .ixs, [.tmp 38, .tmp 39], none⟩, []⟩,
                         ⟨7, ⟨some 41, (.call 37), [.tmp 37, .tmp 40], none⟩, []⟩,
                         ⟨8, ⟨some 11, .mv, [.tmp 41], none⟩, []⟩])
                       (.seq (.seq (.run [0, 7, 8, 9, 11, 43] [⟨some 42, .mv, [.tmp 11], none⟩,
                           ⟨some 43, (.bin .lss), [.tmp 42, .const (.int .i64 0)], none⟩])
                         (.cond (.tmp 43)
                          (.seq (.run [4] [⟨some 4, .mv, [.const (.int .i64 (-1))], none⟩])
                           .ret)
                          .skip))
                        (.run [0, 7, 8, 9] [⟨some 44, .mv, [.tmp 9], none⟩,
                          ⟨some 45, .mv, [.tmp 11], none⟩,
                          ⟨some 46, (.bin .add), [.tmp 45, .const (.int .i64 1)], none⟩,
                          ⟨some 47, (.bin .add), [.tmp 44, .tmp 46], none⟩,
                          ⟨some 9, .mv, [.tmp 47], none⟩])))
                      .skip))
                    (.seq (.seq (.run [0, 7, 8, 9, 12] [⟨some 12, .mv, [.const (.int .i64 1)], none⟩])
                      (.block 3 (.loop [0, 7, 8, 9, 12] (.seq (.seq (.run [0, 7, 8, 9, 12, 51] [⟨some 48, .mv, [.tmp 12], none⟩,
                            ⟨some 49, .mv, [.tmp 7], none⟩,
                            ⟨some 50, (.len 0), [.tmp 49], none⟩,
                            ⟨some 51, (.bin .lss), [.tmp 48, .tmp 50], none⟩])
                          (.cond (.tmp 51)
                           .skip
                           (.exit 3)))
                         (.seq (.block 4 (.seq (.runD [0, 7, 8, 9, 12, 64] [⟨0, ⟨some 54, .mv, [.tmp 0], none⟩, []⟩,
                              ⟨1, ⟨some 55, .mv, [.tmp 9], none⟩, []⟩,
                              ⟨2, ⟨some 56, .mv, [.tmp 12], none⟩, []⟩,
                              ⟨3, ⟨some 57, (.bin .sub), [.tmp 55, .tmp 56], none⟩, []⟩,
                              ⟨4, ⟨some 58, .ixs, [.tmp 54, .tmp 57], none⟩, []⟩,
                              ⟨5, ⟨some 59, .mv, [.tmp 7], none⟩, []⟩,
                              ⟨6, ⟨some 60, .mv, [.tmp 8], none⟩, []⟩,
                              ⟨7, ⟨some 61, .mv, [.tmp 12], none⟩, []⟩,
                              ⟨8, ⟨some 62, (.bin .sub), [.tmp 60, .tmp 61], none⟩, []⟩,
                              ⟨9, ⟨some 63, .ixs, [.tmp 59, .tmp 62], none⟩, []⟩,
                              ⟨10, ⟨some 64, (.eqg true 6), [.tmp 58, .tmp 63], none⟩, []⟩])
                            (.cond (.tmp 64)
                             .stuck
                             .skip)))
                          (.run [0, 7, 8, 9, 12] [⟨some 52, .mv, [.tmp 12], none⟩,
                            ⟨some 53, (.bin .add), [.tmp 52, .const (.int .i64 1)], none⟩,
                            ⟨some 12, .mv, [.tmp 53], none⟩]))))))
                     (.seq (.seq (.run [4] [⟨some 65, .mv, [.tmp 9], none⟩,
                         ⟨some 66, .mv, [.tmp 8], none⟩,
                         ⟨some 67, (.bin .sub), [.tmp 65, .tmp 66], none⟩,
                         ⟨some 4, .mv, [.tmp 67], none⟩])
                       .ret)
                      (.seq .skip
                       (.seq (.run [0, 7, 8, 9, 10] [⟨some 68, .mv, [.tmp 10], none⟩,
                          ⟨some 69, (.bin .add), [.tmp 68, .const (.int .i64 1)], none⟩,
                          ⟨some 10, .mv, [.tmp 69], none⟩])
                        (.seq (.run [0, 7, 8, 9, 10] [⟨some 70, .mv, [.tmp 9], none⟩,
                           ⟨some 71, (.bin .add), [.tmp 70, .const (.int .i64 1)], none⟩,
                           ⟨some 9, .mv, [.tmp 71], none⟩])
                         (.seq (.run [0, 7, 8, 9, 98] [⟨some 72, .mv, [.const (.bool true)], none⟩,
                            ⟨some 73, .mv, [.tmp 10], some (72, true)⟩,
                            ⟨some 74, .mv, [.tmp 9], some (72, true)⟩,
                            ⟨some 75, (.call 48), [.tmp 74], some (72, true)⟩,
                            ⟨some 76, (.bin .gtr), [.tmp 73, .tmp 75], some (72, true)⟩,
                            ⟨some 77, .pick, [.tmp 72, .tmp 76, .const (.bool false)], none⟩,
                            ⟨some 78, .mv, [.tmp 77], none⟩,
                            ⟨some 79, .mv, [.tmp 9], some (78, true)⟩,
                            ⟨some 80, .mv, [.tmp 0], some (78, true)⟩,
                            ⟨some 81, (.len 0), [.tmp 80], some (78, true)⟩,
                            ⟨some 82, (.bin .lss), [.tmp 79, .tmp 81], some (78, true)⟩,
                            ⟨some 83, .pick, [.tmp 78, .tmp 82, .const (.bool false)], none⟩,
                            ⟨some 84, .mv, [.tmp 83], none⟩,
                            ⟨some 85, .mv, [.const (.bool false)], some (84, false)⟩,
                            ⟨some 86, .mv, [.tmp 10], some (85, true)⟩,
                            ⟨some 87, .mv, [.tmp 9], some (85, true)⟩,
                            ⟨some 88, (.bin .shr), [.tmp 87, .const (.int .u64 4)], some (85, true)⟩,
                            ⟨some 89, (.bin .add), [.const (.int .i64 4), .tmp 88], some (85, true)⟩,
                            ⟨some 90, (.bin .geq), [.tmp 86, .tmp 89], some (85, true)⟩,
                            ⟨some 91, .pick, [.tmp 85, .tmp 90, .const (.bool false)], some (84, false)⟩,
                            ⟨some 92, .mv, [.tmp 91], some (84, false)⟩,
                            ⟨some 93, .mv, [.tmp 9], some (92, true)⟩,
                            ⟨some 94, .mv, [.tmp 0], some (92, true)⟩,
                            ⟨some 95, (.len 0), [.tmp 94], some (92, true)⟩,
                            ⟨some 96, (.bin .lss), [.tmp 93, .tmp 95], some (92, true)⟩,
                            ⟨some 97, .pick, [.tmp 92, .tmp 96, .const (.bool false)], some (84, false)⟩,
                            ⟨some 98, .pick, [.tmp 84, .const (.bool true), .tmp 97], none⟩])
                          (.cond (.tmp 98)
                           .stuck
                           .skip))))))))))))
               (.seq (.seq (.run [4] [⟨some 4, .mv, [.const (.int .i64 (-1))], none⟩])
                 .ret)
                (.seq .skip
                 (.seq (.cond (.const (.bool true))
                   (.seq (.run [8, 9, 13] [⟨some 99, .mv, [.tmp 0], none⟩,
                      ⟨some 100, .mv, [.tmp 9], none⟩,
                      ⟨some 101, .mv, [.tmp 8], none⟩,
                      ⟨some 102, (.bin .sub), [.tmp 100, .tmp 101], none⟩,
                      ⟨some 103, (.slc 0 true false), [.tmp 99, .tmp 102], none⟩,
                      ⟨some 104, .mv, [.tmp 1], none⟩,
                      ⟨some 105, .cvc, [.tmp 104], none⟩,
                      ⟨some 106, (.call 49), [.tmp 103, .tmp 105], none⟩,
                      ⟨some 13, .mv, [.tmp 106], none⟩])
                    (.seq (.run [8, 9, 13, 108] [⟨some 107, .mv, [.tmp 13], none⟩,
                       ⟨some 108, (.bin .geq), [.tmp 107, .const (.int .i64 0)], none⟩])
                     (.cond (.tmp 108)
                      (.seq (.run [4] [⟨some 109, .mv, [.tmp 9], none⟩,
                         ⟨some 110, .mv, [.tmp 13], none⟩,
                         ⟨some 111, (.bin .add), [.tmp 109, .tmp 110], none⟩,
                         ⟨some 112, .mv, [.tmp 8], none⟩,
                         ⟨some 113, (.bin .sub), [.tmp 111, .tmp 112], none⟩,
                         ⟨some 4, .mv, [.tmp 113], none⟩])
                       .ret)
                      .skip)))
                   (.seq (.run [0, 7, 8, 9, 14] [⟨some 114, .mv, [.tmp 7], none⟩,
                      ⟨some 115, .mv, [.tmp 8], none⟩,
                      ⟨some 116, .ixs, [.tmp 114, .tmp 115], none⟩,
                      ⟨some 14, .mv, [.tmp 116], none⟩])
                    (.seq (.run [0, 7, 8, 9, 14, 15] [⟨some 117, .mv, [.tmp 7], none⟩,
                       ⟨some 118, .mv, [.tmp 8], none⟩,
                       ⟨some 119, (.bin .sub), [.tmp 118, .const (.int .i64 1)], none⟩,
                       ⟨some 120, .ixs, [.tmp 117, .tmp 119], none⟩,
                       ⟨some 15, .mv, [.tmp 120], none⟩])
                     (.seq .skip
                      (.block 5 (.loop [0, 7, 8, 9, 14, 15] (.seq (.seq (.run [0, 7, 8, 9, 14, 15, 124] [⟨some 121, .mv, [.tmp 9], none⟩,
                            ⟨some 122, .mv, [.tmp 0], none⟩,
                            ⟨some 123, (.len 0), [.tmp 122], none⟩,
                            ⟨some 124, (.bin .lss), [.tmp 121, .tmp 123], none⟩])
                          (.cond (.tmp 124)
                           .skip
                           (.exit 5)))
                         (.seq (.block 6 (.seq (.run [0, 7, 8, 9, 14, 15, 139] [⟨some 127, .mv, [.tmp 0], none⟩,
                              ⟨some 128, .mv, [.tmp 9], none⟩,
                              ⟨some 129, .ixs, [.tmp 127, .tmp 128], none⟩,
                              ⟨some 130, .mv, [.tmp 14], none⟩,
                              ⟨some 131, (.eqg false 6), [.tmp 129, .tmp 130], none⟩,
                              ⟨some 132, .mv, [.tmp 131], none⟩,
                              ⟨some 133, .mv, [.tmp 0], some (132, true)⟩,
                              ⟨some 134, .mv, [.tmp 9], some (132, true)⟩,
                              ⟨some 135, (.bin .sub), [.tmp 134, .const (.int .i64 1)], some (132, true)⟩,
                              ⟨some 136, .ixs, [.tmp 133, .tmp 135], some (132, true)⟩,
                              ⟨some 137, .mv, [.tmp 15], some (132, true)⟩,
                              ⟨some 138, (.eqg false 6), [.tmp 136, .tmp 137], some (132, true)⟩,
                              ⟨some 139, .pick, [.tmp 132, .tmp 138, .const (.bool false)], none⟩])
                            (.cond (.tmp 139)
                             (.seq (.seq (.run [0, 7, 8, 9, 14, 15, 16] [⟨some 16, .mv, [.const (.int .i64 2)], none⟩])
                               (.block 7 (.loop [0, 7, 8, 9, 14, 15, 16] (.seq (.seq (.run [0, 7, 8, 9, 14, 15, 16, 143] [⟨some 140, .mv, [.tmp 16], none⟩,
                                     ⟨some 141, .mv, [.tmp 7], none⟩,
                                     ⟨some 142, (.len 0), [.tmp 141], none⟩,
                                     ⟨some 143, (.bin .lss), [.tmp 140, .tmp 142], none⟩])
                                   (.cond (.tmp 143)
                                    .skip
                                    (.exit 7)))
                                  (.seq (.block 8 (.seq (.runD [0, 7, 8, 9, 14, 15, 16, 156] [⟨0, ⟨some 146, .mv, [.tmp 0], none⟩, []⟩,
                                       ⟨1, ⟨some 147, .mv, [.tmp 9], none⟩, []⟩,
                                       ⟨2, ⟨some 148, .mv, [.tmp 16], none⟩, []⟩,
                                       ⟨3, ⟨some 149, (.bin .sub), [.tmp 147, .tmp 148], none⟩, []⟩,
                                       ⟨4, ⟨some 150, .ixs, [.tmp 146, .tmp 149], none⟩, []⟩,
                                       ⟨5, ⟨some 151, .mv, [.tmp 7], none⟩, []⟩,
                                       ⟨6, ⟨some 152, .mv, [.tmp 8], none⟩, []⟩,
                                       ⟨7, ⟨some 153, .mv, [.tmp 16], none⟩, []⟩,
                                       ⟨8, ⟨some 154, (.bin .sub), [.tmp 152, .tmp 153], none⟩, []⟩,
                                       ⟨9, ⟨some 155, .ixs, [.tmp 151, .tmp 154], none⟩, []⟩,
                                       ⟨10, ⟨some 156, (.eqg true 6), [.tmp 150, .tmp 155], none⟩, []⟩])
                                     (.cond (.tmp 156)
                                      (.exit 6)
                                      .skip)))
                                   (.run [0, 7, 8, 9, 14, 15, 16] [⟨some 144, .mv, [.tmp 16], none⟩,
                                     ⟨some 145, (.bin .add), [.tmp 144, .const (.int .i64 1)], none⟩,
                                     ⟨some 16, .mv, [.tmp 145], none⟩]))))))
                              (.seq (.run [4] [⟨some 157, .mv, [.tmp 9], none⟩,
                                 ⟨some 158, .mv, [.tmp 8], none⟩,
                                 ⟨some 159, (.bin .sub), [.tmp 157, .tmp 158], none⟩,
                                 ⟨some 4, .mv, [.tmp 159], none⟩])
                               .ret))
                             .skip)))
                          (.run [0, 7, 8, 9, 14, 15] [⟨some 125, .mv, [.tmp 9], none⟩,
                            ⟨some 126, (.bin .add), [.tmp 125, .const (.int .i64 1)], none⟩,
                            ⟨some 9, .mv, [.tmp 126], none⟩])))))))))
                  (.seq (.run [4] [⟨some 4, .mv, [.const (.int .i64 (-1))], none⟩])
                   .ret)))))))))))))))))⟩

theorem f43_ok : compF Go.Proofs.Tryd.prog 43 f43.body.hints = some f43 := by kernel_rfl


def f44 : AFun := ⟨8, 2, [.slot 4],
  (.seq (.run [0, 1] [⟨some 4, .mv, [.const (.int .i64 0)], none⟩])
   (.seq (.run [4] [⟨some 5, .mv, [.tmp 0], none⟩,
      ⟨some 6, .mv, [.tmp 1], none⟩,
      ⟨some 7, (.call 50), [.tmp 5, .tmp 6], none⟩,
      ⟨some 4, .mv, [.tmp 7], none⟩])
    .ret))⟩

theorem f44_ok : compF Go.Proofs.Tryd.prog 44 f44.body.hints = some f44 := by kernel_rfl


def f45 : AFun := ⟨36, 3, [.slot 6],
  (.seq (.run [0, 1, 2] [⟨some 6, .mv, [.const (.slice none 0 0)], none⟩])
   (.seq (.seq (.run [0, 1, 2, 10] [⟨some 9, .mv, [.tmp 2], none⟩,
       ⟨some 10, (.eqg false 6), [.tmp 9, .const (.int .i64 10)], none⟩])
     (.cond (.tmp 10)
      (.seq (.seq (.run [0, 1, 12] [⟨some 11, .mv, [.tmp 1], none⟩,
          ⟨some 12, (.bin .lss), [.tmp 11, .const (.int .u64 100)], none⟩])
        (.cond (.tmp 12)
         (.seq (.run [6] [⟨some 13, .mv, [.tmp 0], none⟩,
            ⟨some 14, .mv, [.tmp 1], none⟩,
            ⟨some 15, (.cvi .i64), [.tmp 14], none⟩,
            ⟨some 16, (.call 51), [.tmp 15], none⟩,
            ⟨some 17, (.app 1 1), [.tmp 13, .tmp 16], none⟩,
            ⟨some 6, .mv, [.tmp 17], none⟩])
          .ret)
         .skip))
       (.seq (.run [0, 1, 7] [⟨some 7, (.alloc [(.int .u8 0), (.int .u8 0), (.int .u8 0), (.int .u8 0), (.int .u8 0), (.int .u8 0), (.int .u8 0), (.int .u8 0), (.int .u8 0), (.int .u8 0), (.int .u8 0), (.int .u8 0), (.int .u8 0), (.int .u8 0), (.int .u8 0), (.int .u8 0), (.int .u8 0), (.int .u8 0), (.int .u8 0), (.int .u8 0), (.int .u8 0), (.int .u8 0), (.int .u8 0), (.int .u8 0)]), [], none⟩])
        (.seq (.run [0, 1, 7, 8] [⟨some 18, .mv, [.tmp 1], none⟩,
           ⟨some 19, (.call 52), [.tmp 18], none⟩,
           ⟨some 8, .mv, [.tmp 19], none⟩])
         (.seq (.run [0, 7, 8] [⟨some 20, .mv, [.tmp 8], none⟩,
            ⟨some 21, (.slp 1 24 false true), [.tmp 7, .tmp 20], none⟩,
            ⟨some 22, .mv, [.tmp 1], none⟩,
            ⟨some 23, (.call 53), [.tmp 21, .tmp 22], none⟩])
          (.seq (.run [6] [⟨some 24, .mv, [.tmp 0], none⟩,
             ⟨some 25, .mv, [.tmp 8], none⟩,
             ⟨some 26, (.slp 1 24 false true), [.tmp 7, .tmp 25], none⟩,
             ⟨some 27, (.app 1 1), [.tmp 24, .tmp 26], none⟩,
             ⟨some 6, .mv, [.tmp 27], none⟩])
           .ret)))))
      .skip))
    (.seq (.run [0] [⟨some 29, .mv, [.tmp 0], none⟩,
       ⟨some 30, .mv, [.tmp 1], none⟩,
       ⟨some 31, .mv, [.tmp 2], none⟩,
       ⟨some 32, (.call 54), [.tmp 29, .tmp 30, .tmp 31, .const (.bool false), .const (.bool true)], none⟩,
       ⟨some 28, .mv, [.tmp 32], none⟩,
       ⟨some 33, (.ext 0), [.tmp 28], none⟩,
       ⟨some 34, (.ext 1), [.tmp 28], none⟩,
       ⟨some 0, .mv, [.tmp 33], none⟩])
     (.seq (.run [6] [⟨some 35, .mv, [.tmp 0], none⟩,
        ⟨some 6, .mv, [.tmp 35], none⟩])
      .ret))))⟩

theorem f45_ok : compF Go.Proofs.Tryd.prog 45 f45.body.hints = some f45 := by kernel_rfl


def f46 : AFun := ⟨22, 1, [.slot 2, .slot 3],
  (.seq (.run [0] [⟨some 2, .mv, [.const (.int .i32 0)], none⟩,
     ⟨some 3, .mv, [.const (.int .i64 0)], none⟩])
   (.seq (.seq (.run [0, 6, 7, 8] [⟨some 6, .mv, [.tmp 0], none⟩,
       ⟨some 7, (.len 1), [.tmp 6], none⟩,
       ⟨some 8, .mv, [.const (.int .i64 0)], none⟩])
     (.block 0 (.loop [0, 6, 7, 8] (.seq (.run [0, 6, 8, 9] [⟨some 9, (.bin .lss), [.tmp 8, .tmp 7], none⟩])
        (.seq (.cond (.tmp 9)
          .skip
          (.exit 0))
         (.seq (.block 1 (.seq (.run [0, 5] [⟨some 10, (.iaddr 1), [.tmp 6, .tmp 8], none⟩,
              ⟨some 11, (.ld false 1), [.tmp 10], none⟩,
              ⟨some 5, .mv, [.tmp 11], none⟩])
            (.seq (.seq (.run [0, 5, 13] [⟨some 12, .mv, [.tmp 5], none⟩,
                ⟨some 13, (.bin .lss), [.tmp 12, .const (.int .u8 128)], none⟩])
              (.cond (.tmp 13)
               (.seq (.run [2, 3] [⟨some 14, .mv, [.tmp 5], none⟩,
                  ⟨some 15, (.cvi .i32), [.tmp 14], none⟩,
                  ⟨some 2, .mv, [.tmp 15], none⟩,
                  ⟨some 3, .mv, [.const (.int .i64 1)], none⟩])
                .ret)
               .skip))
             (.exit 0))))
          (.run [0, 6, 7, 8] [⟨some 16, (.bin .add), [.tmp 8, .const (.int .i64 1)], none⟩,
            ⟨some 8, .mv, [.tmp 16], none⟩])))))))
    (.seq (.run [2, 3] [⟨some 18, .mv, [.tmp 0], none⟩,
       ⟨some 19, (.call 55), [.tmp 18], none⟩,
       ⟨some 17, .mv, [.tmp 19], none⟩,
       ⟨some 20, (.ext 0), [.tmp 17], none⟩,
       ⟨some 21, (.ext 1), [.tmp 17], none⟩,
       ⟨some 2, .mv, [.tmp 20], none⟩,
       ⟨some 3, .mv, [.tmp 21], none⟩])
     .ret)))⟩

theorem f46_ok : compF Go.Proofs.Tryd.prog 46 f46.body.hints = some f46 := by kernel_rfl


def f47 : AFun := ⟨17, 1, [.slot 2],
  (.seq (.run [0] [⟨some 2, .mv, [.const (.bool false)], none⟩])
   (.seq (.block 0 (.seq (.run [0, 3] [⟨some 4, .mv, [.tmp 0], none⟩,
        ⟨some 5, (.bin .leq), [.const (.int .i32 0), .tmp 4], none⟩,
        ⟨some 6, .mv, [.tmp 5], none⟩,
        ⟨some 7, .mv, [.tmp 0], some (6, true)⟩,
        ⟨some 8, (.bin .lss), [.tmp 7, .const (.int .i32 55296)], some (6, true)⟩,
        ⟨some 9, .pick, [.tmp 6, .tmp 8, .const (.bool false)], none⟩,
        ⟨some 3, .mv, [.tmp 9], none⟩])
      (.cond (.tmp 3)
       (.seq (.run [2] [⟨some 2, .mv, [.const (.bool true)], none⟩])
        .ret)
       (.seq (.run [10] [⟨some 11, .mv, [.tmp 0], none⟩,
          ⟨some 12, (.bin .lss), [.const (.int .i32 57343), .tmp 11], none⟩,
          ⟨some 13, .mv, [.tmp 12], none⟩,
          ⟨some 14, .mv, [.tmp 0], some (13, true)⟩,
          ⟨some 15, (.bin .leq), [.tmp 14, .const (.int .i32 1114111)], some (13, true)⟩,
          ⟨some 16, .pick, [.tmp 13, .tmp 15, .const (.bool false)], none⟩,
          ⟨some 10, .mv, [.tmp 16], none⟩])
        (.cond (.tmp 10)
         (.seq (.run [2] [⟨some 2, .mv, [.const (.bool true)], none⟩])
          .ret)
         .skip)))))
    (.seq (.run [2] [⟨some 2, .mv, [.const (.bool false)], none⟩])
     .ret)))⟩

theorem f47_ok : compF Go.Proofs.Tryd.prog 47 f47.body.hints = some f47 := by kernel_rfl


def f48 : AFun := ⟨6, 1, [.slot 2],
  (.seq (.run [0] [⟨some 2, .mv, [.const (.int .i64 0)], none⟩])
   (.seq (.run [2] [⟨some 3, .mv, [.tmp 0], none⟩,
      ⟨some 4, (.bin .add), [.tmp 3, .const (.int .i64 16)], none⟩,
      ⟨some 5, (.bin .quo), [.tmp 4, .const (.int .i64 8)], none⟩,
      ⟨some 2, .mv, [.tmp 5], none⟩])
    .ret))⟩

theorem f48_ok : compF Go.Proofs.Tryd.prog 48 f48.body.hints = some f48 := by kernel_rfl


def f51 : AFun := ⟨15, 1, [.slot 2],
  (.seq (.run [0] [⟨some 2, .mv, [.const (.string ⟨#[]⟩)], none⟩])
   (.seq (.seq (.run [0, 4] [⟨some 3, .mv, [.tmp 0], none⟩,
       ⟨some 4, (.bin .lss), [.tmp 3, .const (.int .i64 10)], none⟩])
     (.cond (.tmp 4)
      (.seq (.run [2] [⟨some 5, .mv, [.tmp 0], none⟩,
         ⟨some 6, .mv, [.tmp 0], none⟩,
         ⟨some 7, (.bin .add), [.tmp 6, .const (.int .i64 1)], none⟩,
         ⟨some 8, (.slc 0 true true), [.const (.string ⟨#[48, 49, 50, 51, 52, 53, 54, 55, 56, 57, 97, 98, 99, 100, 101, 102, 103, 104, 105, 106, 107, 108, 109, 110, 111, 112, 113, 114, 115, 116, 117, 118, 119, 120, 121, 122]⟩), .tmp 5, .tmp 7], none⟩,
         ⟨some 2, .mv, [.tmp 8], none⟩])
       .ret)
      .skip))
    (.seq (.run [2] [⟨some 9, .mv, [.tmp 0], none⟩,
       ⟨some 10, (.bin .mul), [.tmp 9, .const (.int .i64 2)], none⟩,
       ⟨some 11, .mv, [.tmp 0], none⟩,
       ⟨some 12, (.bin .mul), [.tmp 11, .const (.int .i64 2)], none⟩,
       ⟨some 13, (.bin .add), [.tmp 12, .const (.int .i64 2)], none⟩,
       ⟨some 14, (.slc 0 true true), [.const (.string ⟨#[48, 48, 48, 49, 48, 50, 48, 51, 48, 52, 48, 53, 48, 54, 48, 55, 48, 56, 48, 57, 49, 48, 49, 49, 49, 50, 49, 51, 49, 52, 49, 53, 49, 54, 49, 55, 49, 56, 49, 57, 50, 48, 50, 49, 50, 50, 50, 51, 50, 52, 50, 53, 50, 54, 50, 55, 50, 56, 50, 57, 51, 48, 51, 49, 51, 50, 51, 51, 51, 52, 51, 53, 51, 54, 51, 55, 51, 56, 51, 57, 52, 48, 52, 49, 52, 50, 52, 51, 52, 52, 52, 53, 52, 54, 52, 55, 52, 56, 52, 57, 53, 48, 53, 49, 53, 50, 53, 51, 53, 52, 53, 53, 53, 54, 53, 55, 53, 56, 53, 57, 54, 48, 54, 49, 54, 50, 54, 51, 54, 52, 54, 53, 54, 54, 54, 55, 54, 56, 54, 57, 55, 48, 55, 49, 55, 50, 55, 51, 55, 52, 55, 53, 55, 54, 55, 55, 55, 56, 55, 57, 56, 48, 56, 49, 56, 50, 56, 51, 56, 52, 56, 53, 56, 54, 56, 55, 56, 56, 56, 57, 57, 48, 57, 49, 57, 50, 57, 51, 57, 52, 57, 53, 57, 54, 57, 55, 57, 56, 57, 57]⟩), .tmp 10, .tmp 13], none⟩,
       ⟨some 2, .mv, [.tmp 14], none⟩])
     .ret)))⟩

theorem f51_ok : compF Go.Proofs.Tryd.prog 51 f51.body.hints = some f51 := by kernel_rfl


def f52 : AFun := ⟨15, 1, [.slot 2],
  (.seq (.run [0] [⟨some 2, .mv, [.const (.int .i64 0)], none⟩])
   (.seq (.run [0, 3] [⟨some 4, .mv, [.tmp 0], none⟩,
      ⟨some 5, (.call 57), [.tmp 4], none⟩,
      ⟨some 6, (.call 56), [.tmp 5], none⟩,
      ⟨some 3, .mv, [.tmp 6], none⟩])
    (.seq (.run [2] [⟨some 7, .mv, [.tmp 3], none⟩,
       ⟨some 8, .mv, [.tmp 0], none⟩,
       ⟨some 9, .mv, [.tmp 3], none⟩,
       ⟨some 10, (.aaddr 1 20), [.global 1, .tmp 9], none⟩,
       ⟨some 11, (.ld false 1), [.tmp 10], none⟩,
       ⟨some 12, (.bin .geq), [.tmp 8, .tmp 11], none⟩,
       ⟨some 13, (.call 58), [.tmp 12], none⟩,
       ⟨some 14, (.bin .add), [.tmp 7, .tmp 13], none⟩,
       ⟨some 2, .mv, [.tmp 14], none⟩])
     .ret)))⟩

theorem f52_ok : compF Go.Proofs.Tryd.prog 52 f52.body.hints = some f52 := by kernel_rfl


def f53 : AFun := ⟨167, 2, [],
  (.seq (.run [0, 1, 4] [⟨some 17, .mv, [.tmp 0], none⟩,
     ⟨some 18, (.len 1), [.tmp 17], none⟩,
     ⟨some 4, .mv, [.tmp 18], none⟩])
   (.seq (.block 0 (.loop [0, 1, 4] (.seq (.seq (.run [0, 1, 4, 20] [⟨some 19, .mv, [.tmp 4], none⟩,
          ⟨some 20, (.bin .geq), [.tmp 19, .const (.int .i64 8)], none⟩])
        (.cond (.tmp 20)
         .skip
         (.exit 0)))
       (.block 1 (.seq (.run [0, 1, 4, 5] [⟨some 21, .mv, [.tmp 1], none⟩,
           ⟨some 22, (.bin .rem), [.tmp 21, .const (.int .u64 100000000)], none⟩,
           ⟨some 23, (.cvi .u32), [.tmp 22], none⟩,
           ⟨some 5, .mv, [.tmp 23], none⟩])
         (.seq (.run [0, 1, 4, 5] [⟨some 24, .mv, [.tmp 1], none⟩,
            ⟨some 25, (.bin .quo), [.tmp 24, .const (.int .u64 100000000)], none⟩,
            ⟨some 1, .mv, [.tmp 25], none⟩])
          (.seq (.run [0, 1, 4, 6, 7] [⟨some 26, .mv, [.tmp 5], none⟩,
             ⟨some 27, (.bin .quo), [.tmp 26, .const (.int .u32 10000)], none⟩,
             ⟨some 28, .mv, [.tmp 5], none⟩,
             ⟨some 29, (.bin .rem), [.tmp 28, .const (.int .u32 10000)], none⟩,
             ⟨some 6, .mv, [.tmp 27], none⟩,
             ⟨some 7, .mv, [.tmp 29], none⟩])
           (.seq (.run [0, 1, 4, 6, 8, 9] [⟨some 30, .mv, [.tmp 7], none⟩,
              ⟨some 31, (.bin .quo), [.tmp 30, .const (.int .u32 100)], none⟩,
              ⟨some 32, (.bin .mul), [.tmp 31, .const (.int .u32 2)], none⟩,
              ⟨some 33, .mv, [.tmp 7], none⟩,
              ⟨some 34, (.bin .rem), [.tmp 33, .const (.int .u32 100)], none⟩,
              ⟨some 35, (.bin .mul), [.tmp 34, .const (.int .u32 2)], none⟩,
              ⟨some 8, .mv, [.tmp 32], none⟩,
              ⟨some 9, .mv, [.tmp 35], none⟩])
            (.seq (.run [0, 1, 4, 8, 9, 10, 11] [⟨some 36, .mv, [.tmp 6], none⟩,
               ⟨some 37, (.bin .quo), [.tmp 36, .const (.int .u32 100)], none⟩,
               ⟨some 38, (.bin .mul), [.tmp 37, .const (.int .u32 2)], none⟩,
               ⟨some 39, .mv, [.tmp 6], none⟩,
               ⟨some 40, (.bin .rem), [.tmp 39, .const (.int .u32 100)], none⟩,
               ⟨some 41, (.bin .mul), [.tmp 40, .const (.int .u32 2)], none⟩,
               ⟨some 10, .mv, [.tmp 38], none⟩,
               ⟨some 11, .mv, [.tmp 41], none⟩])
             (.seq (.runD [0, 1, 4, 8, 10, 11] [⟨0, ⟨some 42, .mv, [.tmp 0], none⟩, []⟩,
                ⟨1, ⟨some 43, .mv, [.tmp 4], none⟩, []⟩,
                ⟨2, ⟨some 44, (.bin .sub), [.tmp 43, .const (.int .i64 1)], none⟩, []⟩,
                ⟨3, ⟨some 45, .mv, [.tmp 0], none⟩, []⟩,
                ⟨4, ⟨some 46, .mv, [.tmp 4], none⟩, []⟩,
                ⟨5, ⟨some 47, (.bin .sub), [.tmp 46, .const (.int .i64 2)], none⟩, []⟩,
                ⟨6, ⟨some 48, .mv, [.tmp 9], none⟩, []⟩,
                ⟨7, ⟨some 49, (.bin .add), [.tmp 48, .const (.int .u32 1)], none⟩, []⟩,
                ⟨8, ⟨some 50, .ixs, [.const (.string ⟨#[48, 48, 48, 49, 48, 50, 48, 51, 48, 52, 48, 53, 48, 54, 48, 55, 48, 56, 48, 57, 49, 48, 49, 49, 49, 50, 49, 51, 49, 52, 49, 53, 49, 54, 49, 55, 49, 56, 49, 57, 50, 48, 50, 49, 50, 50, 50, 51, 50, 52, 50, 53, 50, 54, 50, 55, 50, 56, 50, 57, 51, 48, 51, 49, 51, 50, 51, 51, 51, 52, 51, 53, 51, 54, 51, 55, 51, 56, 51, 57, 52, 48, 52, 49, 52, 50, 52, 51, 52, 52, 52, 53, 52, 54, 52, 55, 52, 56, 52, 57, 53, 48, 53, 49, 53, 50, 53, 51, 53, 52, 53, 53, 53, 54, 53, 55, 53, 56, 53, 57, 54, 48, 54, 49, 54, 50, 54, 51, 54, 52, 54, 53, 54, 54, 54, 55, 54, 56, 54, 57, 55, 48, 55, 49, 55, 50, 55, 51, 55, 52, 55, 53, 55, 54, 55, 55, 55, 56, 55, 57, 56, 48, 56, 49, 56, 50, 56, 51, 56, 52, 56, 53, 56, 54, 56, 55, 56, 56, 56, 57, 57, 48, 57, 49, 57, 50, 57, 51, 57, 52, 57, 53, 57, 54, 57, 55, 57, 56, 57, 57]⟩), .tmp 49], none⟩, []⟩,
                ⟨9, ⟨some 51, .mv, [.tmp 9], none⟩, []⟩,
                ⟨10, ⟨some 52, .ixs, [.const (.string ⟨#[48, 48, 48, 49, 48, 50, 48, 51, 48, 52, 48, 53, 48, 54, 48, 55, 48, 56, 48, 57, 49, 48, 49, 49, 49, 50, 49, 51, 49, 52, 49, 53, 49, 54, 49, 55, 49, 56, 49, 57, 50, 48, 50, 49, 50, 50, 50, 51, 50, 52, 50, 53, 50, 54, 50, 55, 50, 56, 50, 57, 51, 48, 51, 49, 51, 50, 51, 51, 51, 52, 51, 53, 51, 54, 51, 55, 51, 56, 51, 57, 52, 48, 52, 49, 52, 50, 52, 51, 52, 52, 52, 53, 52, 54, 52, 55, 52, 56, 52, 57, 53, 48, 53, 49, 53, 50, 53, 51, 53, 52, 53, 53, 53, 54, 53, 55, 53, 56, 53, 57, 54, 48, 54, 49, 54, 50, 54, 51, 54, 52, 54, 53, 54, 54, 54, 55, 54, 56, 54, 57, 55, 48, 55, 49, 55, 50, 55, 51, 55, 52, 55, 53, 55, 54, 55, 55, 55, 56, 55, 57, 56, 48, 56, 49, 56, 50, 56, 51, 56, 52, 56, 53, 56, 54, 56, 55, 56, 56, 56, 57, 57, 48, 57, 49, 57, 50, 57, 51, 57, 52, 57, 53, 57, 54, 57, 55, 57, 56, 57, 57]⟩), .tmp 51], none⟩, []⟩,
                ⟨11, ⟨some 53, (.iaddr 1), [.tmp 42, .tmp 44], none⟩, []⟩,
                ⟨12, ⟨none, (.st 1), [.tmp 53, .tmp 50], none⟩, []⟩,
                ⟨13, ⟨some 54, (.iaddr 1), [.tmp 45, .tmp 47], none⟩, []⟩,
                ⟨14, ⟨none, (.st 1), [.tmp 54, .tmp 52], none⟩, []⟩])
              (.seq (.runD [0, 1, 4, 10, 11] [⟨0, ⟨some 55, .mv, [.tmp 0], none⟩, []⟩,
                 ⟨1, ⟨some 56, .mv, [.tmp 4], none⟩, []⟩,
                 ⟨2, ⟨some 57, (.bin .sub), [.tmp 56, .const (.int .i64 3)], none⟩, []⟩,
                 ⟨3, ⟨some 58, .mv, [.tmp 0], none⟩, []⟩,
                 ⟨4, ⟨some 59, .mv, [.tmp 4], none⟩, []⟩,
                 ⟨5, ⟨some 60, (.bin .sub), [.tmp 59, .const (.int .i64 4)], none⟩, []⟩,
                 ⟨6, ⟨some 61, .mv, [.tmp 8], none⟩, []⟩,
                 ⟨7, ⟨some 62, (.bin .add), [.tmp 61, .const (.int .u32 1)], none⟩, []⟩,
                 ⟨8, ⟨some 63, .ixs, [.const (.string ⟨#[48, 48, 48, 49, 48, 50, 48, 51, 48, 52, 48, 53, 48, 54, 48, 55, 48, 56, 48, 57, 49, 48, 49, 49, 49, 50, 49, 51, 49, 52, 49, 53, 49, 54, 49, 55, 49, 56, 49, 57, 50, 48, 50, 49, 50, 50, 50, 51, 50, 52, 50, 53, 50, 54, 50, 55, 50, 56, 50, 57, 51, 48, 51, 49, 51, 50, 51, 51, 51, 52, 51, 53, 51, 54, 51, 55, 51, 56, 51, 57, 52, 48, 52, 49, 52, 50, 52, 51, 52, 52, 52, 53, 52, 54, 52, 55, 52, 56, 52, 57, 53, 48, 53, 49, 53, 50, 53, 51, 53, 52, 53, 53, 53, 54, 53, 55, 53, 56, 53, 57, 54, 48, 54, 49, 54, 50, 54, 51, 54, 52, 54, 53, 54, 54, 54, 55, 54, 56, 54, 57, 55, 48, 55, 49, 55, 50, 55, 51, 55, 52, 55, 53, 55, 54, 55, 55, 55, 56, 55, 57, 56, 48, 56, 49, 56, 50, 56, 51, 56, 52, 56, 53, 56, 54, 56, 55, 56, 56, 56, 57, 57, 48, 57, 49, 57, 50, 57, 51, 57, 52, 57, 53, 57, 54, 57, 55, 57, 56, 57, 57]⟩), .tmp 62], none⟩, []⟩,
                 ⟨9, ⟨some 64, .mv, [.tmp 8], none⟩, []⟩,
                 ⟨10, ⟨some 65, .ixs, [.const (.string ⟨#[48, 48, 48, 49, 48, 50, 48, 51, 48, 52, 48, 53, 48, 54, 48, 55, 48, 56, 48, 57, 49, 48, 49, 49, 49, 50, 49, 51, 49, 52, 49, 53, 49, 54, 49, 55, 49, 56, 49, 57, 50, 48, 50, 49, 50, 50, 50, 51, 50, 52, 50, 53, 50, 54, 50, 55, 50, 56, 50, 57, 51, 48, 51, 49, 51, 50, 51, 51, 51, 52, 51, 53, 51, 54, 51, 55, 51, 56, 51, 57, 52, 48, 52, 49, 52, 50, 52, 51, 52, 52, 52, 53, 52, 54, 52, 55, 52, 56, 52, 57, 53, 48, 53, 49, 53, 50, 53, 51, 53, 52, 53, 53, 53, 54, 53, 55, 53, 56, 53, 57, 54, 48, 54, 49, 54, 50, 54, 51, 54, 52, 54, 53, 54, 54, 54, 55, 54, 56, 54, 57, 55, 48, 55, 49, 55, 50, 55, 51, 55, 52, 55, 53, 55, 54, 55, 55, 55, 56, 55, 57, 56, 48, 56, 49, 56, 50, 56, 51, 56, 52, 56, 53, 56, 54, 56, 55, 56, 56, 56, 57, 57, 48, 57, 49, 57, 50, 57, 51, 57, 52, 57, 53, 57, 54, 57, 55, 57, 56, 57, 57]⟩), .tmp 64], none⟩, []⟩,
                 ⟨11, ⟨some 66, (.iaddr 1), [.tmp 55, .tmp 57], none⟩, []⟩,
                 ⟨12, ⟨none, (.st 1), [.tmp 66, .tmp 63], none⟩, []⟩,
                 ⟨13, ⟨some 67, (.iaddr 1), [.tmp 58, .tmp 60], none⟩, []⟩,
                 ⟨14, ⟨none, (.st 1), [.tmp 67, .tmp 65], none⟩, []⟩])
               (.seq (.runD [0, 1, 4, 10] [⟨0, ⟨some 68, .mv, [.tmp 0], none⟩, []⟩,
                  ⟨1, ⟨some 69, .mv, [.tmp 4], none⟩, []⟩,
                  ⟨2, ⟨some 70, (.bin .sub), [.tmp 69, .const (.int .i64 5)], none⟩, []⟩,
                  ⟨3, ⟨some 71, .mv, [.tmp 0], none⟩, []⟩,
                  ⟨4, ⟨some 72, .mv, [.tmp 4], none⟩, []⟩,
                  ⟨5, ⟨some 73, (.bin .sub), [.tmp 72, .const (.int .i64 6)], none⟩, []⟩,
                  ⟨6, ⟨some 74, .mv, [.tmp 11], none⟩, []⟩,
                  ⟨7, ⟨some 75, (.bin .add), [.tmp 74, .const (.int .u32 1)], none⟩, []⟩,
                  ⟨8, ⟨some 76, .ixs, [.const (.string ⟨#[48, 48, 48, 49, 48, 50, 48, 51, 48, 52, 48, 53, 48, 54, 48, 55, 48, 56, 48, 57, 49, 48, 49, 49, 49, 50, 49, 51, 49, 52, 49, 53, 49, 54, 49, 55, 49, 56, 49, 57, 50, 48, 50, 49, 50, 50, 50, 51, 50, 52, 50, 53, 50, 54, 50, 55, 50, 56, 50, 57, 51, 48, 51, 49, 51, 50, 51, 51, 51, 52, 51, 53, 51, 54, 51, 55, 51, 56, 51, 57, 52, 48, 52, 49, 52, 50, 52, 51, 52, 52, 52, 53, 52, 54, 52, 55, 52, 56, 52, 57, 53, 48, 53, 49, 53, 50, 53, 51, 53, 52, 53, 53, 53, 54, 53, 55, 53, 56, 53, 57, 54, 48, 54, 49, 54, 50, 54, 51, 54, 52, 54, 53, 54, 54, 54, 55, 54, 56, 54, 57, 55, 48, 55, 49, 55, 50, 55, 51, 55, 52, 55, 53, 55, 54, 55, 55, 55, 56, 55, 57, 56, 48, 56, 49, 56, 50, 56, 51, 56, 52, 56, 53, 56, 54, 56, 55, 56, 56, 56, 57, 57, 48, 57, 49, 57, 50, 57, 51, 57, 52, 57, 53, 57, 54, 57, 55, 57, 56, 57, 57]⟩), .tmp 75], none⟩, []⟩,
                  ⟨9, ⟨some 77, .mv, [.tmp 11], none⟩, []⟩,
                  ⟨10, ⟨some 78, .ixs, [.const (.string ⟨#[48, 48, 48, 49, 48, 50, 48, 51, 48, 52, 48, 53, 48, 54, 48, 55, 48, 56, 48, 57, 49, 48, 49, 49, 49, 50, 49, 51, 49, 52, 49, 53, 49, 54, 49, 55, 49, 56, 49, 57, 50, 48, 50, 49, 50, 50, 50, 51, 50, 52, 50, 53, 50, 54, 50, 55, 50, 56, 50, 57, 51, 48, 51, 49, 51, 50, 51, 51, 51, 52, 51, 53, 51, 54, 51, 55, 51, 56, 51, 57, 52, 48, 52, 49, 52, 50, 52, 51, 52, 52, 52, 53, 52, 54, 52, 55, 52, 56, 52, 57, 53, 48, 53, 49, 53, 50, 53, 51, 53, 52, 53, 53, 53, 54, 53, 55, 53, 56, 53, 57, 54, 48, 54, 49, 54, 50, 54, 51, 54, 52, 54, 53, 54, 54, 54, 55, 54, 56, 54, 57, 55, 48, 55, 49, 55, 50, 55, 51, 55, 52, 55, 53, 55, 54, 55, 55, 55, 56, 55, 57, 56, 48, 56, 49, 56, 50, 56, 51, 56, 52, 56, 53, 56, 54, 56, 55, 56, 56, 56, 57, 57, 48, 57, 49, 57, 50, 57, 51, 57, 52, 57, 53, 57, 54, 57, 55, 57, 56, 57, 57]⟩), .tmp 77], none⟩, []⟩,
                  ⟨11, ⟨some 79, (.iaddr 1), [.tmp 68, .tmp 70], none⟩, []⟩,
                  ⟨12, ⟨none, (.st 1), [.tmp 79, .tmp 76], none⟩, []⟩,
                  ⟨13, ⟨some 80, (.iaddr 1), [.tmp 71, .tmp 73], none⟩, []⟩,
                  ⟨14, ⟨none, (.st 1), [.tmp 80, .tmp 78], none⟩, []⟩])
                (.seq (.runD [0, 1, 4] [⟨0, ⟨some 81, .mv, [.tmp 0], none⟩, []⟩,
                   ⟨1, ⟨some 82, .mv, [.tmp 4], none⟩, []⟩,
                   ⟨2, ⟨some 83, (.bin .sub), [.tmp 82, .const (.int .i64 7)], none⟩, []⟩,
                   ⟨3, ⟨some 84, .mv, [.tmp 0], none⟩, []⟩,
                   ⟨4, ⟨some 85, .mv, [.tmp 4], none⟩, []⟩,
                   ⟨5, ⟨some 86, (.bin .sub), [.tmp 85, .const (.int .i64 8)], none⟩, []⟩,
                   ⟨6, ⟨some 87, .mv, [.tmp 10], none⟩, []⟩,
                   ⟨7, ⟨some 88, (.bin .add), [.tmp 87, .const (.int .u32 1)], none⟩, []⟩,
                   ⟨8, ⟨some 89, .ixs, [.const (.string ⟨#[48, 48, 48, 49, 48, 50, 48, 51, 48, 52, 48, 53, 48, 54, 48, 55, 48, 56, 48, 57, 49, 48, 49, 49, 49, 50, 49, 51, 49, 52, 49, 53, 49, 54, 49, 55, 49, 56, 49, 57, 50, 48, 50, 49, 50, 50, 50, 51, 50, 52, 50, 53, 50, 54, 50, 55, 50, 56, 50, 57, 51, 48, 51, 49, 51, 50, 51, 51, 51, 52, 51, 53, 51, 54, 51, 55, 51, 56, 51, 57, 52, 48, 52, 49, 52, 50, 52, 51, 52, 52, 52, 53, 52, 54, 52, 55, 52, 56, 52, 57, 53, 48, 53, 49, 53, 50, 53, 51, 53, 52, 53, 53, 53, 54, 53, 55, 53, 56, 53, 57, 54, 48, 54, 49, 54, 50, 54, 51, 54, 52, 54, 53, 54, 54, 54, 55, 54, 56, 54, 57, 55, 48, 55, 49, 55, 50, 55, 51, 55, 52, 55, 53, 55, 54, 55, 55, 55, 56, 55, 57, 56, 48, 56, 49, 56, 50, 56, 51, 56, 52, 56, 53, 56, 54, 56, 55, 56, 56, 56, 57, 57, 48, 57, 49, 57, 50, 57, 51, 57, 52, 57, 53, 57, 54, 57, 55, 57, 56, 57, 57]⟩), .tmp 88], none⟩, []⟩,
                   ⟨9, ⟨some 90, .mv, [.tmp 10], none⟩, []⟩,
                   ⟨10, ⟨some 91, .ixs, [.const (.string ⟨#[48, 48, 48, 49, 48, 50, 48, 51, 48, 52, 48, 53, 48, 54, 48, 55, 48, 56, 48, 57, 49, 48, 49, 49, 49, 50, 49, 51, 49, 52, 49, 53, 49, 54, 49, 55, 49, 56, 49, 57, 50, 48, 50, 49, 50, 50, 50, 51, 50, 52, 50, 53, 50, 54, 50, 55, 50, 56, 50, 57, 51, 48, 51, 49, 51, 50, 51, 51, 51, 52, 51, 53, 51, 54, 51, 55, 51, 56, 51, 57, 52, 48, 52, 49, 52, 50, 52, 51, 52, 52, 52, 53, 52, 54, 52, 55, 52, 56, 52, 57, 53, 48, 53, 49, 53, 50, 53, 51, 53, 52, 53, 53, 53, 54, 53, 55, 53, 56, 53, 57, 54, 48, 54, 49, 54, 50, 54, 51, 54, 52, 54, 53, 54, 54, 54, 55, 54, 56, 54, 57, 55, 48, 55, 49, 55, 50, 55, 51, 55, 52, 55, 53, 55, 54, 55, 55, 55, 56, 55, 57, 56, 48, 56, 49, 56, 50, 56, 51, 56, 52, 56, 53, 56, 54, 56, 55, 56, 56, 56, 57, 57, 48, 57, 49, 57, 50, 57, 51, 57, 52, 57, 53, 57, 54, 57, 55, 57, 56, 57, 57]⟩), .tmp 90], none⟩, []⟩,
                   ⟨11, ⟨some 92, (.iaddr 1), [.tmp 81, .tmp 83], none⟩, []⟩,
                   ⟨12, ⟨none, (.st 1), [.tmp 92, .tmp 89], none⟩, []⟩,
                   ⟨13, ⟨some 93, (.iaddr 1), [.tmp 84, .tmp 86], none⟩, []⟩,
                   ⟨14, ⟨none, (.st 1), [.tmp 93, .tmp 91], none⟩, []⟩])
                 (.run [0, 1, 4] [⟨some 94, .mv, [.tmp 4], none⟩,
                   ⟨some 95, (.bin .sub), [.tmp 94, .const (.int .i64 8)], none⟩,
                   ⟨some 4, .mv, [.tmp 95], none⟩]))))))))))))))
    (.seq (.run [0, 4, 12] [⟨some 96, .mv, [.tmp 1], none⟩,
       ⟨some 97, (.cvi .u32), [.tmp 96], none⟩,
       ⟨some 12, .mv, [.tmp 97], none⟩])
     (.seq (.seq (.run [0, 4, 12, 99] [⟨some 98, .mv, [.tmp 4], none⟩,
         ⟨some 99, (.bin .geq), [.tmp 98, .const (.int .i64 4)], none⟩])
       (.cond (.tmp 99)
        (.seq (.run [0, 4, 12, 13] [⟨some 100, .mv, [.tmp 12], none⟩,
           ⟨some 101, (.bin .rem), [.tmp 100, .const (.int .u32 10000)], none⟩,
           ⟨some 13, .mv, [.tmp 101], none⟩])
         (.seq (.run [0, 4, 12, 13] [⟨some 102, .mv, [.tmp 12], none⟩,
            ⟨some 103, (.bin .quo), [.tmp 102, .const (.int .u32 10000)], none⟩,
            ⟨some 12, .mv, [.tmp 103], none⟩])
          (.seq (.run [0, 4, 12, 14, 15] [⟨some 104, .mv, [.tmp 13], none⟩,
             ⟨some 105, (.bin .quo), [.tmp 104, .const (.int .u32 100)], none⟩,
             ⟨some 106, (.bin .mul), [.tmp 105, .const (.int .u32 2)], none⟩,
             ⟨some 107, .mv, [.tmp 13], none⟩,
             ⟨some 108, (.bin .rem), [.tmp 107, .const (.int .u32 100)], none⟩,
             ⟨some 109, (.bin .mul), [.tmp 108, .const (.int .u32 2)], none⟩,
             ⟨some 14, .mv, [.tmp 106], none⟩,
             ⟨some 15, .mv, [.tmp 109], none⟩])
           (.seq (.runD [0, 4, 12, 14] [⟨0, ⟨some 110, .mv, [.tmp 0], none⟩, []⟩,
              ⟨1, ⟨some 111, .mv, [.tmp 4], none⟩, []⟩,
              ⟨2, ⟨some 112, (.bin .sub), [.tmp 111, .const (.int .i64 1)], none⟩, []⟩,
              ⟨3, ⟨some 113, .mv, [.tmp 0], none⟩, []⟩,
              ⟨4, ⟨some 114, .mv, [.tmp 4], none⟩, []⟩,
              ⟨5, ⟨some 115, (.bin .sub), [.tmp 114, .const (.int .i64 2)], none⟩, []⟩,
              ⟨6, ⟨some 116, .mv, [.tmp 15], none⟩, []⟩,
              ⟨7, ⟨some 117, (.bin .add), [.tmp 116, .const (.int .u32 1)], none⟩, []⟩,
              ⟨8, ⟨some 118, .ixs, [.const (.string ⟨#[48, 48, 48, 49, 48, 50, 48, 51, 48, 52, 48, 53, 48, 54, 48, 55, 48, 56, 48, 57, 49, 48, 49, 49, 49, 50, 49, 51, 49, 52, 49, 53, 49, 54, 49, 55, 49, 56, 49, 57, 50, 48, 50, 49, 50, 50, 50, 51, 50, 52, 50, 53, 50, 54, 50, 55, 50, 56, 50, 57, 51, 48, 51, 49, 51, 50, 51, 51, 51, 52, 51, 53, 51, 54, 51, 55, 51, 56, 51, 57, 52, 48, 52, 49, 52, 50, 52, 51, 52, 52, 52, 53, 52, 54, 52, 55, 52, 56, 52, 57, 53, 48, 53, 49, 53, 50, 53, 51, 53, 52, 53, 53, 53, 54, 53, 55, 53, 56, 53, 57, 54, 48, 54, 49, 54, 50, 54, 51, 54, 52, 54, 53, 54, 54, 54, 55, 54, 56, 54, 57, 55, 48, 55, 49, 55, 50, 55, 51, 55, 52, 55, 53, 55, 54, 55, 55, 55, 56, 55, 57, 56, 48, 56, 49, 56, 50, 56, 51, 56, 52, 56, 53, 56, 54, 56, 55, 56, 56, 56, 57, 57, 48, 57, 49, 57, 50, 57, 51, 57, 52, 57, 53, 57, 54, 57, 55, 57, 56, 57, 57]⟩), .tmp 117], none⟩, []⟩,
              ⟨9, ⟨some 119, .mv, [.tmp 15], none⟩, []⟩,
              ⟨10, ⟨some 120, .ixs, [.const (.string ⟨#[48, 48, 48, 49, 48, 50, 48, 51, 48, 52, 48, 53, 48, 54, 48, 55, 48, 56, 48, 57, 49, 48, 49, 49, 49, 50, 49, 51, 49, 52, 49, 53, 49, 54, 49, 55, 49, 56, 49, 57, 50, 48, 50, 49, 50, 50, 50, 51, 50, 52, 50, 53, 50, 54, 50, 55, 50, 56, 50, 57, 51, 48, 51, 49, 51, 50, 51, 51, 51, 52, 51, 53, 51, 54, 51, 55, 51, 56, 51, 57, 52, 48, 52, 49, 52, 50, 52, 51, 52, 52, 52, 53, 52, 54, 52, 55, 52, 56, 52, 57, 53, 48, 53, 49, 53, 50, 53, 51, 53, 52, 53, 53, 53, 54, 53, 55, 53, 56, 53, 57, 54, 48, 54, 49, 54, 50, 54, 51, 54, 52, 54, 53, 54, 54, 54, 55, 54, 56, 54, 57, 55, 48, 55, 49, 55, 50, 55, 51, 55, 52, 55, 53, 55, 54, 55, 55, 55, 56, 55, 57, 56, 48, 56, 49, 56, 50, 56, 51, 56, 52, 56, 53, 56, 54, 56, 55, 56, 56, 56, 57, 57, 48, 57, 49, 57, 50, 57, 51, 57, 52, 57, 53, 57, 54, 57, 55, 57, 56, 57, 57]⟩), .tmp 119], none⟩, []⟩,
              ⟨11, ⟨some 121, (.iaddr 1), [.tmp 110, .tmp 112], none⟩, []⟩,
              ⟨12, ⟨none, (.st 1), [.tmp 121, .tmp 118], none⟩, []⟩,
              ⟨13, ⟨some 122, (.iaddr 1), [.tmp 113, .tmp 115], none⟩, []⟩,
              ⟨14, ⟨none, (.st 1), [.tmp 122, .tmp 120], none⟩, []⟩])
            (.seq (.runD [0, 4, 12] [⟨0, ⟨some 123, .mv, [.tmp 0], none⟩, []⟩,
               ⟨1, ⟨some 124, .mv, [.tmp 4], none⟩, []⟩,
               ⟨2, ⟨some 125, (.bin .sub), [.tmp 124, .const (.int .i64 3)], none⟩, []⟩,
               ⟨3, ⟨some 126, .mv, [.tmp 0], none⟩, []⟩,
               ⟨4, ⟨some 127, .mv, [.tmp 4], none⟩, []⟩,
               ⟨5, ⟨some 128, (.bin .sub), [.tmp 127, .const (.int .i64 4)], none⟩, []⟩,
               ⟨6, ⟨some 129, .mv, [.tmp 14], none⟩, []⟩,
               ⟨7, ⟨some 130, (.bin .add), [.tmp 129, .const (.int .u32 1)], none⟩, []⟩,
               ⟨8, ⟨some 131, .ixs, [.const (.string ⟨#[48, 48, 48, 49, 48, 50, 48, 51, 48, 52, 48, 53, 48, 54, 48, 55, 48, 56, 48, 57, 49, 48, 49, 49, 49, 50, 49, 51, 49, 52, 49, 53, 49, 54, 49, 55, 49, 56, 49, 57, 50, 48, 50, 49, 50, 50, 50, 51, 50, 52, 50, 53, 50, 54, 50, 55, 50, 56, 50, 57, 51, 48, 51, 49, 51, 50, 51, 51, 51, 52, 51, 53, 51, 54, 51, 55, 51, 56, 51, 57, 52, 48, 52, 49, 52, 50, 52, 51, 52, 52, 52, 53, 52, 54, 52, 55, 52, 56, 52, 57, 53, 48, 53, 49, 53, 50, 53, 51, 53, 52, 53, 53, 53, 54, 53, 55, 53, 56, 53, 57, 54, 48, 54, 49, 54, 50, 54, 51, 54, 52, 54, 53, 54, 54, 54, 55, 54, 56, 54, 57, 55, 48, 55, 49, 55, 50, 55, 51, 55, 52, 55, 53, 55, 54, 55, 55, 55, 56, 55, 57, 56, 48, 56, 49, 56, 50, 56, 51, 56, 52, 56, 53, 56, 54, 56, 55, 56, 56, 56, 57, 57, 48, 57, 49, 57, 50, 57, 51, 57, 52, 57, 53, 57, 54, 57, 55, 57, 56, 57, 57]⟩), .tmp 130], none⟩, []⟩,
               ⟨9, ⟨some 132, .mv, [.tmp 14], none⟩, []⟩,
               ⟨10, ⟨some 133, .ixs, [.const (.string ⟨#[48, 48, 48, 49, 48, 50, 48, 51, 48, 52, 48, 53, 48, 54, 48, 55, 48, 56, 48, 57, 49, 48, 49, 49, 49, 50, 49, 51, 49, 52, 49, 53, 49, 54, 49, 55, 49, 56, 49, 57, 50, 48, 50, 49, 50, 50, 50, 51, 50, 52, 50, 53, 50, 54, 50, 55, 50, 56, 50, 57, 51, 48, 51, 49, 51, 50, 51, 51, 51, 52, 51, 53, 51, 54, 51, 55, 51, 56, 51, 57, 52, 48, 52, 49, 52, 50, 52, 51, 52, 52, 52, 53, 52, 54, 52, 55, 52, 56, 52, 57, 53, 48, 53, 49, 53, 50, 53, 51, 53, 52, 53, 53, 53, 54, 53, 55, 53, 56, 53, 57, 54, 48, 54, 49, 54, 50, 54, 51, 54, 52, 54, 53, 54, 54, 54, 55, 54, 56, 54, 57, 55, 48, 55, 49, 55, 50, 55, 51, 55, 52, 55, 53, 55, 54, 55, 55, 55, 56, 55, 57, 56, 48, 56, 49, 56, 50, 56, 51, 56, 52, 56, 53, 56, 54, 56, 55, 56, 56, 56, 57, 57, 48, 57, 49, 57, 50, 57, 51, 57, 52, 57, 53, 57, 54, 57, 55, 57, 56, 57, 57]⟩), .tmp 132], none⟩, []⟩,
               ⟨11, ⟨some 134, (.iaddr 1), [.tmp 123, .tmp 125], none⟩, []⟩,
               ⟨12, ⟨none, (.st 1), [.tmp 134, .tmp 131], none⟩, []⟩,
               ⟨13, ⟨some 135, (.iaddr 1), [.tmp 126, .tmp 128], none⟩, []⟩,
               ⟨14, ⟨none, (.st 1), [.tmp 135, .tmp 133], none⟩, []⟩])
             (.run [0, 4, 12] [⟨some 136, .mv, [.tmp 4], none⟩,
               ⟨some 137, (.bin .sub), [.tmp 136, .const (.int .i64 4)], none⟩,
               ⟨some 4, .mv, [.tmp 137], none⟩]))))))
        .skip))
      (.seq (.seq (.run [0, 4, 12, 139] [⟨some 138, .mv, [.tmp 4], none⟩,
          ⟨some 139, (.bin .geq), [.tmp 138, .const (.int .i64 2)], none⟩])
        (.cond (.tmp 139)
         (.seq (.run [0, 4, 12, 16] [⟨some 140, .mv, [.tmp 12], none⟩,
            ⟨some 141, (.bin .rem), [.tmp 140, .const (.int .u32 100)], none⟩,
            ⟨some 142, (.bin .mul), [.tmp 141, .const (.int .u32 2)], none⟩,
            ⟨some 16, .mv, [.tmp 142], none⟩])
          (.seq (.run [0, 4, 12, 16] [⟨some 143, .mv, [.tmp 12], none⟩,
             ⟨some 144, (.bin .quo), [.tmp 143, .const (.int .u32 100)], none⟩,
             ⟨some 12, .mv, [.tmp 144], none⟩])
           (.seq (.runD [0, 4, 12] [⟨0, ⟨some 145, .mv, [.tmp 0], none⟩, []⟩,
              ⟨1, ⟨some 146, .mv, [.tmp 4], none⟩, []⟩,
              ⟨2, ⟨some 147, (.bin .sub), [.tmp 146, .const (.int .i64 1)], none⟩, []⟩,
              ⟨3, ⟨some 148, .mv, [.tmp 0], none⟩, []⟩,
              ⟨4, ⟨some 149, .mv, [.tmp 4], none⟩, []⟩,
              ⟨5, ⟨some 150, (.bin .sub), [.tmp 149, .const (.int .i64 2)], none⟩, []⟩,
              ⟨6, ⟨some 151, .mv, [.tmp 16], none⟩, []⟩,
              ⟨7, ⟨some 152, (.bin .add), [.tmp 151, .const (.int .u32 1)], none⟩, []⟩,
              ⟨8, ⟨some 153, .ixs, [.const (.string ⟨#[48, 48, 48, 49, 48, 50, 48, 51, 48, 52, 48, 53, 48, 54, 48, 55, 48, 56, 48, 57, 49, 48, 49, 49, 49, 50, 49, 51, 49, 52, 49, 53, 49, 54, 49, 55, 49, 56, 49, 57, 50, 48, 50, 49, 50, 50, 50, 51, 50, 52, 50, 53, 50, 54, 50, 55, 50, 56, 50, 57, 51, 48, 51, 49, 51, 50, 51, 51, 51, 52, 51, 53, 51, 54, 51, 55, 51, 56, 51, 57, 52, 48, 52, 49, 52, 50, 52, 51, 52, 52, 52, 53, 52, 54, 52, 55, 52, 56, 52, 57, 53, 48, 53, 49, 53, 50, 53, 51, 53, 52, 53, 53, 53, 54, 53, 55, 53, 56, 53, 57, 54, 48, 54, 49, 54, 50, 54, 51, 54, 52, 54, 53, 54, 54, 54, 55, 54, 56, 54, 57, 55, 48, 55, 49, 55, 50, 55, 51, 55, 52, 55, 53, 55, 54, 55, 55, 55, 56, 55, 57, 56, 48, 56, 49, 56, 50, 56, 51, 56, 52, 56, 53, 56, 54, 56, 55, 56, 56, 56, 57, 57, 48, 57, 49, 57, 50, 57, 51, 57, 52, 57, 53, 57, 54, 57, 55, 57, 56, 57, 57]⟩), .tmp 152], none⟩, []⟩,
              ⟨9, ⟨some 154, .mv, [.tmp 16], none⟩, []⟩,
              ⟨10, ⟨some 155, .ixs, [.const (.string ⟨#[48, 48, 48, 49, 48, 50, 48, 51, 48, 52, 48, 53, 48, 54, 48, 55, 48, 56, 48, 57, 49, 48, 49, 49, 49, 50, 49, 51, 49, 52, 49, 53, 49, 54, 49, 55, 49, 56, 49, 57, 50, 48, 50, 49, 50, 50, 50, 51, 50, 52, 50, 53, 50, 54, 50, 55, 50, 56, 50, 57, 51, 48, 51, 49, 51, 50, 51, 51, 51, 52, 51, 53, 51, 54, 51, 55, 51, 56, 51, 57, 52, 48, 52, 49, 52, 50, 52, 51, 52, 52, 52, 53, 52, 54, 52, 55, 52, 56, 52, 57, 53, 48, 53, 49, 53, 50, 53, 51, 53, 52, 53, 53, 53, 54, 53, 55, 53, 56, 53, 57, 54, 48, 54, 49, 54, 50, 54, 51, 54, 52, 54, 53, 54, 54, 54, 55, 54, 56, 54, 57, 55, 48, 55, 49, 55, 50, 55, 51, 55, 52, 55, 53, 55, 54, 55, 55, 55, 56, 55, 57, 56, 48, 56, 49, 56, 50, 56, 51, 56, 52, 56, 53, 56, 54, 56, 55, 56, 56, 56, 57, 57, 48, 57, 49, 57, 50, 57, 51, 57, 52, 57, 53, 57, 54, 57, 55, 57, 56, 57, 57]⟩), .tmp 154], none⟩, []⟩,
              ⟨11, ⟨some 156, (.iaddr 1), [.tmp 145, .tmp 147], none⟩, []⟩,
              ⟨12, ⟨none, (.st 1), [.tmp 156, .tmp 153], none⟩, []⟩,
              ⟨13, ⟨some 157, (.iaddr 1), [.tmp 148, .tmp 150], none⟩, []⟩,
              ⟨14, ⟨none, (.st 1), [.tmp 157, .tmp 155], none⟩, []⟩])
            (.run [0, 4, 12] [⟨some 158, .mv, [.tmp 4], none⟩,
              ⟨some 159, (.bin .sub), [.tmp 158, .const (.int .i64 2)], none⟩,
              ⟨some 4, .mv, [.tmp 159], none⟩]))))
         .skip))
       (.seq (.run [0, 12, 161] [⟨some 160, .mv, [.tmp 4], none⟩,
          ⟨some 161, (.bin .gtr), [.tmp 160, .const (.int .i64 0)], none⟩])
        (.cond (.tmp 161)
         (.run [] [⟨some 162, .mv, [.tmp 0], none⟩,
           ⟨some 163, .mv, [.tmp 12], none⟩,
           ⟨some 164, (.bin .add), [.const (.int .u32 48), .tmp 163], none⟩,
           ⟨some 165, (.cvi .u8), [.tmp 164], none⟩,
           ⟨some 166, (.iaddr 1), [.tmp 162, .const (.int .i64 0)], none⟩,
           ⟨none, (.st 1), [.tmp 166, .tmp 165], none⟩])
         .skip)))))))⟩

theorem f53_ok : compF Go.Proofs.Tryd.prog 53 f53.body.hints = some f53 := by kernel_rfl


def f54 : AFun := ⟨102, 5, [.slot 10, .slot 11],
  (.seq (.run [0, 1, 2, 3, 4, 10, 11] [⟨some 10, .mv, [.const (.slice none 0 0)], none⟩,
     ⟨some 11, .mv, [.const (.string ⟨#[]⟩)], none⟩])
   (.seq (.seq (.run [0, 1, 2, 3, 4, 10, 11, 28] [⟨some 19, .mv, [.tmp 2], none⟩,
       ⟨some 20, (.bin .lss), [.tmp 19, .const (.int .i64 2)], none⟩,
       ⟨some 21, .mv, [.tmp 20], none⟩,
       ⟨some 22, .mv, [.tmp 2], some (21, false)⟩,
       ⟨some 23, (.eqg false 6), [.tmp 22, .const (.int .i64 10)], some (21, false)⟩,
       ⟨some 24, .pick, [.tmp 21, .const (.bool true), .tmp 23], none⟩,
       ⟨some 25, .mv, [.tmp 24], none⟩,
       ⟨some 26, .mv, [.tmp 2], some (25, false)⟩,
       ⟨some 27, (.bin .gtr), [.tmp 26, .const (.int .i64 36)], some (25, false)⟩,
       ⟨some 28, .pick, [.tmp 25, .const (.bool true), .tmp 27], none⟩])
     (.cond (.tmp 28)
      (.run [0, 1, 2, 3, 4, 10, 11] [⟨some 29, (.mkif 9), [.const (.string ⟨#[115, 116, 114, 99, 111, 110, 118, 58, 32, 105, 108, 108, 101, 103, 97, 108, 32, 65, 112, 112, 101, 110, 100, 73, 110, 116, 47, 70, 111, 114, 109, 97, 116, 73, 110, 116, 32, 98, 97, 115, 101]⟩)], none⟩,
        ⟨none, .stuck, [], none⟩])
      .skip))
    (.seq (.run [0, 1, 2, 3, 4, 10, 11, 12] [⟨some 12, (.alloc [(.int .u8 0), (.int .u8 0), (.int .u8 0), (.int .u8 0), (.int .u8 0), (.int .u8 0), (.int .u8 0), (.int .u8 0), (.int .u8 0), (.int .u8 0), (.int .u8 0), (.int .u8 0), (.int .u8 0), (.int .u8 0), (.int .u8 0), (.int .u8 0), (.int .u8 0), (.int .u8 0), (.int .u8 0), (.int .u8 0), (.int .u8 0), (.int .u8 0), (.int .u8 0), (.int .u8 0), (.int .u8 0), (.int .u8 0), (.int .u8 0), (.int .u8 0), (.int .u8 0), (.int .u8 0), (.int .u8 0), (.int .u8 0), (.int .u8 0), (.int .u8 0), (.int .u8 0), (.int .u8 0), (.int .u8 0), (.int .u8 0), (.int .u8 0), (.int .u8 0), (.int .u8 0), (.int .u8 0), (.int .u8 0), (.int .u8 0), (.int .u8 0), (.int .u8 0), (.int .u8 0), (.int .u8 0), (.int .u8 0), (.int .u8 0), (.int .u8 0), (.int .u8 0), (.int .u8 0), (.int .u8 0), (.int .u8 0), (.int .u8 0), (.int .u8 0), (.int .u8 0), (.int .u8 0), (.int .u8 0), (.int .u8 0), (.int .u8 0), (.int .u8 0), (.int .u8 0), (.int .u8 0)]), [], none⟩])
     (.seq (.run [0, 1, 2, 3, 4, 10, 11, 12, 13] [⟨some 13, .mv, [.const (.int .i64 65)], none⟩])
      (.seq (.seq (.run [0, 1, 2, 3, 4, 10, 11, 12, 13, 30] [⟨some 30, .mv, [.tmp 3], none⟩])
        (.cond (.tmp 30)
         (.run [0, 1, 2, 3, 4, 10, 11, 12, 13] [⟨some 31, .mv, [.tmp 1], none⟩,
           ⟨some 32, (.un .neg), [.tmp 31], none⟩,
           ⟨some 1, .mv, [.tmp 32], none⟩])
         .skip))
       (.seq (.seq (.run [0, 1, 2, 3, 4, 10, 11, 12, 13, 34] [⟨some 33, .mv, [.tmp 2], none⟩,
           ⟨some 34, (.call 59), [.tmp 33], none⟩])
         (.cond (.tmp 34)
          (.seq (.run [0, 1, 2, 3, 4, 10, 11, 12, 13, 14] [⟨some 35, .mv, [.tmp 2], none⟩,
             ⟨some 36, (.cvi .u64), [.tmp 35], none⟩,
             ⟨some 37, (.call 60), [.tmp 36], none⟩,
             ⟨some 38, (.cvi .u64), [.tmp 37], none⟩,
             ⟨some 14, .mv, [.tmp 38], none⟩])
           (.seq (.run [0, 1, 2, 3, 4, 10, 11, 12, 13, 14, 15] [⟨some 39, .mv, [.tmp 2], none⟩,
              ⟨some 40, (.cvi .u64), [.tmp 39], none⟩,
              ⟨some 15, .mv, [.tmp 40], none⟩])
            (.seq (.run [0, 1, 3, 4, 10, 11, 12, 13, 14, 15, 16] [⟨some 41, .mv, [.tmp 2], none⟩,
               ⟨some 42, (.cvi .u64), [.tmp 41], none⟩,
               ⟨some 43, (.bin .sub), [.tmp 42, .const (.int .u64 1)], none⟩,
               ⟨some 16, .mv, [.tmp 43], none⟩])
             (.seq (.block 0 (.loop [0, 1, 3, 4, 10, 11, 12, 13, 14, 15, 16] (.seq (.seq (.run [0, 1, 3, 4, 10, 11, 12, 13, 14, 15, 16, 46] [⟨some 44, .mv, [.tmp 1], none⟩,
                    ⟨some 45, .mv, [.tmp 15], none⟩,
                    ⟨some 46, (.bin .geq), [.tmp 44, .tmp 45], none⟩])
                  (.cond (.tmp 46)
                   .skip
                   (.exit 0)))
                 (.block 1 (.seq (.run [0, 1, 3, 4, 10, 11, 12, 13, 14, 15, 16] [⟨some 47, .mv, [.tmp 13], none⟩,
                     ⟨some 48, (.bin .sub), [.tmp 47, .const (.int .i64 1)], none⟩,
                     ⟨some 13, .mv, [.tmp 48], none⟩])
                   (.seq (.run [0, 1, 3, 4, 10, 11, 12, 13, 14, 15, 16] [⟨some 49, .mv, [.tmp 13], none⟩,
                      ⟨some 50, .mv, [.tmp 1], none⟩,
                      ⟨some 51, .mv, [.tmp 16], none⟩,
                      ⟨some 52, (.bin .and), [.tmp 50, .tmp 51], none⟩,
                      ⟨some 53, .ixs, [.const (.string ⟨#[48, 49, 50, 51, 52, 53, 54, 55, 56, 57, 97, 98, 99, 100, 101, 102, 103, 104, 105, 106, 107, 108, 109, 110, 111, 112, 113, 114, 115, 116, 117, 118, 119, 120, 121, 122]⟩), .tmp 52], none⟩,
                      ⟨some 54, (.aaddr 1 65), [.tmp 12, .tmp 49], none⟩,
                      ⟨none, (.st 1), [.tmp 54, .tmp 53], none⟩])
                    (.run [0, 1, 3, 4, 10, 11, 12, 13, 14, 15, 16] [⟨some 55, .mv, [.tmp 1], none⟩,
                      ⟨some 56, .mv, [.tmp 14], none⟩,
                      ⟨some 57, (.bin .shr), [.tmp 55, .tmp 56], none⟩,
                      ⟨some 1, .mv, [.tmp 57], none⟩])))))))
              (.seq (.run [0, 1, 3, 4, 10, 11, 12, 13] [⟨some 58, .mv, [.tmp 13], none⟩,
                 ⟨some 59, (.bin .sub), [.tmp 58, .const (.int .i64 1)], none⟩,
                 ⟨some 13, .mv, [.tmp 59], none⟩])
               (.run [0, 3, 4, 10, 11, 12, 13] [⟨some 60, .mv, [.tmp 13], none⟩,
                 ⟨some 61, .mv, [.tmp 1], none⟩,
                 ⟨some 62, .ixs, [.const (.string ⟨#[48, 49, 50, 51, 52, 53, 54, 55, 56, 57, 97, 98, 99, 100, 101, 102, 103, 104, 105, 106, 107, 108, 109, 110, 111, 112, 113, 114, 115, 116, 117, 118, 119, 120, 121, 122]⟩), .tmp 61], none⟩,
                 ⟨some 63, (.aaddr 1 65), [.tmp 12, .tmp 60], none⟩,
                 ⟨none, (.st 1), [.tmp 63, .tmp 62], none⟩]))))))
          (.seq (.run [0, 1, 3, 4, 10, 11, 12, 13, 17] [⟨some 64, .mv, [.tmp 2], none⟩,
             ⟨some 65, (.cvi .u64), [.tmp 64], none⟩,
             ⟨some 17, .mv, [.tmp 65], none⟩])
           (.seq (.block 2 (.loop [0, 1, 3, 4, 10, 11, 12, 13, 17] (.seq (.seq (.run [0, 1, 3, 4, 10, 11, 12, 13, 17, 68] [⟨some 66, .mv, [.tmp 1], none⟩,
                  ⟨some 67, .mv, [.tmp 17], none⟩,
                  ⟨some 68, (.bin .geq), [.tmp 66, .tmp 67], none⟩])
                (.cond (.tmp 68)
                 .skip
                 (.exit 2)))
               (.block 3 (.seq (.run [0, 1, 3, 4, 10, 11, 12, 13, 17] [⟨some 69, .mv, [.tmp 13], none⟩,
                   ⟨some 70, (.bin .sub), [.tmp 69, .const (.int .i64 1)], none⟩,
                   ⟨some 13, .mv, [.tmp 70], none⟩])
                 (.seq (.run [0, 1, 3, 4, 10, 11, 12, 13, 17, 18] [⟨some 71, .mv, [.tmp 1], none⟩,
                    ⟨some 72, .mv, [.tmp 17], none⟩,
                    ⟨some 73, (.bin .quo), [.tmp 71, .tmp 72], none⟩,
                    ⟨some 18, .mv, [.tmp 73], none⟩])
                  (.seq (.run [0, 3, 4, 10, 11, 12, 13, 17, 18] [⟨some 74, .mv, [.tmp 13], none⟩,
                     ⟨some 75, .mv, [.tmp 1], none⟩,
                     ⟨some 76, .mv, [.tmp 18], none⟩,
                     ⟨some 77, .mv, [.tmp 17], none⟩,
                     ⟨some 78, (.bin .mul), [.tmp 76, .tmp 77], none⟩,
                     ⟨some 79, (.bin .sub), [.tmp 75, .tmp 78], none⟩,
                     ⟨some 80, .ixs, [.const (.string ⟨#[48, 49, 50, 51, 52, 53, 54, 55, 56, 57, 97, 98, 99, 100, 101, 102, 103, 104, 105, 106, 107, 108, 109, 110, 111, 112, 113, 114, 115, 116, 117, 118, 119, 120, 121, 122]⟩), .tmp 79], none⟩,
                     ⟨some 81, (.aaddr 1 65), [.tmp 12, .tmp 74], none⟩,
                     ⟨none, (.st 1), [.tmp 81, .tmp 80], none⟩])
                   (.run [0, 1, 3, 4, 10, 11, 12, 13, 17] [⟨some 82, .mv, [.tmp 18], none⟩,
                     ⟨some 1, .mv, [.tmp 82], none⟩]))))))))
            (.seq (.run [0, 1, 3, 4, 10, 11, 12, 13] [⟨some 83, .mv, [.tmp 13], none⟩,
               ⟨some 84, (.bin .sub), [.tmp 83, .const (.int .i64 1)], none⟩,
               ⟨some 13, .mv, [.tmp 84], none⟩])
             (.run [0, 3, 4, 10, 11, 12, 13] [⟨some 85, .mv, [.tmp 13], none⟩,
               ⟨some 86, .mv, [.tmp 1], none⟩,
               ⟨some 87, .ixs, [.const (.string ⟨#[48, 49, 50, 51, 52, 53, 54, 55, 56, 57, 97, 98, 99, 100, 101, 102, 103, 104, 105, 106, 107, 108, 109, 110, 111, 112, 113, 114, 115, 116, 117, 118, 119, 120, 121, 122]⟩), .tmp 86], none⟩,
               ⟨some 88, (.aaddr 1 65), [.tmp 12, .tmp 85], none⟩,
               ⟨none, (.st 1), [.tmp 88, .tmp 87], none⟩]))))))
        (.seq (.seq (.run [0, 4, 10, 11, 12, 13, 89] [⟨some 89, .mv, [.tmp 3], none⟩])
          (.cond (.tmp 89)
           (.seq (.run [0, 4, 10, 11, 12, 13] [⟨some 90, .mv, [.tmp 13], none⟩,
              ⟨some 91, (.bin .sub), [.tmp 90, .const (.int .i64 1)], none⟩,
              ⟨some 13, .mv, [.tmp 91], none⟩])
            (.run [0, 4, 10, 11, 12, 13] [⟨some 92, .mv, [.tmp 13], none⟩,
              ⟨some 93, (.aaddr 1 65), [.tmp 12, .tmp 92], none⟩,
              ⟨none, (.st 1), [.tmp 93, .const (.int .u8 45)], none⟩]))
           .skip))
         (.seq (.seq (.run [0, 10, 11, 12, 13, 94] [⟨some 94, .mv, [.tmp 4], none⟩])
           (.cond (.tmp 94)
            (.seq (.run [10, 11] [⟨some 95, .mv, [.tmp 0], none⟩,
               ⟨some 96, .mv, [.tmp 13], none⟩,
               ⟨some 97, (.slp 1 65 true false), [.tmp 12, .tmp 96], none⟩,
               ⟨some 98, (.app 1 1), [.tmp 95, .tmp 97], none⟩,
               ⟨some 10, .mv, [.tmp 98], none⟩])
             .ret)
            .skip))
          (.seq (.run [10, 11] [⟨some 99, .mv, [.tmp 13], none⟩,
             ⟨some 100, (.slp 1 65 true false), [.tmp 12, .tmp 99], none⟩,
             ⟨some 101, .cvb, [.tmp 100], none⟩,
             ⟨some 11, .mv, [.tmp 101], none⟩])
           .ret)))))))))⟩

theorem f54_ok : compF Go.Proofs.Tryd.prog 54 f54.body.hints = some f54 := by kernel_rfl


def f55 : AFun := ⟨122, 1, [.slot 2, .slot 3],
  (.seq (.run [0] [⟨some 2, .mv, [.const (.int .i32 0)], none⟩,
     ⟨some 3, .mv, [.const (.int .i64 0)], none⟩])
   (.seq (.run [0, 4] [⟨some 13, .mv, [.tmp 0], none⟩,
      ⟨some 14, (.len 1), [.tmp 13], none⟩,
      ⟨some 4, .mv, [.tmp 14], none⟩])
    (.seq (.seq (.run [0, 4, 16] [⟨some 15, .mv, [.tmp 4], none⟩,
        ⟨some 16, (.bin .lss), [.tmp 15, .const (.int .i64 1)], none⟩])
      (.cond (.tmp 16)
       (.seq (.run [2, 3] [⟨some 2, .mv, [.const (.int .i32 65533)], none⟩,
          ⟨some 3, .mv, [.const (.int .i64 0)], none⟩])
        .ret)
       .skip))
     (.seq (.run [0, 4, 5] [⟨some 17, .mv, [.tmp 0], none⟩,
        ⟨some 18, (.iaddr 1), [.tmp 17, .const (.int .i64 0)], none⟩,
        ⟨some 19, (.ld false 1), [.tmp 18], none⟩,
        ⟨some 5, .mv, [.tmp 19], none⟩])
      (.seq (.run [0, 4, 5, 6] [⟨some 20, .mv, [.tmp 5], none⟩,
         ⟨some 21, (.aaddr 1 256), [.global 2, .tmp 20], none⟩,
         ⟨some 22, (.ld false 1), [.tmp 21], none⟩,
         ⟨some 6, .mv, [.tmp 22], none⟩])
       (.seq (.seq (.run [0, 4, 5, 6, 24] [⟨some 23, .mv, [.tmp 6], none⟩,
           ⟨some 24, (.bin .geq), [.tmp 23, .const (.int .u8 240)], none⟩])
         (.cond (.tmp 24)
          (.seq (.run [0, 7] [⟨some 25, .mv, [.tmp 6], none⟩,
             ⟨some 26, (.cvi .i32), [.tmp 25], none⟩,
             ⟨some 27, (.bin .shl), [.tmp 26, .const (.int .u64 31)], none⟩,
             ⟨some 28, (.bin .shr), [.tmp 27, .const (.int .u64 31)], none⟩,
             ⟨some 7, .mv, [.tmp 28], none⟩])
           (.seq (.run [2, 3] [⟨some 29, .mv, [.tmp 0], none⟩,
              ⟨some 30, (.iaddr 1), [.tmp 29, .const (.int .i64 0)], none⟩,
              ⟨some 31, (.ld false 1), [.tmp 30], none⟩,
              ⟨some 32, (.cvi .i32), [.tmp 31], none⟩,
              ⟨some 33, .mv, [.tmp 7], none⟩,
              ⟨some 34, (.bin .andNot), [.tmp 32, .tmp 33], none⟩,
              ⟨some 35, .mv, [.tmp 7], none⟩,
              ⟨some 36, (.bin .and), [.const (.int .i32 65533), .tmp 35], none⟩,
              ⟨some 37, (.bin .or), [.tmp 34, .tmp 36], none⟩,
              ⟨some 2, .mv, [.tmp 37], none⟩,
              ⟨some 3, .mv, [.const (.int .i64 1)], none⟩])
            .ret))
          .skip))
        (.seq (.run [0, 4, 5, 6, 8] [⟨some 38, .mv, [.tmp 6], none⟩,
           ⟨some 39, (.bin .and), [.tmp 38, .const (.int .u8 7)], none⟩,
           ⟨some 40, (.cvi .i64), [.tmp 39], none⟩,
           ⟨some 8, .mv, [.tmp 40], none⟩])
         (.seq (.run [0, 4, 5, 8, 9] [⟨some 41, .mv, [.tmp 6], none⟩,
            ⟨some 42, (.bin .shr), [.tmp 41, .const (.int .u64 4)], none⟩,
            ⟨some 43, (.aaddr 2 16), [.global 3, .tmp 42], none⟩,
            ⟨some 44, (.ld true 2), [.tmp 43], none⟩,
            ⟨some 9, (.alloc [(.int .u8 0), (.int .u8 0)]), [], none⟩,
            ⟨none, (.st 2), [.tmp 9, .tmp 44], none⟩])
          (.seq (.seq (.run [0, 5, 8, 9, 47] [⟨some 45, .mv, [.tmp 4], none⟩,
              ⟨some 46, .mv, [.tmp 8], none⟩,
              ⟨some 47, (.bin .lss), [.tmp 45, .tmp 46], none⟩])
            (.cond (.tmp 47)
             (.seq (.run [2, 3] [⟨some 2, .mv, [.const (.int .i32 65533)], none⟩,
                ⟨some 3, .mv, [.const (.int .i64 1)], none⟩])
              .ret)
             .skip))
           (.seq (.run [0, 5, 8, 9, 10] [⟨some 48, .mv, [.tmp 0], none⟩,
              ⟨some 49, (.iaddr 1), [.tmp 48, .const (.int .i64 1)], none⟩,
              ⟨some 50, (.ld false 1), [.tmp 49], none⟩,
              ⟨some 10, .mv, [.tmp 50], none⟩])
            (.seq (.seq (.run [0, 5, 8, 10, 60] [⟨some 51, .mv, [.tmp 10], none⟩,
                ⟨some 52, (.faddr 0), [.tmp 9], none⟩,
                ⟨some 53, (.ld false 1), [.tmp 52], none⟩,
                ⟨some 54, (.bin .lss), [.tmp 51, .tmp 53], none⟩,
                ⟨some 55, .mv, [.tmp 54], none⟩,
                ⟨some 56, (.faddr 1), [.tmp 9], some (55, false)⟩,
                ⟨some 57, (.ld false 1), [.tmp 56], some (55, false)⟩,
                ⟨some 58, .mv, [.tmp 10], some (55, false)⟩,
                ⟨some 59, (.bin .lss), [.tmp 57, .tmp 58], some (55, false)⟩,
                ⟨some 60, .pick, [.tmp 55, .const (.bool true), .tmp 59], none⟩])
              (.cond (.tmp 60)
               (.seq (.run [2, 3] [⟨some 2, .mv, [.const (.int .i32 65533)], none⟩,
                  ⟨some 3, .mv, [.const (.int .i64 1)], none⟩])
                .ret)
               .skip))
             (.seq (.seq (.run [0, 5, 8, 10, 62] [⟨some 61, .mv, [.tmp 8], none⟩,
                 ⟨some 62, (.bin .leq), [.tmp 61, .const (.int .i64 2)], none⟩])
               (.cond (.tmp 62)
                (.seq (.run [2, 3] [⟨some 63, .mv, [.tmp 5], none⟩,
                   ⟨some 64, (.bin .and), [.tmp 63, .const (.int .u8 31)], none⟩,
                   ⟨some 65, (.cvi .i32), [.tmp 64], none⟩,
                   ⟨some 66, (.bin .shl), [.tmp 65, .const (.int .u64 6)], none⟩,
                   ⟨some 67, .mv, [.tmp 10], none⟩,
                   ⟨some 68, (.bin .and), [.tmp 67, .const (.int .u8 63)], none⟩,
                   ⟨some 69, (.cvi .i32), [.tmp 68], none⟩,
                   ⟨some 70, (.bin .or), [.tmp 66, .tmp 69], none⟩,
                   ⟨some 2, .mv, [.tmp 70], none⟩,
                   ⟨some 3, .mv, [.const (.int .i64 2)], none⟩])
                 .ret)
                .skip))
              (.seq (.run [0, 5, 8, 10, 11] [⟨some 71, .mv, [.tmp 0], none⟩,
                 ⟨some 72, (.iaddr 1), [.tmp 71, .const (.int .i64 2)], none⟩,
                 ⟨some 73, (.ld false 1), [.tmp 72], none⟩,
                 ⟨some 11, .mv, [.tmp 73], none⟩])
               (.seq (.seq (.run [0, 5, 8, 10, 11, 79] [⟨some 74, .mv, [.tmp 11], none⟩,
                   ⟨some 75, (.bin .lss), [.tmp 74, .const (.int .u8 128)], none⟩,
                   ⟨some 76, .mv, [.tmp 75], none⟩,
                   ⟨some 77, .mv, [.tmp 11], some (76, false)⟩,
                   ⟨some 78, (.bin .lss), [.const (.int .u8 191), .tmp 77], some (76, false)⟩,
                   ⟨some 79, .pick, [.tmp 76, .const (.bool true), .tmp 78], none⟩])
                 (.cond (.tmp 79)
                  (.seq (.run [2, 3] [⟨some 2, .mv, [.const (.int .i32 65533)], none⟩,
                     ⟨some 3, .mv, [.const (.int .i64 1)], none⟩])
                   .ret)
                  .skip))
                (.seq (.seq (.run [0, 5, 10, 11, 81] [⟨some 80, .mv, [.tmp 8], none⟩,
                    ⟨some 81, (.bin .leq), [.tmp 80, .const (.int .i64 3)], none⟩])
                  (.cond (.tmp 81)
                   (.seq (.run [2, 3] [⟨some 82, .mv, [.tmp 5], none⟩,
                      ⟨some 83, (.bin .and), [.tmp 82, .const (.int .u8 15)], none⟩,
                      ⟨some 84, (.cvi .i32), [.tmp 83], none⟩,
                      ⟨some 85, (.bin .shl), [.tmp 84, .const (.int .u64 12)], none⟩,
                      ⟨some 86, .mv, [.tmp 10], none⟩,
                      ⟨some 87, (.bin .and), [.tmp 86, .const (.int .u8 63)], none⟩,
                      ⟨some 88, (.cvi .i32), [.tmp 87], none⟩,
                      ⟨some 89, (.bin .shl), [.tmp 88, .const (.int .u64 6)], none⟩,
                      ⟨some 90, (.bin .or), [.tmp 85, .tmp 89], none⟩,
                      ⟨some 91, .mv, [.tmp 11], none⟩,
                      ⟨some 92, (.bin .and), [.tmp 91, .const (.int .u8 63)], none⟩,
                      ⟨some 93, (.cvi .i32), [.tmp 92], none⟩,
                      ⟨some 94, (.bin .or), [.tmp 90, .tmp 93], none⟩,
                      ⟨some 2, .mv, [.tmp 94], none⟩,
                      ⟨some 3, .mv, [.const (.int .i64 3)], none⟩])
                    .ret)
                   .skip))
                 (.seq (.run [5, 10, 11, 12] [⟨some 95, .mv, [.tmp 0], none⟩,
                    ⟨some 96, (.iaddr 1), [.tmp 95, .const (.int .i64 3)], none⟩,
                    ⟨some 97, (.ld false 1), [.tmp 96], none⟩,
                    ⟨some 12, .mv, [.tmp 97], none⟩])
                  (.seq (.seq (.run [5, 10, 11, 12, 103] [⟨some 98, .mv, [.tmp 12], none⟩,
                      ⟨some 99, (.bin .lss), [.tmp 98, .const (.int .u8 128)], none⟩,
                      ⟨some 100, .mv, [.tmp 99], none⟩,
                      ⟨some 101, .mv, [.tmp 12], some (100, false)⟩,
                      ⟨some 102, (.bin .lss), [.const (.int .u8 191), .tmp 101], some (100, false)⟩,
                      ⟨some 103, .pick, [.tmp 100, .const (.bool true), .tmp 102], none⟩])
                    (.cond (.tmp 103)
                     (.seq (.run [2, 3] [⟨some 2, .mv, [.const (.int .i32 65533)], none⟩,
                        ⟨some 3, .mv, [.const (.int .i64 1)], none⟩])
                      .ret)
                     .skip))
                   (.seq (.run [2, 3] [⟨some 104, .mv, [.tmp 5], none⟩,
                      ⟨some 105, (.bin .and), [.tmp 104, .const (.int .u8 7)], none⟩,
                      ⟨some 106, (.cvi .i32), [.tmp 105], none⟩,
                      ⟨some 107, (.bin .shl), [.tmp 106, .const (.int .u64 18)], none⟩,
                      ⟨some 108, .mv, [.tmp 10], none⟩,
                      ⟨some 109, (.bin .and), [.tmp 108, .const (.int .u8 63)], none⟩,
                      ⟨some 110, (.cvi .i32), [.tmp 109], none⟩,
                      ⟨some 111, (.bin .shl), [.tmp 110, .const (.int .u64 12)], none⟩,
                      ⟨some 112, (.bin .or), [.tmp 107, .tmp 111], none⟩,
                      ⟨some 113, .mv, [.tmp 11], none⟩,
                      ⟨some 114, (.bin .and), [.tmp 113, .const (.int .u8 63)], none⟩,
                      ⟨some 115, (.cvi .i32), [.tmp 114], none⟩,
                      ⟨some 116, (.bin .shl), [.tmp 115, .const (.int .u64 6)], none⟩,
                      ⟨some 117, (.bin .or), [.tmp 112, .tmp 116], none⟩,
                      ⟨some 118, .mv, [.tmp 12], none⟩,
                      ⟨some 119, (.bin .and), [.tmp 118, .const (.int .u8 63)], none⟩,
                      ⟨some 120, (.cvi .i32), [.tmp 119], none⟩,
                      ⟨some 121, (.bin .or), [.tmp 117, .tmp 120], none⟩,
                      ⟨some 2, .mv, [.tmp 121], none⟩,
                      ⟨some 3, .mv, [.const (.int .i64 4)], none⟩])
                    .ret))))))))))))))))))⟩

theorem f55_ok : compF Go.Proofs.Tryd.prog 55 f55.body.hints = some f55 := by kernel_rfl


def f56 : AFun := ⟨6, 1, [.slot 2],
  (.seq (.run [0] [⟨some 2, .mv, [.const (.int .i64 0)], none⟩])
   (.seq (.run [2] [⟨some 3, .mv, [.tmp 0], none⟩,
      ⟨some 4, (.bin .mul), [.tmp 3, .const (.int .i64 78913)], none⟩,
      ⟨some 5, (.bin .shr), [.tmp 4, .const (.int .u64 18)], none⟩,
      ⟨some 2, .mv, [.tmp 5], none⟩])
    .ret))⟩

theorem f56_ok : compF Go.Proofs.Tryd.prog 56 f56.body.hints = some f56 := by kernel_rfl


def f57 : AFun := ⟨25, 1, [.slot 2],
  (.seq (.run [0, 2] [⟨some 2, .mv, [.const (.int .i64 0)], none⟩])
   (.seq (.seq (.run [0, 2, 4] [⟨some 3, .mv, [.tmp 0], none⟩,
       ⟨some 4, (.bin .geq), [.tmp 3, .const (.int .u64 4294967296)], none⟩])
     (.cond (.tmp 4)
      (.seq (.run [0] [⟨some 5, .mv, [.tmp 0], none⟩,
         ⟨some 6, (.bin .shr), [.tmp 5, .const (.int .u64 32)], none⟩,
         ⟨some 0, .mv, [.tmp 6], none⟩])
       (.run [0, 2] [⟨some 2, .mv, [.const (.int .i64 32)], none⟩]))
      .skip))
    (.seq (.seq (.run [0, 2, 8] [⟨some 7, .mv, [.tmp 0], none⟩,
        ⟨some 8, (.bin .geq), [.tmp 7, .const (.int .u64 65536)], none⟩])
      (.cond (.tmp 8)
       (.seq (.run [0, 2] [⟨some 9, .mv, [.tmp 0], none⟩,
          ⟨some 10, (.bin .shr), [.tmp 9, .const (.int .u64 16)], none⟩,
          ⟨some 0, .mv, [.tmp 10], none⟩])
        (.run [0, 2] [⟨some 11, .mv, [.tmp 2], none⟩,
          ⟨some 12, (.bin .add), [.tmp 11, .const (.int .i64 16)], none⟩,
          ⟨some 2, .mv, [.tmp 12], none⟩]))
       .skip))
     (.seq (.seq (.run [0, 2, 14] [⟨some 13, .mv, [.tmp 0], none⟩,
         ⟨some 14, (.bin .geq), [.tmp 13, .const (.int .u64 256)], none⟩])
       (.cond (.tmp 14)
        (.seq (.run [0, 2] [⟨some 15, .mv, [.tmp 0], none⟩,
           ⟨some 16, (.bin .shr), [.tmp 15, .const (.int .u64 8)], none⟩,
           ⟨some 0, .mv, [.tmp 16], none⟩])
         (.run [0, 2] [⟨some 17, .mv, [.tmp 2], none⟩,
           ⟨some 18, (.bin .add), [.tmp 17, .const (.int .i64 8)], none⟩,
           ⟨some 2, .mv, [.tmp 18], none⟩]))
        .skip))
      (.seq (.run [2] [⟨some 19, .mv, [.tmp 2], none⟩,
         ⟨some 20, .mv, [.tmp 0], none⟩,
         ⟨some 21, (.cvi .u8), [.tmp 20], none⟩,
         ⟨some 22, .ixs, [.const (.string ⟨#[0, 1, 2, 2, 3, 3, 3, 3, 4, 4, 4, 4, 4, 4, 4, 4, 5, 5, 5, 5, 5, 5, 5, 5, 5, 5, 5, 5, 5, 5, 5, 5, 6, 6, 6, 6, 6, 6, 6, 6, 6, 6, 6, 6, 6, 6, 6, 6, 6, 6, 6, 6, 6, 6, 6, 6, 6, 6, 6, 6, 6, 6, 6, 6, 7, 7, 7, 7, 7, 7, 7, 7, 7, 7, 7, 7, 7, 7, 7, 7, 7, 7, 7, 7, 7, 7, 7, 7, 7, 7, 7, 7, 7, 7, 7, 7, 7, 7, 7, 7, 7, 7, 7, 7, 7, 7, 7, 7, 7, 7, 7, 7, 7, 7, 7, 7, 7, 7, 7, 7, 7, 7, 7, 7, 7, 7, 7, 7, 8, 8, 8, 8, 8, 8, 8, 8, 8, 8, 8, 8, 8, 8, 8, 8, 8, 8, 8, 8, 8, 8, 8, 8, 8, 8, 8, 8, 8, 8, 8, 8, 8, 8, 8, 8, 8, 8, 8, 8, 8, 8, 8, 8, 8, 8, 8, 8, 8, 8, 8, 8, 8, 8, 8, 8, 8, 8, 8, 8, 8, 8, 8, 8, 8, 8, 8, 8, 8, 8, 8, 8, 8, 8, 8, 8, 8, 8, 8, 8, 8, 8, 8, 8, 8, 8, 8, 8, 8, 8, 8, 8, 8, 8, 8, 8, 8, 8, 8, 8, 8, 8, 8, 8, 8, 8, 8, 8, 8, 8, 8, 8, 8, 8, 8, 8, 8, 8, 8, 8, 8, 8, 8, 8, 8, 8, 8, 8]⟩), .tmp 21], none⟩,
         ⟨some 23, (.cvi .i64), [.tmp 22], none⟩,
         ⟨some 24, (.bin .add), [.tmp 19, .tmp 23], none⟩,
         ⟨some 2, .mv, [.tmp 24], none⟩])
       .ret)))))⟩

theorem f57_ok : compF Go.Proofs.Tryd.prog 57 f57.body.hints = some f57 := by kernel_rfl


def f58 : AFun := ⟨4, 1, [.slot 2],
  (.seq (.run [0] [⟨some 2, .mv, [.const (.int .i64 0)], none⟩])
   (.seq (.seq (.run [3] [⟨some 3, .mv, [.tmp 0], none⟩])
     (.cond (.tmp 3)
      (.seq (.run [2] [⟨some 2, .mv, [.const (.int .i64 1)], none⟩])
       .ret)
      .skip))
    (.seq (.run [2] [⟨some 2, .mv, [.const (.int .i64 0)], none⟩])
     .ret)))⟩

theorem f58_ok : compF Go.Proofs.Tryd.prog 58 f58.body.hints = some f58 := by kernel_rfl


def f59 : AFun := ⟨8, 1, [.slot 2],
  (.seq (.run [0] [⟨some 2, .mv, [.const (.bool false)], none⟩])
   (.seq (.run [2] [⟨some 3, .mv, [.tmp 0], none⟩,
      ⟨some 4, .mv, [.tmp 0], none⟩,
      ⟨some 5, (.bin .sub), [.tmp 4, .const (.int .i64 1)], none⟩,
      ⟨some 6, (.bin .and), [.tmp 3, .tmp 5], none⟩,
      ⟨some 7, (.eqg false 6), [.tmp 6, .const (.int .i64 0)], none⟩,
      ⟨some 2, .mv, [.tmp 7], none⟩])
    .ret))⟩

theorem f59_ok : compF Go.Proofs.Tryd.prog 59 f59.body.hints = some f59 := by kernel_rfl


def f60 : AFun := ⟨8, 1, [.slot 2],
  (.seq (.run [0] [⟨some 2, .mv, [.const (.int .i64 0)], none⟩])
   (.seq (.cond (.const (.bool false))
     (.seq (.run [2] [⟨some 3, .mv, [.tmp 0], none⟩,
        ⟨some 4, (.cvi .u32), [.tmp 3], none⟩,
        ⟨some 5, (.call 61), [.tmp 4], none⟩,
        ⟨some 2, .mv, [.tmp 5], none⟩])
      .ret)
     .skip)
    (.seq (.run [2] [⟨some 6, .mv, [.tmp 0], none⟩,
       ⟨some 7, (.call 62), [.tmp 6], none⟩,
       ⟨some 2, .mv, [.tmp 7], none⟩])
     .ret)))⟩

theorem f60_ok : compF Go.Proofs.Tryd.prog 60 f60.body.hints = some f60 := by kernel_rfl


def f61 : AFun := ⟨14, 1, [.slot 2],
  (.seq (.run [0] [⟨some 2, .mv, [.const (.int .i64 0)], none⟩])
   (.seq (.seq (.run [0, 4] [⟨some 3, .mv, [.tmp 0], none⟩,
       ⟨some 4, (.eqg false 6), [.tmp 3, .const (.int .u32 0)], none⟩])
     (.cond (.tmp 4)
      (.seq (.run [2] [⟨some 2, .mv, [.const (.int .i64 32)], none⟩])
       .ret)
      .skip))
    (.seq (.run [2] [⟨some 5, .mv, [.tmp 0], none⟩,
       ⟨some 6, .mv, [.tmp 0], none⟩,
       ⟨some 7, (.un .neg), [.tmp 6], none⟩,
       ⟨some 8, (.bin .and), [.tmp 5, .tmp 7], none⟩,
       ⟨some 9, (.bin .mul), [.tmp 8, .const (.int .u32 125613361)], none⟩,
       ⟨some 10, (.bin .shr), [.tmp 9, .const (.int .u64 27)], none⟩,
       ⟨some 11, (.aaddr 1 32), [.global 4, .tmp 10], none⟩,
       ⟨some 12, (.ld false 1), [.tmp 11], none⟩,
       ⟨some 13, (.cvi .i64), [.tmp 12], none⟩,
       ⟨some 2, .mv, [.tmp 13], none⟩])
     .ret)))⟩

theorem f61_ok : compF Go.Proofs.Tryd.prog 61 f61.body.hints = some f61 := by kernel_rfl


def f62 : AFun := ⟨14, 1, [.slot 2],
  (.seq (.run [0] [⟨some 2, .mv, [.const (.int .i64 0)], none⟩])
   (.seq (.seq (.run [0, 4] [⟨some 3, .mv, [.tmp 0], none⟩,
       ⟨some 4, (.eqg false 6), [.tmp 3, .const (.int .u64 0)], none⟩])
     (.cond (.tmp 4)
      (.seq (.run [2] [⟨some 2, .mv, [.const (.int .i64 64)], none⟩])
       .ret)
      .skip))
    (.seq (.run [2] [⟨some 5, .mv, [.tmp 0], none⟩,
       ⟨some 6, .mv, [.tmp 0], none⟩,
       ⟨some 7, (.un .neg), [.tmp 6], none⟩,
       ⟨some 8, (.bin .and), [.tmp 5, .tmp 7], none⟩,
       ⟨some 9, (.bin .mul), [.tmp 8, .const (.int .u64 285870213051353865)], none⟩,
       ⟨some 10, (.bin .shr), [.tmp 9, .const (.int .u64 58)], none⟩,
       ⟨some 11, (.aaddr 1 64), [.global 5, .tmp 10], none⟩,
       ⟨some 12, (.ld false 1), [.tmp 11], none⟩,
       ⟨some 13, (.cvi .i64), [.tmp 12], none⟩,
       ⟨some 2, .mv, [.tmp 13], none⟩])
     .ret)))⟩

theorem f62_ok : compF Go.Proofs.Tryd.prog 62 f62.body.hints = some f62 := by kernel_rfl

end Go.AL.Fun
