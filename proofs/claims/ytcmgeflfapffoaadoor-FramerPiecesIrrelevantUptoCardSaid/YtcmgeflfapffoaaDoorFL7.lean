/- The functions of this seat's program, turned. Printed by a program; each is checked against the program. -/
import Derived.Test.YtcmgeflfapffoaaDoorF1
import Derived.Test.YtcmgeflfapffoaaDoorProg
import Derived.KernelRfl
namespace Go.AL.Fun
open Go.AL


def f7 : AFun := ⟨145, 3, [.slot 6],
  (.seq (.run [0, 1, 2] [⟨some 6, .mv, [.const (.bool false)], none⟩])
   (.seq (.run [0, 2, 7] [⟨some 18, .mv, [.tmp 1], none⟩,
      ⟨some 19, (.cvi .i64), [.tmp 18], none⟩,
      ⟨some 20, (.bin .rem), [.tmp 19, .const (.int .i64 50)], none⟩,
      ⟨some 21, (.bin .add), [.const (.int .i64 1), .tmp 20], none⟩,
      ⟨some 7, .mv, [.tmp 21], none⟩])
    (.seq (.run [0, 2, 7, 8, 9] [⟨some 23, .mv, [.tmp 7], none⟩,
       ⟨some 24, (.call 14), [.tmp 23], none⟩,
       ⟨some 22, .mv, [.tmp 24], none⟩,
       ⟨some 25, (.ext 0), [.tmp 22], none⟩,
       ⟨some 26, (.ext 1), [.tmp 22], none⟩,
       ⟨some 8, .mv, [.tmp 25], none⟩,
       ⟨some 9, .mv, [.tmp 26], none⟩])
     (.seq (.seq (.run [0, 2, 7, 8, 9, 47] [⟨some 27, .mv, [.tmp 0], none⟩,
         ⟨some 28, (.len 1), [.tmp 27], none⟩,
         ⟨some 29, (.bin .gtr), [.tmp 28, .const (.int .i64 2000)], none⟩,
         ⟨some 30, .mv, [.tmp 29], none⟩,
         ⟨some 31, .mv, [.tmp 2], some (30, false)⟩,
         ⟨some 32, (.len 1), [.tmp 31], some (30, false)⟩,
         ⟨some 33, (.eqg false 6), [.tmp 32, .const (.int .i64 0)], some (30, false)⟩,
         ⟨some 34, .pick, [.tmp 30, .const (.bool true), .tmp 33], none⟩,
         ⟨some 35, .mv, [.tmp 34], none⟩,
         ⟨some 36, .mv, [.tmp 2], some (35, false)⟩,
         ⟨some 37, (.len 1), [.tmp 36], some (35, false)⟩,
         ⟨some 38, (.bin .gtr), [.tmp 37, .const (.int .i64 100)], some (35, false)⟩,
         ⟨some 39, .pick, [.tmp 35, .const (.bool true), .tmp 38], none⟩,
         ⟨some 40, .mv, [.tmp 39], none⟩,
         ⟨some 41, .mv, [.tmp 9], some (40, false)⟩,
         ⟨some 42, (.eqg true 6), [.tmp 41, .const (.int .i64 0)], some (40, false)⟩,
         ⟨some 43, .pick, [.tmp 40, .const (.bool true), .tmp 42], none⟩,
         ⟨some 44, .mv, [.tmp 43], none⟩,
         ⟨some 45, .mv, [.tmp 8], some (44, false)⟩,
         ⟨some 46, (.eqg false 1), [.tmp 45, .const (.pointer none)], some (44, false)⟩,
         ⟨some 47, .pick, [.tmp 44, .const (.bool true), .tmp 46], none⟩])
       (.cond (.tmp 47)
        (.seq (.run [6] [⟨some 48, (.call 11), [], none⟩,
           ⟨some 49, .mv, [.tmp 48], none⟩,
           ⟨some 50, .mv, [.tmp 9], some (49, true)⟩,
           ⟨some 51, (.eqg false 6), [.tmp 50, .const (.int .i64 0)], some (49, true)⟩,
           ⟨some 52, .pick, [.tmp 49, .tmp 51, .const (.bool false)], none⟩,
           ⟨some 6, .mv, [.tmp 52], none⟩])
         .ret)
        .skip))
      (.seq (.run [0, 2, 7, 8, 10, 11, 12] [⟨some 53, .mv, [.tmp 0], none⟩,
         ⟨some 54, (.bslice 1 0 [(.int .u8 0)] []), [], none⟩,
         ⟨some 10, .mv, [.tmp 53], none⟩,
         ⟨some 11, .mv, [.tmp 54], none⟩,
         ⟨some 12, .mv, [.const (.int .i64 0)], none⟩])
       (.seq (.seq (.run [0, 2, 7, 8, 10, 11, 12, 57, 58] [⟨some 55, .mv, [.tmp 0], none⟩,
           ⟨some 56, (.len 1), [.tmp 55], none⟩,
           ⟨some 57, (.bin .add), [.tmp 56, .const (.int .i64 2)], none⟩,
           ⟨some 58, .mv, [.const (.int .i64 0)], none⟩])
         (.block 0 (.loop [0, 2, 7, 8, 10, 11, 12, 57, 58] (.seq (.run [0, 2, 7, 8, 10, 11, 12, 57, 58, 59] [⟨some 59, (.bin .lss), [.tmp 58, .tmp 57], none⟩])
            (.seq (.cond (.tmp 59)
              .skip
              (.exit 0))
             (.seq (.block 1 (.seq (.seq (.run [0, 2, 7, 8, 10, 11, 12, 57, 58, 62] [⟨some 60, .mv, [.tmp 10], none⟩,
                   ⟨some 61, (.len 1), [.tmp 60], none⟩,
                   ⟨some 62, (.bin .gtr), [.tmp 61, .const (.int .i64 0)], none⟩])
                 (.cond (.tmp 62)
                  (.seq (.run [0, 2, 7, 8, 10, 11, 12, 13, 57, 58] [⟨some 63, .mv, [.tmp 7], none⟩,
                     ⟨some 64, .mv, [.tmp 10], none⟩,
                     ⟨some 65, (.len 1), [.tmp 64], none⟩,
                     ⟨some 66, .min, [.tmp 63, .tmp 65], none⟩,
                     ⟨some 13, .mv, [.tmp 66], none⟩])
                   (.seq (.seq (.run [0, 2, 7, 8, 10, 11, 12, 13, 57, 58, 72] [⟨some 67, .mv, [.tmp 8], none⟩,
                       ⟨some 68, .mv, [.tmp 10], none⟩,
                       ⟨some 69, .mv, [.tmp 13], none⟩,
                       ⟨some 70, (.slc 1 false true), [.tmp 68, .tmp 69], none⟩,
                       ⟨some 71, (.call 15), [.tmp 67, .tmp 70], none⟩,
                       ⟨some 72, (.eqg true 6), [.tmp 71, .const (.int .i64 0)], none⟩])
                     (.cond (.tmp 72)
                      (.seq (.run [6] [⟨some 6, .mv, [.const (.bool false)], none⟩])
                       .ret)
                      .skip))
                    (.run [0, 2, 7, 8, 10, 11, 12, 57, 58] [⟨some 73, .mv, [.tmp 10], none⟩,
                      ⟨some 74, .mv, [.tmp 13], none⟩,
                      ⟨some 75, (.slc 1 true false), [.tmp 73, .tmp 74], none⟩,
                      ⟨some 10, .mv, [.tmp 75], none⟩])))
                  (.seq (.run [0, 2, 7, 8, 10, 11, 12, 57, 58, 78] [⟨some 76, .mv, [.tmp 8], none⟩,
                     ⟨some 77, (.call 19), [.tmp 76], none⟩,
                     ⟨some 78, (.eqg true 6), [.tmp 77, .const (.int .i64 0)], none⟩])
                   (.cond (.tmp 78)
                    (.seq (.run [6] [⟨some 6, .mv, [.const (.bool false)], none⟩])
                     .ret)
                    .skip))))
                (.seq (.seq (.run [0, 2, 7, 8, 10, 11, 12, 57, 58, 80, 81] [⟨some 79, .mv, [.tmp 7], none⟩,
                    ⟨some 80, (.bin .add), [.tmp 79, .const (.int .i64 20)], none⟩,
                    ⟨some 81, .mv, [.const (.int .i64 0)], none⟩])
                  (.block 2 (.loop [0, 2, 7, 8, 10, 11, 12, 57, 58, 80, 81] (.seq (.run [0, 2, 7, 8, 10, 11, 12, 57, 58, 80, 81, 82] [⟨some 82, (.bin .lss), [.tmp 81, .tmp 80], none⟩])
                     (.seq (.cond (.tmp 82)
                       .skip
                       (.exit 2))
                      (.seq (.block 3 (.seq (.run [0, 2, 7, 8, 10, 11, 12, 14, 57, 58, 80, 81] [⟨some 83, .mv, [.tmp 8], none⟩,
                           ⟨some 84, (.call 16), [.tmp 83], none⟩,
                           ⟨some 14, .mv, [.tmp 84], none⟩])
                         (.seq (.seq (.run [0, 2, 7, 8, 10, 11, 12, 14, 57, 58, 80, 81, 87] [⟨some 85, .mv, [.tmp 14], none⟩,
                             ⟨some 86, (.len 1), [.tmp 85], none⟩,
                             ⟨some 87, (.eqg false 6), [.tmp 86, .const (.int .i64 0)], none⟩])
                           (.cond (.tmp 87)
                            (.exit 2)
                            .skip))
                          (.seq (.run [0, 2, 7, 8, 10, 11, 12, 14, 15, 57, 58, 80, 81] [⟨some 88, .mv, [.tmp 2], none⟩,
                             ⟨some 89, .mv, [.tmp 12], none⟩,
                             ⟨some 90, .mv, [.tmp 2], none⟩,
                             ⟨some 91, (.len 1), [.tmp 90], none⟩,
                             ⟨some 92, (.bin .rem), [.tmp 89, .tmp 91], none⟩,
                             ⟨some 93, (.iaddr 1), [.tmp 88, .tmp 92], none⟩,
                             ⟨some 94, (.ld false 1), [.tmp 93], none⟩,
                             ⟨some 95, (.cvi .i64), [.tmp 94], none⟩,
                             ⟨some 96, .mv, [.tmp 14], none⟩,
                             ⟨some 97, (.len 1), [.tmp 96], none⟩,
                             ⟨some 98, (.bin .rem), [.tmp 95, .tmp 97], none⟩,
                             ⟨some 99, (.bin .add), [.const (.int .i64 1), .tmp 98], none⟩,
                             ⟨some 15, .mv, [.tmp 99], none⟩])
                           (.seq (.run [0, 2, 7, 8, 10, 11, 12, 14, 15, 57, 58, 80, 81] [⟨some 100, .mv, [.tmp 12], none⟩,
                              ⟨some 101, (.bin .add), [.tmp 100, .const (.int .i64 1)], none⟩,
                              ⟨some 12, .mv, [.tmp 101], none⟩])
                            (.seq (.seq (.run [0, 2, 7, 8, 10, 11, 12, 14, 15, 57, 58, 80, 81, 105] [⟨some 102, .mv, [.tmp 8], none⟩,
                                ⟨some 103, .mv, [.tmp 15], none⟩,
                                ⟨some 104, (.call 20), [.tmp 102, .tmp 103], none⟩,
                                ⟨some 105, (.eqg true 6), [.tmp 104, .const (.int .i64 0)], none⟩])
                              (.cond (.tmp 105)
                               (.seq (.run [6] [⟨some 6, .mv, [.const (.bool false)], none⟩])
                                .ret)
                               .skip))
                             (.run [0, 2, 7, 8, 10, 11, 12, 57, 58, 80, 81] [⟨some 106, .mv, [.tmp 11], none⟩,
                               ⟨some 107, .mv, [.tmp 14], none⟩,
                               ⟨some 108, .mv, [.tmp 15], none⟩,
                               ⟨some 109, (.slc 1 false true), [.tmp 107, .tmp 108], none⟩,
                               ⟨some 110, (.app 1 1), [.tmp 106, .tmp 109], none⟩,
                               ⟨some 11, .mv, [.tmp 110], none⟩])))))))
                       (.run [0, 2, 7, 8, 10, 11, 12, 57, 58, 80, 81] [⟨some 111, (.bin .add), [.tmp 81, .const (.int .i64 1)], none⟩,
                         ⟨some 81, .mv, [.tmp 111], none⟩])))))))
                 (.seq (.run [0, 2, 7, 8, 10, 11, 12, 57, 58, 113] [⟨some 112, .mv, [.tmp 8], none⟩,
                    ⟨some 113, (.call 21), [.tmp 112], none⟩])
                  (.cond (.tmp 113)
                   (.seq (.run [8, 11, 16, 17] [⟨some 115, .mv, [.tmp 0], none⟩,
                      ⟨some 116, .mv, [.tmp 7], none⟩,
                      ⟨some 117, (.call 12), [.tmp 115, .tmp 116], none⟩,
                      ⟨some 114, .mv, [.tmp 117], none⟩,
                      ⟨some 118, (.ext 0), [.tmp 114], none⟩,
                      ⟨some 119, (.ext 1), [.tmp 114], none⟩,
                      ⟨some 16, .mv, [.tmp 118], none⟩,
                      ⟨some 17, .mv, [.tmp 119], none⟩])
                    (.seq (.run [6] [⟨some 120, (.call 11), [], none⟩,
                       ⟨some 121, .mv, [.tmp 120], none⟩,
                       ⟨some 122, .mv, [.tmp 17], some (121, true)⟩,
                       ⟨some 123, (.eqg false 6), [.tmp 122, .const (.int .i64 0)], some (121, true)⟩,
                       ⟨some 124, .pick, [.tmp 121, .tmp 123, .const (.bool false)], none⟩,
                       ⟨some 125, .mv, [.tmp 124], none⟩,
                       ⟨some 126, .mv, [.tmp 11], some (125, true)⟩,
                       ⟨some 127, .cvb, [.tmp 126], some (125, true)⟩,
                       ⟨some 128, .mv, [.tmp 16], some (125, true)⟩,
                       ⟨some 129, .cvb, [.tmp 128], some (125, true)⟩,
                       ⟨some 130, (.eqg false 6), [.tmp 127, .tmp 129], some (125, true)⟩,
                       ⟨some 131, .pick, [.tmp 125, .tmp 130, .const (.bool false)], none⟩,
                       ⟨some 132, .mv, [.tmp 131], none⟩,
                       ⟨some 133, .mv, [.tmp 8], some (132, true)⟩,
                       ⟨some 134, (.call 19), [.tmp 133], some (132, true)⟩,
                       ⟨some 135, (.eqg false 6), [.tmp 134, .const (.int .i64 4)], some (132, true)⟩,
                       ⟨some 136, .pick, [.tmp 132, .tmp 135, .const (.bool false)], none⟩,
                       ⟨some 137, .mv, [.tmp 136], none⟩,
                       ⟨some 138, .mv, [.tmp 8], some (137, true)⟩,
                       ⟨some 139, (.bslice 1 1 [(.int .u8 0)] [(0, 1)]), [.const (.int .u8 120)], some (137, true)⟩,
                       ⟨some 140, .cvm, [.tmp 139], some (137, true)⟩,
                       ⟨some 141, (.call 15), [.tmp 138, .tmp 140], some (137, true)⟩,
                       ⟨some 142, (.eqg false 6), [.tmp 141, .const (.int .i64 4)], some (137, true)⟩,
                       ⟨some 143, .pick, [.tmp 137, .tmp 142, .const (.bool false)], none⟩,
                       ⟨some 6, .mv, [.tmp 143], none⟩])
                     .ret))
                   .skip)))))
              (.run [0, 2, 7, 8, 10, 11, 12, 57, 58] [⟨some 144, (.bin .add), [.tmp 58, .const (.int .i64 1)], none⟩,
                ⟨some 58, .mv, [.tmp 144], none⟩])))))))
        (.seq (.run [6] [⟨some 6, .mv, [.const (.bool false)], none⟩])
         .ret)))))))⟩

theorem f7_ok : compF Go.Proofs.Tryd.prog 7 f7.body.hints = some f7 := by kernel_rfl

end Go.AL.Fun
