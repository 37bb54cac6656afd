/- The functions of this seat's program, turned. Printed by a program; each is checked against the program. -/
import Derived.Test.YtcmgeflfapffoaaDoorF1
import Derived.Test.YtcmgeflfapffoaaDoorProg
import Derived.KernelRfl
namespace Go.AL.Fun
open Go.AL


def f6 : AFun := ⟨142, 2, [.slot 4],
  (.seq (.run [0, 1] [⟨some 4, .mv, [.const (.bool false)], none⟩])
   (.seq (.run [0, 1, 5] [⟨some 5, .mv, [.const (.pointer none)], none⟩])
    (.seq (.seq (.run [0, 1, 40] [⟨some 16, .mv, [.tmp 5], none⟩,
        ⟨some 17, (.bslice 1 1 [(.int .u8 0)] [(0, 1)]), [.const (.int .u8 97)], none⟩,
        ⟨some 18, .cvm, [.tmp 17], none⟩,
        ⟨some 19, (.call 15), [.tmp 16, .tmp 18], none⟩,
        ⟨some 20, (.eqg true 6), [.tmp 19, .const (.int .i64 1)], none⟩,
        ⟨some 21, .mv, [.tmp 20], none⟩,
        ⟨some 22, .mv, [.tmp 5], some (21, false)⟩,
        ⟨some 23, (.call 19), [.tmp 22], some (21, false)⟩,
        ⟨some 24, (.eqg true 6), [.tmp 23, .const (.int .i64 1)], some (21, false)⟩,
        ⟨some 25, .pick, [.tmp 21, .const (.bool true), .tmp 24], none⟩,
        ⟨some 26, .mv, [.tmp 25], none⟩,
        ⟨some 27, .mv, [.tmp 5], some (26, false)⟩,
        ⟨some 28, (.call 20), [.tmp 27, .const (.int .i64 0)], some (26, false)⟩,
        ⟨some 29, (.eqg true 6), [.tmp 28, .const (.int .i64 1)], some (26, false)⟩,
        ⟨some 30, .pick, [.tmp 26, .const (.bool true), .tmp 29], none⟩,
        ⟨some 31, .mv, [.tmp 30], none⟩,
        ⟨some 32, .mv, [.tmp 5], some (31, false)⟩,
        ⟨some 33, (.call 16), [.tmp 32], some (31, false)⟩,
        ⟨some 34, (.len 1), [.tmp 33], some (31, false)⟩,
        ⟨some 35, (.eqg true 6), [.tmp 34, .const (.int .i64 0)], some (31, false)⟩,
        ⟨some 36, .pick, [.tmp 31, .const (.bool true), .tmp 35], none⟩,
        ⟨some 37, .mv, [.tmp 36], none⟩,
        ⟨some 38, .mv, [.tmp 5], some (37, false)⟩,
        ⟨some 39, (.call 21), [.tmp 38], some (37, false)⟩,
        ⟨some 40, .pick, [.tmp 37, .const (.bool true), .tmp 39], none⟩])
      (.cond (.tmp 40)
       (.seq (.run [4] [⟨some 4, .mv, [.const (.bool false)], none⟩])
        .ret)
       .skip))
     (.seq (.run [0, 1, 6] [⟨some 6, .mv, [.const (.int .i64 0)], none⟩])
      (.seq (.seq (.run [0, 1, 6, 41, 42, 43] [⟨some 41, .mv, [.tmp 1], none⟩,
          ⟨some 42, (.len 1), [.tmp 41], none⟩,
          ⟨some 43, .mv, [.const (.int .i64 0)], none⟩])
        (.block 0 (.loop [0, 1, 6, 41, 42, 43] (.seq (.run [0, 1, 6, 41, 42, 43, 44] [⟨some 44, (.bin .lss), [.tmp 43, .tmp 42], none⟩])
           (.seq (.cond (.tmp 44)
             .skip
             (.exit 0))
            (.seq (.block 1 (.seq (.run [0, 1, 6, 8, 41, 42, 43] [⟨some 45, (.iaddr 3), [.tmp 41, .tmp 43], none⟩,
                 ⟨some 46, (.ld true 3), [.tmp 45], none⟩,
                 ⟨some 8, (.alloc [(.int .i64 0), (.sl [] .nil), (.int .i64 0)]), [], none⟩,
                 ⟨none, (.st 3), [.tmp 8, .tmp 46], none⟩])
               (.run [0, 1, 6, 41, 42, 43] [⟨some 47, .mv, [.tmp 6], none⟩,
                 ⟨some 48, (.faddr 1), [.tmp 8], none⟩,
                 ⟨some 49, (.ld false 1), [.tmp 48], none⟩,
                 ⟨some 50, (.len 1), [.tmp 49], none⟩,
                 ⟨some 51, (.bin .add), [.tmp 47, .tmp 50], none⟩,
                 ⟨some 6, .mv, [.tmp 51], none⟩])))
             (.run [0, 1, 6, 41, 42, 43] [⟨some 52, (.bin .add), [.tmp 43, .const (.int .i64 1)], none⟩,
               ⟨some 43, .mv, [.tmp 52], none⟩])))))))
       (.seq (.seq (.run [0, 1, 59] [⟨some 53, .mv, [.tmp 1], none⟩,
           ⟨some 54, (.len 1), [.tmp 53], none⟩,
           ⟨some 55, (.bin .gtr), [.tmp 54, .const (.int .i64 200)], none⟩,
           ⟨some 56, .mv, [.tmp 55], none⟩,
           ⟨some 57, .mv, [.tmp 6], some (56, false)⟩,
           ⟨some 58, (.bin .gtr), [.tmp 57, .const (.int .i64 20000)], some (56, false)⟩,
           ⟨some 59, .pick, [.tmp 56, .const (.bool true), .tmp 58], none⟩])
         (.cond (.tmp 59)
          (.seq (.run [4] [⟨some 60, (.call 11), [], none⟩,
             ⟨some 4, .mv, [.tmp 60], none⟩])
           .ret)
          .skip))
        (.seq (.run [0, 1, 9, 10] [⟨some 62, .mv, [.tmp 0], none⟩,
           ⟨some 63, (.call 22), [.tmp 62], none⟩,
           ⟨some 64, (.call 14), [.tmp 63], none⟩,
           ⟨some 61, .mv, [.tmp 64], none⟩,
           ⟨some 65, (.ext 0), [.tmp 61], none⟩,
           ⟨some 66, (.ext 1), [.tmp 61], none⟩,
           ⟨some 9, .mv, [.tmp 65], none⟩,
           ⟨some 10, .mv, [.tmp 66], none⟩])
         (.seq (.run [1, 9, 10, 11] [⟨some 67, .mv, [.tmp 0], none⟩,
            ⟨some 68, (.call 22), [.tmp 67], none⟩,
            ⟨some 69, (.build [(.int .i64 0), (.sl [] .nil), (.bool false)] [(0, 1)]), [.tmp 68], none⟩,
            ⟨some 70, .box, [.tmp 69], none⟩,
            ⟨some 11, .mv, [.tmp 70], none⟩])
          (.seq (.seq (.run [1, 9, 11, 76] [⟨some 71, .mv, [.tmp 10], none⟩,
              ⟨some 72, (.eqg true 6), [.tmp 71, .const (.int .i64 0)], none⟩,
              ⟨some 73, .mv, [.tmp 72], none⟩,
              ⟨some 74, .mv, [.tmp 9], some (73, false)⟩,
              ⟨some 75, (.eqg false 1), [.tmp 74, .const (.pointer none)], some (73, false)⟩,
              ⟨some 76, .pick, [.tmp 73, .const (.bool true), .tmp 75], none⟩])
            (.cond (.tmp 76)
             (.seq (.run [4] [⟨some 4, .mv, [.const (.bool false)], none⟩])
              .ret)
             .skip))
           (.seq (.seq (.run [9, 11, 77, 78, 79] [⟨some 77, .mv, [.tmp 1], none⟩,
               ⟨some 78, (.len 1), [.tmp 77], none⟩,
               ⟨some 79, .mv, [.const (.int .i64 0)], none⟩])
             (.block 2 (.loop [9, 11, 77, 78, 79] (.seq (.run [9, 11, 77, 78, 79, 80] [⟨some 80, (.bin .lss), [.tmp 79, .tmp 78], none⟩])
                (.seq (.cond (.tmp 80)
                  .skip
                  (.exit 2))
                 (.seq (.block 3 (.seq (.run [9, 11, 13, 77, 78, 79] [⟨some 81, (.iaddr 3), [.tmp 77, .tmp 79], none⟩,
                      ⟨some 82, (.ld true 3), [.tmp 81], none⟩,
                      ⟨some 13, (.alloc [(.int .i64 0), (.sl [] .nil), (.int .i64 0)]), [], none⟩,
                      ⟨none, (.st 3), [.tmp 13, .tmp 82], none⟩])
                    (.seq (.run [9, 11, 13, 77, 78, 79] [⟨some 14, .mv, [.const (.int .i64 0)], none⟩])
                     (.seq (.run [9, 11, 13, 77, 78, 79] [⟨some 15, .mv, [.const (.int .i64 0)], none⟩])
                      (.seq (.seq (.run [9, 11, 13, 77, 78, 79, 84] [⟨some 83, (.faddr 0), [.tmp 13], none⟩,
                          ⟨some 84, (.ld false 1), [.tmp 83], none⟩])
                        (.block 4 (.seq (.run [9, 11, 13, 77, 78, 79, 84, 93] [⟨some 94, (.eqg false 6), [.tmp 84, .const (.int .i64 0)], none⟩,
                            ⟨some 93, .mv, [.tmp 94], none⟩])
                          (.cond (.tmp 93)
                           (.runD [9, 11, 14, 15, 77, 78, 79] [⟨0, ⟨some 95, .mv, [.tmp 9], none⟩, []⟩,
                             ⟨1, ⟨some 96, (.faddr 1), [.tmp 13], none⟩, []⟩,
                             ⟨2, ⟨some 97, (.ld false 1), [.tmp 96], none⟩, []⟩,
                             ⟨4, ⟨some 99, .mv, [.tmp 11], none⟩, []⟩,
                             ⟨5, ⟨some 100, (.faddr 1), [.tmp 13], none⟩, []⟩,
                             ⟨6, ⟨some 101, (.ld false 1), [.tmp 100], none⟩, []⟩,
                             ⟨3, ⟨some 98, (.call 15), [.tmp 95, .tmp 97], none⟩, [6]⟩,
                             ⟨7, ⟨some 102, (.call 23), [.tmp 99, .tmp 101], none⟩, []⟩,
                             ⟨8, ⟨some 14, .mv, [.tmp 98], none⟩, []⟩,
                             ⟨9, ⟨some 15, .mv, [.tmp 102], none⟩, []⟩])
                           (.seq (.run [9, 11, 13, 77, 78, 79, 103] [⟨some 104, (.eqg false 6), [.tmp 84, .const (.int .i64 1)], none⟩,
                              ⟨some 103, .mv, [.tmp 104], none⟩])
                            (.cond (.tmp 103)
                             (.run [9, 11, 14, 15, 77, 78, 79] [⟨some 105, .mv, [.tmp 9], none⟩,
                               ⟨some 106, (.call 19), [.tmp 105], none⟩,
                               ⟨some 107, .mv, [.tmp 11], none⟩,
                               ⟨some 108, (.call 24), [.tmp 107], none⟩,
                               ⟨some 14, .mv, [.tmp 106], none⟩,
                               ⟨some 15, .mv, [.tmp 108], none⟩])
                             (.runD [9, 11, 14, 15, 77, 78, 79] [⟨0, ⟨some 85, .mv, [.tmp 9], none⟩, []⟩,
                               ⟨1, ⟨some 86, (.faddr 2), [.tmp 13], none⟩, []⟩,
                               ⟨2, ⟨some 87, (.ld false 1), [.tmp 86], none⟩, []⟩,
                               ⟨4, ⟨some 89, .mv, [.tmp 11], none⟩, []⟩,
                               ⟨5, ⟨some 90, (.faddr 2), [.tmp 13], none⟩, []⟩,
                               ⟨6, ⟨some 91, (.ld false 1), [.tmp 90], none⟩, []⟩,
                               ⟨3, ⟨some 88, (.call 20), [.tmp 85, .tmp 87], none⟩, [6]⟩,
                               ⟨7, ⟨some 92, (.call 25), [.tmp 89, .tmp 91], none⟩, []⟩,
                               ⟨8, ⟨some 14, .mv, [.tmp 88], none⟩, []⟩,
                               ⟨9, ⟨some 15, .mv, [.tmp 92], none⟩, []⟩])))))))
                       (.seq (.runD [9, 11, 77, 78, 79, 139] [⟨0, ⟨some 109, .mv, [.tmp 14], none⟩, []⟩,
                          ⟨1, ⟨some 110, .mv, [.tmp 15], none⟩, []⟩,
                          ⟨2, ⟨some 111, (.eqg true 6), [.tmp 109, .tmp 110], none⟩, []⟩,
                          ⟨3, ⟨some 112, .mv, [.tmp 111], none⟩, []⟩,
                          ⟨4, ⟨some 113, .mv, [.tmp 9], some (112, false)⟩, []⟩,
                          ⟨7, ⟨some 116, .mv, [.tmp 11], some (112, false)⟩, []⟩,
                          ⟨8, ⟨some 117, .nilck, [.tmp 116], some (112, false)⟩, []⟩,
                          ⟨9, ⟨some 118, (.faddr 1), [.tmp 117], some (112, false)⟩, []⟩,
                          ⟨10, ⟨some 119, (.ld false 1), [.tmp 118], some (112, false)⟩, []⟩,
                          ⟨11, ⟨some 120, .cvb, [.tmp 119], some (112, false)⟩, []⟩,
                          ⟨5, ⟨some 114, (.call 16), [.tmp 113], some (112, false)⟩, [10, 11]⟩,
                          ⟨6, ⟨some 115, .cvb, [.tmp 114], some (112, false)⟩, []⟩,
                          ⟨12, ⟨some 121, (.eqg true 6), [.tmp 115, .tmp 120], some (112, false)⟩, []⟩,
                          ⟨13, ⟨some 122, .pick, [.tmp 112, .const (.bool true), .tmp 121], none⟩, []⟩,
                          ⟨14, ⟨some 123, .mv, [.tmp 122], none⟩, []⟩,
                          ⟨15, ⟨some 124, .mv, [.tmp 9], some (123, false)⟩, []⟩,
                          ⟨17, ⟨some 126, .mv, [.tmp 11], some (123, false)⟩, []⟩,
                          ⟨18, ⟨some 127, .nilck, [.tmp 126], some (123, false)⟩, []⟩,
                          ⟨19, ⟨some 128, (.faddr 2), [.tmp 127], some (123, false)⟩, []⟩,
                          ⟨20, ⟨some 129, (.ld false 1), [.tmp 128], some (123, false)⟩, []⟩,
                          ⟨16, ⟨some 125, (.call 21), [.tmp 124], some (123, false)⟩, [20]⟩,
                          ⟨21, ⟨some 130, .mv, [.tmp 129], some (123, false)⟩, []⟩,
                          ⟨22, ⟨some 131, .mv, [.tmp 11], some (130, true)⟩, []⟩,
                          ⟨23, ⟨some 132, .nilck, [.tmp 131], some (130, true)⟩, []⟩,
                          ⟨24, ⟨some 133, (.faddr 1), [.tmp 132], some (130, true)⟩, []⟩,
                          ⟨25, ⟨some 134, (.ld false 1), [.tmp 133], some (130, true)⟩, []⟩,
                          ⟨26, ⟨some 135, (.len 1), [.tmp 134], some (130, true)⟩, []⟩,
                          ⟨27, ⟨some 136, (.eqg false 6), [.tmp 135, .const (.int .i64 0)], some (130, true)⟩, []⟩,
                          ⟨28, ⟨some 137, .pick, [.tmp 130, .tmp 136, .const (.bool false)], some (123, false)⟩, []⟩,
                          ⟨29, ⟨some 138, (.eqg true 0), [.tmp 125, .tmp 137], some (123, false)⟩, []⟩,
                          ⟨30, ⟨some 139, .pick, [.tmp 123, .const (.bool true), .tmp 138], none⟩, []⟩])
                        (.cond (.tmp 139)
                         (.seq (.run [4] [⟨some 4, .mv, [.const (.bool false)], none⟩])
                          .ret)
                         .skip)))))))
                  (.run [9, 11, 77, 78, 79] [⟨some 140, (.bin .add), [.tmp 79, .const (.int .i64 1)], none⟩,
                    ⟨some 79, .mv, [.tmp 140], none⟩])))))))
            (.seq (.run [4] [⟨some 141, (.call 11), [], none⟩,
               ⟨some 4, .mv, [.tmp 141], none⟩])
             .ret)))))))))))⟩

theorem f6_ok : compF Go.Proofs.Tryd.prog 6 f6.body.hints = some f6 := by kernel_rfl

end Go.AL.Fun
