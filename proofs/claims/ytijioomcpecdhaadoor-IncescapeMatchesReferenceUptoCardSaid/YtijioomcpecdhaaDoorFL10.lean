/- The functions of this seat's program, turned. Printed by a program; each is checked against the program. -/
import Derived.Test.YtijioomcpecdhaaDoorF1
import Derived.Test.YtijioomcpecdhaaDoorProg
import Derived.KernelRfl
namespace Go.AL.Fun
open Go.AL


def f10 : AFun := ⟨106, 2, [.slot 4],
  (.seq (.run [0, 1] [⟨some 4, .mv, [.const (.bool false)], none⟩])
   (.seq (.run [0, 1, 5] [⟨some 5, .mv, [.const (.pointer none)], none⟩])
    (.seq (.seq (.run [0, 1, 34] [⟨some 12, .mv, [.tmp 5], none⟩,
        ⟨some 13, (.call 29), [.tmp 12, .const (.slice none 0 0)], none⟩,
        ⟨some 14, (.eqg true 6), [.tmp 13, .const (.int .i64 1)], none⟩,
        ⟨some 15, .mv, [.tmp 14], none⟩,
        ⟨some 16, .mv, [.tmp 5], some (15, false)⟩,
        ⟨some 17, (.call 30), [.tmp 16], some (15, false)⟩,
        ⟨some 18, (.eqg true 6), [.tmp 17, .const (.int .i64 1)], some (15, false)⟩,
        ⟨some 19, .pick, [.tmp 15, .const (.bool true), .tmp 18], none⟩,
        ⟨some 20, .mv, [.tmp 19], none⟩,
        ⟨some 21, .mv, [.tmp 5], some (20, false)⟩,
        ⟨some 22, (.call 27), [.tmp 21], some (20, false)⟩,
        ⟨some 23, (.eqg true 6), [.tmp 22, .const (.int .i64 0)], some (20, false)⟩,
        ⟨some 24, .pick, [.tmp 20, .const (.bool true), .tmp 23], none⟩,
        ⟨some 25, .mv, [.tmp 24], none⟩,
        ⟨some 26, .mv, [.tmp 5], some (25, false)⟩,
        ⟨some 27, (.call 31), [.tmp 26, .const (.int .i64 1)], some (25, false)⟩,
        ⟨some 28, (.len 1), [.tmp 27], some (25, false)⟩,
        ⟨some 29, (.eqg true 6), [.tmp 28, .const (.int .i64 0)], some (25, false)⟩,
        ⟨some 30, .pick, [.tmp 25, .const (.bool true), .tmp 29], none⟩,
        ⟨some 31, .mv, [.tmp 30], none⟩,
        ⟨some 32, .mv, [.tmp 5], some (31, false)⟩,
        ⟨some 33, (.call 28), [.tmp 32], some (31, false)⟩,
        ⟨some 34, .pick, [.tmp 31, .const (.bool true), .tmp 33], none⟩])
      (.cond (.tmp 34)
       (.seq (.run [4] [⟨some 4, .mv, [.const (.bool false)], none⟩])
        .ret)
       .skip))
     (.seq (.seq (.run [0, 1, 36] [⟨some 35, .mv, [.tmp 1], none⟩,
         ⟨some 36, (.call 32), [.tmp 35], none⟩])
       (.cond (.tmp 36)
        (.seq (.run [4] [⟨some 37, (.call 26), [], none⟩,
           ⟨some 4, .mv, [.tmp 37], none⟩])
         .ret)
        .skip))
      (.seq (.run [1, 6] [⟨some 38, .mv, [.tmp 0], none⟩,
         ⟨some 39, (.cvi .i64), [.tmp 38], none⟩,
         ⟨some 40, (.bin .rem), [.tmp 39, .const (.int .i64 5)], none⟩,
         ⟨some 6, .mv, [.tmp 40], none⟩])
       (.seq (.run [1, 6, 7, 8] [⟨some 42, .mv, [.tmp 6], none⟩,
          ⟨some 43, (.call 25), [.tmp 42], none⟩,
          ⟨some 41, .mv, [.tmp 43], none⟩,
          ⟨some 44, (.ext 0), [.tmp 41], none⟩,
          ⟨some 45, (.ext 1), [.tmp 41], none⟩,
          ⟨some 7, .mv, [.tmp 44], none⟩,
          ⟨some 8, .mv, [.tmp 45], none⟩])
        (.seq (.run [1, 7, 8, 9] [⟨some 46, .mv, [.tmp 6], none⟩,
           ⟨some 47, (.build [(.int .i64 0), (.str []), (.int .i64 0), (.bool false)] [(0, 1)]), [.tmp 46], none⟩,
           ⟨some 48, .box, [.tmp 47], none⟩,
           ⟨some 9, .mv, [.tmp 48], none⟩])
         (.seq (.seq (.run [1, 7, 9, 54] [⟨some 49, .mv, [.tmp 8], none⟩,
             ⟨some 50, (.eqg true 6), [.tmp 49, .const (.int .i64 0)], none⟩,
             ⟨some 51, .mv, [.tmp 50], none⟩,
             ⟨some 52, .mv, [.tmp 7], some (51, false)⟩,
             ⟨some 53, (.eqg false 1), [.tmp 52, .const (.pointer none)], some (51, false)⟩,
             ⟨some 54, .pick, [.tmp 51, .const (.bool true), .tmp 53], none⟩])
           (.cond (.tmp 54)
            (.seq (.run [4] [⟨some 4, .mv, [.const (.bool false)], none⟩])
             .ret)
            .skip))
          (.seq (.seq (.run [7, 9, 55, 56, 57] [⟨some 55, .mv, [.tmp 1], none⟩,
              ⟨some 56, (.len 1), [.tmp 55], none⟩,
              ⟨some 57, .mv, [.const (.int .i64 0)], none⟩])
            (.block 0 (.loop [7, 9, 55, 56, 57] (.seq (.run [7, 9, 55, 56, 57, 58] [⟨some 58, (.bin .lss), [.tmp 57, .tmp 56], none⟩])
               (.seq (.cond (.tmp 58)
                 .skip
                 (.exit 0))
                (.seq (.block 1 (.seq (.run [7, 9, 11, 55, 56, 57] [⟨some 59, (.iaddr 3), [.tmp 55, .tmp 57], none⟩,
                     ⟨some 60, (.ld true 3), [.tmp 59], none⟩,
                     ⟨some 11, (.alloc [(.int .i64 0), (.sl [] .nil), (.int .i64 0)]), [], none⟩,
                     ⟨none, (.st 3), [.tmp 11, .tmp 60], none⟩])
                   (.seq (.seq (.run [7, 9, 11, 55, 56, 57, 62] [⟨some 61, (.faddr 0), [.tmp 11], none⟩,
                       ⟨some 62, (.ld false 1), [.tmp 61], none⟩])
                     (.block 2 (.seq (.run [7, 9, 11, 55, 56, 57, 62, 68] [⟨some 69, (.eqg false 6), [.tmp 62, .const (.int .i64 0)], none⟩,
                         ⟨some 68, .mv, [.tmp 69], none⟩])
                       (.cond (.tmp 68)
                        (.seq (.runD [7, 9, 55, 56, 57, 78] [⟨0, ⟨some 70, .mv, [.tmp 7], none⟩, []⟩,
                           ⟨1, ⟨some 71, (.faddr 1), [.tmp 11], none⟩, []⟩,
                           ⟨2, ⟨some 72, (.ld false 1), [.tmp 71], none⟩, []⟩,
                           ⟨4, ⟨some 74, .mv, [.tmp 9], none⟩, []⟩,
                           ⟨5, ⟨some 75, (.faddr 1), [.tmp 11], none⟩, []⟩,
                           ⟨6, ⟨some 76, (.ld false 1), [.tmp 75], none⟩, []⟩,
                           ⟨3, ⟨some 73, (.call 29), [.tmp 70, .tmp 72], none⟩, [6]⟩,
                           ⟨7, ⟨some 77, (.call 33), [.tmp 74, .tmp 76], none⟩, []⟩,
                           ⟨8, ⟨some 78, (.eqg true 6), [.tmp 73, .tmp 77], none⟩, []⟩])
                         (.cond (.tmp 78)
                          (.seq (.run [4] [⟨some 4, .mv, [.const (.bool false)], none⟩])
                           .ret)
                          .skip))
                        (.seq (.run [7, 9, 11, 55, 56, 57, 79] [⟨some 80, (.eqg false 6), [.tmp 62, .const (.int .i64 1)], none⟩,
                           ⟨some 79, .mv, [.tmp 80], none⟩])
                         (.cond (.tmp 79)
                          (.seq (.runD [7, 9, 55, 56, 57, 91] [⟨0, ⟨some 81, .mv, [.tmp 7], none⟩, []⟩,
                             ⟨1, ⟨some 82, (.faddr 2), [.tmp 11], none⟩, []⟩,
                             ⟨2, ⟨some 83, (.ld false 1), [.tmp 82], none⟩, []⟩,
                             ⟨5, ⟨some 86, .mv, [.tmp 9], none⟩, []⟩,
                             ⟨6, ⟨some 87, (.faddr 2), [.tmp 11], none⟩, []⟩,
                             ⟨7, ⟨some 88, (.ld false 1), [.tmp 87], none⟩, []⟩,
                             ⟨3, ⟨some 84, (.call 31), [.tmp 81, .tmp 83], none⟩, [7]⟩,
                             ⟨4, ⟨some 85, .cvb, [.tmp 84], none⟩, []⟩,
                             ⟨8, ⟨some 89, (.call 34), [.tmp 86, .tmp 88], none⟩, [4]⟩,
                             ⟨9, ⟨some 90, .cvb, [.tmp 89], none⟩, []⟩,
                             ⟨10, ⟨some 91, (.eqg true 6), [.tmp 85, .tmp 90], none⟩, []⟩])
                           (.cond (.tmp 91)
                            (.seq (.run [4] [⟨some 4, .mv, [.const (.bool false)], none⟩])
                             .ret)
                            .skip))
                          (.seq (.run [7, 9, 55, 56, 57, 67] [⟨some 63, .mv, [.tmp 7], none⟩,
                             ⟨some 64, (.call 30), [.tmp 63], none⟩,
                             ⟨some 65, .mv, [.tmp 9], none⟩,
                             ⟨some 66, (.call 35), [.tmp 65], none⟩,
                             ⟨some 67, (.eqg true 6), [.tmp 64, .tmp 66], none⟩])
                           (.cond (.tmp 67)
                            (.seq (.run [4] [⟨some 4, .mv, [.const (.bool false)], none⟩])
                             .ret)
                            .skip))))))))
                    (.seq (.run [7, 9, 55, 56, 57, 103] [⟨some 92, .mv, [.tmp 7], none⟩,
                       ⟨some 93, (.call 27), [.tmp 92], none⟩,
                       ⟨some 94, .mv, [.tmp 9], none⟩,
                       ⟨some 95, (.call 36), [.tmp 94], none⟩,
                       ⟨some 96, (.eqg true 6), [.tmp 93, .tmp 95], none⟩,
                       ⟨some 97, .mv, [.tmp 96], none⟩,
                       ⟨some 98, .mv, [.tmp 7], some (97, false)⟩,
                       ⟨some 99, (.call 28), [.tmp 98], some (97, false)⟩,
                       ⟨some 100, .mv, [.tmp 9], some (97, false)⟩,
                       ⟨some 101, (.call 37), [.tmp 100], some (97, false)⟩,
                       ⟨some 102, (.eqg true 0), [.tmp 99, .tmp 101], some (97, false)⟩,
                       ⟨some 103, .pick, [.tmp 97, .const (.bool true), .tmp 102], none⟩])
                     (.cond (.tmp 103)
                      (.seq (.run [4] [⟨some 4, .mv, [.const (.bool false)], none⟩])
                       .ret)
                      .skip)))))
                 (.run [7, 9, 55, 56, 57] [⟨some 104, (.bin .add), [.tmp 57, .const (.int .i64 1)], none⟩,
                   ⟨some 57, .mv, [.tmp 104], none⟩])))))))
           (.seq (.run [4] [⟨some 105, (.call 26), [], none⟩,
              ⟨some 4, .mv, [.tmp 105], none⟩])
            .ret))))))))))⟩

theorem f10_ok : compF Go.Proofs.Tryd.prog 10 f10.body.hints = some f10 := by kernel_rfl


def f32 : AFun := ⟨25, 1, [.slot 2],
  (.seq (.run [0] [⟨some 2, .mv, [.const (.bool false)], none⟩])
   (.seq (.run [0, 3] [⟨some 3, .mv, [.const (.int .i64 0)], none⟩])
    (.seq (.seq (.run [0, 3, 6, 7, 8] [⟨some 6, .mv, [.tmp 0], none⟩,
        ⟨some 7, (.len 1), [.tmp 6], none⟩,
        ⟨some 8, .mv, [.const (.int .i64 0)], none⟩])
      (.block 0 (.loop [0, 3, 6, 7, 8] (.seq (.run [0, 3, 6, 7, 8, 9] [⟨some 9, (.bin .lss), [.tmp 8, .tmp 7], none⟩])
         (.seq (.cond (.tmp 9)
           .skip
           (.exit 0))
          (.seq (.block 1 (.seq (.run [0, 3, 5, 6, 7, 8] [⟨some 10, (.iaddr 3), [.tmp 6, .tmp 8], none⟩,
               ⟨some 11, (.ld true 3), [.tmp 10], none⟩,
               ⟨some 5, (.alloc [(.int .i64 0), (.sl [] .nil), (.int .i64 0)]), [], none⟩,
               ⟨none, (.st 3), [.tmp 5, .tmp 11], none⟩])
             (.run [0, 3, 6, 7, 8] [⟨some 12, .mv, [.tmp 3], none⟩,
               ⟨some 13, (.faddr 1), [.tmp 5], none⟩,
               ⟨some 14, (.ld false 1), [.tmp 13], none⟩,
               ⟨some 15, (.len 1), [.tmp 14], none⟩,
               ⟨some 16, (.bin .add), [.tmp 12, .tmp 15], none⟩,
               ⟨some 3, .mv, [.tmp 16], none⟩])))
           (.run [0, 3, 6, 7, 8] [⟨some 17, (.bin .add), [.tmp 8, .const (.int .i64 1)], none⟩,
             ⟨some 8, .mv, [.tmp 17], none⟩])))))))
     (.seq (.run [2] [⟨some 18, .mv, [.tmp 0], none⟩,
        ⟨some 19, (.len 1), [.tmp 18], none⟩,
        ⟨some 20, (.bin .gtr), [.tmp 19, .const (.int .i64 50)], none⟩,
        ⟨some 21, .mv, [.tmp 20], none⟩,
        ⟨some 22, .mv, [.tmp 3], some (21, false)⟩,
        ⟨some 23, (.bin .gtr), [.tmp 22, .const (.int .i64 1000)], some (21, false)⟩,
        ⟨some 24, .pick, [.tmp 21, .const (.bool true), .tmp 23], none⟩,
        ⟨some 2, .mv, [.tmp 24], none⟩])
      .ret))))⟩

theorem f32_ok : compF Go.Proofs.Tryd.prog 32 f32.body.hints = some f32 := by kernel_rfl

end Go.AL.Fun
