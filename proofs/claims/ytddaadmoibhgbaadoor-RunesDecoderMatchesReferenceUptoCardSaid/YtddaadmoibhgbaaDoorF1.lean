/- The functions of this seat's program, turned. Printed by a program; each is checked against the program. -/
import Derived.Test.YtddaadmoibhgbaaDoorB3
import Derived.Test.YtddaadmoibhgbaaDoorProg
import Derived.KernelRfl
namespace Go.AL.Fun
open Go.AL


def f3 : AFun := ⟨104, 2, [.slot 4],
  (.seq (.run [0, 1] [⟨some 4, .mv, [.const (.bool false)], none⟩])
   (.seq (.run [0, 1, 5] [⟨some 5, .mv, [.const (.pointer none)], none⟩])
    (.seq (.seq (.run [0, 1, 29] [⟨some 13, .mv, [.tmp 5], none⟩,
        ⟨some 14, (.bslice 1 1 [(.int .u8 0)] [(0, 1)]), [.const (.int .u8 97)], none⟩,
        ⟨some 15, .cvm, [.tmp 14], none⟩,
        ⟨some 16, (.call 9), [.tmp 13, .tmp 15], none⟩,
        ⟨some 17, (.len 1), [.tmp 16], none⟩,
        ⟨some 18, (.eqg true 6), [.tmp 17, .const (.int .i64 0)], none⟩,
        ⟨some 19, .mv, [.tmp 18], none⟩,
        ⟨some 20, .mv, [.tmp 5], some (19, false)⟩,
        ⟨some 21, (.call 10), [.tmp 20], some (19, false)⟩,
        ⟨some 22, (.len 1), [.tmp 21], some (19, false)⟩,
        ⟨some 23, (.eqg true 6), [.tmp 22, .const (.int .i64 0)], some (19, false)⟩,
        ⟨some 24, .pick, [.tmp 19, .const (.bool true), .tmp 23], none⟩,
        ⟨some 25, .mv, [.tmp 24], none⟩,
        ⟨some 26, .mv, [.tmp 5], some (25, false)⟩,
        ⟨some 27, (.call 11), [.tmp 26], some (25, false)⟩,
        ⟨some 28, (.eqg true 6), [.tmp 27, .const (.int .i64 0)], some (25, false)⟩,
        ⟨some 29, .pick, [.tmp 25, .const (.bool true), .tmp 28], none⟩])
      (.cond (.tmp 29)
       (.seq (.run [4] [⟨some 4, .mv, [.const (.bool false)], none⟩])
        .ret)
       .skip))
     (.seq (.run [0, 1, 6] [⟨some 6, .mv, [.const (.int .i64 0)], none⟩])
      (.seq (.seq (.run [0, 1, 6, 30, 31, 32] [⟨some 30, .mv, [.tmp 0], none⟩,
          ⟨some 31, (.len 1), [.tmp 30], none⟩,
          ⟨some 32, .mv, [.const (.int .i64 0)], none⟩])
        (.block 0 (.loop [0, 1, 6, 30, 31, 32] (.seq (.run [0, 1, 6, 30, 31, 32, 33] [⟨some 33, (.bin .lss), [.tmp 32, .tmp 31], none⟩])
           (.seq (.cond (.tmp 33)
             .skip
             (.exit 0))
            (.seq (.block 1 (.seq (.run [0, 1, 6, 8, 30, 31, 32] [⟨some 34, (.iaddr 1), [.tmp 30, .tmp 32], none⟩,
                 ⟨some 35, (.ld false 1), [.tmp 34], none⟩,
                 ⟨some 8, .mv, [.tmp 35], none⟩])
               (.run [0, 1, 6, 30, 31, 32] [⟨some 36, .mv, [.tmp 6], none⟩,
                 ⟨some 37, .mv, [.tmp 8], none⟩,
                 ⟨some 38, (.len 1), [.tmp 37], none⟩,
                 ⟨some 39, (.bin .add), [.tmp 36, .tmp 38], none⟩,
                 ⟨some 6, .mv, [.tmp 39], none⟩])))
             (.run [0, 1, 6, 30, 31, 32] [⟨some 40, (.bin .add), [.tmp 32, .const (.int .i64 1)], none⟩,
               ⟨some 32, .mv, [.tmp 40], none⟩])))))))
       (.seq (.seq (.run [0, 1, 47] [⟨some 41, .mv, [.tmp 6], none⟩,
           ⟨some 42, (.bin .gtr), [.tmp 41, .const (.int .i64 2000)], none⟩,
           ⟨some 43, .mv, [.tmp 42], none⟩,
           ⟨some 44, .mv, [.tmp 0], some (43, false)⟩,
           ⟨some 45, (.len 1), [.tmp 44], some (43, false)⟩,
           ⟨some 46, (.bin .gtr), [.tmp 45, .const (.int .i64 200)], some (43, false)⟩,
           ⟨some 47, .pick, [.tmp 43, .const (.bool true), .tmp 46], none⟩])
         (.cond (.tmp 47)
          (.seq (.run [4] [⟨some 48, (.call 12), [], none⟩,
             ⟨some 4, .mv, [.tmp 48], none⟩])
           .ret)
          .skip))
        (.seq (.run [0, 1, 9, 10] [⟨some 49, (.call 13), [], none⟩,
           ⟨some 50, (.build [(.str [])] []), [], none⟩,
           ⟨some 51, .box, [.tmp 50], none⟩,
           ⟨some 9, .mv, [.tmp 49], none⟩,
           ⟨some 10, .mv, [.tmp 51], none⟩])
         (.seq (.seq (.run [0, 1, 9, 10, 53] [⟨some 52, .mv, [.tmp 9], none⟩,
             ⟨some 53, (.eqg false 1), [.tmp 52, .const (.pointer none)], none⟩])
           (.cond (.tmp 53)
            (.seq (.run [4] [⟨some 4, .mv, [.const (.bool false)], none⟩])
             .ret)
            .skip))
          (.seq (.seq (.run [1, 9, 10, 54, 55, 56] [⟨some 54, .mv, [.tmp 0], none⟩,
              ⟨some 55, (.len 1), [.tmp 54], none⟩,
              ⟨some 56, .mv, [.const (.int .i64 0)], none⟩])
            (.block 2 (.loop [1, 9, 10, 54, 55, 56] (.seq (.run [1, 9, 10, 54, 55, 56, 57] [⟨some 57, (.bin .lss), [.tmp 56, .tmp 55], none⟩])
               (.seq (.cond (.tmp 57)
                 .skip
                 (.exit 2))
                (.seq (.block 3 (.seq (.run [1, 9, 10, 11, 12, 54, 55, 56] [⟨some 58, .mv, [.tmp 56], none⟩,
                     ⟨some 59, (.iaddr 1), [.tmp 54, .tmp 56], none⟩,
                     ⟨some 60, (.ld false 1), [.tmp 59], none⟩,
                     ⟨some 11, .mv, [.tmp 58], none⟩,
                     ⟨some 12, .mv, [.tmp 60], none⟩])
                   (.seq (.seq (.runD [1, 9, 10, 11, 54, 55, 56, 78] [⟨0, ⟨some 61, .mv, [.tmp 9], none⟩, []⟩,
                       ⟨1, ⟨some 62, .mv, [.tmp 12], none⟩, []⟩,
                       ⟨3, ⟨some 64, .mv, [.tmp 10], none⟩, []⟩,
                       ⟨4, ⟨some 65, .mv, [.tmp 12], none⟩, []⟩,
                       ⟨2, ⟨some 63, (.call 9), [.tmp 61, .tmp 62], none⟩, []⟩,
                       ⟨5, ⟨some 66, (.call 15), [.tmp 64, .tmp 65], none⟩, []⟩,
                       ⟨6, ⟨some 67, (.call 14), [.tmp 63, .tmp 66], none⟩, []⟩,
                       ⟨7, ⟨some 68, (.un .not), [.tmp 67], none⟩, []⟩,
                       ⟨8, ⟨some 69, .mv, [.tmp 68], none⟩, []⟩,
                       ⟨9, ⟨some 70, .mv, [.tmp 9], some (69, false)⟩, []⟩,
                       ⟨11, ⟨some 72, .mv, [.tmp 10], some (69, false)⟩, []⟩,
                       ⟨12, ⟨some 73, .nilck, [.tmp 72], some (69, false)⟩, []⟩,
                       ⟨13, ⟨some 74, (.faddr 0), [.tmp 73], some (69, false)⟩, []⟩,
                       ⟨14, ⟨some 75, (.ld false 1), [.tmp 74], some (69, false)⟩, []⟩,
                       ⟨15, ⟨some 76, (.len 0), [.tmp 75], some (69, false)⟩, []⟩,
                       ⟨10, ⟨some 71, (.call 11), [.tmp 70], some (69, false)⟩, [14]⟩,
                       ⟨16, ⟨some 77, (.eqg true 6), [.tmp 71, .tmp 76], some (69, false)⟩, []⟩,
                       ⟨17, ⟨some 78, .pick, [.tmp 69, .const (.bool true), .tmp 77], none⟩, []⟩])
                     (.cond (.tmp 78)
                      (.seq (.run [4] [⟨some 4, .mv, [.const (.bool false)], none⟩])
                       .ret)
                      .skip))
                    (.seq (.run [1, 9, 10, 54, 55, 56, 101] [⟨some 79, .mv, [.tmp 11], none⟩,
                       ⟨some 80, .mv, [.tmp 1], none⟩,
                       ⟨some 81, (.len 1), [.tmp 80], none⟩,
                       ⟨some 82, (.bin .lss), [.tmp 79, .tmp 81], none⟩,
                       ⟨some 83, .mv, [.tmp 82], none⟩,
                       ⟨some 84, .mv, [.tmp 1], some (83, true)⟩,
                       ⟨some 85, .mv, [.tmp 11], some (83, true)⟩,
                       ⟨some 86, (.iaddr 1), [.tmp 84, .tmp 85], some (83, true)⟩,
                       ⟨some 87, (.ld false 1), [.tmp 86], some (83, true)⟩,
                       ⟨some 88, .pick, [.tmp 83, .tmp 87, .const (.bool false)], none⟩,
                       ⟨some 89, .mv, [.tmp 88], none⟩,
                       ⟨some 90, .mv, [.tmp 9], some (89, true)⟩,
                       ⟨some 91, (.call 10), [.tmp 90], some (89, true)⟩,
                       ⟨some 92, .mv, [.tmp 10], some (89, true)⟩,
                       ⟨some 93, (.call 16), [.tmp 92], some (89, true)⟩,
                       ⟨some 94, (.call 14), [.tmp 91, .tmp 93], some (89, true)⟩,
                       ⟨some 95, (.un .not), [.tmp 94], some (89, true)⟩,
                       ⟨some 96, .mv, [.tmp 95], some (89, true)⟩,
                       ⟨some 97, .mv, [.tmp 9], some (96, false)⟩,
                       ⟨some 98, (.call 11), [.tmp 97], some (96, false)⟩,
                       ⟨some 99, (.eqg true 6), [.tmp 98, .const (.int .i64 0)], some (96, false)⟩,
                       ⟨some 100, .pick, [.tmp 96, .const (.bool true), .tmp 99], some (89, true)⟩,
                       ⟨some 101, .pick, [.tmp 89, .tmp 100, .const (.bool false)], none⟩])
                     (.cond (.tmp 101)
                      (.seq (.run [4] [⟨some 4, .mv, [.const (.bool false)], none⟩])
                       .ret)
                      .skip)))))
                 (.run [1, 9, 10, 54, 55, 56] [⟨some 102, (.bin .add), [.tmp 56, .const (.int .i64 1)], none⟩,
                   ⟨some 56, .mv, [.tmp 102], none⟩])))))))
           (.seq (.run [4] [⟨some 103, (.call 12), [], none⟩,
              ⟨some 4, .mv, [.tmp 103], none⟩])
            .ret))))))))))⟩

theorem f3_ok : compF Go.Proofs.Tryd.prog 3 f3.body.hints = some f3 := by kernel_rfl


def f4 : AFun := ⟨82, 2, [.slot 4],
  (.seq (.run [0, 1] [⟨some 4, .mv, [.const (.bool false)], none⟩])
   (.seq (.run [0, 1, 5] [⟨some 10, (.call 13), [], none⟩,
      ⟨some 5, .mv, [.tmp 10], none⟩])
    (.seq (.seq (.run [0, 1, 5, 27] [⟨some 11, .mv, [.tmp 0], none⟩,
        ⟨some 12, (.len 0), [.tmp 11], none⟩,
        ⟨some 13, (.bin .gtr), [.tmp 12, .const (.int .i64 3000)], none⟩,
        ⟨some 14, .mv, [.tmp 13], none⟩,
        ⟨some 15, .mv, [.tmp 1], some (14, false)⟩,
        ⟨some 16, (.len 1), [.tmp 15], some (14, false)⟩,
        ⟨some 17, (.eqg false 6), [.tmp 16, .const (.int .i64 0)], some (14, false)⟩,
        ⟨some 18, .pick, [.tmp 14, .const (.bool true), .tmp 17], none⟩,
        ⟨some 19, .mv, [.tmp 18], none⟩,
        ⟨some 20, .mv, [.tmp 1], some (19, false)⟩,
        ⟨some 21, (.len 1), [.tmp 20], some (19, false)⟩,
        ⟨some 22, (.bin .gtr), [.tmp 21, .const (.int .i64 100)], some (19, false)⟩,
        ⟨some 23, .pick, [.tmp 19, .const (.bool true), .tmp 22], none⟩,
        ⟨some 24, .mv, [.tmp 23], none⟩,
        ⟨some 25, .mv, [.tmp 5], some (24, false)⟩,
        ⟨some 26, (.eqg false 1), [.tmp 25, .const (.pointer none)], some (24, false)⟩,
        ⟨some 27, .pick, [.tmp 24, .const (.bool true), .tmp 26], none⟩])
      (.cond (.tmp 27)
       (.seq (.run [4] [⟨some 28, (.call 12), [], none⟩,
          ⟨some 4, .mv, [.tmp 28], none⟩])
        .ret)
       .skip))
     (.seq (.run [0, 1, 5, 6] [⟨some 6, .mv, [.const (.slice none 0 0)], none⟩])
      (.seq (.run [0, 1, 5, 6, 7] [⟨some 29, .mv, [.tmp 0], none⟩,
         ⟨some 30, .sb, [.tmp 29], none⟩,
         ⟨some 7, .mv, [.tmp 30], none⟩])
       (.seq (.seq (.run [0, 1, 5, 6, 7, 8] [⟨some 8, .mv, [.const (.int .i64 0)], none⟩])
         (.block 0 (.loop [0, 1, 5, 6, 7, 8] (.seq (.seq (.run [0, 1, 5, 6, 7, 8, 33] [⟨some 31, .mv, [.tmp 7], none⟩,
               ⟨some 32, (.len 1), [.tmp 31], none⟩,
               ⟨some 33, (.bin .gtr), [.tmp 32, .const (.int .i64 0)], none⟩])
             (.cond (.tmp 33)
              .skip
              (.exit 0)))
            (.seq (.block 1 (.seq (.run [0, 1, 5, 6, 7, 8, 9] [⟨some 36, .mv, [.tmp 7], none⟩,
                 ⟨some 37, (.len 1), [.tmp 36], none⟩,
                 ⟨some 38, .mv, [.tmp 1], none⟩,
                 ⟨some 39, .mv, [.tmp 8], none⟩,
                 ⟨some 40, .mv, [.tmp 1], none⟩,
                 ⟨some 41, (.len 1), [.tmp 40], none⟩,
                 ⟨some 42, (.bin .rem), [.tmp 39, .tmp 41], none⟩,
                 ⟨some 43, (.iaddr 1), [.tmp 38, .tmp 42], none⟩,
                 ⟨some 44, (.ld false 1), [.tmp 43], none⟩,
                 ⟨some 45, (.cvi .i64), [.tmp 44], none⟩,
                 ⟨some 46, (.bin .add), [.const (.int .i64 1), .tmp 45], none⟩,
                 ⟨some 47, .min, [.tmp 37, .tmp 46], none⟩,
                 ⟨some 9, .mv, [.tmp 47], none⟩])
               (.seq (.run [0, 1, 5, 6, 7, 8, 9] [⟨some 48, .mv, [.tmp 6], none⟩,
                  ⟨some 49, .mv, [.tmp 5], none⟩,
                  ⟨some 50, .mv, [.tmp 7], none⟩,
                  ⟨some 51, .mv, [.tmp 9], none⟩,
                  ⟨some 52, (.slc 1 false true), [.tmp 50, .tmp 51], none⟩,
                  ⟨some 53, (.call 9), [.tmp 49, .tmp 52], none⟩,
                  ⟨some 54, (.app 1 4), [.tmp 48, .tmp 53], none⟩,
                  ⟨some 6, .mv, [.tmp 54], none⟩])
                (.seq (.run [0, 1, 5, 6, 7, 8] [⟨some 55, .mv, [.tmp 7], none⟩,
                   ⟨some 56, .mv, [.tmp 9], none⟩,
                   ⟨some 57, (.slc 1 true false), [.tmp 55, .tmp 56], none⟩,
                   ⟨some 7, .mv, [.tmp 57], none⟩])
                 (.seq (.run [0, 1, 5, 6, 7, 8, 65] [⟨some 58, .mv, [.tmp 5], none⟩,
                    ⟨some 59, (.call 11), [.tmp 58], none⟩,
                    ⟨some 60, (.bin .lss), [.tmp 59, .const (.int .i64 0)], none⟩,
                    ⟨some 61, .mv, [.tmp 60], none⟩,
                    ⟨some 62, .mv, [.tmp 5], some (61, false)⟩,
                    ⟨some 63, (.call 11), [.tmp 62], some (61, false)⟩,
                    ⟨some 64, (.bin .gtr), [.tmp 63, .const (.int .i64 3)], some (61, false)⟩,
                    ⟨some 65, .pick, [.tmp 61, .const (.bool true), .tmp 64], none⟩])
                  (.cond (.tmp 65)
                   (.seq (.run [4] [⟨some 4, .mv, [.const (.bool false)], none⟩])
                    .ret)
                   .skip))))))
             (.run [0, 1, 5, 6, 7, 8] [⟨some 34, .mv, [.tmp 8], none⟩,
               ⟨some 35, (.bin .add), [.tmp 34, .const (.int .i64 1)], none⟩,
               ⟨some 8, .mv, [.tmp 35], none⟩]))))))
        (.seq (.run [0, 5, 6] [⟨some 66, .mv, [.tmp 6], none⟩,
           ⟨some 67, .mv, [.tmp 5], none⟩,
           ⟨some 68, (.call 10), [.tmp 67], none⟩,
           ⟨some 69, (.app 1 4), [.tmp 66, .tmp 68], none⟩,
           ⟨some 6, .mv, [.tmp 69], none⟩])
         (.seq (.run [4] [⟨some 70, (.call 12), [], none⟩,
            ⟨some 71, .mv, [.tmp 70], none⟩,
            ⟨some 72, .mv, [.tmp 6], some (71, true)⟩,
            ⟨some 73, .mv, [.tmp 0], some (71, true)⟩,
            ⟨some 74, (.call 17), [.tmp 73], some (71, true)⟩,
            ⟨some 75, (.call 14), [.tmp 72, .tmp 74], some (71, true)⟩,
            ⟨some 76, .pick, [.tmp 71, .tmp 75, .const (.bool false)], none⟩,
            ⟨some 77, .mv, [.tmp 76], none⟩,
            ⟨some 78, .mv, [.tmp 5], some (77, true)⟩,
            ⟨some 79, (.call 11), [.tmp 78], some (77, true)⟩,
            ⟨some 80, (.eqg false 6), [.tmp 79, .const (.int .i64 0)], some (77, true)⟩,
            ⟨some 81, .pick, [.tmp 77, .tmp 80, .const (.bool false)], none⟩,
            ⟨some 4, .mv, [.tmp 81], none⟩])
          .ret))))))))⟩

theorem f4_ok : compF Go.Proofs.Tryd.prog 4 f4.body.hints = some f4 := by kernel_rfl


def f5 : AFun := ⟨15, 1, [.slot 2],
  (.seq (.run [0] [⟨some 2, .mv, [.const (.bool false)], none⟩])
   (.seq (.seq (.run [0, 5] [⟨some 3, .mv, [.tmp 0], none⟩,
       ⟨some 4, (.len 1), [.tmp 3], none⟩,
       ⟨some 5, (.bin .gtr), [.tmp 4, .const (.int .i64 1000)], none⟩])
     (.cond (.tmp 5)
      (.seq (.run [2] [⟨some 6, (.call 12), [], none⟩,
         ⟨some 2, .mv, [.tmp 6], none⟩])
       .ret)
      .skip))
    (.seq (.run [2] [⟨some 7, (.call 12), [], none⟩,
       ⟨some 8, .mv, [.tmp 7], none⟩,
       ⟨some 9, .mv, [.tmp 0], some (8, true)⟩,
       ⟨some 10, (.call 18), [.tmp 9], some (8, true)⟩,
       ⟨some 11, .mv, [.tmp 0], some (8, true)⟩,
       ⟨some 12, (.call 19), [.tmp 11], some (8, true)⟩,
       ⟨some 13, (.eqg false 6), [.tmp 10, .tmp 12], some (8, true)⟩,
       ⟨some 14, .pick, [.tmp 8, .tmp 13, .const (.bool false)], none⟩,
       ⟨some 2, .mv, [.tmp 14], none⟩])
     .ret)))⟩

theorem f5_ok : compF Go.Proofs.Tryd.prog 5 f5.body.hints = some f5 := by kernel_rfl


def f6 : AFun := ⟨22, 1, [.slot 2],
  (.seq (.run [0] [⟨some 2, .mv, [.const (.bool false)], none⟩])
   (.seq (.seq (.run [0, 5] [⟨some 3, .mv, [.tmp 0], none⟩,
       ⟨some 4, (.len 0), [.tmp 3], none⟩,
       ⟨some 5, (.bin .gtr), [.tmp 4, .const (.int .i64 3000)], none⟩])
     (.cond (.tmp 5)
      (.seq (.run [2] [⟨some 6, (.call 12), [], none⟩,
         ⟨some 2, .mv, [.tmp 6], none⟩])
       .ret)
      .skip))
    (.seq (.run [2] [⟨some 7, (.call 12), [], none⟩,
       ⟨some 8, .mv, [.tmp 7], none⟩,
       ⟨some 9, .mv, [.tmp 0], some (8, true)⟩,
       ⟨some 10, (.call 17), [.tmp 9], some (8, true)⟩,
       ⟨some 11, .mv, [.tmp 0], some (8, true)⟩,
       ⟨some 12, (.call 20), [.tmp 11], some (8, true)⟩,
       ⟨some 13, (.call 14), [.tmp 10, .tmp 12], some (8, true)⟩,
       ⟨some 14, .pick, [.tmp 8, .tmp 13, .const (.bool false)], none⟩,
       ⟨some 15, .mv, [.tmp 14], none⟩,
       ⟨some 16, .mv, [.tmp 0], some (15, true)⟩,
       ⟨some 17, (.call 21), [.tmp 16], some (15, true)⟩,
       ⟨some 18, .mv, [.tmp 0], some (15, true)⟩,
       ⟨some 19, (.call 22), [.tmp 18], some (15, true)⟩,
       ⟨some 20, (.eqg false 0), [.tmp 17, .tmp 19], some (15, true)⟩,
       ⟨some 21, .pick, [.tmp 15, .tmp 20, .const (.bool false)], none⟩,
       ⟨some 2, .mv, [.tmp 21], none⟩])
     .ret)))⟩

theorem f6_ok : compF Go.Proofs.Tryd.prog 6 f6.body.hints = some f6 := by kernel_rfl


def f7 : AFun := ⟨41, 2, [.slot 4],
  (.seq (.run [0, 1] [⟨some 4, .mv, [.const (.bool false)], none⟩])
   (.seq (.seq (.run [0, 1, 17] [⟨some 5, .mv, [.tmp 0], none⟩,
       ⟨some 6, (.len 0), [.tmp 5], none⟩,
       ⟨some 7, (.bin .gtr), [.tmp 6, .const (.int .i64 2000)], none⟩,
       ⟨some 8, .mv, [.tmp 7], none⟩,
       ⟨some 9, .mv, [.tmp 1], some (8, false)⟩,
       ⟨some 10, (.len 0), [.tmp 9], some (8, false)⟩,
       ⟨some 11, (.bin .gtr), [.tmp 10, .const (.int .i64 2000)], some (8, false)⟩,
       ⟨some 12, .pick, [.tmp 8, .const (.bool true), .tmp 11], none⟩,
       ⟨some 13, .mv, [.tmp 12], none⟩,
       ⟨some 14, .mv, [.tmp 0], some (13, false)⟩,
       ⟨some 15, (.call 21), [.tmp 14], some (13, false)⟩,
       ⟨some 16, (.un .not), [.tmp 15], some (13, false)⟩,
       ⟨some 17, .pick, [.tmp 13, .const (.bool true), .tmp 16], none⟩])
     (.cond (.tmp 17)
      (.seq (.run [4] [⟨some 18, (.call 12), [], none⟩,
         ⟨some 4, .mv, [.tmp 18], none⟩])
       .ret)
      .skip))
    (.seq (.run [4] [⟨some 19, (.call 12), [], none⟩,
       ⟨some 20, .mv, [.tmp 19], none⟩,
       ⟨some 21, .mv, [.tmp 0], some (20, true)⟩,
       ⟨some 22, .mv, [.tmp 1], some (20, true)⟩,
       ⟨some 23, (.bin .add), [.tmp 21, .tmp 22], some (20, true)⟩,
       ⟨some 24, (.call 17), [.tmp 23], some (20, true)⟩,
       ⟨some 25, .mv, [.tmp 0], some (20, true)⟩,
       ⟨some 26, (.call 17), [.tmp 25], some (20, true)⟩,
       ⟨some 27, .mv, [.tmp 1], some (20, true)⟩,
       ⟨some 28, (.call 17), [.tmp 27], some (20, true)⟩,
       ⟨some 29, (.app 1 4), [.tmp 26, .tmp 28], some (20, true)⟩,
       ⟨some 30, (.call 14), [.tmp 24, .tmp 29], some (20, true)⟩,
       ⟨some 31, .pick, [.tmp 20, .tmp 30, .const (.bool false)], none⟩,
       ⟨some 32, .mv, [.tmp 31], none⟩,
       ⟨some 33, .mv, [.tmp 0], some (32, true)⟩,
       ⟨some 34, .mv, [.tmp 1], some (32, true)⟩,
       ⟨some 35, (.bin .add), [.tmp 33, .tmp 34], some (32, true)⟩,
       ⟨some 36, (.call 21), [.tmp 35], some (32, true)⟩,
       ⟨some 37, .mv, [.tmp 1], some (32, true)⟩,
       ⟨some 38, (.call 21), [.tmp 37], some (32, true)⟩,
       ⟨some 39, (.eqg false 0), [.tmp 36, .tmp 38], some (32, true)⟩,
       ⟨some 40, .pick, [.tmp 32, .tmp 39, .const (.bool false)], none⟩,
       ⟨some 4, .mv, [.tmp 40], none⟩])
     .ret)))⟩

theorem f7_ok : compF Go.Proofs.Tryd.prog 7 f7.body.hints = some f7 := by kernel_rfl


def f8 : AFun := ⟨39, 1, [.slot 2],
  (.seq (.run [0] [⟨some 2, .mv, [.const (.bool false)], none⟩])
   (.seq (.seq (.run [0, 7] [⟨some 5, .mv, [.tmp 0], none⟩,
       ⟨some 6, (.len 0), [.tmp 5], none⟩,
       ⟨some 7, (.bin .gtr), [.tmp 6, .const (.int .i64 3000)], none⟩])
     (.cond (.tmp 7)
      (.seq (.run [2] [⟨some 8, (.call 12), [], none⟩,
         ⟨some 2, .mv, [.tmp 8], none⟩])
       .ret)
      .skip))
    (.seq (.run [0, 3] [⟨some 9, .mv, [.tmp 0], none⟩,
       ⟨some 10, (.call 17), [.tmp 9], none⟩,
       ⟨some 3, .mv, [.tmp 10], none⟩])
     (.seq (.run [0, 3, 4] [⟨some 11, .mv, [.tmp 3], none⟩,
        ⟨some 12, (.call 18), [.tmp 11], none⟩,
        ⟨some 4, .mv, [.tmp 12], none⟩])
      (.seq (.run [2] [⟨some 13, (.call 12), [], none⟩,
         ⟨some 14, .mv, [.tmp 13], none⟩,
         ⟨some 15, .mv, [.tmp 4], some (14, true)⟩,
         ⟨some 16, (.call 21), [.tmp 15], some (14, true)⟩,
         ⟨some 17, .pick, [.tmp 14, .tmp 16, .const (.bool false)], none⟩,
         ⟨some 18, .mv, [.tmp 17], none⟩,
         ⟨some 19, .mv, [.tmp 4], some (18, true)⟩,
         ⟨some 20, .mv, [.tmp 0], some (18, true)⟩,
         ⟨some 21, (.eqg false 6), [.tmp 19, .tmp 20], some (18, true)⟩,
         ⟨some 22, .mv, [.tmp 0], some (18, true)⟩,
         ⟨some 23, (.call 21), [.tmp 22], some (18, true)⟩,
         ⟨some 24, (.eqg false 0), [.tmp 21, .tmp 23], some (18, true)⟩,
         ⟨some 25, .pick, [.tmp 18, .tmp 24, .const (.bool false)], none⟩,
         ⟨some 26, .mv, [.tmp 25], none⟩,
         ⟨some 27, .mv, [.tmp 4], some (26, true)⟩,
         ⟨some 28, (.call 17), [.tmp 27], some (26, true)⟩,
         ⟨some 29, .mv, [.tmp 3], some (26, true)⟩,
         ⟨some 30, (.call 14), [.tmp 28, .tmp 29], some (26, true)⟩,
         ⟨some 31, .pick, [.tmp 26, .tmp 30, .const (.bool false)], none⟩,
         ⟨some 32, .mv, [.tmp 31], none⟩,
         ⟨some 33, .mv, [.tmp 3], some (32, true)⟩,
         ⟨some 34, (.len 1), [.tmp 33], some (32, true)⟩,
         ⟨some 35, .mv, [.tmp 0], some (32, true)⟩,
         ⟨some 36, (.len 0), [.tmp 35], some (32, true)⟩,
         ⟨some 37, (.bin .leq), [.tmp 34, .tmp 36], some (32, true)⟩,
         ⟨some 38, .pick, [.tmp 32, .tmp 37, .const (.bool false)], none⟩,
         ⟨some 2, .mv, [.tmp 38], none⟩])
       .ret)))))⟩

theorem f8_ok : compF Go.Proofs.Tryd.prog 8 f8.body.hints = some f8 := by kernel_rfl


def f9 : AFun := ⟨42, 2, [.slot 4],
  (.seq (.run [0, 1] [⟨some 4, .mv, [.const (.slice none 0 0)], none⟩])
   (.seq (.seq (.run [0, 1, 10] [⟨some 9, .mv, [.tmp 0], none⟩,
       ⟨some 10, (.eqg false 1), [.tmp 9, .const (.pointer none)], none⟩])
     (.cond (.tmp 10)
      (.seq (.run [4] [⟨some 4, .mv, [.const (.slice none 0 0)], none⟩])
       .ret)
      .skip))
    (.seq (.run [0, 5] [⟨some 11, .mv, [.tmp 0], none⟩,
       ⟨some 12, .nilck, [.tmp 11], none⟩,
       ⟨some 13, (.faddr 0), [.tmp 12], none⟩,
       ⟨some 14, (.ld false 1), [.tmp 13], none⟩,
       ⟨some 15, .mv, [.tmp 1], none⟩,
       ⟨some 16, (.bslice 1 2 [(.sl [] .nil)] [(0, 1), (1, 1)]), [.tmp 14, .tmp 15], none⟩,
       ⟨some 17, (.call 23), [.tmp 16], none⟩,
       ⟨some 5, .mv, [.tmp 17], none⟩])
     (.seq (.run [0, 5, 6] [⟨some 6, .mv, [.const (.slice none 0 0)], none⟩])
      (.seq (.block 0 (.loop [0, 5, 6] (.seq (.seq (.run [0, 5, 6, 24] [⟨some 18, .mv, [.tmp 5], none⟩,
             ⟨some 19, (.len 1), [.tmp 18], none⟩,
             ⟨some 20, (.bin .gtr), [.tmp 19, .const (.int .i64 0)], none⟩,
             ⟨some 21, .mv, [.tmp 20], none⟩,
             ⟨some 22, .mv, [.tmp 5], some (21, true)⟩,
             ⟨some 23, (.call 24), [.tmp 22], some (21, true)⟩,
             ⟨some 24, .pick, [.tmp 21, .tmp 23, .const (.bool false)], none⟩])
           (.cond (.tmp 24)
            .skip
            (.exit 0)))
          (.block 1 (.seq (.run [0, 5, 6, 7, 8] [⟨some 26, .mv, [.tmp 5], none⟩,
              ⟨some 27, (.call 25), [.tmp 26], none⟩,
              ⟨some 25, .mv, [.tmp 27], none⟩,
              ⟨some 28, (.ext 0), [.tmp 25], none⟩,
              ⟨some 29, (.ext 1), [.tmp 25], none⟩,
              ⟨some 7, .mv, [.tmp 28], none⟩,
              ⟨some 8, .mv, [.tmp 29], none⟩])
            (.seq (.run [0, 5, 6, 8] [⟨some 30, .mv, [.tmp 6], none⟩,
               ⟨some 31, .mv, [.tmp 7], none⟩,
               ⟨some 32, (.bslice 1 1 [(.int .i32 0)] [(0, 1)]), [.tmp 31], none⟩,
               ⟨some 33, (.app 1 4), [.tmp 30, .tmp 32], none⟩,
               ⟨some 6, .mv, [.tmp 33], none⟩])
             (.run [0, 5, 6] [⟨some 34, .mv, [.tmp 5], none⟩,
               ⟨some 35, .mv, [.tmp 8], none⟩,
               ⟨some 36, (.slc 1 true false), [.tmp 34, .tmp 35], none⟩,
               ⟨some 5, .mv, [.tmp 36], none⟩])))))))
       (.seq (.run [6] [⟨some 37, .mv, [.tmp 0], none⟩,
          ⟨some 38, .mv, [.tmp 5], none⟩,
          ⟨some 39, .nilck, [.tmp 37], none⟩,
          ⟨some 40, (.faddr 0), [.tmp 39], none⟩,
          ⟨none, (.st 1), [.tmp 40, .tmp 38], none⟩])
        (.seq (.run [4] [⟨some 41, .mv, [.tmp 6], none⟩,
           ⟨some 4, .mv, [.tmp 41], none⟩])
         .ret)))))))⟩

theorem f9_ok : compF Go.Proofs.Tryd.prog 9 f9.body.hints = some f9 := by kernel_rfl


def f10 : AFun := ⟨16, 1, [.slot 2],
  (.seq (.run [0] [⟨some 2, .mv, [.const (.slice none 0 0)], none⟩])
   (.seq (.seq (.run [0, 5] [⟨some 4, .mv, [.tmp 0], none⟩,
       ⟨some 5, (.eqg false 1), [.tmp 4, .const (.pointer none)], none⟩])
     (.cond (.tmp 5)
      (.seq (.run [2] [⟨some 2, .mv, [.const (.slice none 0 0)], none⟩])
       .ret)
      .skip))
    (.seq (.run [0, 3] [⟨some 6, .mv, [.tmp 0], none⟩,
       ⟨some 7, .nilck, [.tmp 6], none⟩,
       ⟨some 8, (.faddr 0), [.tmp 7], none⟩,
       ⟨some 9, (.ld false 1), [.tmp 8], none⟩,
       ⟨some 10, .cvb, [.tmp 9], none⟩,
       ⟨some 11, (.call 17), [.tmp 10], none⟩,
       ⟨some 3, .mv, [.tmp 11], none⟩])
     (.seq (.run [3] [⟨some 12, .mv, [.tmp 0], none⟩,
        ⟨some 13, .nilck, [.tmp 12], none⟩,
        ⟨some 14, (.faddr 0), [.tmp 13], none⟩,
        ⟨none, (.st 1), [.tmp 14, .const (.slice none 0 0)], none⟩])
      (.seq (.run [2] [⟨some 15, .mv, [.tmp 3], none⟩,
         ⟨some 2, .mv, [.tmp 15], none⟩])
       .ret)))))⟩

theorem f10_ok : compF Go.Proofs.Tryd.prog 10 f10.body.hints = some f10 := by kernel_rfl


def f11 : AFun := ⟨10, 1, [.slot 2],
  (.seq (.run [0] [⟨some 2, .mv, [.const (.int .i64 0)], none⟩])
   (.seq (.seq (.run [0, 4] [⟨some 3, .mv, [.tmp 0], none⟩,
       ⟨some 4, (.eqg false 1), [.tmp 3, .const (.pointer none)], none⟩])
     (.cond (.tmp 4)
      (.seq (.run [2] [⟨some 2, .mv, [.const (.int .i64 0)], none⟩])
       .ret)
      .skip))
    (.seq (.run [2] [⟨some 5, .mv, [.tmp 0], none⟩,
       ⟨some 6, .nilck, [.tmp 5], none⟩,
       ⟨some 7, (.faddr 0), [.tmp 6], none⟩,
       ⟨some 8, (.ld false 1), [.tmp 7], none⟩,
       ⟨some 9, (.len 1), [.tmp 8], none⟩,
       ⟨some 2, .mv, [.tmp 9], none⟩])
     .ret)))⟩

theorem f11_ok : compF Go.Proofs.Tryd.prog 11 f11.body.hints = some f11 := by kernel_rfl


def f12 : AFun := ⟨64, 0, [.slot 0],
  (.seq (.run [] [⟨some 0, .mv, [.const (.bool false)], none⟩])
   (.seq (.run [1] [⟨some 6, (.call 17), [.const (.string ⟨#[97, 255, 98]⟩)], none⟩,
      ⟨some 1, .mv, [.tmp 6], none⟩])
    (.seq (.run [1, 2] [⟨some 7, (.call 13), [], none⟩,
       ⟨some 2, .mv, [.tmp 7], none⟩])
     (.seq (.seq (.run [2, 32] [⟨some 8, .mv, [.tmp 2], none⟩,
         ⟨some 9, (.eqg false 1), [.tmp 8, .const (.pointer none)], none⟩,
         ⟨some 10, .mv, [.tmp 9], none⟩,
         ⟨some 11, .mv, [.tmp 1], some (10, false)⟩,
         ⟨some 12, (.len 1), [.tmp 11], some (10, false)⟩,
         ⟨some 13, (.eqg true 6), [.tmp 12, .const (.int .i64 3)], some (10, false)⟩,
         ⟨some 14, .pick, [.tmp 10, .const (.bool true), .tmp 13], none⟩,
         ⟨some 15, .mv, [.tmp 14], none⟩,
         ⟨some 16, .mv, [.tmp 1], some (15, false)⟩,
         ⟨some 17, (.iaddr 1), [.tmp 16, .const (.int .i64 0)], some (15, false)⟩,
         ⟨some 18, (.ld false 1), [.tmp 17], some (15, false)⟩,
         ⟨some 19, (.eqg true 6), [.tmp 18, .const (.int .i32 97)], some (15, false)⟩,
         ⟨some 20, .pick, [.tmp 15, .const (.bool true), .tmp 19], none⟩,
         ⟨some 21, .mv, [.tmp 20], none⟩,
         ⟨some 22, .mv, [.tmp 1], some (21, false)⟩,
         ⟨some 23, (.iaddr 1), [.tmp 22, .const (.int .i64 1)], some (21, false)⟩,
         ⟨some 24, (.ld false 1), [.tmp 23], some (21, false)⟩,
         ⟨some 25, (.eqg true 6), [.tmp 24, .const (.int .i32 65533)], some (21, false)⟩,
         ⟨some 26, .pick, [.tmp 21, .const (.bool true), .tmp 25], none⟩,
         ⟨some 27, .mv, [.tmp 26], none⟩,
         ⟨some 28, .mv, [.tmp 1], some (27, false)⟩,
         ⟨some 29, (.iaddr 1), [.tmp 28, .const (.int .i64 2)], some (27, false)⟩,
         ⟨some 30, (.ld false 1), [.tmp 29], some (27, false)⟩,
         ⟨some 31, (.eqg true 6), [.tmp 30, .const (.int .i32 98)], some (27, false)⟩,
         ⟨some 32, .pick, [.tmp 27, .const (.bool true), .tmp 31], none⟩])
       (.cond (.tmp 32)
        (.seq (.run [0] [⟨some 0, .mv, [.const (.bool false)], none⟩])
         .ret)
        .skip))
      (.seq (.run [2, 3] [⟨some 33, .mv, [.tmp 2], none⟩,
         ⟨some 34, (.bslice 1 1 [(.int .u8 0)] [(0, 1)]), [.const (.int .u8 195)], none⟩,
         ⟨some 35, (.call 9), [.tmp 33, .tmp 34], none⟩,
         ⟨some 3, .mv, [.tmp 35], none⟩])
       (.seq (.run [2, 3, 4] [⟨some 36, .mv, [.tmp 2], none⟩,
          ⟨some 37, (.call 11), [.tmp 36], none⟩,
          ⟨some 4, .mv, [.tmp 37], none⟩])
        (.seq (.run [2, 3, 4, 5] [⟨some 38, .mv, [.tmp 2], none⟩,
           ⟨some 39, (.bslice 1 1 [(.int .u8 0)] [(0, 1)]), [.const (.int .u8 164)], none⟩,
           ⟨some 40, (.call 9), [.tmp 38, .tmp 39], none⟩,
           ⟨some 5, .mv, [.tmp 40], none⟩])
         (.seq (.run [0] [⟨some 41, .mv, [.tmp 3], none⟩,
            ⟨some 42, (.len 1), [.tmp 41], none⟩,
            ⟨some 43, (.eqg false 6), [.tmp 42, .const (.int .i64 0)], none⟩,
            ⟨some 44, .mv, [.tmp 43], none⟩,
            ⟨some 45, .mv, [.tmp 4], some (44, true)⟩,
            ⟨some 46, (.eqg false 6), [.tmp 45, .const (.int .i64 1)], some (44, true)⟩,
            ⟨some 47, .pick, [.tmp 44, .tmp 46, .const (.bool false)], none⟩,
            ⟨some 48, .mv, [.tmp 47], none⟩,
            ⟨some 49, .mv, [.tmp 5], some (48, true)⟩,
            ⟨some 50, (.len 1), [.tmp 49], some (48, true)⟩,
            ⟨some 51, (.eqg false 6), [.tmp 50, .const (.int .i64 1)], some (48, true)⟩,
            ⟨some 52, .pick, [.tmp 48, .tmp 51, .const (.bool false)], none⟩,
            ⟨some 53, .mv, [.tmp 52], none⟩,
            ⟨some 54, .mv, [.tmp 5], some (53, true)⟩,
            ⟨some 55, (.iaddr 1), [.tmp 54, .const (.int .i64 0)], some (53, true)⟩,
            ⟨some 56, (.ld false 1), [.tmp 55], some (53, true)⟩,
            ⟨some 57, (.eqg false 6), [.tmp 56, .const (.int .i32 228)], some (53, true)⟩,
            ⟨some 58, .pick, [.tmp 53, .tmp 57, .const (.bool false)], none⟩,
            ⟨some 59, .mv, [.tmp 58], none⟩,
            ⟨some 60, .mv, [.tmp 2], some (59, true)⟩,
            ⟨some 61, (.call 11), [.tmp 60], some (59, true)⟩,
            ⟨some 62, (.eqg false 6), [.tmp 61, .const (.int .i64 0)], some (59, true)⟩,
            ⟨some 63, .pick, [.tmp 59, .tmp 62, .const (.bool false)], none⟩,
            ⟨some 0, .mv, [.tmp 63], none⟩])
          .ret))))))))⟩

theorem f12_ok : compF Go.Proofs.Tryd.prog 12 f12.body.hints = some f12 := by kernel_rfl


def f13 : AFun := ⟨3, 0, [.slot 0],
  (.seq (.run [] [⟨some 0, .mv, [.const (.pointer none)], none⟩])
   (.seq (.run [0] [⟨some 1, (.build [(.sl [] .nil)] []), [], none⟩,
      ⟨some 2, .box, [.tmp 1], none⟩,
      ⟨some 0, .mv, [.tmp 2], none⟩])
    .ret))⟩

theorem f13_ok : compF Go.Proofs.Tryd.prog 13 f13.body.hints = some f13 := by kernel_rfl


def f14 : AFun := ⟨26, 2, [.slot 4],
  (.seq (.run [0, 1] [⟨some 4, .mv, [.const (.bool false)], none⟩])
   (.seq (.seq (.run [0, 1, 10] [⟨some 6, .mv, [.tmp 0], none⟩,
       ⟨some 7, (.len 1), [.tmp 6], none⟩,
       ⟨some 8, .mv, [.tmp 1], none⟩,
       ⟨some 9, (.len 1), [.tmp 8], none⟩,
       ⟨some 10, (.eqg true 6), [.tmp 7, .tmp 9], none⟩])
     (.cond (.tmp 10)
      (.seq (.run [4] [⟨some 4, .mv, [.const (.bool false)], none⟩])
       .ret)
      .skip))
    (.seq (.seq (.run [0, 1, 12, 13] [⟨some 11, .mv, [.tmp 0], none⟩,
        ⟨some 12, (.len 1), [.tmp 11], none⟩,
        ⟨some 13, .mv, [.const (.int .i64 0)], none⟩])
      (.block 0 (.loop [0, 1, 12, 13] (.seq (.run [0, 1, 12, 13, 14] [⟨some 14, (.bin .lss), [.tmp 13, .tmp 12], none⟩])
         (.seq (.cond (.tmp 14)
           .skip
           (.exit 0))
          (.seq (.block 1 (.seq (.run [0, 1, 5, 12, 13] [⟨some 15, .mv, [.tmp 13], none⟩,
               ⟨some 5, .mv, [.tmp 15], none⟩])
             (.seq (.runD [0, 1, 12, 13, 24] [⟨0, ⟨some 16, .mv, [.tmp 0], none⟩, []⟩,
                ⟨1, ⟨some 17, .mv, [.tmp 5], none⟩, []⟩,
                ⟨2, ⟨some 18, (.iaddr 1), [.tmp 16, .tmp 17], none⟩, []⟩,
                ⟨3, ⟨some 19, (.ld false 1), [.tmp 18], none⟩, []⟩,
                ⟨4, ⟨some 20, .mv, [.tmp 1], none⟩, []⟩,
                ⟨5, ⟨some 21, .mv, [.tmp 5], none⟩, []⟩,
                ⟨6, ⟨some 22, (.iaddr 1), [.tmp 20, .tmp 21], none⟩, []⟩,
                ⟨7, ⟨some 23, (.ld false 1), [.tmp 22], none⟩, []⟩,
                ⟨8, ⟨some 24, (.eqg true 6), [.tmp 19, .tmp 23], none⟩, []⟩])
              (.cond (.tmp 24)
               (.seq (.run [4] [⟨some 4, .mv, [.const (.bool false)], none⟩])
                .ret)
               .skip))))
           (.run [0, 1, 12, 13] [⟨some 25, (.bin .add), [.tmp 13, .const (.int .i64 1)], none⟩,
             ⟨some 13, .mv, [.tmp 25], none⟩])))))))
     (.seq (.run [4] [⟨some 4, .mv, [.const (.bool true)], none⟩])
      .ret))))⟩

theorem f14_ok : compF Go.Proofs.Tryd.prog 14 f14.body.hints = some f14 := by kernel_rfl


def f15 : AFun := ⟨43, 2, [.slot 4],
  (.seq (.run [0, 1] [⟨some 4, .mv, [.const (.slice none 0 0)], none⟩])
   (.seq (.runD [0, 5] [⟨0, ⟨some 9, .mv, [.tmp 0], none⟩, []⟩,
      ⟨1, ⟨some 10, .nilck, [.tmp 9], none⟩, []⟩,
      ⟨2, ⟨some 11, (.faddr 0), [.tmp 10], none⟩, []⟩,
      ⟨3, ⟨some 12, (.ld false 1), [.tmp 11], none⟩, []⟩,
      ⟨4, ⟨some 13, .mv, [.tmp 1], none⟩, []⟩,
      ⟨5, ⟨some 14, .cvb, [.tmp 13], none⟩, []⟩,
      ⟨6, ⟨some 15, (.bin .add), [.tmp 12, .tmp 14], none⟩, []⟩,
      ⟨7, ⟨some 5, .mv, [.tmp 15], none⟩, []⟩])
    (.seq (.run [0, 5, 6] [⟨some 6, .mv, [.const (.int .i64 0)], none⟩])
     (.seq (.block 0 (.loop [0, 5, 6] (.seq (.seq (.run [0, 5, 6, 19] [⟨some 16, .mv, [.tmp 6], none⟩,
            ⟨some 17, .mv, [.tmp 5], none⟩,
            ⟨some 18, (.len 0), [.tmp 17], none⟩,
            ⟨some 19, (.bin .lss), [.tmp 16, .tmp 18], none⟩])
          (.cond (.tmp 19)
           .skip
           (.exit 0)))
         (.block 1 (.seq (.run [0, 5, 6, 7, 8] [⟨some 21, .mv, [.tmp 5], none⟩,
             ⟨some 22, .mv, [.tmp 6], none⟩,
             ⟨some 23, (.slc 0 true false), [.tmp 21, .tmp 22], none⟩,
             ⟨some 24, (.call 26), [.tmp 23], none⟩,
             ⟨some 20, .mv, [.tmp 24], none⟩,
             ⟨some 25, (.ext 0), [.tmp 20], none⟩,
             ⟨some 26, (.ext 1), [.tmp 20], none⟩,
             ⟨some 7, .mv, [.tmp 25], none⟩,
             ⟨some 8, .mv, [.tmp 26], none⟩])
           (.seq (.seq (.run [0, 5, 6, 7, 27] [⟨some 27, .mv, [.tmp 8], none⟩])
             (.cond (.tmp 27)
              (.exit 0)
              .skip))
            (.seq (.seq (.run [0, 5, 6, 7, 29] [⟨some 28, .mv, [.tmp 7], none⟩,
                ⟨some 29, (.eqg false 6), [.tmp 28, .const (.int .i64 0)], none⟩])
              (.cond (.tmp 29)
               (.run [0, 5, 6, 7] [⟨some 7, .mv, [.const (.int .i64 1)], none⟩])
               .skip))
             (.run [0, 5, 6] [⟨some 30, .mv, [.tmp 6], none⟩,
               ⟨some 31, .mv, [.tmp 7], none⟩,
               ⟨some 32, (.bin .add), [.tmp 30, .tmp 31], none⟩,
               ⟨some 6, .mv, [.tmp 32], none⟩]))))))))
      (.seq (.run [5, 6] [⟨some 33, .mv, [.tmp 0], none⟩,
         ⟨some 34, .mv, [.tmp 5], none⟩,
         ⟨some 35, .mv, [.tmp 6], none⟩,
         ⟨some 36, (.slc 0 true false), [.tmp 34, .tmp 35], none⟩,
         ⟨some 37, .nilck, [.tmp 33], none⟩,
         ⟨some 38, (.faddr 0), [.tmp 37], none⟩,
         ⟨none, (.st 1), [.tmp 38, .tmp 36], none⟩])
       (.seq (.run [4] [⟨some 39, .mv, [.tmp 5], none⟩,
          ⟨some 40, .mv, [.tmp 6], none⟩,
          ⟨some 41, (.slc 0 false true), [.tmp 39, .tmp 40], none⟩,
          ⟨some 42, (.call 20), [.tmp 41], none⟩,
          ⟨some 4, .mv, [.tmp 42], none⟩])
        .ret))))))⟩

theorem f15_ok : compF Go.Proofs.Tryd.prog 15 f15.body.hints = some f15 := by kernel_rfl


def f16 : AFun := ⟨13, 1, [.slot 2],
  (.seq (.run [0] [⟨some 2, .mv, [.const (.slice none 0 0)], none⟩])
   (.seq (.run [0, 3] [⟨some 4, .mv, [.tmp 0], none⟩,
      ⟨some 5, .nilck, [.tmp 4], none⟩,
      ⟨some 6, (.faddr 0), [.tmp 5], none⟩,
      ⟨some 7, (.ld false 1), [.tmp 6], none⟩,
      ⟨some 8, (.call 20), [.tmp 7], none⟩,
      ⟨some 3, .mv, [.tmp 8], none⟩])
    (.seq (.run [3] [⟨some 9, .mv, [.tmp 0], none⟩,
       ⟨some 10, .nilck, [.tmp 9], none⟩,
       ⟨some 11, (.faddr 0), [.tmp 10], none⟩,
       ⟨none, (.st 1), [.tmp 11, .const (.string ⟨#[]⟩)], none⟩])
     (.seq (.run [2] [⟨some 12, .mv, [.tmp 3], none⟩,
        ⟨some 2, .mv, [.tmp 12], none⟩])
      .ret))))⟩

theorem f16_ok : compF Go.Proofs.Tryd.prog 16 f16.body.hints = some f16 := by kernel_rfl


def f17 : AFun := ⟨19, 1, [.slot 2],
  (.seq (.run [0] [⟨some 2, .mv, [.const (.slice none 0 0)], none⟩])
   (.seq (.run [0, 3] [⟨some 6, .mv, [.tmp 0], none⟩,
      ⟨some 7, (.len 0), [.tmp 6], none⟩,
      ⟨some 8, (.mksl 1 4 [(.int .i32 0)]), [.const (.int .i64 0), .tmp 7], none⟩,
      ⟨some 3, .mv, [.tmp 8], none⟩])
    (.seq (.seq (.run [3, 10] [⟨some 9, .mv, [.tmp 0], none⟩,
        ⟨some 10, .rngs, [.tmp 9], none⟩])
      (.block 0 (.loop [3, 10] (.seq (.run [3, 10, 11, 12] [⟨some 11, .nxts, [.tmp 10], none⟩,
           ⟨some 12, (.ext 0), [.tmp 11], none⟩])
         (.seq (.cond (.tmp 12)
           .skip
           (.exit 0))
          (.block 1 (.seq (.run [3, 5, 10] [⟨some 13, (.ext 2), [.tmp 11], none⟩,
              ⟨some 5, .mv, [.tmp 13], none⟩])
            (.run [3, 10] [⟨some 14, .mv, [.tmp 3], none⟩,
              ⟨some 15, .mv, [.tmp 5], none⟩,
              ⟨some 16, (.bslice 1 1 [(.int .i32 0)] [(0, 1)]), [.tmp 15], none⟩,
              ⟨some 17, (.app 1 4), [.tmp 14, .tmp 16], none⟩,
              ⟨some 3, .mv, [.tmp 17], none⟩]))))))))
     (.seq (.run [2] [⟨some 18, .mv, [.tmp 3], none⟩,
        ⟨some 2, .mv, [.tmp 18], none⟩])
      .ret))))⟩

theorem f17_ok : compF Go.Proofs.Tryd.prog 17 f17.body.hints = some f17 := by kernel_rfl


def f18 : AFun := ⟨18, 1, [.slot 2],
  (.seq (.run [0] [⟨some 2, .mv, [.const (.string ⟨#[]⟩)], none⟩])
   (.seq (.run [0, 3] [⟨some 3, .mv, [.const (.slice none 0 0)], none⟩])
    (.seq (.seq (.run [3, 6, 7, 8] [⟨some 6, .mv, [.tmp 0], none⟩,
        ⟨some 7, (.len 1), [.tmp 6], none⟩,
        ⟨some 8, .mv, [.const (.int .i64 0)], none⟩])
      (.block 0 (.loop [3, 6, 7, 8] (.seq (.run [3, 6, 7, 8, 9] [⟨some 9, (.bin .lss), [.tmp 8, .tmp 7], none⟩])
         (.seq (.cond (.tmp 9)
           .skip
           (.exit 0))
          (.seq (.block 1 (.seq (.run [3, 5, 6, 7, 8] [⟨some 10, (.iaddr 1), [.tmp 6, .tmp 8], none⟩,
               ⟨some 11, (.ld false 1), [.tmp 10], none⟩,
               ⟨some 5, .mv, [.tmp 11], none⟩])
             (.run [3, 6, 7, 8] [⟨some 12, .mv, [.tmp 3], none⟩,
               ⟨some 13, .mv, [.tmp 5], none⟩,
               ⟨some 14, (.call 27), [.tmp 12, .tmp 13], none⟩,
               ⟨some 3, .mv, [.tmp 14], none⟩])))
           (.run [3, 6, 7, 8] [⟨some 15, (.bin .add), [.tmp 8, .const (.int .i64 1)], none⟩,
             ⟨some 8, .mv, [.tmp 15], none⟩])))))))
     (.seq (.run [2] [⟨some 16, .mv, [.tmp 3], none⟩,
        ⟨some 17, .cvb, [.tmp 16], none⟩,
        ⟨some 2, .mv, [.tmp 17], none⟩])
      .ret))))⟩

theorem f18_ok : compF Go.Proofs.Tryd.prog 18 f18.body.hints = some f18 := by kernel_rfl


def f19 : AFun := ⟨19, 1, [.slot 2],
  (.seq (.run [0] [⟨some 2, .mv, [.const (.string ⟨#[]⟩)], none⟩])
   (.seq (.run [0, 3] [⟨some 3, .mv, [.const (.string ⟨#[]⟩)], none⟩])
    (.seq (.seq (.run [0, 3, 4] [⟨some 4, .mv, [.const (.int .i64 0)], none⟩])
      (.block 0 (.loop [0, 3, 4] (.seq (.seq (.run [0, 3, 4, 8] [⟨some 5, .mv, [.tmp 4], none⟩,
            ⟨some 6, .mv, [.tmp 0], none⟩,
            ⟨some 7, (.len 1), [.tmp 6], none⟩,
            ⟨some 8, (.bin .lss), [.tmp 5, .tmp 7], none⟩])
          (.cond (.tmp 8)
           .skip
           (.exit 0)))
         (.seq (.block 1 (.run [0, 3, 4] [⟨some 11, .mv, [.tmp 3], none⟩,
             ⟨some 12, .mv, [.tmp 0], none⟩,
             ⟨some 13, .mv, [.tmp 4], none⟩,
             ⟨some 14, (.iaddr 1), [.tmp 12, .tmp 13], none⟩,
             ⟨some 15, (.ld false 1), [.tmp 14], none⟩,
             ⟨some 16, (.call 28), [.tmp 15], none⟩,
             ⟨some 17, (.bin .add), [.tmp 11, .tmp 16], none⟩,
             ⟨some 3, .mv, [.tmp 17], none⟩]))
          (.run [0, 3, 4] [⟨some 9, .mv, [.tmp 4], none⟩,
            ⟨some 10, (.bin .add), [.tmp 9, .const (.int .i64 1)], none⟩,
            ⟨some 4, .mv, [.tmp 10], none⟩]))))))
     (.seq (.run [2] [⟨some 18, .mv, [.tmp 3], none⟩,
        ⟨some 2, .mv, [.tmp 18], none⟩])
      .ret))))⟩

theorem f19_ok : compF Go.Proofs.Tryd.prog 19 f19.body.hints = some f19 := by kernel_rfl


def f20 : AFun := ⟨31, 1, [.slot 2],
  (.seq (.run [0] [⟨some 2, .mv, [.const (.slice none 0 0)], none⟩])
   (.seq (.run [0, 3] [⟨some 3, .mv, [.const (.slice none 0 0)], none⟩])
    (.seq (.block 0 (.loop [0, 3] (.seq (.seq (.run [0, 3, 7] [⟨some 6, .mv, [.tmp 0], none⟩,
           ⟨some 7, (.eqg true 6), [.tmp 6, .const (.string ⟨#[]⟩)], none⟩])
         (.cond (.tmp 7)
          .skip
          (.exit 0)))
        (.block 1 (.seq (.run [0, 3, 4] [⟨some 9, .mv, [.tmp 0], none⟩,
            ⟨some 10, (.call 26), [.tmp 9], none⟩,
            ⟨some 8, .mv, [.tmp 10], none⟩,
            ⟨some 11, (.ext 0), [.tmp 8], none⟩,
            ⟨some 12, (.ext 1), [.tmp 8], none⟩,
            ⟨some 4, .mv, [.tmp 11], none⟩,
            ⟨some 5, .mv, [.tmp 12], none⟩])
          (.seq (.seq (.run [0, 3, 4, 14] [⟨some 13, .mv, [.tmp 4], none⟩,
              ⟨some 14, (.eqg false 6), [.tmp 13, .const (.int .i64 0)], none⟩])
            (.cond (.tmp 14)
             (.seq (.run [0, 3] [⟨some 15, .mv, [.tmp 3], none⟩,
                ⟨some 16, (.bslice 1 1 [(.int .i32 0)] [(0, 1)]), [.const (.int .i32 65533)], none⟩,
                ⟨some 17, (.app 1 4), [.tmp 15, .tmp 16], none⟩,
                ⟨some 3, .mv, [.tmp 17], none⟩])
              (.seq (.run [0, 3] [⟨some 18, .mv, [.tmp 0], none⟩,
                 ⟨some 19, (.slc 0 true false), [.tmp 18, .const (.int .i64 1)], none⟩,
                 ⟨some 0, .mv, [.tmp 19], none⟩])
               (.exit 1)))
             .skip))
           (.seq (.run [0, 3, 4] [⟨some 20, .mv, [.tmp 3], none⟩,
              ⟨some 21, .mv, [.tmp 0], none⟩,
              ⟨some 22, .mv, [.tmp 4], none⟩,
              ⟨some 23, (.slc 0 false true), [.tmp 21, .tmp 22], none⟩,
              ⟨some 24, (.call 29), [.tmp 23], none⟩,
              ⟨some 25, (.bslice 1 1 [(.int .i32 0)] [(0, 1)]), [.tmp 24], none⟩,
              ⟨some 26, (.app 1 4), [.tmp 20, .tmp 25], none⟩,
              ⟨some 3, .mv, [.tmp 26], none⟩])
            (.run [0, 3] [⟨some 27, .mv, [.tmp 0], none⟩,
              ⟨some 28, .mv, [.tmp 4], none⟩,
              ⟨some 29, (.slc 0 true false), [.tmp 27, .tmp 28], none⟩,
              ⟨some 0, .mv, [.tmp 29], none⟩]))))))))
     (.seq (.run [2] [⟨some 30, .mv, [.tmp 3], none⟩,
        ⟨some 2, .mv, [.tmp 30], none⟩])
      .ret))))⟩

theorem f20_ok : compF Go.Proofs.Tryd.prog 20 f20.body.hints = some f20 := by kernel_rfl


def f21 : AFun := ⟨5, 1, [.slot 2],
  (.seq (.run [0] [⟨some 2, .mv, [.const (.bool false)], none⟩])
   (.seq (.run [2] [⟨some 3, .mv, [.tmp 0], none⟩,
      ⟨some 4, (.call 30), [.tmp 3], none⟩,
      ⟨some 2, .mv, [.tmp 4], none⟩])
    .ret))⟩

theorem f21_ok : compF Go.Proofs.Tryd.prog 21 f21.body.hints = some f21 := by kernel_rfl


def f22 : AFun := ⟨17, 1, [.slot 2],
  (.seq (.run [0] [⟨some 2, .mv, [.const (.bool false)], none⟩])
   (.seq (.block 0 (.loop [0] (.seq (.seq (.run [0, 6] [⟨some 5, .mv, [.tmp 0], none⟩,
          ⟨some 6, (.eqg true 6), [.tmp 5, .const (.string ⟨#[]⟩)], none⟩])
        (.cond (.tmp 6)
         .skip
         (.exit 0)))
       (.block 1 (.seq (.run [0, 3] [⟨some 8, .mv, [.tmp 0], none⟩,
           ⟨some 9, (.call 26), [.tmp 8], none⟩,
           ⟨some 7, .mv, [.tmp 9], none⟩,
           ⟨some 10, (.ext 0), [.tmp 7], none⟩,
           ⟨some 11, (.ext 1), [.tmp 7], none⟩,
           ⟨some 3, .mv, [.tmp 10], none⟩,
           ⟨some 4, .mv, [.tmp 11], none⟩])
         (.seq (.seq (.run [0, 3, 13] [⟨some 12, .mv, [.tmp 3], none⟩,
             ⟨some 13, (.eqg false 6), [.tmp 12, .const (.int .i64 0)], none⟩])
           (.cond (.tmp 13)
            (.seq (.run [2] [⟨some 2, .mv, [.const (.bool false)], none⟩])
             .ret)
            .skip))
          (.run [0] [⟨some 14, .mv, [.tmp 0], none⟩,
            ⟨some 15, .mv, [.tmp 3], none⟩,
            ⟨some 16, (.slc 0 true false), [.tmp 14, .tmp 15], none⟩,
            ⟨some 0, .mv, [.tmp 16], none⟩])))))))
    (.seq (.run [2] [⟨some 2, .mv, [.const (.bool true)], none⟩])
     .ret)))⟩

theorem f22_ok : compF Go.Proofs.Tryd.prog 22 f22.body.hints = some f22 := by kernel_rfl


def f23 : AFun := ⟨36, 1, [.slot 2],
  (.seq (.run [0] [⟨some 2, .mv, [.const (.slice none 0 0)], none⟩])
   (.seq (.run [0, 3] [⟨some 3, .mv, [.const (.int .i64 0)], none⟩])
    (.seq (.seq (.run [0, 3, 9, 10, 11] [⟨some 9, .mv, [.tmp 0], none⟩,
        ⟨some 10, (.len 1), [.tmp 9], none⟩,
        ⟨some 11, .mv, [.const (.int .i64 0)], none⟩])
      (.block 0 (.loop [0, 3, 9, 10, 11] (.seq (.run [0, 3, 9, 10, 11, 12] [⟨some 12, (.bin .lss), [.tmp 11, .tmp 10], none⟩])
         (.seq (.cond (.tmp 12)
           .skip
           (.exit 0))
          (.seq (.block 1 (.seq (.run [0, 3, 5, 9, 10, 11] [⟨some 13, (.iaddr 1), [.tmp 9, .tmp 11], none⟩,
               ⟨some 14, (.ld false 1), [.tmp 13], none⟩,
               ⟨some 5, .mv, [.tmp 14], none⟩])
             (.seq (.run [0, 3, 9, 10, 11] [⟨some 15, .mv, [.tmp 3], none⟩,
                ⟨some 16, .mv, [.tmp 5], none⟩,
                ⟨some 17, (.len 1), [.tmp 16], none⟩,
                ⟨some 18, (.bin .add), [.tmp 15, .tmp 17], none⟩,
                ⟨some 3, .mv, [.tmp 18], none⟩])
              (.seq (.run [0, 3, 9, 10, 11, 20] [⟨some 19, .mv, [.tmp 3], none⟩,
                 ⟨some 20, (.bin .lss), [.tmp 19, .const (.int .i64 0)], none⟩])
               (.cond (.tmp 20)
                (.run [0, 3, 9, 10, 11] [⟨some 21, (.mkif 9), [.const (.string ⟨#[108, 101, 110, 32, 111, 117, 116, 32, 111, 102, 32, 114, 97, 110, 103, 101]⟩)], none⟩,
                  ⟨none, .stuck, [], none⟩])
                .skip)))))
           (.run [0, 3, 9, 10, 11] [⟨some 22, (.bin .add), [.tmp 11, .const (.int .i64 1)], none⟩,
             ⟨some 11, .mv, [.tmp 22], none⟩])))))))
     (.seq (.run [0, 6] [⟨some 23, .mv, [.tmp 3], none⟩,
        ⟨some 24, (.call 31), [.const (.slice none 0 0), .tmp 23], none⟩,
        ⟨some 6, .mv, [.tmp 24], none⟩])
      (.seq (.seq (.run [6, 25, 26, 27] [⟨some 25, .mv, [.tmp 0], none⟩,
          ⟨some 26, (.len 1), [.tmp 25], none⟩,
          ⟨some 27, .mv, [.const (.int .i64 0)], none⟩])
        (.block 2 (.loop [6, 25, 26, 27] (.seq (.run [6, 25, 26, 27, 28] [⟨some 28, (.bin .lss), [.tmp 27, .tmp 26], none⟩])
           (.seq (.cond (.tmp 28)
             .skip
             (.exit 2))
            (.seq (.block 3 (.seq (.run [6, 8, 25, 26, 27] [⟨some 29, (.iaddr 1), [.tmp 25, .tmp 27], none⟩,
                 ⟨some 30, (.ld false 1), [.tmp 29], none⟩,
                 ⟨some 8, .mv, [.tmp 30], none⟩])
               (.run [6, 25, 26, 27] [⟨some 31, .mv, [.tmp 6], none⟩,
                 ⟨some 32, .mv, [.tmp 8], none⟩,
                 ⟨some 33, (.app 1 1), [.tmp 31, .tmp 32], none⟩,
                 ⟨some 6, .mv, [.tmp 33], none⟩])))
             (.run [6, 25, 26, 27] [⟨some 34, (.bin .add), [.tmp 27, .const (.int .i64 1)], none⟩,
               ⟨some 27, .mv, [.tmp 34], none⟩])))))))
       (.seq (.run [2] [⟨some 35, .mv, [.tmp 6], none⟩,
          ⟨some 2, .mv, [.tmp 35], none⟩])
        .ret))))))⟩

theorem f23_ok : compF Go.Proofs.Tryd.prog 23 f23.body.hints = some f23 := by kernel_rfl


def f24 : AFun := ⟨56, 1, [.slot 2],
  (.seq (.run [0] [⟨some 2, .mv, [.const (.bool false)], none⟩])
   (.seq (.run [0, 3] [⟨some 6, .mv, [.tmp 0], none⟩,
      ⟨some 7, (.len 1), [.tmp 6], none⟩,
      ⟨some 3, .mv, [.tmp 7], none⟩])
    (.seq (.seq (.run [0, 3, 9] [⟨some 8, .mv, [.tmp 3], none⟩,
        ⟨some 9, (.eqg false 6), [.tmp 8, .const (.int .i64 0)], none⟩])
      (.cond (.tmp 9)
       (.seq (.run [2] [⟨some 2, .mv, [.const (.bool false)], none⟩])
        .ret)
       .skip))
     (.seq (.run [0, 3, 4] [⟨some 10, .mv, [.tmp 0], none⟩,
        ⟨some 11, (.iaddr 1), [.tmp 10, .const (.int .i64 0)], none⟩,
        ⟨some 12, (.ld false 1), [.tmp 11], none⟩,
        ⟨some 13, (.aaddr 1 256), [.global 0, .tmp 12], none⟩,
        ⟨some 14, (.ld false 1), [.tmp 13], none⟩,
        ⟨some 4, .mv, [.tmp 14], none⟩])
      (.seq (.seq (.run [0, 3, 4, 19] [⟨some 15, .mv, [.tmp 3], none⟩,
          ⟨some 16, .mv, [.tmp 4], none⟩,
          ⟨some 17, (.bin .and), [.tmp 16, .const (.int .u8 7)], none⟩,
          ⟨some 18, (.cvi .i64), [.tmp 17], none⟩,
          ⟨some 19, (.bin .geq), [.tmp 15, .tmp 18], none⟩])
        (.cond (.tmp 19)
         (.seq (.run [2] [⟨some 2, .mv, [.const (.bool true)], none⟩])
          .ret)
         .skip))
       (.seq (.run [0, 3, 5] [⟨some 20, .mv, [.tmp 4], none⟩,
          ⟨some 21, (.bin .shr), [.tmp 20, .const (.int .u64 4)], none⟩,
          ⟨some 22, (.aaddr 2 16), [.global 1, .tmp 21], none⟩,
          ⟨some 23, (.ld true 2), [.tmp 22], none⟩,
          ⟨some 5, (.alloc [(.int .u8 0), (.int .u8 0)]), [], none⟩,
          ⟨none, (.st 2), [.tmp 5, .tmp 23], none⟩])
        (.seq (.seq (.runD [0, 3, 41] [⟨0, ⟨some 24, .mv, [.tmp 3], none⟩, []⟩,
            ⟨1, ⟨some 25, (.bin .gtr), [.tmp 24, .const (.int .i64 1)], none⟩, []⟩,
            ⟨2, ⟨some 26, .mv, [.tmp 25], none⟩, []⟩,
            ⟨3, ⟨some 27, .mv, [.tmp 0], some (26, true)⟩, []⟩,
            ⟨4, ⟨some 28, (.iaddr 1), [.tmp 27, .const (.int .i64 1)], some (26, true)⟩, []⟩,
            ⟨5, ⟨some 29, (.ld false 1), [.tmp 28], some (26, true)⟩, []⟩,
            ⟨6, ⟨some 30, (.faddr 0), [.tmp 5], some (26, true)⟩, []⟩,
            ⟨7, ⟨some 31, (.ld false 1), [.tmp 30], some (26, true)⟩, []⟩,
            ⟨8, ⟨some 32, (.bin .lss), [.tmp 29, .tmp 31], some (26, true)⟩, []⟩,
            ⟨9, ⟨some 33, .mv, [.tmp 32], some (26, true)⟩, []⟩,
            ⟨10, ⟨some 34, (.faddr 1), [.tmp 5], some (33, false)⟩, []⟩,
            ⟨11, ⟨some 35, (.ld false 1), [.tmp 34], some (33, false)⟩, []⟩,
            ⟨12, ⟨some 36, .mv, [.tmp 0], some (33, false)⟩, []⟩,
            ⟨13, ⟨some 37, (.iaddr 1), [.tmp 36, .const (.int .i64 1)], some (33, false)⟩, []⟩,
            ⟨14, ⟨some 38, (.ld false 1), [.tmp 37], some (33, false)⟩, []⟩,
            ⟨15, ⟨some 39, (.bin .lss), [.tmp 35, .tmp 38], some (33, false)⟩, []⟩,
            ⟨16, ⟨some 40, .pick, [.tmp 33, .const (.bool true), .tmp 39], some (26, true)⟩, []⟩,
            ⟨17, ⟨some 41, .pick, [.tmp 26, .tmp 40, .const (.bool false)], none⟩, []⟩])
          (.cond (.tmp 41)
           (.seq (.run [2] [⟨some 2, .mv, [.const (.bool true)], none⟩])
            .ret)
           (.seq (.run [55] [⟨some 42, .mv, [.tmp 3], none⟩,
              ⟨some 43, (.bin .gtr), [.tmp 42, .const (.int .i64 2)], none⟩,
              ⟨some 44, .mv, [.tmp 43], none⟩,
              ⟨some 45, .mv, [.tmp 0], some (44, true)⟩,
              ⟨some 46, (.iaddr 1), [.tmp 45, .const (.int .i64 2)], some (44, true)⟩,
              ⟨some 47, (.ld false 1), [.tmp 46], some (44, true)⟩,
              ⟨some 48, (.bin .lss), [.tmp 47, .const (.int .u8 128)], some (44, true)⟩,
              ⟨some 49, .mv, [.tmp 48], some (44, true)⟩,
              ⟨some 50, .mv, [.tmp 0], some (49, false)⟩,
              ⟨some 51, (.iaddr 1), [.tmp 50, .const (.int .i64 2)], some (49, false)⟩,
              ⟨some 52, (.ld false 1), [.tmp 51], some (49, false)⟩,
              ⟨some 53, (.bin .lss), [.const (.int .u8 191), .tmp 52], some (49, false)⟩,
              ⟨some 54, .pick, [.tmp 49, .const (.bool true), .tmp 53], some (44, true)⟩,
              ⟨some 55, .pick, [.tmp 44, .tmp 54, .const (.bool false)], none⟩])
            (.cond (.tmp 55)
             (.seq (.run [2] [⟨some 2, .mv, [.const (.bool true)], none⟩])
              .ret)
             .skip))))
         (.seq (.run [2] [⟨some 2, .mv, [.const (.bool false)], none⟩])
          .ret))))))))⟩

theorem f24_ok : compF Go.Proofs.Tryd.prog 24 f24.body.hints = some f24 := by kernel_rfl


def f25 : AFun := ⟨22, 1, [.slot 2, .slot 3],
  (.seq (.run [0] [⟨some 2, .mv, [.const (.int .i32 0)], none⟩,
     ⟨some 3, .mv, [.const (.int .i64 0)], none⟩])
   (.seq (.seq (.run [0, 6, 7, 8] [⟨some 6, .mv, [.tmp 0], none⟩,
       ⟨some 7, (.len 1), [.tmp 6], none⟩,
       ⟨some 8, .mv, [.const (.int .i64 0)], none⟩])
     (.block 0 (.loop [0, 6, 7, 8] (.seq (.run [0, 6, 8, 9] [⟨some 9, (.bin .lss), [.tmp 8, .tmp 7], none⟩])
        (.seq (.cond (.tmp 9)
          .skip
          (.exit 0))
         (.seq (.block 1 (.seq (.run [0, 5] [⟨some 10, (.iaddr 1), [.tmp 6, .tmp 8], none⟩,
              ⟨some 11, (.ld false 1), [.tmp 10], none⟩,
              ⟨some 5, .mv, [.tmp 11], none⟩])
            (.seq (.seq (.run [0, 5, 13] [⟨some 12, .mv, [.tmp 5], none⟩,
                ⟨some 13, (.bin .lss), [.tmp 12, .const (.int .u8 128)], none⟩])
              (.cond (.tmp 13)
               (.seq (.run [2, 3] [⟨some 14, .mv, [.tmp 5], none⟩,
                  ⟨some 15, (.cvi .i32), [.tmp 14], none⟩,
                  ⟨some 2, .mv, [.tmp 15], none⟩,
                  ⟨some 3, .mv, [.const (.int .i64 1)], none⟩])
                .ret)
               .skip))
             (.exit 0))))
          (.run [0, 6, 7, 8] [⟨some 16, (.bin .add), [.tmp 8, .const (.int .i64 1)], none⟩,
            ⟨some 8, .mv, [.tmp 16], none⟩])))))))
    (.seq (.run [2, 3] [⟨some 18, .mv, [.tmp 0], none⟩,
       ⟨some 19, (.call 32), [.tmp 18], none⟩,
       ⟨some 17, .mv, [.tmp 19], none⟩,
       ⟨some 20, (.ext 0), [.tmp 17], none⟩,
       ⟨some 21, (.ext 1), [.tmp 17], none⟩,
       ⟨some 2, .mv, [.tmp 20], none⟩,
       ⟨some 3, .mv, [.tmp 21], none⟩])
     .ret)))⟩

theorem f25_ok : compF Go.Proofs.Tryd.prog 25 f25.body.hints = some f25 := by kernel_rfl


def f26 : AFun := ⟨67, 1, [.slot 2, .slot 3],
  (.seq (.run [0] [⟨some 2, .mv, [.const (.int .i64 0)], none⟩,
     ⟨some 3, .mv, [.const (.bool false)], none⟩])
   (.seq (.seq (.run [0, 10] [⟨some 9, .mv, [.tmp 0], none⟩,
       ⟨some 10, (.eqg false 6), [.tmp 9, .const (.string ⟨#[]⟩)], none⟩])
     (.cond (.tmp 10)
      (.seq (.run [2, 3] [⟨some 2, .mv, [.const (.int .i64 0)], none⟩,
         ⟨some 3, .mv, [.const (.bool false)], none⟩])
       .ret)
      .skip))
    (.seq (.run [0, 4] [⟨some 11, .mv, [.tmp 0], none⟩,
       ⟨some 12, .ixs, [.tmp 11, .const (.int .i64 0)], none⟩,
       ⟨some 4, .mv, [.tmp 12], none⟩])
     (.seq (.seq (.run [0, 4, 14] [⟨some 13, .mv, [.tmp 4], none⟩,
         ⟨some 14, (.bin .lss), [.tmp 13, .const (.int .u8 128)], none⟩])
       (.cond (.tmp 14)
        (.seq (.run [2, 3] [⟨some 2, .mv, [.const (.int .i64 1)], none⟩,
           ⟨some 3, .mv, [.const (.bool false)], none⟩])
         .ret)
        .skip))
      (.seq (.run [0, 4] [⟨some 5, .mv, [.const (.int .i64 0)], none⟩])
       (.seq (.run [0, 4, 6] [⟨some 6, .mv, [.const (.int .u8 128)], none⟩])
        (.seq (.run [0, 4, 6, 7] [⟨some 7, .mv, [.const (.int .u8 191)], none⟩])
         (.seq (.block 0 (.seq (.run [0, 4, 6, 7, 15] [⟨some 16, .mv, [.tmp 4], none⟩,
              ⟨some 17, (.bin .geq), [.tmp 16, .const (.int .u8 194)], none⟩,
              ⟨some 18, .mv, [.tmp 17], none⟩,
              ⟨some 19, .mv, [.tmp 4], some (18, true)⟩,
              ⟨some 20, (.bin .leq), [.tmp 19, .const (.int .u8 223)], some (18, true)⟩,
              ⟨some 21, .pick, [.tmp 18, .tmp 20, .const (.bool false)], none⟩,
              ⟨some 15, .mv, [.tmp 21], none⟩])
            (.cond (.tmp 15)
             (.run [0, 4, 5, 6, 7] [⟨some 5, .mv, [.const (.int .i64 2)], none⟩])
             (.seq (.run [0, 4, 6, 7, 22] [⟨some 23, .mv, [.tmp 4], none⟩,
                ⟨some 24, (.bin .geq), [.tmp 23, .const (.int .u8 224)], none⟩,
                ⟨some 25, .mv, [.tmp 24], none⟩,
                ⟨some 26, .mv, [.tmp 4], some (25, true)⟩,
                ⟨some 27, (.bin .leq), [.tmp 26, .const (.int .u8 239)], some (25, true)⟩,
                ⟨some 28, .pick, [.tmp 25, .tmp 27, .const (.bool false)], none⟩,
                ⟨some 22, .mv, [.tmp 28], none⟩])
              (.cond (.tmp 22)
               (.run [0, 4, 5, 6, 7] [⟨some 5, .mv, [.const (.int .i64 3)], none⟩])
               (.seq (.run [0, 4, 6, 7, 29] [⟨some 30, .mv, [.tmp 4], none⟩,
                  ⟨some 31, (.bin .geq), [.tmp 30, .const (.int .u8 240)], none⟩,
                  ⟨some 32, .mv, [.tmp 31], none⟩,
                  ⟨some 33, .mv, [.tmp 4], some (32, true)⟩,
                  ⟨some 34, (.bin .leq), [.tmp 33, .const (.int .u8 244)], some (32, true)⟩,
                  ⟨some 35, .pick, [.tmp 32, .tmp 34, .const (.bool false)], none⟩,
                  ⟨some 29, .mv, [.tmp 35], none⟩])
                (.cond (.tmp 29)
                 (.run [0, 4, 5, 6, 7] [⟨some 5, .mv, [.const (.int .i64 4)], none⟩])
                 (.seq (.run [2, 3] [⟨some 2, .mv, [.const (.int .i64 0)], none⟩,
                    ⟨some 3, .mv, [.const (.bool false)], none⟩])
                  .ret))))))))
          (.seq (.seq (.run [0, 5, 6, 7, 36] [⟨some 36, .mv, [.tmp 4], none⟩])
            (.block 1 (.seq (.run [0, 5, 6, 7, 36, 37] [⟨some 38, (.eqg false 6), [.tmp 36, .const (.int .u8 224)], none⟩,
                ⟨some 37, .mv, [.tmp 38], none⟩])
              (.cond (.tmp 37)
               (.run [0, 5, 6, 7] [⟨some 6, .mv, [.const (.int .u8 160)], none⟩])
               (.seq (.run [0, 5, 6, 7, 36, 39] [⟨some 40, (.eqg false 6), [.tmp 36, .const (.int .u8 237)], none⟩,
                  ⟨some 39, .mv, [.tmp 40], none⟩])
                (.cond (.tmp 39)
                 (.run [0, 5, 6, 7] [⟨some 7, .mv, [.const (.int .u8 159)], none⟩])
                 (.seq (.run [0, 5, 6, 7, 36, 41] [⟨some 42, (.eqg false 6), [.tmp 36, .const (.int .u8 240)], none⟩,
                    ⟨some 41, .mv, [.tmp 42], none⟩])
                  (.cond (.tmp 41)
                   (.run [0, 5, 6, 7] [⟨some 6, .mv, [.const (.int .u8 144)], none⟩])
                   (.seq (.run [0, 5, 6, 7, 43] [⟨some 44, (.eqg false 6), [.tmp 36, .const (.int .u8 244)], none⟩,
                      ⟨some 43, .mv, [.tmp 44], none⟩])
                    (.cond (.tmp 43)
                     (.run [0, 5, 6, 7] [⟨some 7, .mv, [.const (.int .u8 143)], none⟩])
                     .skip))))))))))
           (.seq (.seq (.run [0, 5, 6, 7, 8] [⟨some 8, .mv, [.const (.int .i64 1)], none⟩])
             (.block 2 (.loop [0, 5, 6, 7, 8] (.seq (.seq (.run [0, 5, 6, 7, 8, 47] [⟨some 45, .mv, [.tmp 8], none⟩,
                   ⟨some 46, .mv, [.tmp 5], none⟩,
                   ⟨some 47, (.bin .lss), [.tmp 45, .tmp 46], none⟩])
                 (.cond (.tmp 47)
                  .skip
                  (.exit 2)))
                (.seq (.block 3 (.seq (.seq (.run [0, 5, 6, 7, 8, 53] [⟨some 50, .mv, [.tmp 8], none⟩,
                      ⟨some 51, .mv, [.tmp 0], none⟩,
                      ⟨some 52, (.len 0), [.tmp 51], none⟩,
                      ⟨some 53, (.bin .geq), [.tmp 50, .tmp 52], none⟩])
                    (.cond (.tmp 53)
                     (.seq (.run [2, 3] [⟨some 2, .mv, [.const (.int .i64 0)], none⟩,
                        ⟨some 3, .mv, [.const (.bool true)], none⟩])
                      .ret)
                     .skip))
                   (.seq (.seq (.run [0, 5, 8, 65] [⟨some 54, .mv, [.tmp 0], none⟩,
                       ⟨some 55, .mv, [.tmp 8], none⟩,
                       ⟨some 56, .ixs, [.tmp 54, .tmp 55], none⟩,
                       ⟨some 57, .mv, [.tmp 6], none⟩,
                       ⟨some 58, (.bin .lss), [.tmp 56, .tmp 57], none⟩,
                       ⟨some 59, .mv, [.tmp 58], none⟩,
                       ⟨some 60, .mv, [.tmp 0], some (59, false)⟩,
                       ⟨some 61, .mv, [.tmp 8], some (59, false)⟩,
                       ⟨some 62, .ixs, [.tmp 60, .tmp 61], some (59, false)⟩,
                       ⟨some 63, .mv, [.tmp 7], some (59, false)⟩,
                       ⟨some 64, (.bin .gtr), [.tmp 62, .tmp 63], some (59, false)⟩,
                       ⟨some 65, .pick, [.tmp 59, .const (.bool true), .tmp 64], none⟩])
                     (.cond (.tmp 65)
                      (.seq (.run [2, 3] [⟨some 2, .mv, [.const (.int .i64 0)], none⟩,
                         ⟨some 3, .mv, [.const (.bool false)], none⟩])
                       .ret)
                      .skip))
                    (.seq (.run [0, 5, 6, 8] [⟨some 6, .mv, [.const (.int .u8 128)], none⟩])
                     (.run [0, 5, 6, 7, 8] [⟨some 7, .mv, [.const (.int .u8 191)], none⟩])))))
                 (.run [0, 5, 6, 7, 8] [⟨some 48, .mv, [.tmp 8], none⟩,
                   ⟨some 49, (.bin .add), [.tmp 48, .const (.int .i64 1)], none⟩,
                   ⟨some 8, .mv, [.tmp 49], none⟩]))))))
            (.seq (.run [2, 3] [⟨some 66, .mv, [.tmp 5], none⟩,
               ⟨some 2, .mv, [.tmp 66], none⟩,
               ⟨some 3, .mv, [.const (.bool false)], none⟩])
             .ret)))))))))))⟩

theorem f26_ok : compF Go.Proofs.Tryd.prog 26 f26.body.hints = some f26 := by kernel_rfl


def f27 : AFun := ⟨16, 2, [.slot 4],
  (.seq (.run [0, 1] [⟨some 4, .mv, [.const (.slice none 0 0)], none⟩])
   (.seq (.seq (.run [0, 1, 7] [⟨some 5, .mv, [.tmp 1], none⟩,
       ⟨some 6, (.cvi .u32), [.tmp 5], none⟩,
       ⟨some 7, (.bin .leq), [.tmp 6, .const (.int .u32 127)], none⟩])
     (.cond (.tmp 7)
      (.seq (.run [4] [⟨some 8, .mv, [.tmp 0], none⟩,
         ⟨some 9, .mv, [.tmp 1], none⟩,
         ⟨some 10, (.cvi .u8), [.tmp 9], none⟩,
         ⟨some 11, (.bslice 1 1 [(.int .u8 0)] [(0, 1)]), [.tmp 10], none⟩,
         ⟨some 12, (.app 1 1), [.tmp 8, .tmp 11], none⟩,
         ⟨some 4, .mv, [.tmp 12], none⟩])
       .ret)
      .skip))
    (.seq (.run [4] [⟨some 13, .mv, [.tmp 0], none⟩,
       ⟨some 14, .mv, [.tmp 1], none⟩,
       ⟨some 15, (.call 33), [.tmp 13, .tmp 14], none⟩,
       ⟨some 4, .mv, [.tmp 15], none⟩])
     .ret)))⟩

theorem f27_ok : compF Go.Proofs.Tryd.prog 27 f27.body.hints = some f27 := by kernel_rfl


def f28 : AFun := ⟨75, 1, [.slot 2],
  (.seq (.run [0] [⟨some 2, .mv, [.const (.string ⟨#[]⟩)], none⟩])
   (.seq (.seq (.run [0, 16] [⟨some 3, .mv, [.tmp 0], none⟩,
       ⟨some 4, (.bin .lss), [.tmp 3, .const (.int .i32 0)], none⟩,
       ⟨some 5, .mv, [.tmp 4], none⟩,
       ⟨some 6, .mv, [.tmp 0], some (5, false)⟩,
       ⟨some 7, (.bin .gtr), [.tmp 6, .const (.int .i32 1114111)], some (5, false)⟩,
       ⟨some 8, .pick, [.tmp 5, .const (.bool true), .tmp 7], none⟩,
       ⟨some 9, .mv, [.tmp 8], none⟩,
       ⟨some 10, .mv, [.tmp 0], some (9, false)⟩,
       ⟨some 11, (.bin .geq), [.tmp 10, .const (.int .i32 55296)], some (9, false)⟩,
       ⟨some 12, .mv, [.tmp 11], some (9, false)⟩,
       ⟨some 13, .mv, [.tmp 0], some (12, true)⟩,
       ⟨some 14, (.bin .leq), [.tmp 13, .const (.int .i32 57343)], some (12, true)⟩,
       ⟨some 15, .pick, [.tmp 12, .tmp 14, .const (.bool false)], some (9, false)⟩,
       ⟨some 16, .pick, [.tmp 9, .const (.bool true), .tmp 15], none⟩])
     (.cond (.tmp 16)
      (.run [0] [⟨some 0, .mv, [.const (.int .i32 65533)], none⟩])
      .skip))
    (.seq (.block 0 (.seq (.run [0, 17] [⟨some 18, .mv, [.tmp 0], none⟩,
         ⟨some 19, (.bin .lss), [.tmp 18, .const (.int .i32 128)], none⟩,
         ⟨some 17, .mv, [.tmp 19], none⟩])
       (.cond (.tmp 17)
        (.seq (.run [2] [⟨some 20, .mv, [.tmp 0], none⟩,
           ⟨some 21, (.cvi .u8), [.tmp 20], none⟩,
           ⟨some 22, (.bslice 1 1 [(.int .u8 0)] [(0, 1)]), [.tmp 21], none⟩,
           ⟨some 23, .cvb, [.tmp 22], none⟩,
           ⟨some 2, .mv, [.tmp 23], none⟩])
         .ret)
        (.seq (.run [0, 24] [⟨some 25, .mv, [.tmp 0], none⟩,
           ⟨some 26, (.bin .lss), [.tmp 25, .const (.int .i32 2048)], none⟩,
           ⟨some 24, .mv, [.tmp 26], none⟩])
         (.cond (.tmp 24)
          (.seq (.run [2] [⟨some 27, .mv, [.tmp 0], none⟩,
             ⟨some 28, (.bin .shr), [.tmp 27, .const (.int .u64 6)], none⟩,
             ⟨some 29, (.bin .add), [.const (.int .i32 192), .tmp 28], none⟩,
             ⟨some 30, (.cvi .u8), [.tmp 29], none⟩,
             ⟨some 31, .mv, [.tmp 0], none⟩,
             ⟨some 32, (.bin .and), [.tmp 31, .const (.int .i32 63)], none⟩,
             ⟨some 33, (.bin .add), [.const (.int .i32 128), .tmp 32], none⟩,
             ⟨some 34, (.cvi .u8), [.tmp 33], none⟩,
             ⟨some 35, (.bslice 1 2 [(.int .u8 0)] [(0, 1), (1, 1)]), [.tmp 30, .tmp 34], none⟩,
             ⟨some 36, .cvb, [.tmp 35], none⟩,
             ⟨some 2, .mv, [.tmp 36], none⟩])
           .ret)
          (.seq (.run [0, 37] [⟨some 38, .mv, [.tmp 0], none⟩,
             ⟨some 39, (.bin .lss), [.tmp 38, .const (.int .i32 65536)], none⟩,
             ⟨some 37, .mv, [.tmp 39], none⟩])
           (.cond (.tmp 37)
            (.seq (.run [2] [⟨some 40, .mv, [.tmp 0], none⟩,
               ⟨some 41, (.bin .shr), [.tmp 40, .const (.int .u64 12)], none⟩,
               ⟨some 42, (.bin .add), [.const (.int .i32 224), .tmp 41], none⟩,
               ⟨some 43, (.cvi .u8), [.tmp 42], none⟩,
               ⟨some 44, .mv, [.tmp 0], none⟩,
               ⟨some 45, (.bin .shr), [.tmp 44, .const (.int .u64 6)], none⟩,
               ⟨some 46, (.bin .and), [.tmp 45, .const (.int .i32 63)], none⟩,
               ⟨some 47, (.bin .add), [.const (.int .i32 128), .tmp 46], none⟩,
               ⟨some 48, (.cvi .u8), [.tmp 47], none⟩,
               ⟨some 49, .mv, [.tmp 0], none⟩,
               ⟨some 50, (.bin .and), [.tmp 49, .const (.int .i32 63)], none⟩,
               ⟨some 51, (.bin .add), [.const (.int .i32 128), .tmp 50], none⟩,
               ⟨some 52, (.cvi .u8), [.tmp 51], none⟩,
               ⟨some 53, (.bslice 1 3 [(.int .u8 0)] [(0, 1), (1, 1), (2, 1)]), [.tmp 43, .tmp 48, .tmp 52], none⟩,
               ⟨some 54, .cvb, [.tmp 53], none⟩,
               ⟨some 2, .mv, [.tmp 54], none⟩])
             .ret)
            .skip)))))))
     (.seq (.run [2] [⟨some 55, .mv, [.tmp 0], none⟩,
        ⟨some 56, (.bin .shr), [.tmp 55, .const (.int .u64 18)], none⟩,
        ⟨some 57, (.bin .add), [.const (.int .i32 240), .tmp 56], none⟩,
        ⟨some 58, (.cvi .u8), [.tmp 57], none⟩,
        ⟨some 59, .mv, [.tmp 0], none⟩,
        ⟨some 60, (.bin .shr), [.tmp 59, .const (.int .u64 12)], none⟩,
        ⟨some 61, (.bin .and), [.tmp 60, .const (.int .i32 63)], none⟩,
        ⟨some 62, (.bin .add), [.const (.int .i32 128), .tmp 61], none⟩,
        ⟨some 63, (.cvi .u8), [.tmp 62], none⟩,
        ⟨some 64, .mv, [.tmp 0], none⟩,
        ⟨some 65, (.bin .shr), [.tmp 64, .const (.int .u64 6)], none⟩,
        ⟨some 66, (.bin .and), [.tmp 65, .const (.int .i32 63)], none⟩,
        ⟨some 67, (.bin .add), [.const (.int .i32 128), .tmp 66], none⟩,
        ⟨some 68, (.cvi .u8), [.tmp 67], none⟩,
        ⟨some 69, .mv, [.tmp 0], none⟩,
        ⟨some 70, (.bin .and), [.tmp 69, .const (.int .i32 63)], none⟩,
        ⟨some 71, (.bin .add), [.const (.int .i32 128), .tmp 70], none⟩,
        ⟨some 72, (.cvi .u8), [.tmp 71], none⟩,
        ⟨some 73, (.bslice 1 4 [(.int .u8 0)] [(0, 1), (1, 1), (2, 1), (3, 1)]), [.tmp 58, .tmp 63, .tmp 68, .tmp 72], none⟩,
        ⟨some 74, .cvb, [.tmp 73], none⟩,
        ⟨some 2, .mv, [.tmp 74], none⟩])
      .ret))))⟩

theorem f28_ok : compF Go.Proofs.Tryd.prog 28 f28.body.hints = some f28 := by kernel_rfl


def f29 : AFun := ⟨62, 1, [.slot 2],
  (.seq (.run [0] [⟨some 2, .mv, [.const (.int .i32 0)], none⟩])
   (.seq (.seq (.run [0, 4] [⟨some 3, .mv, [.tmp 0], none⟩,
       ⟨some 4, (.len 0), [.tmp 3], none⟩])
     (.block 0 (.seq (.run [0, 4, 5] [⟨some 6, (.eqg false 6), [.tmp 4, .const (.int .i64 1)], none⟩,
         ⟨some 5, .mv, [.tmp 6], none⟩])
       (.cond (.tmp 5)
        (.seq (.run [2] [⟨some 7, .mv, [.tmp 0], none⟩,
           ⟨some 8, .ixs, [.tmp 7, .const (.int .i64 0)], none⟩,
           ⟨some 9, (.cvi .i32), [.tmp 8], none⟩,
           ⟨some 2, .mv, [.tmp 9], none⟩])
         .ret)
        (.seq (.run [0, 4, 10] [⟨some 11, (.eqg false 6), [.tmp 4, .const (.int .i64 2)], none⟩,
           ⟨some 10, .mv, [.tmp 11], none⟩])
         (.cond (.tmp 10)
          (.seq (.runD [2] [⟨0, ⟨some 12, .mv, [.tmp 0], none⟩, []⟩,
             ⟨1, ⟨some 13, .ixs, [.tmp 12, .const (.int .i64 0)], none⟩, []⟩,
             ⟨2, ⟨some 14, (.bin .sub), [.tmp 13, .const (.int .u8 192)], none⟩, []⟩,
             ⟨3, ⟨some 15, (.cvi .i32), [.tmp 14], none⟩, []⟩,
             ⟨4, ⟨some 16, (.bin .shl), [.tmp 15, .const (.int .u64 6)], none⟩, []⟩,
             ⟨5, ⟨some 17, .mv, [.tmp 0], none⟩, []⟩,
             ⟨6, ⟨some 18, .ixs, [.tmp 17, .const (.int .i64 1)], none⟩, []⟩,
             ⟨7, ⟨some 19, (.bin .sub), [.tmp 18, .const (.int .u8 128)], none⟩, []⟩,
             ⟨8, ⟨some 20, (.cvi .i32), [.tmp 19], none⟩, []⟩,
             ⟨9, ⟨some 21, (.bin .add), [.tmp 16, .tmp 20], none⟩, []⟩,
             ⟨10, ⟨some 2, .mv, [.tmp 21], none⟩, []⟩])
           .ret)
          (.seq (.run [0, 22] [⟨some 23, (.eqg false 6), [.tmp 4, .const (.int .i64 3)], none⟩,
             ⟨some 22, .mv, [.tmp 23], none⟩])
           (.cond (.tmp 22)
            (.seq (.runD [2] [⟨0, ⟨some 24, .mv, [.tmp 0], none⟩, []⟩,
               ⟨1, ⟨some 25, .ixs, [.tmp 24, .const (.int .i64 0)], none⟩, []⟩,
               ⟨2, ⟨some 26, (.bin .sub), [.tmp 25, .const (.int .u8 224)], none⟩, []⟩,
               ⟨3, ⟨some 27, (.cvi .i32), [.tmp 26], none⟩, []⟩,
               ⟨4, ⟨some 28, (.bin .shl), [.tmp 27, .const (.int .u64 12)], none⟩, []⟩,
               ⟨5, ⟨some 29, .mv, [.tmp 0], none⟩, []⟩,
               ⟨6, ⟨some 30, .ixs, [.tmp 29, .const (.int .i64 1)], none⟩, []⟩,
               ⟨7, ⟨some 31, (.bin .sub), [.tmp 30, .const (.int .u8 128)], none⟩, []⟩,
               ⟨8, ⟨some 32, (.cvi .i32), [.tmp 31], none⟩, []⟩,
               ⟨9, ⟨some 33, (.bin .shl), [.tmp 32, .const (.int .u64 6)], none⟩, []⟩,
               ⟨10, ⟨some 34, (.bin .add), [.tmp 28, .tmp 33], none⟩, []⟩,
               ⟨11, ⟨some 35, .mv, [.tmp 0], none⟩, []⟩,
               ⟨12, ⟨some 36, .ixs, [.tmp 35, .const (.int .i64 2)], none⟩, []⟩,
               ⟨13, ⟨some 37, (.bin .sub), [.tmp 36, .const (.int .u8 128)], none⟩, []⟩,
               ⟨14, ⟨some 38, (.cvi .i32), [.tmp 37], none⟩, []⟩,
               ⟨15, ⟨some 39, (.bin .add), [.tmp 34, .tmp 38], none⟩, []⟩,
               ⟨16, ⟨some 2, .mv, [.tmp 39], none⟩, []⟩])
             .ret)
            .skip))))))))
    (.seq (.runD [2] [⟨0, ⟨some 40, .mv, [.tmp 0], none⟩, []⟩,
       ⟨1, ⟨some 41, .ixs, [.tmp 40, .const (.int .i64 0)], none⟩, []⟩,
       ⟨2, ⟨some 42, (.bin .sub), [.tmp 41, .const (.int .u8 240)], none⟩, []⟩,
       ⟨3, ⟨some 43, (.cvi .i32), [.tmp 42], none⟩, []⟩,
       ⟨4, ⟨some 44, (.bin .shl), [.tmp 43, .const (.int .u64 18)], none⟩, []⟩,
       ⟨5, ⟨some 45, .mv, [.tmp 0], none⟩, []⟩,
       ⟨6, ⟨some 46, .ixs, [.tmp 45, .const (.int .i64 1)], none⟩, []⟩,
       ⟨7, ⟨some 47, (.bin .sub), [.tmp 46, .const (.int .u8 128)], none⟩, []⟩,
       ⟨8, ⟨some 48, (.cvi .i32), [.tmp 47], none⟩, []⟩,
       ⟨9, ⟨some 49, (.bin .shl), [.tmp 48, .const (.int .u64 12)], none⟩, []⟩,
       ⟨10, ⟨some 50, (.bin .add), [.tmp 44, .tmp 49], none⟩, []⟩,
       ⟨11, ⟨some 51, .mv, [.tmp 0], none⟩, []⟩,
       ⟨12, ⟨some 52, .ixs, [.tmp 51, .const (.int .i64 2)], none⟩, []⟩,
       ⟨13, ⟨some 53, (.bin .sub), [.tmp 52, .const (.int .u8 128)], none⟩, []⟩,
       ⟨14, ⟨some 54, (.cvi .i32), [.tmp 53], none⟩, []⟩,
       ⟨15, ⟨some 55, (.bin .shl), [.tmp 54, .const (.int .u64 6)], none⟩, []⟩,
       ⟨16, ⟨some 56, (.bin .add), [.tmp 50, .tmp 55], none⟩, []⟩,
       ⟨17, ⟨some 57, .mv, [.tmp 0], none⟩, []⟩,
       ⟨18, ⟨some 58, .ixs, [.tmp 57, .const (.int .i64 3)], none⟩, []⟩,
       ⟨19, ⟨some 59, (.bin .sub), [.tmp 58, .const (.int .u8 128)], none⟩, []⟩,
       ⟨20, ⟨some 60, (.cvi .i32), [.tmp 59], none⟩, []⟩,
       ⟨21, ⟨some 61, (.bin .add), [.tmp 56, .tmp 60], none⟩, []⟩,
       ⟨22, ⟨some 2, .mv, [.tmp 61], none⟩, []⟩])
     .ret)))⟩

theorem f29_ok : compF Go.Proofs.Tryd.prog 29 f29.body.hints = some f29 := by kernel_rfl


def f30 : AFun := ⟨169, 1, [.slot 2],
  (.seq (.run [0] [⟨some 2, .mv, [.const (.bool false)], none⟩])
   (.seq (.block 0 (.loop [0] (.seq (.seq (.run [0, 9] [⟨some 7, .mv, [.tmp 0], none⟩,
          ⟨some 8, (.len 0), [.tmp 7], none⟩,
          ⟨some 9, (.bin .gtr), [.tmp 8, .const (.int .i64 0)], none⟩])
        (.cond (.tmp 9)
         .skip
         (.exit 0)))
       (.block 1 (.seq (.run [0, 3] [⟨some 10, .mv, [.tmp 0], none⟩,
           ⟨some 11, .ixs, [.tmp 10, .const (.int .i64 0)], none⟩,
           ⟨some 3, .mv, [.tmp 11], none⟩])
         (.seq (.seq (.run [0, 3, 13] [⟨some 12, .mv, [.tmp 3], none⟩,
             ⟨some 13, (.bin .lss), [.tmp 12, .const (.int .u8 128)], none⟩])
           (.cond (.tmp 13)
            (.seq (.run [0] [⟨some 14, .mv, [.tmp 0], none⟩,
               ⟨some 15, (.slc 0 true false), [.tmp 14, .const (.int .i64 1)], none⟩,
               ⟨some 0, .mv, [.tmp 15], none⟩])
             (.seq (.seq (.run [0, 24] [⟨some 16, .mv, [.tmp 0], none⟩,
                 ⟨some 17, (.len 0), [.tmp 16], none⟩,
                 ⟨some 18, (.bin .gtr), [.tmp 17, .const (.int .i64 8)], none⟩,
                 ⟨some 19, .mv, [.tmp 18], none⟩,
                 ⟨some 20, .mv, [.tmp 0], some (19, true)⟩,
                 ⟨some 21, (.call 34), [.tmp 20], some (19, true)⟩,
                 ⟨some 22, (.bin .and), [.tmp 21, .const (.int .u64 9259542123273814144)], some (19, true)⟩,
                 ⟨some 23, (.eqg false 6), [.tmp 22, .const (.int .u64 0)], some (19, true)⟩,
                 ⟨some 24, .pick, [.tmp 19, .tmp 23, .const (.bool false)], none⟩])
               (.cond (.tmp 24)
                (.seq (.run [0] [⟨some 25, .mv, [.tmp 0], none⟩,
                   ⟨some 26, (.slc 0 true false), [.tmp 25, .const (.int .i64 8)], none⟩,
                   ⟨some 0, .mv, [.tmp 26], none⟩])
                 (.seq (.runD [0, 39] [⟨0, ⟨some 27, .mv, [.tmp 0], none⟩, []⟩,
                    ⟨1, ⟨some 28, (.len 0), [.tmp 27], none⟩, []⟩,
                    ⟨2, ⟨some 29, (.bin .gtr), [.tmp 28, .const (.int .i64 16)], none⟩, []⟩,
                    ⟨3, ⟨some 30, .mv, [.tmp 29], none⟩, []⟩,
                    ⟨4, ⟨some 31, .mv, [.tmp 0], some (30, true)⟩, []⟩,
                    ⟨6, ⟨some 33, .mv, [.tmp 0], some (30, true)⟩, []⟩,
                    ⟨7, ⟨some 34, (.slc 0 true false), [.tmp 33, .const (.int .i64 8)], some (30, true)⟩, []⟩,
                    ⟨5, ⟨some 32, (.call 34), [.tmp 31], some (30, true)⟩, []⟩,
                    ⟨8, ⟨some 35, (.call 34), [.tmp 34], some (30, true)⟩, []⟩,
                    ⟨9, ⟨some 36, (.bin .or), [.tmp 32, .tmp 35], some (30, true)⟩, []⟩,
                    ⟨10, ⟨some 37, (.bin .and), [.tmp 36, .const (.int .u64 9259542123273814144)], some (30, true)⟩, []⟩,
                    ⟨11, ⟨some 38, (.eqg false 6), [.tmp 37, .const (.int .u64 0)], some (30, true)⟩, []⟩,
                    ⟨12, ⟨some 39, .pick, [.tmp 30, .tmp 38, .const (.bool false)], none⟩, []⟩])
                  (.cond (.tmp 39)
                   (.seq (.run [0] [⟨some 40, .mv, [.tmp 0], none⟩,
                      ⟨some 41, (.slc 0 true false), [.tmp 40, .const (.int .i64 16)], none⟩,
                      ⟨some 0, .mv, [.tmp 41], none⟩])
                    (.block 2 (.loop [0] (.seq (.seq (.runD [0, 62] [⟨0, ⟨some 42, .mv, [.tmp 0], none⟩, []⟩,
                          ⟨1, ⟨some 43, (.len 0), [.tmp 42], none⟩, []⟩,
                          ⟨2, ⟨some 44, (.bin .gtr), [.tmp 43, .const (.int .i64 32)], none⟩, []⟩,
                          ⟨3, ⟨some 45, .mv, [.tmp 44], none⟩, []⟩,
                          ⟨4, ⟨some 46, .mv, [.tmp 0], some (45, true)⟩, []⟩,
                          ⟨6, ⟨some 48, .mv, [.tmp 0], some (45, true)⟩, []⟩,
                          ⟨7, ⟨some 49, (.slc 0 true false), [.tmp 48, .const (.int .i64 8)], some (45, true)⟩, []⟩,
                          ⟨10, ⟨some 52, .mv, [.tmp 0], some (45, true)⟩, []⟩,
                          ⟨11, ⟨some 53, (.slc 0 true false), [.tmp 52, .const (.int .i64 16)], some (45, true)⟩, []⟩,
                          ⟨13, ⟨some 55, .mv, [.tmp 0], some (45, true)⟩, []⟩,
                          ⟨14, ⟨some 56, (.slc 0 true false), [.tmp 55, .const (.int .i64 24)], some (45, true)⟩, []⟩,
                          ⟨5, ⟨some 47, (.call 34), [.tmp 46], some (45, true)⟩, []⟩,
                          ⟨8, ⟨some 50, (.call 34), [.tmp 49], some (45, true)⟩, []⟩,
                          ⟨9, ⟨some 51, (.bin .or), [.tmp 47, .tmp 50], some (45, true)⟩, []⟩,
                          ⟨12, ⟨some 54, (.call 34), [.tmp 53], some (45, true)⟩, []⟩,
                          ⟨15, ⟨some 57, (.call 34), [.tmp 56], some (45, true)⟩, []⟩,
                          ⟨16, ⟨some 58, (.bin .or), [.tmp 54, .tmp 57], some (45, true)⟩, []⟩,
                          ⟨17, ⟨some 59, (.bin .or), [.tmp 51, .tmp 58], some (45, true)⟩, []⟩,
                          ⟨18, ⟨some 60, (.bin .and), [.tmp 59, .const (.int .u64 9259542123273814144)], some (45, true)⟩, []⟩,
                          ⟨19, ⟨some 61, (.eqg false 6), [.tmp 60, .const (.int .u64 0)], some (45, true)⟩, []⟩,
                          ⟨20, ⟨some 62, .pick, [.tmp 45, .tmp 61, .const (.bool false)], none⟩, []⟩])
                        (.cond (.tmp 62)
                         .skip
                         (.exit 2)))
                       (.block 3 (.run [0] [⟨some 63, .mv, [.tmp 0], none⟩,
                          ⟨some 64, (.slc 0 true false), [.tmp 63, .const (.int .i64 32)], none⟩,
                          ⟨some 0, .mv, [.tmp 64], none⟩]))))))
                   .skip)))
                .skip))
              (.exit 1)))
            .skip))
          (.seq (.run [0, 4] [⟨some 65, .mv, [.tmp 3], none⟩,
             ⟨some 66, (.aaddr 1 256), [.global 0, .tmp 65], none⟩,
             ⟨some 67, (.ld false 1), [.tmp 66], none⟩,
             ⟨some 4, .mv, [.tmp 67], none⟩])
           (.seq (.run [0, 4, 5] [⟨some 68, .mv, [.tmp 4], none⟩,
              ⟨some 69, (.bin .and), [.tmp 68, .const (.int .u8 7)], none⟩,
              ⟨some 70, (.cvi .i64), [.tmp 69], none⟩,
              ⟨some 5, .mv, [.tmp 70], none⟩])
            (.seq (.run [0, 5, 6] [⟨some 71, .mv, [.tmp 4], none⟩,
               ⟨some 72, (.bin .shr), [.tmp 71, .const (.int .u64 4)], none⟩,
               ⟨some 73, (.aaddr 2 16), [.global 1, .tmp 72], none⟩,
               ⟨some 74, (.ld true 2), [.tmp 73], none⟩,
               ⟨some 6, (.alloc [(.int .u8 0), (.int .u8 0)]), [], none⟩,
               ⟨none, (.st 2), [.tmp 6, .tmp 74], none⟩])
             (.seq (.run [0, 6, 75] [⟨some 75, .mv, [.tmp 5], none⟩])
              (.block 4 (.seq (.run [0, 6, 75, 76] [⟨some 77, (.eqg false 6), [.tmp 75, .const (.int .i64 2)], none⟩,
                  ⟨some 76, .mv, [.tmp 77], none⟩])
                (.cond (.tmp 76)
                 (.seq (.seq (.runD [0, 94] [⟨0, ⟨some 78, .mv, [.tmp 0], none⟩, []⟩,
                     ⟨1, ⟨some 79, (.len 0), [.tmp 78], none⟩, []⟩,
                     ⟨2, ⟨some 80, (.bin .lss), [.tmp 79, .const (.int .i64 2)], none⟩, []⟩,
                     ⟨3, ⟨some 81, .mv, [.tmp 80], none⟩, []⟩,
                     ⟨4, ⟨some 82, .mv, [.tmp 0], some (81, false)⟩, []⟩,
                     ⟨5, ⟨some 83, .ixs, [.tmp 82, .const (.int .i64 1)], some (81, false)⟩, []⟩,
                     ⟨6, ⟨some 84, (.faddr 0), [.tmp 6], some (81, false)⟩, []⟩,
                     ⟨7, ⟨some 85, (.ld false 1), [.tmp 84], some (81, false)⟩, []⟩,
                     ⟨8, ⟨some 86, (.bin .lss), [.tmp 83, .tmp 85], some (81, false)⟩, []⟩,
                     ⟨9, ⟨some 87, .pick, [.tmp 81, .const (.bool true), .tmp 86], none⟩, []⟩,
                     ⟨10, ⟨some 88, .mv, [.tmp 87], none⟩, []⟩,
                     ⟨11, ⟨some 89, (.faddr 1), [.tmp 6], some (88, false)⟩, []⟩,
                     ⟨12, ⟨some 90, (.ld false 1), [.tmp 89], some (88, false)⟩, []⟩,
                     ⟨13, ⟨some 91, .mv, [.tmp 0], some (88, false)⟩, []⟩,
                     ⟨14, ⟨some 92, .ixs, [.tmp 91, .const (.int .i64 1)], some (88, false)⟩, []⟩,
                     ⟨15, ⟨some 93, (.bin .lss), [.tmp 90, .tmp 92], some (88, false)⟩, []⟩,
                     ⟨16, ⟨some 94, .pick, [.tmp 88, .const (.bool true), .tmp 93], none⟩, []⟩])
                   (.cond (.tmp 94)
                    (.seq (.run [2] [⟨some 2, .mv, [.const (.bool false)], none⟩])
                     .ret)
                    .skip))
                  (.run [0] [⟨some 95, .mv, [.tmp 0], none⟩,
                    ⟨some 96, (.slc 0 true false), [.tmp 95, .const (.int .i64 2)], none⟩,
                    ⟨some 0, .mv, [.tmp 96], none⟩]))
                 (.seq (.run [0, 6, 75, 97] [⟨some 98, (.eqg false 6), [.tmp 75, .const (.int .i64 3)], none⟩,
                    ⟨some 97, .mv, [.tmp 98], none⟩])
                  (.cond (.tmp 97)
                   (.seq (.seq (.runD [0, 125] [⟨0, ⟨some 99, .mv, [.tmp 0], none⟩, []⟩,
                       ⟨1, ⟨some 100, (.len 0), [.tmp 99], none⟩, []⟩,
                       ⟨2, ⟨some 101, (.bin .lss), [.tmp 100, .const (.int .i64 3)], none⟩, []⟩,
                       ⟨3, ⟨some 102, .mv, [.tmp 101], none⟩, []⟩,
                       ⟨4, ⟨some 103, .mv, [.tmp 0], some (102, false)⟩, []⟩,
                       ⟨5, ⟨some 104, .ixs, [.tmp 103, .const (.int .i64 1)], some (102, false)⟩, []⟩,
                       ⟨6, ⟨some 105, (.faddr 0), [.tmp 6], some (102, false)⟩, []⟩,
                       ⟨7, ⟨some 106, (.ld false 1), [.tmp 105], some (102, false)⟩, []⟩,
                       ⟨8, ⟨some 107, (.bin .lss), [.tmp 104, .tmp 106], some (102, false)⟩, []⟩,
                       ⟨9, ⟨some 108, .pick, [.tmp 102, .const (.bool true), .tmp 107], none⟩, []⟩,
                       ⟨10, ⟨some 109, .mv, [.tmp 108], none⟩, []⟩,
                       ⟨11, ⟨some 110, (.faddr 1), [.tmp 6], some (109, false)⟩, []⟩,
                       ⟨12, ⟨some 111, (.ld false 1), [.tmp 110], some (109, false)⟩, []⟩,
                       ⟨13, ⟨some 112, .mv, [.tmp 0], some (109, false)⟩, []⟩,
                       ⟨14, ⟨some 113, .ixs, [.tmp 112, .const (.int .i64 1)], some (109, false)⟩, []⟩,
                       ⟨15, ⟨some 114, (.bin .lss), [.tmp 111, .tmp 113], some (109, false)⟩, []⟩,
                       ⟨16, ⟨some 115, .pick, [.tmp 109, .const (.bool true), .tmp 114], none⟩, []⟩,
                       ⟨17, ⟨some 116, .mv, [.tmp 115], none⟩, []⟩,
                       ⟨18, ⟨some 117, .mv, [.tmp 0], some (116, false)⟩, []⟩,
                       ⟨19, ⟨some 118, .ixs, [.tmp 117, .const (.int .i64 2)], some (116, false)⟩, []⟩,
                       ⟨20, ⟨some 119, (.bin .lss), [.tmp 118, .const (.int .u8 128)], some (116, false)⟩, []⟩,
                       ⟨21, ⟨some 120, .pick, [.tmp 116, .const (.bool true), .tmp 119], none⟩, []⟩,
                       ⟨22, ⟨some 121, .mv, [.tmp 120], none⟩, []⟩,
                       ⟨23, ⟨some 122, .mv, [.tmp 0], some (121, false)⟩, []⟩,
                       ⟨24, ⟨some 123, .ixs, [.tmp 122, .const (.int .i64 2)], some (121, false)⟩, []⟩,
                       ⟨25, ⟨some 124, (.bin .lss), [.const (.int .u8 191), .tmp 123], some (121, false)⟩, []⟩,
                       ⟨26, ⟨some 125, .pick, [.tmp 121, .const (.bool true), .tmp 124], none⟩, []⟩])
                     (.cond (.tmp 125)
                      (.seq (.run [2] [⟨some 2, .mv, [.const (.bool false)], none⟩])
                       .ret)
                      .skip))
                    (.run [0] [⟨some 126, .mv, [.tmp 0], none⟩,
                      ⟨some 127, (.slc 0 true false), [.tmp 126, .const (.int .i64 3)], none⟩,
                      ⟨some 0, .mv, [.tmp 127], none⟩]))
                   (.seq (.run [0, 6, 128] [⟨some 129, (.eqg false 6), [.tmp 75, .const (.int .i64 4)], none⟩,
                      ⟨some 128, .mv, [.tmp 129], none⟩])
                    (.cond (.tmp 128)
                     (.seq (.seq (.runD [0, 166] [⟨0, ⟨some 130, .mv, [.tmp 0], none⟩, []⟩,
                         ⟨1, ⟨some 131, (.len 0), [.tmp 130], none⟩, []⟩,
                         ⟨2, ⟨some 132, (.bin .lss), [.tmp 131, .const (.int .i64 4)], none⟩, []⟩,
                         ⟨3, ⟨some 133, .mv, [.tmp 132], none⟩, []⟩,
                         ⟨4, ⟨some 134, .mv, [.tmp 0], some (133, false)⟩, []⟩,
                         ⟨5, ⟨some 135, .ixs, [.tmp 134, .const (.int .i64 1)], some (133, false)⟩, []⟩,
                         ⟨6, ⟨some 136, (.faddr 0), [.tmp 6], some (133, false)⟩, []⟩,
                         ⟨7, ⟨some 137, (.ld false 1), [.tmp 136], some (133, false)⟩, []⟩,
                         ⟨8, ⟨some 138, (.bin .lss), [.tmp 135, .tmp 137], some (133, false)⟩, []⟩,
                         ⟨9, ⟨some 139, .pick, [.tmp 133, .const (.bool true), .tmp 138], none⟩, []⟩,
                         ⟨10, ⟨some 140, .mv, [.tmp 139], none⟩, []⟩,
                         ⟨11, ⟨some 141, (.faddr 1), [.tmp 6], some (140, false)⟩, []⟩,
                         ⟨12, ⟨some 142, (.ld false 1), [.tmp 141], some (140, false)⟩, []⟩,
                         ⟨13, ⟨some 143, .mv, [.tmp 0], some (140, false)⟩, []⟩,
                         ⟨14, ⟨some 144, .ixs, [.tmp 143, .const (.int .i64 1)], some (140, false)⟩, []⟩,
                         ⟨15, ⟨some 145, (.bin .lss), [.tmp 142, .tmp 144], some (140, false)⟩, []⟩,
                         ⟨16, ⟨some 146, .pick, [.tmp 140, .const (.bool true), .tmp 145], none⟩, []⟩,
                         ⟨17, ⟨some 147, .mv, [.tmp 146], none⟩, []⟩,
                         ⟨18, ⟨some 148, .mv, [.tmp 0], some (147, false)⟩, []⟩,
                         ⟨19, ⟨some 149, .ixs, [.tmp 148, .const (.int .i64 2)], some (147, false)⟩, []⟩,
                         ⟨20, ⟨some 150, (.bin .lss), [.tmp 149, .const (.int .u8 128)], some (147, false)⟩, []⟩,
                         ⟨21, ⟨some 151, .pick, [.tmp 147, .const (.bool true), .tmp 150], none⟩, []⟩,
                         ⟨22, ⟨some 152, .mv, [.tmp 151], none⟩, []⟩,
                         ⟨23, ⟨some 153, .mv, [.tmp 0], some (152, false)⟩, []⟩,
                         ⟨24, ⟨some 154, .ixs, [.tmp 153, .const (.int .i64 2)], some (152, false)⟩, []⟩,
                         ⟨25, ⟨some 155, (.bin .lss), [.const (.int .u8 191), .tmp 154], some (152, false)⟩, []⟩,
                         ⟨26, ⟨some 156, .pick, [.tmp 152, .const (.bool true), .tmp 155], none⟩, []⟩,
                         ⟨27, ⟨some 157, .mv, [.tmp 156], none⟩, []⟩,
                         ⟨28, ⟨some 158, .mv, [.tmp 0], some (157, false)⟩, []⟩,
                         ⟨29, ⟨some 159, .ixs, [.tmp 158, .const (.int .i64 3)], some (157, false)⟩, []⟩,
                         ⟨30, ⟨some 160, (.bin .lss), [.tmp 159, .const (.int .u8 128)], some (157, false)⟩, []⟩,
                         ⟨31, ⟨some 161, .pick, [.tmp 157, .const (.bool true), .tmp 160], none⟩, []⟩,
                         ⟨32, ⟨some 162, .mv, [.tmp 161], none⟩, []⟩,
                         ⟨33, ⟨some 163, .mv, [.tmp 0], some (162, false)⟩, []⟩,
                         ⟨34, ⟨some 164, .ixs, [.tmp 163, .const (.int .i64 3)], some (162, false)⟩, []⟩,
                         ⟨35, ⟨some 165, (.bin .lss), [.const (.int .u8 191), .tmp 164], some (162, false)⟩, []⟩,
                         ⟨36, ⟨some 166, .pick, [.tmp 162, .const (.bool true), .tmp 165], none⟩, []⟩])
                       (.cond (.tmp 166)
                        (.seq (.run [2] [⟨some 2, .mv, [.const (.bool false)], none⟩])
                         .ret)
                        .skip))
                      (.run [0] [⟨some 167, .mv, [.tmp 0], none⟩,
                        ⟨some 168, (.slc 0 true false), [.tmp 167, .const (.int .i64 4)], none⟩,
                        ⟨some 0, .mv, [.tmp 168], none⟩]))
                     (.seq (.run [2] [⟨some 2, .mv, [.const (.bool false)], none⟩])
                      .ret))))))))))))))))))
    (.seq (.run [2] [⟨some 2, .mv, [.const (.bool true)], none⟩])
     .ret)))⟩

theorem f30_ok : compF Go.Proofs.Tryd.prog 30 f30.body.hints = some f30 := by kernel_rfl


def f31 : AFun := ⟨27, 2, [.slot 4],
  (.seq (.run [0, 1] [⟨some 4, .mv, [.const (.slice none 0 0)], none⟩])
   (.seq (.seq (.run [0, 1, 6] [⟨some 5, .mv, [.tmp 1], none⟩,
       ⟨some 6, (.bin .lss), [.tmp 5, .const (.int .i64 0)], none⟩])
     (.cond (.tmp 6)
      (.run [0, 1] [⟨some 7, (.mkif 9), [.const (.string ⟨#[99, 97, 110, 110, 111, 116, 32, 98, 101, 32, 110, 101, 103, 97, 116, 105, 118, 101]⟩)], none⟩,
        ⟨none, .stuck, [], none⟩])
      .skip))
    (.seq (.seq (.run [0, 1] [⟨some 8, .mv, [.tmp 1], none⟩,
        ⟨some 9, .mv, [.tmp 0], none⟩,
        ⟨some 10, .stuck, [], none⟩,
        ⟨some 11, .mv, [.tmp 0], none⟩,
        ⟨some 12, (.len 1), [.tmp 11], none⟩,
        ⟨some 13, (.bin .sub), [.tmp 10, .tmp 12], none⟩,
        ⟨some 14, (.bin .sub), [.tmp 8, .tmp 13], none⟩,
        ⟨some 1, .mv, [.tmp 14], none⟩])
      (.seq (.run [0, 1, 16] [⟨some 15, .mv, [.tmp 1], none⟩,
         ⟨some 16, (.bin .gtr), [.tmp 15, .const (.int .i64 0)], none⟩])
       (.cond (.tmp 16)
        (.run [0] [⟨some 17, .mv, [.tmp 0], none⟩,
          ⟨some 18, .mv, [.tmp 0], none⟩,
          ⟨some 19, .stuck, [], none⟩,
          ⟨some 20, (.slc 1 false true), [.tmp 17, .tmp 19], none⟩,
          ⟨some 21, .mv, [.tmp 1], none⟩,
          ⟨some 22, .stuck, [], none⟩,
          ⟨some 23, .mv, [.tmp 0], none⟩,
          ⟨some 24, (.len 1), [.tmp 23], none⟩,
          ⟨some 25, (.slc 1 false true), [.tmp 22, .tmp 24], none⟩,
          ⟨some 0, .mv, [.tmp 25], none⟩])
        .skip)))
     (.seq (.run [4] [⟨some 26, .mv, [.tmp 0], none⟩,
        ⟨some 4, .mv, [.tmp 26], none⟩])
      .ret))))⟩

theorem f31_ok : compF Go.Proofs.Tryd.prog 31 f31.body.hints = some f31 := by kernel_rfl


def f32 : AFun := ⟨122, 1, [.slot 2, .slot 3],
  (.seq (.run [0] [⟨some 2, .mv, [.const (.int .i32 0)], none⟩,
     ⟨some 3, .mv, [.const (.int .i64 0)], none⟩])
   (.seq (.run [0, 4] [⟨some 13, .mv, [.tmp 0], none⟩,
      ⟨some 14, (.len 1), [.tmp 13], none⟩,
      ⟨some 4, .mv, [.tmp 14], none⟩])
    (.seq (.seq (.run [0, 4, 16] [⟨some 15, .mv, [.tmp 4], none⟩,
        ⟨some 16, (.bin .lss), [.tmp 15, .const (.int .i64 1)], none⟩])
      (.cond (.tmp 16)
       (.seq (.run [2, 3] [⟨some 2, .mv, [.const (.int .i32 65533)], none⟩,
          ⟨some 3, .mv, [.const (.int .i64 0)], none⟩])
        .ret)
       .skip))
     (.seq (.run [0, 4, 5] [⟨some 17, .mv, [.tmp 0], none⟩,
        ⟨some 18, (.iaddr 1), [.tmp 17, .const (.int .i64 0)], none⟩,
        ⟨some 19, (.ld false 1), [.tmp 18], none⟩,
        ⟨some 5, .mv, [.tmp 19], none⟩])
      (.seq (.run [0, 4, 5, 6] [⟨some 20, .mv, [.tmp 5], none⟩,
         ⟨some 21, (.aaddr 1 256), [.global 0, .tmp 20], none⟩,
         ⟨some 22, (.ld false 1), [.tmp 21], none⟩,
         ⟨some 6, .mv, [.tmp 22], none⟩])
       (.seq (.seq (.run [0, 4, 5, 6, 24] [⟨some 23, .mv, [.tmp 6], none⟩,
           ⟨some 24, (.bin .geq), [.tmp 23, .const (.int .u8 240)], none⟩])
         (.cond (.tmp 24)
          (.seq (.run [0, 7] [⟨some 25, .mv, [.tmp 6], none⟩,
             ⟨some 26, (.cvi .i32), [.tmp 25], none⟩,
             ⟨some 27, (.bin .shl), [.tmp 26, .const (.int .u64 31)], none⟩,
             ⟨some 28, (.bin .shr), [.tmp 27, .const (.int .u64 31)], none⟩,
             ⟨some 7, .mv, [.tmp 28], none⟩])
           (.seq (.run [2, 3] [⟨some 29, .mv, [.tmp 0], none⟩,
              ⟨some 30, (.iaddr 1), [.tmp 29, .const (.int .i64 0)], none⟩,
              ⟨some 31, (.ld false 1), [.tmp 30], none⟩,
              ⟨some 32, (.cvi .i32), [.tmp 31], none⟩,
              ⟨some 33, .mv, [.tmp 7], none⟩,
              ⟨some 34, (.bin .andNot), [.tmp 32, .tmp 33], none⟩,
              ⟨some 35, .mv, [.tmp 7], none⟩,
              ⟨some 36, (.bin .and), [.const (.int .i32 65533), .tmp 35], none⟩,
              ⟨some 37, (.bin .or), [.tmp 34, .tmp 36], none⟩,
              ⟨some 2, .mv, [.tmp 37], none⟩,
              ⟨some 3, .mv, [.const (.int .i64 1)], none⟩])
            .ret))
          .skip))
        (.seq (.run [0, 4, 5, 6, 8] [⟨some 38, .mv, [.tmp 6], none⟩,
           ⟨some 39, (.bin .and), [.tmp 38, .const (.int .u8 7)], none⟩,
           ⟨some 40, (.cvi .i64), [.tmp 39], none⟩,
           ⟨some 8, .mv, [.tmp 40], none⟩])
         (.seq (.run [0, 4, 5, 8, 9] [⟨some 41, .mv, [.tmp 6], none⟩,
            ⟨some 42, (.bin .shr), [.tmp 41, .const (.int .u64 4)], none⟩,
            ⟨some 43, (.aaddr 2 16), [.global 1, .tmp 42], none⟩,
            ⟨some 44, (.ld true 2), [.tmp 43], none⟩,
            ⟨some 9, (.alloc [(.int .u8 0), (.int .u8 0)]), [], none⟩,
            ⟨none, (.st 2), [.tmp 9, .tmp 44], none⟩])
          (.seq (.seq (.run [0, 5, 8, 9, 47] [⟨some 45, .mv, [.tmp 4], none⟩,
              ⟨some 46, .mv, [.tmp 8], none⟩,
              ⟨some 47, (.bin .lss), [.tmp 45, .tmp 46], none⟩])
            (.cond (.tmp 47)
             (.seq (.run [2, 3] [⟨some 2, .mv, [.const (.int .i32 65533)], none⟩,
                ⟨some 3, .mv, [.const (.int .i64 1)], none⟩])
              .ret)
             .skip))
           (.seq (.run [0, 5, 8, 9, 10] [⟨some 48, .mv, [.tmp 0], none⟩,
              ⟨some 49, (.iaddr 1), [.tmp 48, .const (.int .i64 1)], none⟩,
              ⟨some 50, (.ld false 1), [.tmp 49], none⟩,
              ⟨some 10, .mv, [.tmp 50], none⟩])
            (.seq (.seq (.run [0, 5, 8, 10, 60] [⟨some 51, .mv, [.tmp 10], none⟩,
                ⟨some 52, (.faddr 0), [.tmp 9], none⟩,
                ⟨some 53, (.ld false 1), [.tmp 52], none⟩,
                ⟨some 54, (.bin .lss), [.tmp 51, .tmp 53], none⟩,
                ⟨some 55, .mv, [.tmp 54], none⟩,
                ⟨some 56, (.faddr 1), [.tmp 9], some (55, false)⟩,
                ⟨some 57, (.ld false 1), [.tmp 56], some (55, false)⟩,
                ⟨some 58, .mv, [.tmp 10], some (55, false)⟩,
                ⟨some 59, (.bin .lss), [.tmp 57, .tmp 58], some (55, false)⟩,
                ⟨some 60, .pick, [.tmp 55, .const (.bool true), .tmp 59], none⟩])
              (.cond (.tmp 60)
               (.seq (.run [2, 3] [⟨some 2, .mv, [.const (.int .i32 65533)], none⟩,
                  ⟨some 3, .mv, [.const (.int .i64 1)], none⟩])
                .ret)
               .skip))
             (.seq (.seq (.run [0, 5, 8, 10, 62] [⟨some 61, .mv, [.tmp 8], none⟩,
                 ⟨some 62, (.bin .leq), [.tmp 61, .const (.int .i64 2)], none⟩])
               (.cond (.tmp 62)
                (.seq (.run [2, 3] [⟨some 63, .mv, [.tmp 5], none⟩,
                   ⟨some 64, (.bin .and), [.tmp 63, .const (.int .u8 31)], none⟩,
                   ⟨some 65, (.cvi .i32), [.tmp 64], none⟩,
                   ⟨some 66, (.bin .shl), [.tmp 65, .const (.int .u64 6)], none⟩,
                   ⟨some 67, .mv, [.tmp 10], none⟩,
                   ⟨some 68, (.bin .and), [.tmp 67, .const (.int .u8 63)], none⟩,
                   ⟨some 69, (.cvi .i32), [.tmp 68], none⟩,
                   ⟨some 70, (.bin .or), [.tmp 66, .tmp 69], none⟩,
                   ⟨some 2, .mv, [.tmp 70], none⟩,
                   ⟨some 3, .mv, [.const (.int .i64 2)], none⟩])
                 .ret)
                .skip))
              (.seq (.run [0, 5, 8, 10, 11] [⟨some 71, .mv, [.tmp 0], none⟩,
                 ⟨some 72, (.iaddr 1), [.tmp 71, .const (.int .i64 2)], none⟩,
                 ⟨some 73, (.ld false 1), [.tmp 72], none⟩,
                 ⟨some 11, .mv, [.tmp 73], none⟩])
               (.seq (.seq (.run [0, 5, 8, 10, 11, 79] [⟨some 74, .mv, [.tmp 11], none⟩,
                   ⟨some 75, (.bin .lss), [.tmp 74, .const (.int .u8 128)], none⟩,
                   ⟨some 76, .mv, [.tmp 75], none⟩,
                   ⟨some 77, .mv, [.tmp 11], some (76, false)⟩,
                   ⟨some 78, (.bin .lss), [.const (.int .u8 191), .tmp 77], some (76, false)⟩,
                   ⟨some 79, .pick, [.tmp 76, .const (.bool true), .tmp 78], none⟩])
                 (.cond (.tmp 79)
                  (.seq (.run [2, 3] [⟨some 2, .mv, [.const (.int .i32 65533)], none⟩,
                     ⟨some 3, .mv, [.const (.int .i64 1)], none⟩])
                   .ret)
                  .skip))
                (.seq (.seq (.run [0, 5, 10, 11, 81] [⟨some 80, .mv, [.tmp 8], none⟩,
                    ⟨some 81, (.bin .leq), [.tmp 80, .const (.int .i64 3)], none⟩])
                  (.cond (.tmp 81)
                   (.seq (.run [2, 3] [⟨some 82, .mv, [.tmp 5], none⟩,
                      ⟨some 83, (.bin .and), [.tmp 82, .const (.int .u8 15)], none⟩,
                      ⟨some 84, (.cvi .i32), [.tmp 83], none⟩,
                      ⟨some 85, (.bin .shl), [.tmp 84, .const (.int .u64 12)], none⟩,
                      ⟨some 86, .mv, [.tmp 10], none⟩,
                      ⟨some 87, (.bin .and), [.tmp 86, .const (.int .u8 63)], none⟩,
                      ⟨some 88, (.cvi .i32), [.tmp 87], none⟩,
                      ⟨some 89, (.bin .shl), [.tmp 88, .const (.int .u64 6)], none⟩,
                      ⟨some 90, (.bin .or), [.tmp 85, .tmp 89], none⟩,
                      ⟨some 91, .mv, [.tmp 11], none⟩,
                      ⟨some 92, (.bin .and), [.tmp 91, .const (.int .u8 63)], none⟩,
                      ⟨some 93, (.cvi .i32), [.tmp 92], none⟩,
                      ⟨some 94, (.bin .or), [.tmp 90, .tmp 93], none⟩,
                      ⟨some 2, .mv, [.tmp 94], none⟩,
                      ⟨some 3, .mv, [.const (.int .i64 3)], none⟩])
                    .ret)
                   .skip))
                 (.seq (.run [5, 10, 11, 12] [⟨some 95, .mv, [.tmp 0], none⟩,
                    ⟨some 96, (.iaddr 1), [.tmp 95, .const (.int .i64 3)], none⟩,
                    ⟨some 97, (.ld false 1), [.tmp 96], none⟩,
                    ⟨some 12, .mv, [.tmp 97], none⟩])
                  (.seq (.seq (.run [5, 10, 11, 12, 103] [⟨some 98, .mv, [.tmp 12], none⟩,
                      ⟨some 99, (.bin .lss), [.tmp 98, .const (.int .u8 128)], none⟩,
                      ⟨some 100, .mv, [.tmp 99], none⟩,
                      ⟨some 101, .mv, [.tmp 12], some (100, false)⟩,
                      ⟨some 102, (.bin .lss), [.const (.int .u8 191), .tmp 101], some (100, false)⟩,
                      ⟨some 103, .pick, [.tmp 100, .const (.bool true), .tmp 102], none⟩])
                    (.cond (.tmp 103)
                     (.seq (.run [2, 3] [⟨some 2, .mv, [.const (.int .i32 65533)], none⟩,
                        ⟨some 3, .mv, [.const (.int .i64 1)], none⟩])
                      .ret)
                     .skip))
                   (.seq (.run [2, 3] [⟨some 104, .mv, [.tmp 5], none⟩,
                      ⟨some 105, (.bin .and), [.tmp 104, .const (.int .u8 7)], none⟩,
                      ⟨some 106, (.cvi .i32), [.tmp 105], none⟩,
                      ⟨some 107, (.bin .shl), [.tmp 106, .const (.int .u64 18)], none⟩,
                      ⟨some 108, .mv, [.tmp 10], none⟩,
                      ⟨some 109, (.bin .and), [.tmp 108, .const (.int .u8 63)], none⟩,
                      ⟨some 110, (.cvi .i32), [.tmp 109], none⟩,
                      ⟨some 111, (.bin .shl), [.tmp 110, .const (.int .u64 12)], none⟩,
                      ⟨some 112, (.bin .or), [.tmp 107, .tmp 111], none⟩,
                      ⟨some 113, .mv, [.tmp 11], none⟩,
                      ⟨some 114, (.bin .and), [.tmp 113, .const (.int .u8 63)], none⟩,
                      ⟨some 115, (.cvi .i32), [.tmp 114], none⟩,
                      ⟨some 116, (.bin .shl), [.tmp 115, .const (.int .u64 6)], none⟩,
                      ⟨some 117, (.bin .or), [.tmp 112, .tmp 116], none⟩,
                      ⟨some 118, .mv, [.tmp 12], none⟩,
                      ⟨some 119, (.bin .and), [.tmp 118, .const (.int .u8 63)], none⟩,
                      ⟨some 120, (.cvi .i32), [.tmp 119], none⟩,
                      ⟨some 121, (.bin .or), [.tmp 117, .tmp 120], none⟩,
                      ⟨some 2, .mv, [.tmp 121], none⟩,
                      ⟨some 3, .mv, [.const (.int .i64 4)], none⟩])
                    .ret))))))))))))))))))⟩

theorem f32_ok : compF Go.Proofs.Tryd.prog 32 f32.body.hints = some f32 := by kernel_rfl


def f33 : AFun := ⟨78, 2, [.slot 4],
  (.seq (.run [0, 1] [⟨some 4, .mv, [.const (.slice none 0 0)], none⟩])
   (.seq (.run [0, 1, 5] [⟨some 6, .mv, [.tmp 1], none⟩,
      ⟨some 7, (.cvi .u32), [.tmp 6], none⟩,
      ⟨some 5, .mv, [.tmp 7], none⟩])
    (.block 0 (.seq (.run [0, 1, 5, 11] [⟨some 12, .mv, [.tmp 5], none⟩,
        ⟨some 13, (.bin .leq), [.tmp 12, .const (.int .u32 2047)], none⟩,
        ⟨some 11, .mv, [.tmp 13], none⟩])
      (.cond (.tmp 11)
       (.seq (.run [4] [⟨some 14, .mv, [.tmp 0], none⟩,
          ⟨some 15, .mv, [.tmp 1], none⟩,
          ⟨some 16, (.bin .shr), [.tmp 15, .const (.int .u64 6)], none⟩,
          ⟨some 17, (.cvi .u8), [.tmp 16], none⟩,
          ⟨some 18, (.bin .or), [.const (.int .u8 192), .tmp 17], none⟩,
          ⟨some 19, .mv, [.tmp 1], none⟩,
          ⟨some 20, (.cvi .u8), [.tmp 19], none⟩,
          ⟨some 21, (.bin .and), [.tmp 20, .const (.int .u8 63)], none⟩,
          ⟨some 22, (.bin .or), [.const (.int .u8 128), .tmp 21], none⟩,
          ⟨some 23, (.bslice 1 2 [(.int .u8 0)] [(0, 1), (1, 1)]), [.tmp 18, .tmp 22], none⟩,
          ⟨some 24, (.app 1 1), [.tmp 14, .tmp 23], none⟩,
          ⟨some 4, .mv, [.tmp 24], none⟩])
        .ret)
       (.seq (.seq (.run [0, 1, 5, 25] [⟨some 26, .mv, [.tmp 5], none⟩,
           ⟨some 27, (.bin .lss), [.tmp 26, .const (.int .u32 55296)], none⟩,
           ⟨some 25, .mv, [.tmp 27], none⟩])
         (.cond (.tmp 25)
          .skip
          (.run [0, 1, 5, 25] [⟨some 28, .mv, [.tmp 5], none⟩,
            ⟨some 29, (.bin .lss), [.const (.int .u32 57343), .tmp 28], none⟩,
            ⟨some 30, .mv, [.tmp 29], none⟩,
            ⟨some 31, .mv, [.tmp 5], some (30, true)⟩,
            ⟨some 32, (.bin .leq), [.tmp 31, .const (.int .u32 65535)], some (30, true)⟩,
            ⟨some 33, .pick, [.tmp 30, .tmp 32, .const (.bool false)], none⟩,
            ⟨some 25, .mv, [.tmp 33], none⟩])))
        (.cond (.tmp 25)
         (.seq (.run [4] [⟨some 34, .mv, [.tmp 0], none⟩,
            ⟨some 35, .mv, [.tmp 1], none⟩,
            ⟨some 36, (.bin .shr), [.tmp 35, .const (.int .u64 12)], none⟩,
            ⟨some 37, (.cvi .u8), [.tmp 36], none⟩,
            ⟨some 38, (.bin .or), [.const (.int .u8 224), .tmp 37], none⟩,
            ⟨some 39, .mv, [.tmp 1], none⟩,
            ⟨some 40, (.bin .shr), [.tmp 39, .const (.int .u64 6)], none⟩,
            ⟨some 41, (.cvi .u8), [.tmp 40], none⟩,
            ⟨some 42, (.bin .and), [.tmp 41, .const (.int .u8 63)], none⟩,
            ⟨some 43, (.bin .or), [.const (.int .u8 128), .tmp 42], none⟩,
            ⟨some 44, .mv, [.tmp 1], none⟩,
            ⟨some 45, (.cvi .u8), [.tmp 44], none⟩,
            ⟨some 46, (.bin .and), [.tmp 45, .const (.int .u8 63)], none⟩,
            ⟨some 47, (.bin .or), [.const (.int .u8 128), .tmp 46], none⟩,
            ⟨some 48, (.bslice 1 3 [(.int .u8 0)] [(0, 1), (1, 1), (2, 1)]), [.tmp 38, .tmp 43, .tmp 47], none⟩,
            ⟨some 49, (.app 1 1), [.tmp 34, .tmp 48], none⟩,
            ⟨some 4, .mv, [.tmp 49], none⟩])
          .ret)
         (.seq (.run [0, 1, 50] [⟨some 51, .mv, [.tmp 5], none⟩,
            ⟨some 52, (.bin .gtr), [.tmp 51, .const (.int .u32 65535)], none⟩,
            ⟨some 53, .mv, [.tmp 52], none⟩,
            ⟨some 54, .mv, [.tmp 5], some (53, true)⟩,
            ⟨some 55, (.bin .leq), [.tmp 54, .const (.int .u32 1114111)], some (53, true)⟩,
            ⟨some 56, .pick, [.tmp 53, .tmp 55, .const (.bool false)], none⟩,
            ⟨some 50, .mv, [.tmp 56], none⟩])
          (.cond (.tmp 50)
           (.seq (.run [4] [⟨some 57, .mv, [.tmp 0], none⟩,
              ⟨some 58, .mv, [.tmp 1], none⟩,
              ⟨some 59, (.bin .shr), [.tmp 58, .const (.int .u64 18)], none⟩,
              ⟨some 60, (.cvi .u8), [.tmp 59], none⟩,
              ⟨some 61, (.bin .or), [.const (.int .u8 240), .tmp 60], none⟩,
              ⟨some 62, .mv, [.tmp 1], none⟩,
              ⟨some 63, (.bin .shr), [.tmp 62, .const (.int .u64 12)], none⟩,
              ⟨some 64, (.cvi .u8), [.tmp 63], none⟩,
              ⟨some 65, (.bin .and), [.tmp 64, .const (.int .u8 63)], none⟩,
              ⟨some 66, (.bin .or), [.const (.int .u8 128), .tmp 65], none⟩,
              ⟨some 67, .mv, [.tmp 1], none⟩,
              ⟨some 68, (.bin .shr), [.tmp 67, .const (.int .u64 6)], none⟩,
              ⟨some 69, (.cvi .u8), [.tmp 68], none⟩,
              ⟨some 70, (.bin .and), [.tmp 69, .const (.int .u8 63)], none⟩,
              ⟨some 71, (.bin .or), [.const (.int .u8 128), .tmp 70], none⟩,
              ⟨some 72, .mv, [.tmp 1], none⟩,
              ⟨some 73, (.cvi .u8), [.tmp 72], none⟩,
              ⟨some 74, (.bin .and), [.tmp 73, .const (.int .u8 63)], none⟩,
              ⟨some 75, (.bin .or), [.const (.int .u8 128), .tmp 74], none⟩,
              ⟨some 76, (.bslice 1 4 [(.int .u8 0)] [(0, 1), (1, 1), (2, 1), (3, 1)]), [.tmp 61, .tmp 66, .tmp 71, .tmp 75], none⟩,
              ⟨some 77, (.app 1 1), [.tmp 57, .tmp 76], none⟩,
              ⟨some 4, .mv, [.tmp 77], none⟩])
            .ret)
           (.seq (.run [4] [⟨some 8, .mv, [.tmp 0], none⟩,
              ⟨some 9, (.bslice 1 3 [(.int .u8 0)] [(0, 1), (1, 1), (2, 1)]), [.const (.int .u8 239), .const (.int .u8 191), .const (.int .u8 189)], none⟩,
              ⟨some 10, (.app 1 1), [.tmp 8, .tmp 9], none⟩,
              ⟨some 4, .mv, [.tmp 10], none⟩])
            .ret))))))))))⟩

theorem f33_ok : compF Go.Proofs.Tryd.prog 33 f33.body.hints = some f33 := by kernel_rfl


def f34 : AFun := ⟨59, 1, [.slot 2],
  (.seq (.run [0] [⟨some 2, .mv, [.const (.int .u64 0)], none⟩])
   (.seq (.cond (.const (.bool false))
     (.seq (.runD [2] [⟨0, ⟨some 3, .mv, [.tmp 0], none⟩, []⟩,
        ⟨1, ⟨some 4, .ixs, [.tmp 3, .const (.int .i64 0)], none⟩, []⟩,
        ⟨2, ⟨some 5, (.cvi .u64), [.tmp 4], none⟩, []⟩,
        ⟨3, ⟨some 6, .mv, [.tmp 0], none⟩, []⟩,
        ⟨4, ⟨some 7, .ixs, [.tmp 6, .const (.int .i64 1)], none⟩, []⟩,
        ⟨5, ⟨some 8, (.cvi .u64), [.tmp 7], none⟩, []⟩,
        ⟨6, ⟨some 9, (.bin .shl), [.tmp 8, .const (.int .u64 8)], none⟩, []⟩,
        ⟨7, ⟨some 10, (.bin .or), [.tmp 5, .tmp 9], none⟩, []⟩,
        ⟨8, ⟨some 11, .mv, [.tmp 0], none⟩, []⟩,
        ⟨9, ⟨some 12, .ixs, [.tmp 11, .const (.int .i64 2)], none⟩, []⟩,
        ⟨10, ⟨some 13, (.cvi .u64), [.tmp 12], none⟩, []⟩,
        ⟨11, ⟨some 14, (.bin .shl), [.tmp 13, .const (.int .u64 16)], none⟩, []⟩,
        ⟨12, ⟨some 15, (.bin .or), [.tmp 10, .tmp 14], none⟩, []⟩,
        ⟨13, ⟨some 16, .mv, [.tmp 0], none⟩, []⟩,
        ⟨14, ⟨some 17, .ixs, [.tmp 16, .const (.int .i64 3)], none⟩, []⟩,
        ⟨15, ⟨some 18, (.cvi .u64), [.tmp 17], none⟩, []⟩,
        ⟨16, ⟨some 19, (.bin .shl), [.tmp 18, .const (.int .u64 24)], none⟩, []⟩,
        ⟨17, ⟨some 20, (.bin .or), [.tmp 15, .tmp 19], none⟩, []⟩,
        ⟨18, ⟨some 2, .mv, [.tmp 20], none⟩, []⟩])
      .ret)
     .skip)
    (.seq (.runD [2] [⟨0, ⟨some 21, .mv, [.tmp 0], none⟩, []⟩,
       ⟨1, ⟨some 22, .ixs, [.tmp 21, .const (.int .i64 0)], none⟩, []⟩,
       ⟨2, ⟨some 23, (.cvi .u64), [.tmp 22], none⟩, []⟩,
       ⟨3, ⟨some 24, .mv, [.tmp 0], none⟩, []⟩,
       ⟨4, ⟨some 25, .ixs, [.tmp 24, .const (.int .i64 1)], none⟩, []⟩,
       ⟨5, ⟨some 26, (.cvi .u64), [.tmp 25], none⟩, []⟩,
       ⟨6, ⟨some 27, (.bin .shl), [.tmp 26, .const (.int .u64 8)], none⟩, []⟩,
       ⟨7, ⟨some 28, (.bin .or), [.tmp 23, .tmp 27], none⟩, []⟩,
       ⟨8, ⟨some 29, .mv, [.tmp 0], none⟩, []⟩,
       ⟨9, ⟨some 30, .ixs, [.tmp 29, .const (.int .i64 2)], none⟩, []⟩,
       ⟨10, ⟨some 31, (.cvi .u64), [.tmp 30], none⟩, []⟩,
       ⟨11, ⟨some 32, (.bin .shl), [.tmp 31, .const (.int .u64 16)], none⟩, []⟩,
       ⟨12, ⟨some 33, (.bin .or), [.tmp 28, .tmp 32], none⟩, []⟩,
       ⟨13, ⟨some 34, .mv, [.tmp 0], none⟩, []⟩,
       ⟨14, ⟨some 35, .ixs, [.tmp 34, .const (.int .i64 3)], none⟩, []⟩,
       ⟨15, ⟨some 36, (.cvi .u64), [.tmp 35], none⟩, []⟩,
       ⟨16, ⟨some 37, (.bin .shl), [.tmp 36, .const (.int .u64 24)], none⟩, []⟩,
       ⟨17, ⟨some 38, (.bin .or), [.tmp 33, .tmp 37], none⟩, []⟩,
       ⟨18, ⟨some 39, .mv, [.tmp 0], none⟩, []⟩,
       ⟨19, ⟨some 40, .ixs, [.tmp 39, .const (.int .i64 4)], none⟩, []⟩,
       ⟨20, ⟨some 41, (.cvi .u64), [.tmp 40], none⟩, []⟩,
       ⟨21, ⟨some 42, (.bin .shl), [.tmp 41, .const (.int .u64 32)], none⟩, []⟩,
       ⟨22, ⟨some 43, (.bin .or), [.tmp 38, .tmp 42], none⟩, []⟩,
       ⟨23, ⟨some 44, .mv, [.tmp 0], none⟩, []⟩,
       ⟨24, ⟨some 45, .ixs, [.tmp 44, .const (.int .i64 5)], none⟩, []⟩,
       ⟨25, ⟨some 46, (.cvi .u64), [.tmp 45], none⟩, []⟩,
       ⟨26, ⟨some 47, (.bin .shl), [.tmp 46, .const (.int .u64 40)], none⟩, []⟩,
       ⟨27, ⟨some 48, (.bin .or), [.tmp 43, .tmp 47], none⟩, []⟩,
       ⟨28, ⟨some 49, .mv, [.tmp 0], none⟩, []⟩,
       ⟨29, ⟨some 50, .ixs, [.tmp 49, .const (.int .i64 6)], none⟩, []⟩,
       ⟨30, ⟨some 51, (.cvi .u64), [.tmp 50], none⟩, []⟩,
       ⟨31, ⟨some 52, (.bin .shl), [.tmp 51, .const (.int .u64 48)], none⟩, []⟩,
       ⟨32, ⟨some 53, (.bin .or), [.tmp 48, .tmp 52], none⟩, []⟩,
       ⟨33, ⟨some 54, .mv, [.tmp 0], none⟩, []⟩,
       ⟨34, ⟨some 55, .ixs, [.tmp 54, .const (.int .i64 7)], none⟩, []⟩,
       ⟨35, ⟨some 56, (.cvi .u64), [.tmp 55], none⟩, []⟩,
       ⟨36, ⟨some 57, (.bin .shl), [.tmp 56, .const (.int .u64 56)], none⟩, []⟩,
       ⟨37, ⟨some 58, (.bin .or), [.tmp 53, .tmp 57], none⟩, []⟩,
       ⟨38, ⟨some 2, .mv, [.tmp 58], none⟩, []⟩])
     .ret)))⟩

theorem f34_ok : compF Go.Proofs.Tryd.prog 34 f34.body.hints = some f34 := by kernel_rfl

end Go.AL.Fun
