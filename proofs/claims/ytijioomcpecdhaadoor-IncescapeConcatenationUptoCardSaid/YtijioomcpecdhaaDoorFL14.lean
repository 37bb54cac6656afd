/- The functions of this seat's program, turned. Printed by a program; each is checked against the program. -/
import Derived.Test.YtijioomcpecdhaaDoorF1
import Derived.Test.YtijioomcpecdhaaDoorProg
import Derived.KernelRfl
namespace Go.AL.Fun
open Go.AL


def f14 : AFun := ⟨98, 3, [.slot 6],
  (.seq (.run [0, 1, 2] [⟨some 6, .mv, [.const (.bool false)], none⟩])
   (.seq (.seq (.run [0, 1, 2, 27] [⟨some 14, .mv, [.tmp 1], none⟩,
       ⟨some 15, (.len 0), [.tmp 14], none⟩,
       ⟨some 16, (.bin .gtr), [.tmp 15, .const (.int .i64 5000)], none⟩,
       ⟨some 17, .mv, [.tmp 16], none⟩,
       ⟨some 18, .mv, [.tmp 2], some (17, false)⟩,
       ⟨some 19, (.len 0), [.tmp 18], some (17, false)⟩,
       ⟨some 20, (.bin .gtr), [.tmp 19, .const (.int .i64 5000)], some (17, false)⟩,
       ⟨some 21, .pick, [.tmp 17, .const (.bool true), .tmp 20], none⟩,
       ⟨some 22, .mv, [.tmp 21], none⟩,
       ⟨some 23, .mv, [.tmp 1], some (22, false)⟩,
       ⟨some 24, (.call 38), [.tmp 23, .const (.string ⟨#[]⟩)], some (22, false)⟩,
       ⟨some 25, .mv, [.tmp 1], some (22, false)⟩,
       ⟨some 26, (.eqg true 6), [.tmp 24, .tmp 25], some (22, false)⟩,
       ⟨some 27, .pick, [.tmp 22, .const (.bool true), .tmp 26], none⟩])
     (.cond (.tmp 27)
      (.seq (.run [6] [⟨some 28, (.call 26), [], none⟩,
         ⟨some 6, .mv, [.tmp 28], none⟩])
       .ret)
      .skip))
    (.seq (.run [1, 2, 7] [⟨some 29, .mv, [.tmp 0], none⟩,
       ⟨some 30, (.cvi .i64), [.tmp 29], none⟩,
       ⟨some 31, (.bin .rem), [.tmp 30, .const (.int .i64 5)], none⟩,
       ⟨some 7, .mv, [.tmp 31], none⟩])
     (.seq (.run [1, 2, 7, 8, 9] [⟨some 33, .mv, [.tmp 7], none⟩,
        ⟨some 34, (.call 25), [.tmp 33], none⟩,
        ⟨some 32, .mv, [.tmp 34], none⟩,
        ⟨some 35, (.ext 0), [.tmp 32], none⟩,
        ⟨some 36, (.ext 1), [.tmp 32], none⟩,
        ⟨some 8, .mv, [.tmp 35], none⟩,
        ⟨some 9, .mv, [.tmp 36], none⟩])
      (.seq (.seq (.run [1, 2, 7, 8, 61] [⟨some 37, .mv, [.tmp 9], none⟩,
          ⟨some 38, (.eqg true 6), [.tmp 37, .const (.int .i64 0)], none⟩,
          ⟨some 39, .mv, [.tmp 38], none⟩,
          ⟨some 40, .mv, [.tmp 8], some (39, false)⟩,
          ⟨some 41, (.eqg false 1), [.tmp 40, .const (.pointer none)], some (39, false)⟩,
          ⟨some 42, .pick, [.tmp 39, .const (.bool true), .tmp 41], none⟩,
          ⟨some 43, .mv, [.tmp 42], none⟩,
          ⟨some 44, .mv, [.tmp 8], some (43, false)⟩,
          ⟨some 45, .mv, [.tmp 1], some (43, false)⟩,
          ⟨some 46, .sb, [.tmp 45], some (43, false)⟩,
          ⟨some 47, (.call 29), [.tmp 44, .tmp 46], some (43, false)⟩,
          ⟨some 48, (.eqg true 6), [.tmp 47, .const (.int .i64 0)], some (43, false)⟩,
          ⟨some 49, .pick, [.tmp 43, .const (.bool true), .tmp 48], none⟩,
          ⟨some 50, .mv, [.tmp 49], none⟩,
          ⟨some 51, .mv, [.tmp 8], some (50, false)⟩,
          ⟨some 52, .mv, [.tmp 2], some (50, false)⟩,
          ⟨some 53, .sb, [.tmp 52], some (50, false)⟩,
          ⟨some 54, (.call 29), [.tmp 51, .tmp 53], some (50, false)⟩,
          ⟨some 55, (.eqg true 6), [.tmp 54, .const (.int .i64 0)], some (50, false)⟩,
          ⟨some 56, .pick, [.tmp 50, .const (.bool true), .tmp 55], none⟩,
          ⟨some 57, .mv, [.tmp 56], none⟩,
          ⟨some 58, .mv, [.tmp 8], some (57, false)⟩,
          ⟨some 59, (.call 30), [.tmp 58], some (57, false)⟩,
          ⟨some 60, (.eqg true 6), [.tmp 59, .const (.int .i64 0)], some (57, false)⟩,
          ⟨some 61, .pick, [.tmp 57, .const (.bool true), .tmp 60], none⟩])
        (.cond (.tmp 61)
         (.seq (.run [6] [⟨some 6, .mv, [.const (.bool false)], none⟩])
          .ret)
         .skip))
       (.seq (.run [2, 7, 8, 10, 11] [⟨some 63, .mv, [.tmp 7], none⟩,
          ⟨some 64, .mv, [.tmp 1], none⟩,
          ⟨some 65, (.call 18), [.tmp 63, .tmp 64], none⟩,
          ⟨some 62, .mv, [.tmp 65], none⟩,
          ⟨some 66, (.ext 0), [.tmp 62], none⟩,
          ⟨some 67, (.ext 1), [.tmp 62], none⟩,
          ⟨some 10, .mv, [.tmp 66], none⟩,
          ⟨some 11, .mv, [.tmp 67], none⟩])
        (.seq (.run [8, 10, 11, 12, 13] [⟨some 69, .mv, [.tmp 7], none⟩,
           ⟨some 70, .mv, [.tmp 2], none⟩,
           ⟨some 71, (.call 18), [.tmp 69, .tmp 70], none⟩,
           ⟨some 68, .mv, [.tmp 71], none⟩,
           ⟨some 72, (.ext 0), [.tmp 68], none⟩,
           ⟨some 73, (.ext 1), [.tmp 68], none⟩,
           ⟨some 12, .mv, [.tmp 72], none⟩,
           ⟨some 13, .mv, [.tmp 73], none⟩])
         (.seq (.run [6] [⟨some 74, (.call 26), [], none⟩,
            ⟨some 75, .mv, [.tmp 74], none⟩,
            ⟨some 76, .mv, [.tmp 11], some (75, true)⟩,
            ⟨some 77, (.eqg false 6), [.tmp 76, .const (.int .i64 0)], some (75, true)⟩,
            ⟨some 78, .pick, [.tmp 75, .tmp 77, .const (.bool false)], none⟩,
            ⟨some 79, .mv, [.tmp 78], none⟩,
            ⟨some 80, .mv, [.tmp 13], some (79, true)⟩,
            ⟨some 81, (.eqg false 6), [.tmp 80, .const (.int .i64 0)], some (79, true)⟩,
            ⟨some 82, .pick, [.tmp 79, .tmp 81, .const (.bool false)], none⟩,
            ⟨some 83, .mv, [.tmp 82], none⟩,
            ⟨some 84, .mv, [.tmp 8], some (83, true)⟩,
            ⟨some 85, .mv, [.tmp 8], some (83, true)⟩,
            ⟨some 86, (.call 27), [.tmp 85], some (83, true)⟩,
            ⟨some 87, (.call 31), [.tmp 84, .tmp 86], some (83, true)⟩,
            ⟨some 88, .cvb, [.tmp 87], some (83, true)⟩,
            ⟨some 89, .mv, [.tmp 10], some (83, true)⟩,
            ⟨some 90, .mv, [.tmp 12], some (83, true)⟩,
            ⟨some 91, (.bin .add), [.tmp 89, .tmp 90], some (83, true)⟩,
            ⟨some 92, (.eqg false 6), [.tmp 88, .tmp 91], some (83, true)⟩,
            ⟨some 93, .pick, [.tmp 83, .tmp 92, .const (.bool false)], none⟩,
            ⟨some 94, .mv, [.tmp 93], none⟩,
            ⟨some 95, .mv, [.tmp 8], some (94, true)⟩,
            ⟨some 96, (.call 28), [.tmp 95], some (94, true)⟩,
            ⟨some 97, .pick, [.tmp 94, .tmp 96, .const (.bool false)], none⟩,
            ⟨some 6, .mv, [.tmp 97], none⟩])
          .ret))))))))⟩

theorem f14_ok : compF Go.Proofs.Tryd.prog 14 f14.body.hints = some f14 := by kernel_rfl


def f38 : AFun := ⟨87, 2, [.slot 4],
  (.seq (.run [0, 1] [⟨some 4, .mv, [.const (.string ⟨#[]⟩)], none⟩])
   (.seq (.run [0, 1, 5] [⟨some 5, (.rawal 71), [], none⟩])
    (.seq (.seq (.run [0, 1, 5, 16] [⟨some 15, .mv, [.tmp 0], none⟩,
        ⟨some 16, .rngs, [.tmp 15], none⟩])
      (.block 0 (.loop [0, 1, 5, 16] (.seq (.run [0, 1, 5, 16, 17, 18] [⟨some 17, .nxts, [.tmp 16], none⟩,
           ⟨some 18, (.ext 0), [.tmp 17], none⟩])
         (.seq (.cond (.tmp 18)
           .skip
           (.exit 0))
          (.block 1 (.seq (.run [0, 1, 5, 6, 7, 16] [⟨some 19, (.ext 1), [.tmp 17], none⟩,
              ⟨some 20, (.ext 2), [.tmp 17], none⟩,
              ⟨some 6, .mv, [.tmp 19], none⟩,
              ⟨some 7, .mv, [.tmp 20], none⟩])
            (.seq (.seq (.run [0, 1, 5, 6, 16, 22] [⟨some 21, .mv, [.tmp 7], none⟩,
                ⟨some 22, (.eqg true 6), [.tmp 21, .const (.int .i32 65533)], none⟩])
              (.cond (.tmp 22)
               (.exit 1)
               .skip))
             (.seq (.run [0, 1, 5, 6, 9, 16] [⟨some 24, .mv, [.tmp 0], none⟩,
                ⟨some 25, .mv, [.tmp 6], none⟩,
                ⟨some 26, (.slc 0 true false), [.tmp 24, .tmp 25], none⟩,
                ⟨some 27, (.call 69), [.tmp 26], none⟩,
                ⟨some 23, .mv, [.tmp 27], none⟩,
                ⟨some 28, (.ext 0), [.tmp 23], none⟩,
                ⟨some 29, (.ext 1), [.tmp 23], none⟩,
                ⟨some 8, .mv, [.tmp 28], none⟩,
                ⟨some 9, .mv, [.tmp 29], none⟩])
              (.seq (.run [0, 1, 5, 6, 16, 31] [⟨some 30, .mv, [.tmp 9], none⟩,
                 ⟨some 31, (.eqg false 6), [.tmp 30, .const (.int .i64 1)], none⟩])
               (.cond (.tmp 31)
                (.seq (.run [0, 1, 5, 6] [⟨some 32, .mv, [.tmp 0], none⟩,
                   ⟨some 33, (.len 0), [.tmp 32], none⟩,
                   ⟨some 34, .mv, [.tmp 1], none⟩,
                   ⟨some 35, (.len 0), [.tmp 34], none⟩,
                   ⟨some 36, (.bin .add), [.tmp 33, .tmp 35], none⟩,
                   ⟨some 37, (.call 70), [.tmp 5, .tmp 36], none⟩])
                 (.seq (.run [0, 1, 5, 6] [⟨some 38, .mv, [.tmp 0], none⟩,
                    ⟨some 39, .mv, [.tmp 6], none⟩,
                    ⟨some 40, (.slc 0 false true), [.tmp 38, .tmp 39], none⟩,
                    ⟨some 41, (.call 54), [.tmp 5, .tmp 40], none⟩])
                  (.seq (.run [0, 1, 5] [⟨some 42, .mv, [.tmp 0], none⟩,
                     ⟨some 43, .mv, [.tmp 6], none⟩,
                     ⟨some 44, (.slc 0 true false), [.tmp 42, .tmp 43], none⟩,
                     ⟨some 0, .mv, [.tmp 44], none⟩])
                   (.exit 0))))
                .skip)))))))))))
     (.seq (.seq (.run [0, 1, 5, 46] [⟨some 45, (.call 71), [.tmp 5], none⟩,
         ⟨some 46, (.eqg false 6), [.tmp 45, .const (.int .i64 0)], none⟩])
       (.cond (.tmp 46)
        (.seq (.run [4] [⟨some 47, .mv, [.tmp 0], none⟩,
           ⟨some 4, .mv, [.tmp 47], none⟩])
         .ret)
        .skip))
      (.seq (.run [0, 1, 5, 10] [⟨some 10, .mv, [.const (.bool false)], none⟩])
       (.seq (.seq (.run [0, 1, 5, 10, 11] [⟨some 11, .mv, [.const (.int .i64 0)], none⟩])
         (.block 2 (.loop [0, 1, 5, 10, 11] (.seq (.seq (.run [0, 1, 5, 10, 11, 51] [⟨some 48, .mv, [.tmp 11], none⟩,
               ⟨some 49, .mv, [.tmp 0], none⟩,
               ⟨some 50, (.len 0), [.tmp 49], none⟩,
               ⟨some 51, (.bin .lss), [.tmp 48, .tmp 50], none⟩])
             (.cond (.tmp 51)
              .skip
              (.exit 2)))
            (.block 3 (.seq (.run [0, 1, 5, 10, 11, 12] [⟨some 52, .mv, [.tmp 0], none⟩,
                ⟨some 53, .mv, [.tmp 11], none⟩,
                ⟨some 54, .ixs, [.tmp 52, .tmp 53], none⟩,
                ⟨some 12, .mv, [.tmp 54], none⟩])
              (.seq (.seq (.run [0, 1, 5, 10, 11, 12, 56] [⟨some 55, .mv, [.tmp 12], none⟩,
                  ⟨some 56, (.bin .lss), [.tmp 55, .const (.int .u8 128)], none⟩])
                (.cond (.tmp 56)
                 (.seq (.run [0, 1, 5, 11, 12] [⟨some 57, .mv, [.tmp 11], none⟩,
                    ⟨some 58, (.bin .add), [.tmp 57, .const (.int .i64 1)], none⟩,
                    ⟨some 11, .mv, [.tmp 58], none⟩])
                  (.seq (.run [0, 1, 5, 10, 11, 12] [⟨some 10, .mv, [.const (.bool false)], none⟩])
                   (.seq (.run [0, 1, 5, 10, 11] [⟨some 59, .mv, [.tmp 12], none⟩,
                      ⟨some 60, (.call 72), [.tmp 5, .tmp 59], none⟩])
                    (.exit 3))))
                 .skip))
               (.seq (.run [0, 1, 5, 10, 11, 14] [⟨some 62, .mv, [.tmp 0], none⟩,
                  ⟨some 63, .mv, [.tmp 11], none⟩,
                  ⟨some 64, (.slc 0 true false), [.tmp 62, .tmp 63], none⟩,
                  ⟨some 65, (.call 69), [.tmp 64], none⟩,
                  ⟨some 61, .mv, [.tmp 65], none⟩,
                  ⟨some 66, (.ext 0), [.tmp 61], none⟩,
                  ⟨some 67, (.ext 1), [.tmp 61], none⟩,
                  ⟨some 13, .mv, [.tmp 66], none⟩,
                  ⟨some 14, .mv, [.tmp 67], none⟩])
                (.seq (.seq (.run [0, 1, 5, 10, 11, 14, 69] [⟨some 68, .mv, [.tmp 14], none⟩,
                    ⟨some 69, (.eqg false 6), [.tmp 68, .const (.int .i64 1)], none⟩])
                  (.cond (.tmp 69)
                   (.seq (.run [0, 1, 5, 10, 11] [⟨some 70, .mv, [.tmp 11], none⟩,
                      ⟨some 71, (.bin .add), [.tmp 70, .const (.int .i64 1)], none⟩,
                      ⟨some 11, .mv, [.tmp 71], none⟩])
                    (.seq (.seq (.run [0, 1, 5, 10, 11, 73] [⟨some 72, .mv, [.tmp 10], none⟩,
                        ⟨some 73, (.un .not), [.tmp 72], none⟩])
                      (.cond (.tmp 73)
                       (.seq (.run [0, 1, 5, 10, 11] [⟨some 10, .mv, [.const (.bool true)], none⟩])
                        (.run [0, 1, 5, 10, 11] [⟨some 74, .mv, [.tmp 1], none⟩,
                          ⟨some 75, (.call 54), [.tmp 5, .tmp 74], none⟩]))
                       .skip))
                     (.exit 3)))
                   .skip))
                 (.seq (.run [0, 1, 5, 10, 11, 14] [⟨some 10, .mv, [.const (.bool false)], none⟩])
                  (.seq (.run [0, 1, 5, 10, 11, 14] [⟨some 76, .mv, [.tmp 0], none⟩,
                     ⟨some 77, .mv, [.tmp 11], none⟩,
                     ⟨some 78, .mv, [.tmp 11], none⟩,
                     ⟨some 79, .mv, [.tmp 14], none⟩,
                     ⟨some 80, (.bin .add), [.tmp 78, .tmp 79], none⟩,
                     ⟨some 81, (.slc 0 true true), [.tmp 76, .tmp 77, .tmp 80], none⟩,
                     ⟨some 82, (.call 54), [.tmp 5, .tmp 81], none⟩])
                   (.run [0, 1, 5, 10, 11] [⟨some 83, .mv, [.tmp 11], none⟩,
                     ⟨some 84, .mv, [.tmp 14], none⟩,
                     ⟨some 85, (.bin .add), [.tmp 83, .tmp 84], none⟩,
                     ⟨some 11, .mv, [.tmp 85], none⟩]))))))))))))
        (.seq (.run [4] [⟨some 86, (.call 55), [.tmp 5], none⟩,
           ⟨some 4, .mv, [.tmp 86], none⟩])
         .ret)))))))⟩

theorem f38_ok : compF Go.Proofs.Tryd.prog 38 f38.body.hints = some f38 := by kernel_rfl

end Go.AL.Fun
