/- The functions of this seat's program, turned. Printed by a program; each is checked against the program. -/
import Derived.Test.YtijioomcpecdhaaDoorF1
import Derived.Test.YtijioomcpecdhaaDoorProg
import Derived.KernelRfl
namespace Go.AL.Fun
open Go.AL


def f13 : AFun := ⟨128, 3, [.slot 6],
  (.seq (.run [0, 1, 2] [⟨some 6, .mv, [.const (.bool false)], none⟩])
   (.seq (.seq (.run [0, 1, 2, 29] [⟨some 17, .mv, [.tmp 1], none⟩,
       ⟨some 18, (.len 0), [.tmp 17], none⟩,
       ⟨some 19, (.bin .gtr), [.tmp 18, .const (.int .i64 1000)], none⟩,
       ⟨some 20, .mv, [.tmp 19], none⟩,
       ⟨some 21, .mv, [.tmp 2], some (20, false)⟩,
       ⟨some 22, (.len 1), [.tmp 21], some (20, false)⟩,
       ⟨some 23, (.eqg false 6), [.tmp 22, .const (.int .i64 0)], some (20, false)⟩,
       ⟨some 24, .pick, [.tmp 20, .const (.bool true), .tmp 23], none⟩,
       ⟨some 25, .mv, [.tmp 24], none⟩,
       ⟨some 26, .mv, [.tmp 2], some (25, false)⟩,
       ⟨some 27, (.len 1), [.tmp 26], some (25, false)⟩,
       ⟨some 28, (.bin .gtr), [.tmp 27, .const (.int .i64 100)], some (25, false)⟩,
       ⟨some 29, .pick, [.tmp 25, .const (.bool true), .tmp 28], none⟩])
     (.cond (.tmp 29)
      (.seq (.run [6] [⟨some 30, (.call 26), [], none⟩,
         ⟨some 6, .mv, [.tmp 30], none⟩])
       .ret)
      .skip))
    (.seq (.run [1, 2, 7] [⟨some 31, .mv, [.tmp 0], none⟩,
       ⟨some 32, (.cvi .i64), [.tmp 31], none⟩,
       ⟨some 33, (.bin .rem), [.tmp 32, .const (.int .i64 5)], none⟩,
       ⟨some 7, .mv, [.tmp 33], none⟩])
     (.seq (.run [1, 2, 7, 8, 9] [⟨some 35, .mv, [.tmp 7], none⟩,
        ⟨some 36, (.call 25), [.tmp 35], none⟩,
        ⟨some 34, .mv, [.tmp 36], none⟩,
        ⟨some 37, (.ext 0), [.tmp 34], none⟩,
        ⟨some 38, (.ext 1), [.tmp 34], none⟩,
        ⟨some 8, .mv, [.tmp 37], none⟩,
        ⟨some 9, .mv, [.tmp 38], none⟩])
      (.seq (.run [1, 2, 8, 9, 10, 11] [⟨some 40, .mv, [.tmp 7], none⟩,
         ⟨some 41, .mv, [.tmp 1], none⟩,
         ⟨some 42, (.call 18), [.tmp 40, .tmp 41], none⟩,
         ⟨some 39, .mv, [.tmp 42], none⟩,
         ⟨some 43, (.ext 0), [.tmp 39], none⟩,
         ⟨some 44, (.ext 1), [.tmp 39], none⟩,
         ⟨some 10, .mv, [.tmp 43], none⟩,
         ⟨some 11, .mv, [.tmp 44], none⟩])
       (.seq (.seq (.run [1, 2, 8, 10, 54] [⟨some 45, .mv, [.tmp 9], none⟩,
           ⟨some 46, (.eqg true 6), [.tmp 45, .const (.int .i64 0)], none⟩,
           ⟨some 47, .mv, [.tmp 46], none⟩,
           ⟨some 48, .mv, [.tmp 8], some (47, false)⟩,
           ⟨some 49, (.eqg false 1), [.tmp 48, .const (.pointer none)], some (47, false)⟩,
           ⟨some 50, .pick, [.tmp 47, .const (.bool true), .tmp 49], none⟩,
           ⟨some 51, .mv, [.tmp 50], none⟩,
           ⟨some 52, .mv, [.tmp 11], some (51, false)⟩,
           ⟨some 53, (.eqg true 6), [.tmp 52, .const (.int .i64 0)], some (51, false)⟩,
           ⟨some 54, .pick, [.tmp 51, .const (.bool true), .tmp 53], none⟩])
         (.cond (.tmp 54)
          (.seq (.run [6] [⟨some 6, .mv, [.const (.bool false)], none⟩])
           .ret)
          .skip))
        (.seq (.run [2, 8, 10, 12, 13] [⟨some 55, .mv, [.tmp 1], none⟩,
           ⟨some 56, .sb, [.tmp 55], none⟩,
           ⟨some 57, (.bslice 1 0 [(.int .u8 0)] []), [], none⟩,
           ⟨some 12, .mv, [.tmp 56], none⟩,
           ⟨some 13, .mv, [.tmp 57], none⟩])
         (.seq (.seq (.run [2, 8, 10, 12, 13, 14] [⟨some 14, .mv, [.const (.int .i64 0)], none⟩])
           (.block 0 (.loop [2, 8, 10, 12, 13, 14] (.seq (.seq (.run [2, 8, 10, 12, 13, 14, 60] [⟨some 58, .mv, [.tmp 12], none⟩,
                 ⟨some 59, (.len 1), [.tmp 58], none⟩,
                 ⟨some 60, (.bin .gtr), [.tmp 59, .const (.int .i64 0)], none⟩])
               (.cond (.tmp 60)
                .skip
                (.exit 0)))
              (.seq (.block 1 (.seq (.run [2, 8, 10, 12, 13, 14, 15] [⟨some 63, .mv, [.tmp 2], none⟩,
                   ⟨some 64, .mv, [.tmp 14], none⟩,
                   ⟨some 65, .mv, [.tmp 2], none⟩,
                   ⟨some 66, (.len 1), [.tmp 65], none⟩,
                   ⟨some 67, (.bin .rem), [.tmp 64, .tmp 66], none⟩,
                   ⟨some 68, (.iaddr 1), [.tmp 63, .tmp 67], none⟩,
                   ⟨some 69, (.ld false 1), [.tmp 68], none⟩,
                   ⟨some 70, (.cvi .i64), [.tmp 69], none⟩,
                   ⟨some 15, .mv, [.tmp 70], none⟩])
                 (.seq (.run [2, 8, 10, 12, 13, 14, 15, 16] [⟨some 71, .mv, [.tmp 12], none⟩,
                    ⟨some 72, (.len 1), [.tmp 71], none⟩,
                    ⟨some 73, .mv, [.tmp 15], none⟩,
                    ⟨some 74, (.bin .rem), [.tmp 73, .const (.int .i64 5)], none⟩,
                    ⟨some 75, (.bin .add), [.const (.int .i64 1), .tmp 74], none⟩,
                    ⟨some 76, .min, [.tmp 72, .tmp 75], none⟩,
                    ⟨some 16, .mv, [.tmp 76], none⟩])
                  (.seq (.seq (.run [2, 8, 10, 12, 13, 14, 15, 16, 86] [⟨some 77, .mv, [.tmp 8], none⟩,
                      ⟨some 78, .mv, [.tmp 12], none⟩,
                      ⟨some 79, .mv, [.tmp 16], none⟩,
                      ⟨some 80, (.slc 1 false true), [.tmp 78, .tmp 79], none⟩,
                      ⟨some 81, (.call 29), [.tmp 77, .tmp 80], none⟩,
                      ⟨some 82, (.eqg true 6), [.tmp 81, .const (.int .i64 0)], none⟩,
                      ⟨some 83, .mv, [.tmp 82], none⟩,
                      ⟨some 84, .mv, [.tmp 8], some (83, false)⟩,
                      ⟨some 85, (.call 28), [.tmp 84], some (83, false)⟩,
                      ⟨some 86, .pick, [.tmp 83, .const (.bool true), .tmp 85], none⟩])
                    (.cond (.tmp 86)
                     (.seq (.run [6] [⟨some 6, .mv, [.const (.bool false)], none⟩])
                      .ret)
                     .skip))
                   (.seq (.run [2, 8, 10, 12, 13, 14, 15] [⟨some 87, .mv, [.tmp 12], none⟩,
                      ⟨some 88, .mv, [.tmp 16], none⟩,
                      ⟨some 89, (.slc 1 true false), [.tmp 87, .tmp 88], none⟩,
                      ⟨some 12, .mv, [.tmp 89], none⟩])
                    (.run [2, 8, 10, 12, 13, 14] [⟨some 90, .mv, [.tmp 13], none⟩,
                      ⟨some 91, .mv, [.tmp 8], none⟩,
                      ⟨some 92, .mv, [.tmp 15], none⟩,
                      ⟨some 93, (.bin .quo), [.tmp 92, .const (.int .i64 5)], none⟩,
                      ⟨some 94, (.call 31), [.tmp 91, .tmp 93], none⟩,
                      ⟨some 95, (.app 1 1), [.tmp 90, .tmp 94], none⟩,
                      ⟨some 13, .mv, [.tmp 95], none⟩]))))))
               (.run [2, 8, 10, 12, 13, 14] [⟨some 61, .mv, [.tmp 14], none⟩,
                 ⟨some 62, (.bin .add), [.tmp 61, .const (.int .i64 1)], none⟩,
                 ⟨some 14, .mv, [.tmp 62], none⟩]))))))
          (.seq (.seq (.run [8, 10, 13, 110] [⟨some 96, .mv, [.tmp 8], none⟩,
              ⟨some 97, (.call 30), [.tmp 96], none⟩,
              ⟨some 98, (.eqg true 6), [.tmp 97, .const (.int .i64 0)], none⟩,
              ⟨some 99, .mv, [.tmp 98], none⟩,
              ⟨some 100, .mv, [.tmp 8], some (99, false)⟩,
              ⟨some 101, (.call 30), [.tmp 100], some (99, false)⟩,
              ⟨some 102, (.eqg true 6), [.tmp 101, .const (.int .i64 4)], some (99, false)⟩,
              ⟨some 103, .pick, [.tmp 99, .const (.bool true), .tmp 102], none⟩,
              ⟨some 104, .mv, [.tmp 103], none⟩,
              ⟨some 105, .mv, [.tmp 8], some (104, false)⟩,
              ⟨some 106, (.bslice 1 1 [(.int .u8 0)] [(0, 1)]), [.const (.int .u8 120)], some (104, false)⟩,
              ⟨some 107, .cvm, [.tmp 106], some (104, false)⟩,
              ⟨some 108, (.call 29), [.tmp 105, .tmp 107], some (104, false)⟩,
              ⟨some 109, (.eqg true 6), [.tmp 108, .const (.int .i64 4)], some (104, false)⟩,
              ⟨some 110, .pick, [.tmp 104, .const (.bool true), .tmp 109], none⟩])
            (.cond (.tmp 110)
             (.seq (.run [6] [⟨some 6, .mv, [.const (.bool false)], none⟩])
              .ret)
             .skip))
           (.seq (.run [8, 10, 13] [⟨some 111, .mv, [.tmp 13], none⟩,
              ⟨some 112, .mv, [.tmp 8], none⟩,
              ⟨some 113, .mv, [.tmp 8], none⟩,
              ⟨some 114, (.call 27), [.tmp 113], none⟩,
              ⟨some 115, (.call 31), [.tmp 112, .tmp 114], none⟩,
              ⟨some 116, (.app 1 1), [.tmp 111, .tmp 115], none⟩,
              ⟨some 13, .mv, [.tmp 116], none⟩])
            (.seq (.run [6] [⟨some 117, (.call 26), [], none⟩,
               ⟨some 118, .mv, [.tmp 117], none⟩,
               ⟨some 119, .mv, [.tmp 8], some (118, true)⟩,
               ⟨some 120, (.call 28), [.tmp 119], some (118, true)⟩,
               ⟨some 121, .pick, [.tmp 118, .tmp 120, .const (.bool false)], none⟩,
               ⟨some 122, .mv, [.tmp 121], none⟩,
               ⟨some 123, .mv, [.tmp 13], some (122, true)⟩,
               ⟨some 124, .cvb, [.tmp 123], some (122, true)⟩,
               ⟨some 125, .mv, [.tmp 10], some (122, true)⟩,
               ⟨some 126, (.eqg false 6), [.tmp 124, .tmp 125], some (122, true)⟩,
               ⟨some 127, .pick, [.tmp 122, .tmp 126, .const (.bool false)], none⟩,
               ⟨some 6, .mv, [.tmp 127], none⟩])
             .ret)))))))))))⟩

theorem f13_ok : compF Go.Proofs.Tryd.prog 13 f13.body.hints = some f13 := by kernel_rfl

end Go.AL.Fun
