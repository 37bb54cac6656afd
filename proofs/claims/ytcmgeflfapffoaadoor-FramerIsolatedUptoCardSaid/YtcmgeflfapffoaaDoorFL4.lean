/- The functions of this seat's program, turned. Printed by a program; each is checked against the program. -/
import Derived.Test.YtcmgeflfapffoaaDoorF1
import Derived.Test.YtcmgeflfapffoaaDoorProg
import Derived.KernelRfl
namespace Go.AL.Fun
open Go.AL


def f4 : AFun := ⟨77, 1, [.slot 2],
  (.seq (.run [0] [⟨some 2, .mv, [.const (.bool false)], none⟩])
   (.seq (.run [0, 3, 4] [⟨some 10, (.call 14), [.const (.int .i64 65536)], none⟩,
      ⟨some 9, .mv, [.tmp 10], none⟩,
      ⟨some 11, (.ext 0), [.tmp 9], none⟩,
      ⟨some 12, (.ext 1), [.tmp 9], none⟩,
      ⟨some 3, .mv, [.tmp 11], none⟩,
      ⟨some 4, .mv, [.tmp 12], none⟩])
    (.seq (.seq (.run [0, 3, 4, 28] [⟨some 13, .mv, [.tmp 0], none⟩,
        ⟨some 14, (.len 1), [.tmp 13], none⟩,
        ⟨some 15, (.eqg false 6), [.tmp 14, .const (.int .i64 0)], none⟩,
        ⟨some 16, .mv, [.tmp 15], none⟩,
        ⟨some 17, .mv, [.tmp 0], some (16, false)⟩,
        ⟨some 18, (.len 1), [.tmp 17], some (16, false)⟩,
        ⟨some 19, (.bin .gtr), [.tmp 18, .const (.int .i64 3000)], some (16, false)⟩,
        ⟨some 20, .pick, [.tmp 16, .const (.bool true), .tmp 19], none⟩,
        ⟨some 21, .mv, [.tmp 20], none⟩,
        ⟨some 22, .mv, [.tmp 4], some (21, false)⟩,
        ⟨some 23, (.eqg true 6), [.tmp 22, .const (.int .i64 0)], some (21, false)⟩,
        ⟨some 24, .pick, [.tmp 21, .const (.bool true), .tmp 23], none⟩,
        ⟨some 25, .mv, [.tmp 24], none⟩,
        ⟨some 26, .mv, [.tmp 3], some (25, false)⟩,
        ⟨some 27, (.eqg false 1), [.tmp 26, .const (.pointer none)], some (25, false)⟩,
        ⟨some 28, .pick, [.tmp 25, .const (.bool true), .tmp 27], none⟩])
      (.cond (.tmp 28)
       (.seq (.run [2] [⟨some 29, (.call 11), [], none⟩,
          ⟨some 30, .mv, [.tmp 29], none⟩,
          ⟨some 31, .mv, [.tmp 4], some (30, true)⟩,
          ⟨some 32, (.eqg false 6), [.tmp 31, .const (.int .i64 0)], some (30, true)⟩,
          ⟨some 33, .pick, [.tmp 30, .tmp 32, .const (.bool false)], none⟩,
          ⟨some 2, .mv, [.tmp 33], none⟩])
        .ret)
       .skip))
     (.seq (.run [0, 3, 5] [⟨some 34, (.bslice 1 0 [(.int .u8 0)] []), [], none⟩,
        ⟨some 35, .mv, [.tmp 0], none⟩,
        ⟨some 36, (.app 1 1), [.tmp 34, .tmp 35], none⟩,
        ⟨some 5, .mv, [.tmp 36], none⟩])
      (.seq (.seq (.run [0, 3, 5, 40] [⟨some 37, .mv, [.tmp 3], none⟩,
          ⟨some 38, .mv, [.tmp 5], none⟩,
          ⟨some 39, (.call 15), [.tmp 37, .tmp 38], none⟩,
          ⟨some 40, (.eqg true 6), [.tmp 39, .const (.int .i64 0)], none⟩])
        (.cond (.tmp 40)
         (.seq (.run [2] [⟨some 2, .mv, [.const (.bool false)], none⟩])
          .ret)
         .skip))
       (.seq (.seq (.run [0, 3, 5, 42, 43] [⟨some 41, .mv, [.tmp 5], none⟩,
           ⟨some 42, (.len 1), [.tmp 41], none⟩,
           ⟨some 43, .mv, [.const (.int .i64 0)], none⟩])
         (.block 0 (.loop [0, 3, 5, 42, 43] (.seq (.run [0, 3, 5, 42, 43, 44] [⟨some 44, (.bin .lss), [.tmp 43, .tmp 42], none⟩])
            (.seq (.cond (.tmp 44)
              .skip
              (.exit 0))
             (.seq (.block 1 (.seq (.run [0, 3, 5, 6, 42, 43] [⟨some 45, .mv, [.tmp 43], none⟩,
                  ⟨some 6, .mv, [.tmp 45], none⟩])
                (.run [0, 3, 5, 42, 43] [⟨some 46, .mv, [.tmp 5], none⟩,
                  ⟨some 47, .mv, [.tmp 6], none⟩,
                  ⟨some 48, (.iaddr 1), [.tmp 46, .tmp 47], none⟩,
                  ⟨some 49, (.ld false 1), [.tmp 48], none⟩,
                  ⟨some 50, (.bin .xor), [.tmp 49, .const (.int .u8 255)], none⟩,
                  ⟨some 51, (.iaddr 1), [.tmp 46, .tmp 47], none⟩,
                  ⟨none, (.st 1), [.tmp 51, .tmp 50], none⟩])))
              (.run [0, 3, 5, 42, 43] [⟨some 52, (.bin .add), [.tmp 43, .const (.int .i64 1)], none⟩,
                ⟨some 43, .mv, [.tmp 52], none⟩])))))))
        (.seq (.run [0, 3, 7] [⟨some 53, .mv, [.tmp 3], none⟩,
           ⟨some 54, (.call 16), [.tmp 53], none⟩,
           ⟨some 7, .mv, [.tmp 54], none⟩])
         (.seq (.seq (.run [0, 3, 7, 56, 57] [⟨some 55, .mv, [.tmp 7], none⟩,
             ⟨some 56, (.len 1), [.tmp 55], none⟩,
             ⟨some 57, .mv, [.const (.int .i64 0)], none⟩])
           (.block 2 (.loop [0, 3, 7, 56, 57] (.seq (.run [0, 3, 7, 56, 57, 58] [⟨some 58, (.bin .lss), [.tmp 57, .tmp 56], none⟩])
              (.seq (.cond (.tmp 58)
                .skip
                (.exit 2))
               (.seq (.block 3 (.seq (.run [0, 3, 7, 8, 56, 57] [⟨some 59, .mv, [.tmp 57], none⟩,
                    ⟨some 8, .mv, [.tmp 59], none⟩])
                  (.run [0, 3, 7, 56, 57] [⟨some 60, .mv, [.tmp 7], none⟩,
                    ⟨some 61, .mv, [.tmp 8], none⟩,
                    ⟨some 62, (.iaddr 1), [.tmp 60, .tmp 61], none⟩,
                    ⟨some 63, (.ld false 1), [.tmp 62], none⟩,
                    ⟨some 64, (.bin .xor), [.tmp 63, .const (.int .u8 255)], none⟩,
                    ⟨some 65, (.iaddr 1), [.tmp 60, .tmp 61], none⟩,
                    ⟨none, (.st 1), [.tmp 65, .tmp 64], none⟩])))
                (.run [0, 3, 7, 56, 57] [⟨some 66, (.bin .add), [.tmp 57, .const (.int .i64 1)], none⟩,
                  ⟨some 57, .mv, [.tmp 66], none⟩])))))))
          (.seq (.runD [2] [⟨0, ⟨some 67, (.call 11), [], none⟩, []⟩,
             ⟨1, ⟨some 68, .mv, [.tmp 67], none⟩, []⟩,
             ⟨2, ⟨some 69, .mv, [.tmp 3], some (68, true)⟩, []⟩,
             ⟨5, ⟨some 72, .mv, [.tmp 0], some (68, true)⟩, []⟩,
             ⟨3, ⟨some 70, (.call 16), [.tmp 69], some (68, true)⟩, []⟩,
             ⟨4, ⟨some 71, .cvb, [.tmp 70], some (68, true)⟩, []⟩,
             ⟨6, ⟨some 73, (.call 17), [.tmp 72], some (68, true)⟩, [4]⟩,
             ⟨7, ⟨some 74, .cvb, [.tmp 73], some (68, true)⟩, []⟩,
             ⟨8, ⟨some 75, (.eqg false 6), [.tmp 71, .tmp 74], some (68, true)⟩, []⟩,
             ⟨9, ⟨some 76, .pick, [.tmp 68, .tmp 75, .const (.bool false)], none⟩, []⟩,
             ⟨10, ⟨some 2, .mv, [.tmp 76], none⟩, []⟩])
           .ret)))))))))⟩

theorem f4_ok : compF Go.Proofs.Tryd.prog 4 f4.body.hints = some f4 := by kernel_rfl

end Go.AL.Fun
