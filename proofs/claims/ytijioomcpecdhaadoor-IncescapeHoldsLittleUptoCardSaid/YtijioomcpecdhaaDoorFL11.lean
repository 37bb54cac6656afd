/- The functions of this seat's program, turned. Printed by a program; each is checked against the program. -/
import Derived.Test.YtijioomcpecdhaaDoorF1
import Derived.Test.YtijioomcpecdhaaDoorProg
import Derived.KernelRfl
namespace Go.AL.Fun
open Go.AL


def f11 : AFun := ⟨54, 2, [.slot 4],
  (.seq (.run [0, 1] [⟨some 4, .mv, [.const (.bool false)], none⟩])
   (.seq (.seq (.run [0, 1, 12] [⟨some 10, .mv, [.tmp 1], none⟩,
       ⟨some 11, (.len 0), [.tmp 10], none⟩,
       ⟨some 12, (.bin .gtr), [.tmp 11, .const (.int .i64 1000)], none⟩])
     (.cond (.tmp 12)
      (.seq (.run [4] [⟨some 13, (.call 26), [], none⟩,
         ⟨some 4, .mv, [.tmp 13], none⟩])
       .ret)
      .skip))
    (.seq (.run [1, 5] [⟨some 14, .mv, [.tmp 0], none⟩,
       ⟨some 15, (.cvi .i64), [.tmp 14], none⟩,
       ⟨some 16, (.bin .rem), [.tmp 15, .const (.int .i64 5)], none⟩,
       ⟨some 5, .mv, [.tmp 16], none⟩])
     (.seq (.run [1, 6, 7] [⟨some 18, .mv, [.tmp 5], none⟩,
        ⟨some 19, (.call 25), [.tmp 18], none⟩,
        ⟨some 17, .mv, [.tmp 19], none⟩,
        ⟨some 20, (.ext 0), [.tmp 17], none⟩,
        ⟨some 21, (.ext 1), [.tmp 17], none⟩,
        ⟨some 6, .mv, [.tmp 20], none⟩,
        ⟨some 7, .mv, [.tmp 21], none⟩])
      (.seq (.seq (.run [6, 34] [⟨some 22, .mv, [.tmp 7], none⟩,
          ⟨some 23, (.eqg true 6), [.tmp 22, .const (.int .i64 0)], none⟩,
          ⟨some 24, .mv, [.tmp 23], none⟩,
          ⟨some 25, .mv, [.tmp 6], some (24, false)⟩,
          ⟨some 26, (.eqg false 1), [.tmp 25, .const (.pointer none)], some (24, false)⟩,
          ⟨some 27, .pick, [.tmp 24, .const (.bool true), .tmp 26], none⟩,
          ⟨some 28, .mv, [.tmp 27], none⟩,
          ⟨some 29, .mv, [.tmp 6], some (28, false)⟩,
          ⟨some 30, .mv, [.tmp 1], some (28, false)⟩,
          ⟨some 31, .sb, [.tmp 30], some (28, false)⟩,
          ⟨some 32, (.call 29), [.tmp 29, .tmp 31], some (28, false)⟩,
          ⟨some 33, (.eqg true 6), [.tmp 32, .const (.int .i64 0)], some (28, false)⟩,
          ⟨some 34, .pick, [.tmp 28, .const (.bool true), .tmp 33], none⟩])
        (.cond (.tmp 34)
         (.seq (.run [4] [⟨some 4, .mv, [.const (.bool false)], none⟩])
          .ret)
         .skip))
       (.seq (.run [6, 8] [⟨some 35, .mv, [.tmp 6], none⟩,
          ⟨some 36, (.call 27), [.tmp 35], none⟩,
          ⟨some 8, .mv, [.tmp 36], none⟩])
        (.seq (.seq (.run [6, 8, 39] [⟨some 37, .mv, [.tmp 6], none⟩,
            ⟨some 38, (.call 30), [.tmp 37], none⟩,
            ⟨some 39, (.eqg true 6), [.tmp 38, .const (.int .i64 0)], none⟩])
          (.cond (.tmp 39)
           (.seq (.run [4] [⟨some 4, .mv, [.const (.bool false)], none⟩])
            .ret)
           .skip))
         (.seq (.run [8, 9] [⟨some 40, .mv, [.tmp 6], none⟩,
            ⟨some 41, (.call 27), [.tmp 40], none⟩,
            ⟨some 9, .mv, [.tmp 41], none⟩])
          (.seq (.run [4] [⟨some 42, (.call 26), [], none⟩,
             ⟨some 43, .mv, [.tmp 42], none⟩,
             ⟨some 44, .mv, [.tmp 9], some (43, true)⟩,
             ⟨some 45, .mv, [.tmp 8], some (43, true)⟩,
             ⟨some 46, (.bin .geq), [.tmp 44, .tmp 45], some (43, true)⟩,
             ⟨some 47, .pick, [.tmp 43, .tmp 46, .const (.bool false)], none⟩,
             ⟨some 48, .mv, [.tmp 47], none⟩,
             ⟨some 49, .mv, [.tmp 9], some (48, true)⟩,
             ⟨some 50, .mv, [.tmp 8], some (48, true)⟩,
             ⟨some 51, (.bin .sub), [.tmp 49, .tmp 50], some (48, true)⟩,
             ⟨some 52, (.bin .leq), [.tmp 51, .const (.int .i64 27)], some (48, true)⟩,
             ⟨some 53, .pick, [.tmp 48, .tmp 52, .const (.bool false)], none⟩,
             ⟨some 4, .mv, [.tmp 53], none⟩])
           .ret)))))))))⟩

theorem f11_ok : compF Go.Proofs.Tryd.prog 11 f11.body.hints = some f11 := by kernel_rfl

end Go.AL.Fun
