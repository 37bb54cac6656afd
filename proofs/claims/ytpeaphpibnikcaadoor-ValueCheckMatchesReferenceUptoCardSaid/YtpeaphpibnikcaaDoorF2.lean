/- The functions of this seat's program, turned. Printed by a program; each is checked against the program. -/
import Derived.Test.YtpeaphpibnikcaaDoorF1
import Derived.Test.YtpeaphpibnikcaaDoorProg
import Derived.KernelRfl
namespace Go.AL.Fun
open Go.AL


def f53 : AFun := ⟨34, 2, [.slot 4],
  (.seq (.run [0, 1] [⟨some 4, .mv, [.const (.int .i64 0)], none⟩])
   (.seq (.seq (.run [0, 1, 9] [⟨some 7, .mv, [.tmp 1], none⟩,
       ⟨some 8, (.len 0), [.tmp 7], none⟩,
       ⟨some 9, (.eqg false 6), [.tmp 8, .const (.int .i64 0)], none⟩])
     (.cond (.tmp 9)
      (.seq (.run [4] [⟨some 10, .mv, [.tmp 0], none⟩,
         ⟨some 11, (.call 62), [.tmp 10], none⟩,
         ⟨some 12, (.bin .add), [.tmp 11, .const (.int .i64 1)], none⟩,
         ⟨some 4, .mv, [.tmp 12], none⟩])
       .ret)
      .skip))
    (.seq (.seq (.run [0, 1, 15] [⟨some 13, .mv, [.tmp 1], none⟩,
        ⟨some 14, (.len 0), [.tmp 13], none⟩,
        ⟨some 15, (.eqg false 6), [.tmp 14, .const (.int .i64 1)], none⟩])
      (.cond (.tmp 15)
       (.seq (.run [4] [⟨some 16, .mv, [.tmp 0], none⟩,
          ⟨some 17, .mv, [.tmp 1], none⟩,
          ⟨some 18, .ixs, [.tmp 17, .const (.int .i64 0)], none⟩,
          ⟨some 19, (.call 64), [.tmp 16, .tmp 18], none⟩,
          ⟨some 4, .mv, [.tmp 19], none⟩])
        .ret)
       .skip))
     (.seq (.run [0, 1, 5] [⟨some 5, .mv, [.const (.int .i64 0)], none⟩])
      (.block 0 (.loop [0, 1, 5] (.block 1 (.seq (.run [0, 1, 5, 6] [⟨some 20, .mv, [.tmp 0], none⟩,
            ⟨some 21, .mv, [.tmp 1], none⟩,
            ⟨some 22, (.call 54), [.tmp 20, .tmp 21], none⟩,
            ⟨some 6, .mv, [.tmp 22], none⟩])
          (.seq (.seq (.run [0, 1, 5, 6, 24] [⟨some 23, .mv, [.tmp 6], none⟩,
              ⟨some 24, (.eqg false 6), [.tmp 23, .const (.int .i64 (-1))], none⟩])
            (.cond (.tmp 24)
             (.seq (.run [4] [⟨some 25, .mv, [.tmp 5], none⟩,
                ⟨some 4, .mv, [.tmp 25], none⟩])
              .ret)
             .skip))
           (.seq (.run [0, 1, 5, 6] [⟨some 26, .mv, [.tmp 5], none⟩,
              ⟨some 27, (.bin .add), [.tmp 26, .const (.int .i64 1)], none⟩,
              ⟨some 5, .mv, [.tmp 27], none⟩])
            (.run [0, 1, 5] [⟨some 28, .mv, [.tmp 0], none⟩,
              ⟨some 29, .mv, [.tmp 6], none⟩,
              ⟨some 30, .mv, [.tmp 1], none⟩,
              ⟨some 31, (.len 0), [.tmp 30], none⟩,
              ⟨some 32, (.bin .add), [.tmp 29, .tmp 31], none⟩,
              ⟨some 33, (.slc 0 true false), [.tmp 28, .tmp 32], none⟩,
              ⟨some 0, .mv, [.tmp 33], none⟩])))))))))))⟩

theorem f53_ok : compF Go.Proofs.Tryd.prog 53 f53.body.hints = some f53 := by kernel_rfl


def f54 : AFun := ⟨8, 2, [.slot 4],
  (.seq (.run [0, 1] [⟨some 4, .mv, [.const (.int .i64 0)], none⟩])
   (.seq (.run [4] [⟨some 5, .mv, [.tmp 0], none⟩,
      ⟨some 6, .mv, [.tmp 1], none⟩,
      ⟨some 7, (.call 65), [.tmp 5, .tmp 6], none⟩,
      ⟨some 4, .mv, [.tmp 7], none⟩])
    .ret))⟩

theorem f54_ok : compF Go.Proofs.Tryd.prog 54 f54.body.hints = some f54 := by kernel_rfl

end Go.AL.Fun
