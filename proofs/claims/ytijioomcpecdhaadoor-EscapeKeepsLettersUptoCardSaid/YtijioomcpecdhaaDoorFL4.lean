/- The functions of this seat's program, turned. Printed by a program; each is checked against the program. -/
import Derived.Test.YtijioomcpecdhaaDoorF1
import Derived.Test.YtijioomcpecdhaaDoorProg
import Derived.KernelRfl
namespace Go.AL.Fun
open Go.AL


def f4 : AFun := ⟨49, 2, [.slot 4],
  (.seq (.run [0, 1] [⟨some 4, .mv, [.const (.bool false)], none⟩])
   (.seq (.seq (.run [0, 1, 13] [⟨some 11, .mv, [.tmp 1], none⟩,
       ⟨some 12, (.len 1), [.tmp 11], none⟩,
       ⟨some 13, (.bin .gtr), [.tmp 12, .const (.int .i64 300)], none⟩])
     (.cond (.tmp 13)
      (.seq (.run [4] [⟨some 14, (.call 17), [], none⟩,
         ⟨some 4, .mv, [.tmp 14], none⟩])
       .ret)
      .skip))
    (.seq (.run [0, 1, 5] [⟨some 5, .mv, [.const (.string ⟨#[]⟩)], none⟩])
     (.seq (.seq (.run [0, 5, 15, 16, 17] [⟨some 15, .mv, [.tmp 1], none⟩,
         ⟨some 16, (.len 1), [.tmp 15], none⟩,
         ⟨some 17, .mv, [.const (.int .i64 0)], none⟩])
       (.block 0 (.loop [0, 5, 15, 16, 17] (.seq (.run [0, 5, 15, 16, 17, 18] [⟨some 18, (.bin .lss), [.tmp 17, .tmp 16], none⟩])
          (.seq (.cond (.tmp 18)
            .skip
            (.exit 0))
           (.seq (.block 1 (.seq (.run [0, 5, 7, 15, 16, 17] [⟨some 19, (.iaddr 1), [.tmp 15, .tmp 17], none⟩,
                ⟨some 20, (.ld false 1), [.tmp 19], none⟩,
                ⟨some 7, .mv, [.tmp 20], none⟩])
              (.seq (.run [0, 5, 8, 15, 16, 17] [⟨some 21, .mv, [.tmp 7], none⟩,
                 ⟨some 22, (.cvi .i64), [.tmp 21], none⟩,
                 ⟨some 23, (.bin .rem), [.tmp 22, .const (.int .i64 65)], none⟩,
                 ⟨some 8, .mv, [.tmp 23], none⟩])
               (.run [0, 5, 15, 16, 17] [⟨some 24, .mv, [.tmp 5], none⟩,
                 ⟨some 25, .mv, [.tmp 8], none⟩,
                 ⟨some 26, .mv, [.tmp 8], none⟩,
                 ⟨some 27, (.bin .add), [.tmp 26, .const (.int .i64 1)], none⟩,
                 ⟨some 28, (.slc 0 true true), [.const (.string ⟨#[97, 98, 99, 100, 101, 102, 103, 104, 105, 106, 107, 108, 109, 110, 111, 112, 113, 114, 115, 116, 117, 118, 119, 120, 121, 122, 65, 66, 67, 68, 69, 70, 71, 72, 73, 74, 75, 76, 77, 78, 79, 80, 81, 82, 83, 84, 85, 86, 87, 88, 89, 90, 48, 49, 50, 51, 52, 53, 54, 55, 56, 57, 45, 46, 95]⟩), .tmp 25, .tmp 27], none⟩,
                 ⟨some 29, (.bin .add), [.tmp 24, .tmp 28], none⟩,
                 ⟨some 5, .mv, [.tmp 29], none⟩]))))
            (.run [0, 5, 15, 16, 17] [⟨some 30, (.bin .add), [.tmp 17, .const (.int .i64 1)], none⟩,
              ⟨some 17, .mv, [.tmp 30], none⟩])))))))
      (.seq (.run [5, 9, 10] [⟨some 32, .mv, [.tmp 0], none⟩,
         ⟨some 33, (.cvi .i64), [.tmp 32], none⟩,
         ⟨some 34, (.bin .rem), [.tmp 33, .const (.int .i64 5)], none⟩,
         ⟨some 35, .mv, [.tmp 5], none⟩,
         ⟨some 36, (.call 18), [.tmp 34, .tmp 35], none⟩,
         ⟨some 31, .mv, [.tmp 36], none⟩,
         ⟨some 37, (.ext 0), [.tmp 31], none⟩,
         ⟨some 38, (.ext 1), [.tmp 31], none⟩,
         ⟨some 9, .mv, [.tmp 37], none⟩,
         ⟨some 10, .mv, [.tmp 38], none⟩])
       (.seq (.run [4] [⟨some 39, (.call 17), [], none⟩,
          ⟨some 40, .mv, [.tmp 39], none⟩,
          ⟨some 41, .mv, [.tmp 10], some (40, true)⟩,
          ⟨some 42, (.eqg false 6), [.tmp 41, .const (.int .i64 0)], some (40, true)⟩,
          ⟨some 43, .pick, [.tmp 40, .tmp 42, .const (.bool false)], none⟩,
          ⟨some 44, .mv, [.tmp 43], none⟩,
          ⟨some 45, .mv, [.tmp 9], some (44, true)⟩,
          ⟨some 46, .mv, [.tmp 5], some (44, true)⟩,
          ⟨some 47, (.eqg false 6), [.tmp 45, .tmp 46], some (44, true)⟩,
          ⟨some 48, .pick, [.tmp 44, .tmp 47, .const (.bool false)], none⟩,
          ⟨some 4, .mv, [.tmp 48], none⟩])
        .ret))))))⟩

theorem f4_ok : compF Go.Proofs.Tryd.prog 4 f4.body.hints = some f4 := by kernel_rfl

end Go.AL.Fun
