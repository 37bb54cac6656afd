/- The functions of this seat's program, turned. Printed by a program; each is checked against the program. -/
import Derived.Test.YtijioomcpecdhaaDoorF1
import Derived.Test.YtijioomcpecdhaaDoorProg
import Derived.KernelRfl
namespace Go.AL.Fun
open Go.AL


def f9 : AFun := ⟨44, 1, [.slot 2],
  (.seq (.run [0] [⟨some 2, .mv, [.const (.bool false)], none⟩])
   (.seq (.run [0, 3, 4] [⟨some 6, .mv, [.tmp 0], none⟩,
      ⟨some 7, (.call 25), [.tmp 6], none⟩,
      ⟨some 5, .mv, [.tmp 7], none⟩,
      ⟨some 8, (.ext 0), [.tmp 5], none⟩,
      ⟨some 9, (.ext 1), [.tmp 5], none⟩,
      ⟨some 3, .mv, [.tmp 8], none⟩,
      ⟨some 4, .mv, [.tmp 9], none⟩])
    (.seq (.seq (.run [3, 4, 15] [⟨some 10, .mv, [.tmp 0], none⟩,
        ⟨some 11, (.bin .lss), [.tmp 10, .const (.int .i64 0)], none⟩,
        ⟨some 12, .mv, [.tmp 11], none⟩,
        ⟨some 13, .mv, [.tmp 0], some (12, false)⟩,
        ⟨some 14, (.bin .geq), [.tmp 13, .const (.int .i64 5)], some (12, false)⟩,
        ⟨some 15, .pick, [.tmp 12, .const (.bool true), .tmp 14], none⟩])
      (.cond (.tmp 15)
       (.seq (.run [2] [⟨some 16, (.call 26), [], none⟩,
          ⟨some 17, .mv, [.tmp 16], none⟩,
          ⟨some 18, .mv, [.tmp 3], some (17, true)⟩,
          ⟨some 19, (.eqg false 1), [.tmp 18, .const (.pointer none)], some (17, true)⟩,
          ⟨some 20, .pick, [.tmp 17, .tmp 19, .const (.bool false)], none⟩,
          ⟨some 21, .mv, [.tmp 20], none⟩,
          ⟨some 22, .mv, [.tmp 4], some (21, true)⟩,
          ⟨some 23, (.eqg false 6), [.tmp 22, .const (.int .i64 2)], some (21, true)⟩,
          ⟨some 24, .pick, [.tmp 21, .tmp 23, .const (.bool false)], none⟩,
          ⟨some 2, .mv, [.tmp 24], none⟩])
        .ret)
       .skip))
     (.seq (.run [2] [⟨some 25, (.call 26), [], none⟩,
        ⟨some 26, .mv, [.tmp 25], none⟩,
        ⟨some 27, .mv, [.tmp 3], some (26, true)⟩,
        ⟨some 28, (.eqg true 1), [.tmp 27, .const (.pointer none)], some (26, true)⟩,
        ⟨some 29, .pick, [.tmp 26, .tmp 28, .const (.bool false)], none⟩,
        ⟨some 30, .mv, [.tmp 29], none⟩,
        ⟨some 31, .mv, [.tmp 4], some (30, true)⟩,
        ⟨some 32, (.eqg false 6), [.tmp 31, .const (.int .i64 0)], some (30, true)⟩,
        ⟨some 33, .pick, [.tmp 30, .tmp 32, .const (.bool false)], none⟩,
        ⟨some 34, .mv, [.tmp 33], none⟩,
        ⟨some 35, .mv, [.tmp 3], some (34, true)⟩,
        ⟨some 36, (.call 27), [.tmp 35], some (34, true)⟩,
        ⟨some 37, (.eqg false 6), [.tmp 36, .const (.int .i64 0)], some (34, true)⟩,
        ⟨some 38, .pick, [.tmp 34, .tmp 37, .const (.bool false)], none⟩,
        ⟨some 39, .mv, [.tmp 38], none⟩,
        ⟨some 40, .mv, [.tmp 3], some (39, true)⟩,
        ⟨some 41, (.call 28), [.tmp 40], some (39, true)⟩,
        ⟨some 42, (.un .not), [.tmp 41], some (39, true)⟩,
        ⟨some 43, .pick, [.tmp 39, .tmp 42, .const (.bool false)], none⟩,
        ⟨some 2, .mv, [.tmp 43], none⟩])
      .ret))))⟩

theorem f9_ok : compF Go.Proofs.Tryd.prog 9 f9.body.hints = some f9 := by kernel_rfl

end Go.AL.Fun
