/- The functions of this seat's program, turned. Printed by a program; each is checked against the program. -/
import Derived.Test.YtfgkkkknkojlgaaDoorF1
import Derived.Test.YtfgkkkknkojlgaaDoorProg
import Derived.KernelRfl
namespace Go.AL.Fun
open Go.AL


def f3 : AFun := ⟨52, 2, [.slot 4],
  (.seq (.run [0, 1] [⟨some 4, .mv, [.const (.bool false)], none⟩])
   (.seq (.seq (.run [0, 1, 17] [⟨some 10, .mv, [.tmp 0], none⟩,
       ⟨some 11, (.len 0), [.tmp 10], none⟩,
       ⟨some 12, (.bin .gtr), [.tmp 11, .const (.int .i64 2000)], none⟩,
       ⟨some 13, .mv, [.tmp 12], none⟩,
       ⟨some 14, .mv, [.tmp 1], some (13, false)⟩,
       ⟨some 15, (.len 0), [.tmp 14], some (13, false)⟩,
       ⟨some 16, (.bin .gtr), [.tmp 15, .const (.int .i64 1000)], some (13, false)⟩,
       ⟨some 17, .pick, [.tmp 13, .const (.bool true), .tmp 16], none⟩])
     (.cond (.tmp 17)
      (.seq (.run [4] [⟨some 18, (.call 5), [], none⟩,
         ⟨some 4, .mv, [.tmp 18], none⟩])
       .ret)
      .skip))
    (.seq (.run [1, 5] [⟨some 19, (.build [(.int .i64 0), (.str []), (.str []), (.str [])] []), [], none⟩,
       ⟨some 20, .mv, [.tmp 0], none⟩,
       ⟨some 21, (.call 6), [.tmp 19, .tmp 20], none⟩,
       ⟨some 5, (.alloc [(.int .i64 0), (.str []), (.str []), (.str [])]), [], none⟩,
       ⟨none, (.st 4), [.tmp 5, .tmp 21], none⟩])
     (.seq (.run [1, 5, 6, 7] [⟨some 23, (.ld true 4), [.tmp 5], none⟩,
        ⟨some 24, (.call 7), [.tmp 23], none⟩,
        ⟨some 22, .mv, [.tmp 24], none⟩,
        ⟨some 25, (.ext 0), [.tmp 22], none⟩,
        ⟨some 26, (.ext 1), [.tmp 22], none⟩,
        ⟨some 6, .mv, [.tmp 25], none⟩,
        ⟨some 7, .mv, [.tmp 26], none⟩])
      (.seq (.seq (.run [1, 5, 6, 28] [⟨some 27, .mv, [.tmp 7], none⟩,
          ⟨some 28, (.un .not), [.tmp 27], none⟩])
        (.cond (.tmp 28)
         (.seq (.run [4] [⟨some 29, (.call 5), [], none⟩,
            ⟨some 30, .mv, [.tmp 29], none⟩,
            ⟨some 31, .mv, [.tmp 6], some (30, true)⟩,
            ⟨some 32, (.eqg false 6), [.tmp 31, .const (.int .i64 0)], some (30, true)⟩,
            ⟨some 33, .pick, [.tmp 30, .tmp 32, .const (.bool false)], none⟩,
            ⟨some 4, .mv, [.tmp 33], none⟩])
          .ret)
         .skip))
       (.seq (.run [5, 8, 9] [⟨some 35, .mv, [.tmp 6], none⟩,
          ⟨some 36, .mv, [.tmp 1], none⟩,
          ⟨some 37, (.call 8), [.tmp 35, .tmp 36], none⟩,
          ⟨some 34, .mv, [.tmp 37], none⟩,
          ⟨some 38, (.ext 0), [.tmp 34], none⟩,
          ⟨some 39, (.ext 1), [.tmp 34], none⟩,
          ⟨some 8, .mv, [.tmp 38], none⟩,
          ⟨some 9, .mv, [.tmp 39], none⟩])
        (.seq (.runD [4] [⟨0, ⟨some 40, (.call 5), [], none⟩, []⟩,
           ⟨1, ⟨some 41, .mv, [.tmp 40], none⟩, []⟩,
           ⟨2, ⟨some 42, .mv, [.tmp 9], some (41, true)⟩, []⟩,
           ⟨3, ⟨some 43, (.eqg false 6), [.tmp 42, .const (.int .i64 0)], some (41, true)⟩, []⟩,
           ⟨4, ⟨some 44, .pick, [.tmp 41, .tmp 43, .const (.bool false)], none⟩, []⟩,
           ⟨5, ⟨some 45, .mv, [.tmp 44], none⟩, []⟩,
           ⟨6, ⟨some 46, (.ld true 4), [.tmp 5], some (45, true)⟩, []⟩,
           ⟨7, ⟨some 47, .mv, [.tmp 8], some (45, true)⟩, []⟩,
           ⟨9, ⟨some 49, (.ld true 4), [.tmp 5], some (45, true)⟩, []⟩,
           ⟨8, ⟨some 48, (.call 6), [.tmp 46, .tmp 47], some (45, true)⟩, [9]⟩,
           ⟨10, ⟨some 50, (.eqs false [1, 2, 2, 2]), [.tmp 48, .tmp 49], some (45, true)⟩, []⟩,
           ⟨11, ⟨some 51, .pick, [.tmp 45, .tmp 50, .const (.bool false)], none⟩, []⟩,
           ⟨12, ⟨some 4, .mv, [.tmp 51], none⟩, []⟩])
         .ret)))))))⟩

theorem f3_ok : compF Go.Proofs.Tryd.prog 3 f3.body.hints = some f3 := by kernel_rfl

end Go.AL.Fun
