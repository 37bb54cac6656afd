/- The functions of this seat's program, turned. Printed by a program; each is checked against the program. -/
import Derived.Test.YtfgkkkknkojlgaaDoorF1
import Derived.Test.YtfgkkkknkojlgaaDoorProg
import Derived.KernelRfl
namespace Go.AL.Fun
open Go.AL


def f4 : AFun := ⟨64, 3, [.slot 6],
  (.seq (.run [0, 1, 2] [⟨some 6, .mv, [.const (.bool false)], none⟩])
   (.seq (.seq (.run [0, 1, 2, 22] [⟨some 12, .mv, [.tmp 0], none⟩,
       ⟨some 13, (.len 0), [.tmp 12], none⟩,
       ⟨some 14, .mv, [.tmp 2], none⟩,
       ⟨some 15, (.len 0), [.tmp 14], none⟩,
       ⟨some 16, (.bin .add), [.tmp 13, .tmp 15], none⟩,
       ⟨some 17, (.bin .gtr), [.tmp 16, .const (.int .i64 2000)], none⟩,
       ⟨some 18, .mv, [.tmp 17], none⟩,
       ⟨some 19, .mv, [.tmp 1], some (18, false)⟩,
       ⟨some 20, (.len 0), [.tmp 19], some (18, false)⟩,
       ⟨some 21, (.bin .gtr), [.tmp 20, .const (.int .i64 1000)], some (18, false)⟩,
       ⟨some 22, .pick, [.tmp 18, .const (.bool true), .tmp 21], none⟩])
     (.cond (.tmp 22)
      (.seq (.run [6] [⟨some 23, (.call 5), [], none⟩,
         ⟨some 6, .mv, [.tmp 23], none⟩])
       .ret)
      .skip))
    (.seq (.run [0, 1, 2, 7] [⟨some 7, (.alloc [(.int .i64 0), (.str []), (.str []), (.str [])]), [], none⟩])
     (.seq (.run [0, 1, 2, 7, 8, 9] [⟨some 25, (.ld true 4), [.tmp 7], none⟩,
        ⟨some 26, .mv, [.tmp 0], none⟩,
        ⟨some 27, (.call 6), [.tmp 25, .tmp 26], none⟩,
        ⟨some 28, (.call 7), [.tmp 27], none⟩,
        ⟨some 24, .mv, [.tmp 28], none⟩,
        ⟨some 29, (.ext 0), [.tmp 24], none⟩,
        ⟨some 30, (.ext 1), [.tmp 24], none⟩,
        ⟨some 8, .mv, [.tmp 29], none⟩,
        ⟨some 9, .mv, [.tmp 30], none⟩])
      (.seq (.run [0, 2, 7, 9, 10, 11] [⟨some 32, .mv, [.tmp 8], none⟩,
         ⟨some 33, .mv, [.tmp 1], none⟩,
         ⟨some 34, (.call 8), [.tmp 32, .tmp 33], none⟩,
         ⟨some 31, .mv, [.tmp 34], none⟩,
         ⟨some 35, (.ext 0), [.tmp 31], none⟩,
         ⟨some 36, (.ext 1), [.tmp 31], none⟩,
         ⟨some 10, .mv, [.tmp 35], none⟩,
         ⟨some 11, .mv, [.tmp 36], none⟩])
       (.seq (.seq (.run [0, 2, 7, 10, 11, 42] [⟨some 37, .mv, [.tmp 9], none⟩,
           ⟨some 38, (.un .not), [.tmp 37], none⟩,
           ⟨some 39, .mv, [.tmp 38], none⟩,
           ⟨some 40, .mv, [.tmp 11], some (39, false)⟩,
           ⟨some 41, (.eqg true 6), [.tmp 40, .const (.int .i64 0)], some (39, false)⟩,
           ⟨some 42, .pick, [.tmp 39, .const (.bool true), .tmp 41], none⟩])
         (.cond (.tmp 42)
          (.seq (.run [6] [⟨some 43, (.call 5), [], none⟩,
             ⟨some 44, .mv, [.tmp 43], none⟩,
             ⟨some 45, .mv, [.tmp 11], some (44, true)⟩,
             ⟨some 46, (.eqg false 6), [.tmp 45, .const (.int .i64 0)], some (44, true)⟩,
             ⟨some 47, .pick, [.tmp 44, .tmp 46, .const (.bool false)], none⟩,
             ⟨some 6, .mv, [.tmp 47], none⟩])
           .ret)
          .skip))
        (.seq (.runD [6] [⟨0, ⟨some 48, (.call 5), [], none⟩, []⟩,
           ⟨1, ⟨some 49, .mv, [.tmp 48], none⟩, []⟩,
           ⟨2, ⟨some 50, (.ld true 4), [.tmp 7], some (49, true)⟩, []⟩,
           ⟨3, ⟨some 51, .mv, [.tmp 0], some (49, true)⟩, []⟩,
           ⟨4, ⟨some 52, .mv, [.tmp 10], some (49, true)⟩, []⟩,
           ⟨5, ⟨some 53, (.bin .add), [.tmp 51, .tmp 52], some (49, true)⟩, []⟩,
           ⟨6, ⟨some 54, .mv, [.tmp 2], some (49, true)⟩, []⟩,
           ⟨7, ⟨some 55, (.bin .add), [.tmp 53, .tmp 54], some (49, true)⟩, []⟩,
           ⟨9, ⟨some 57, (.ld true 4), [.tmp 7], some (49, true)⟩, []⟩,
           ⟨10, ⟨some 58, .mv, [.tmp 0], some (49, true)⟩, []⟩,
           ⟨11, ⟨some 59, .mv, [.tmp 2], some (49, true)⟩, []⟩,
           ⟨12, ⟨some 60, (.bin .add), [.tmp 58, .tmp 59], some (49, true)⟩, []⟩,
           ⟨8, ⟨some 56, (.call 6), [.tmp 50, .tmp 55], some (49, true)⟩, [9]⟩,
           ⟨13, ⟨some 61, (.call 6), [.tmp 57, .tmp 60], some (49, true)⟩, []⟩,
           ⟨14, ⟨some 62, (.eqs false [1, 2, 2, 2]), [.tmp 56, .tmp 61], some (49, true)⟩, []⟩,
           ⟨15, ⟨some 63, .pick, [.tmp 49, .tmp 62, .const (.bool false)], none⟩, []⟩,
           ⟨16, ⟨some 6, .mv, [.tmp 63], none⟩, []⟩])
         .ret)))))))⟩

theorem f4_ok : compF Go.Proofs.Tryd.prog 4 f4.body.hints = some f4 := by kernel_rfl

end Go.AL.Fun
