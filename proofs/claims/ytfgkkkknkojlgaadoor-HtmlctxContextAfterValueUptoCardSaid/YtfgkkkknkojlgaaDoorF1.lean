/- The functions of this seat's program, turned. Printed by a program; each is checked against the program. -/
import Derived.Test.YtfgkkkknkojlgaaDoorB3
import Derived.Test.YtfgkkkknkojlgaaDoorProg
import Derived.KernelRfl
namespace Go.AL.Fun
open Go.AL


def f5 : AFun := ⟨37, 0, [.slot 0],
  (.seq (.run [] [⟨some 0, .mv, [.const (.bool false)], none⟩])
   (.seq (.run [1] [⟨some 7, (.build [(.int .i64 0), (.str []), (.str []), (.str [])] []), [], none⟩,
      ⟨some 8, (.call 6), [.tmp 7, .const (.string ⟨#[60, 97, 32, 104, 114, 101, 102, 61, 34]⟩)], none⟩,
      ⟨some 1, (.alloc [(.int .i64 0), (.str []), (.str []), (.str [])]), [], none⟩,
      ⟨none, (.st 4), [.tmp 1, .tmp 8], none⟩])
    (.seq (.run [1, 2] [⟨some 9, (.build [(.int .i64 0), (.str []), (.str []), (.str [])] []), [], none⟩,
       ⟨some 10, (.call 6), [.tmp 9, .const (.string ⟨#[60, 115, 99, 114, 105, 112, 116, 62, 120, 32, 61, 32, 39, 121]⟩)], none⟩,
       ⟨some 2, (.alloc [(.int .i64 0), (.str []), (.str []), (.str [])]), [], none⟩,
       ⟨none, (.st 4), [.tmp 2, .tmp 10], none⟩])
     (.seq (.run [1, 2, 4] [⟨some 12, (.build [(.int .i64 0), (.str []), (.str []), (.str [])] []), [], none⟩,
        ⟨some 13, (.call 6), [.tmp 12, .const (.string ⟨#[97, 60]⟩)], none⟩,
        ⟨some 14, (.call 7), [.tmp 13], none⟩,
        ⟨some 11, .mv, [.tmp 14], none⟩,
        ⟨some 15, (.ext 0), [.tmp 11], none⟩,
        ⟨some 16, (.ext 1), [.tmp 11], none⟩,
        ⟨some 3, .mv, [.tmp 15], none⟩,
        ⟨some 4, .mv, [.tmp 16], none⟩])
      (.seq (.run [1, 2, 4, 6] [⟨some 18, (.ld true 4), [.tmp 2], none⟩,
         ⟨some 19, (.call 7), [.tmp 18], none⟩,
         ⟨some 17, .mv, [.tmp 19], none⟩,
         ⟨some 20, (.ext 0), [.tmp 17], none⟩,
         ⟨some 21, (.ext 1), [.tmp 17], none⟩,
         ⟨some 5, .mv, [.tmp 20], none⟩,
         ⟨some 6, .mv, [.tmp 21], none⟩])
       (.seq (.run [0] [⟨some 22, (.ld true 4), [.tmp 1], none⟩,
          ⟨some 23, (.build [(.int .i64 0), (.str []), (.str []), (.str [])] [(0, 1), (1, 1)]), [.const (.int .i64 9), .const (.string ⟨#[97]⟩)], none⟩,
          ⟨some 24, (.eqs false [1, 2, 2, 2]), [.tmp 22, .tmp 23], none⟩,
          ⟨some 25, .mv, [.tmp 24], none⟩,
          ⟨some 26, (.faddr 0), [.tmp 2], some (25, true)⟩,
          ⟨some 27, (.ld false 1), [.tmp 26], some (25, true)⟩,
          ⟨some 28, (.eqg false 6), [.tmp 27, .const (.int .i64 18)], some (25, true)⟩,
          ⟨some 29, .pick, [.tmp 25, .tmp 28, .const (.bool false)], none⟩,
          ⟨some 30, .mv, [.tmp 29], none⟩,
          ⟨some 31, .mv, [.tmp 4], some (30, true)⟩,
          ⟨some 32, (.un .not), [.tmp 31], some (30, true)⟩,
          ⟨some 33, .pick, [.tmp 30, .tmp 32, .const (.bool false)], none⟩,
          ⟨some 34, .mv, [.tmp 33], none⟩,
          ⟨some 35, .mv, [.tmp 6], some (34, true)⟩,
          ⟨some 36, .pick, [.tmp 34, .tmp 35, .const (.bool false)], none⟩,
          ⟨some 0, .mv, [.tmp 36], none⟩])
        .ret))))))⟩

theorem f5_ok : compF Go.Proofs.Tryd.prog 5 f5.body.hints = some f5 := by kernel_rfl


def f6 : AFun := ⟨24, 2, [.cell 4 (.ld true 4)],
  (.seq (.run [1, 2, 4] [⟨some 2, .box, [.tmp 0], none⟩,
     ⟨some 4, (.alloc [(.int .i64 0), (.str []), (.str []), (.str [])]), [], none⟩])
   (.seq (.seq (.run [2, 4, 9, 10, 11] [⟨some 8, .mv, [.tmp 1], none⟩,
       ⟨some 9, .sb, [.tmp 8], none⟩,
       ⟨some 10, (.len 1), [.tmp 9], none⟩,
       ⟨some 11, .mv, [.const (.int .i64 0)], none⟩])
     (.block 0 (.loop [2, 4, 9, 10, 11] (.seq (.run [2, 4, 9, 10, 11, 12] [⟨some 12, (.bin .lss), [.tmp 11, .tmp 10], none⟩])
        (.seq (.cond (.tmp 12)
          .skip
          (.exit 0))
         (.seq (.block 1 (.seq (.run [2, 4, 6, 9, 10, 11] [⟨some 13, (.iaddr 1), [.tmp 9, .tmp 11], none⟩,
              ⟨some 14, (.ld false 1), [.tmp 13], none⟩,
              ⟨some 6, .mv, [.tmp 14], none⟩])
            (.seq (.run [2, 4, 7, 9, 10, 11] [⟨some 15, (.ld true 4), [.tmp 2], none⟩,
               ⟨some 16, .mv, [.tmp 6], none⟩,
               ⟨some 17, (.call 9), [.tmp 15, .tmp 16], none⟩,
               ⟨some 7, (.alloc [(.int .i64 0), (.str []), (.str []), (.str [])]), [], none⟩,
               ⟨none, (.st 4), [.tmp 7, .tmp 17], none⟩])
             (.seq (.run [2, 4, 7, 9, 10, 11, 20] [⟨some 18, (.ld true 4), [.tmp 7], none⟩,
                ⟨some 19, (.ld true 4), [.tmp 2], none⟩,
                ⟨some 20, (.eqs true [1, 2, 2, 2]), [.tmp 18, .tmp 19], none⟩])
              (.cond (.tmp 20)
               (.run [2, 4, 9, 10, 11] [⟨some 21, (.ld true 4), [.tmp 7], none⟩,
                 ⟨none, (.st 4), [.tmp 2, .tmp 21], none⟩])
               .skip)))))
          (.run [2, 4, 9, 10, 11] [⟨some 22, (.bin .add), [.tmp 11, .const (.int .i64 1)], none⟩,
            ⟨some 11, .mv, [.tmp 22], none⟩])))))))
    (.seq (.run [4] [⟨some 23, (.ld true 4), [.tmp 2], none⟩,
       ⟨none, (.st 4), [.tmp 4, .tmp 23], none⟩])
     .ret)))⟩

theorem f6_ok : compF Go.Proofs.Tryd.prog 6 f6.body.hints = some f6 := by kernel_rfl


def f7 : AFun := ⟨23, 1, [.slot 2, .slot 3],
  (.seq (.run [1] [⟨some 1, .box, [.tmp 0], none⟩,
     ⟨some 2, .mv, [.const (.int .i64 0)], none⟩,
     ⟨some 3, .mv, [.const (.bool false)], none⟩])
   (.seq (.seq (.run [1, 6] [⟨some 4, (.faddr 3), [.tmp 1], none⟩,
       ⟨some 5, (.ld false 1), [.tmp 4], none⟩,
       ⟨some 6, (.eqg true 6), [.tmp 5, .const (.string ⟨#[]⟩)], none⟩])
     (.cond (.tmp 6)
      (.seq (.run [2, 3] [⟨some 2, .mv, [.const (.int .i64 0)], none⟩,
         ⟨some 3, .mv, [.const (.bool false)], none⟩])
       .ret)
      .skip))
    (.seq (.seq (.run [8] [⟨some 7, (.faddr 0), [.tmp 1], none⟩,
        ⟨some 8, (.ld false 1), [.tmp 7], none⟩])
      (.block 0 (.seq (.run [8, 9] [⟨some 10, (.eqg false 6), [.tmp 8, .const (.int .i64 0)], none⟩,
          ⟨some 9, .mv, [.tmp 10], none⟩])
        (.cond (.tmp 9)
         (.seq (.run [2, 3] [⟨some 2, .mv, [.const (.int .i64 0)], none⟩,
            ⟨some 3, .mv, [.const (.bool true)], none⟩])
          .ret)
         (.seq (.seq (.run [8, 11] [⟨some 12, (.eqg false 6), [.tmp 8, .const (.int .i64 7)], none⟩,
             ⟨some 11, .mv, [.tmp 12], none⟩])
           (.cond (.tmp 11)
            .skip
            (.run [8, 11] [⟨some 13, (.eqg false 6), [.tmp 8, .const (.int .i64 8)], none⟩,
              ⟨some 11, .mv, [.tmp 13], none⟩])))
          (.cond (.tmp 11)
           (.seq (.run [2, 3] [⟨some 2, .mv, [.const (.int .i64 1)], none⟩,
              ⟨some 3, .mv, [.const (.bool true)], none⟩])
            .ret)
           (.seq (.seq (.run [8, 14] [⟨some 15, (.eqg false 6), [.tmp 8, .const (.int .i64 9)], none⟩,
               ⟨some 14, .mv, [.tmp 15], none⟩])
             (.cond (.tmp 14)
              .skip
              (.run [8, 14] [⟨some 16, (.eqg false 6), [.tmp 8, .const (.int .i64 10)], none⟩,
                ⟨some 14, .mv, [.tmp 16], none⟩])))
            (.cond (.tmp 14)
             (.seq (.run [2, 3] [⟨some 2, .mv, [.const (.int .i64 2)], none⟩,
                ⟨some 3, .mv, [.const (.bool true)], none⟩])
              .ret)
             (.seq (.seq (.run [8, 17] [⟨some 18, (.eqg false 6), [.tmp 8, .const (.int .i64 17)], none⟩,
                 ⟨some 17, .mv, [.tmp 18], none⟩])
               (.cond (.tmp 17)
                .skip
                (.run [8, 17] [⟨some 19, (.eqg false 6), [.tmp 8, .const (.int .i64 18)], none⟩,
                  ⟨some 17, .mv, [.tmp 19], none⟩])))
              (.cond (.tmp 17)
               (.seq (.run [2, 3] [⟨some 2, .mv, [.const (.int .i64 3)], none⟩,
                  ⟨some 3, .mv, [.const (.bool true)], none⟩])
                .ret)
               (.seq (.seq (.run [8, 20] [⟨some 21, (.eqg false 6), [.tmp 8, .const (.int .i64 20)], none⟩,
                   ⟨some 20, .mv, [.tmp 21], none⟩])
                 (.cond (.tmp 20)
                  .skip
                  (.run [20] [⟨some 22, (.eqg false 6), [.tmp 8, .const (.int .i64 21)], none⟩,
                    ⟨some 20, .mv, [.tmp 22], none⟩])))
                (.cond (.tmp 20)
                 (.seq (.run [2, 3] [⟨some 2, .mv, [.const (.int .i64 4)], none⟩,
                    ⟨some 3, .mv, [.const (.bool true)], none⟩])
                  .ret)
                 .skip))))))))))))
     (.seq (.run [2, 3] [⟨some 2, .mv, [.const (.int .i64 0)], none⟩,
        ⟨some 3, .mv, [.const (.bool false)], none⟩])
      .ret))))⟩

theorem f7_ok : compF Go.Proofs.Tryd.prog 7 f7.body.hints = some f7 := by kernel_rfl


def f8 : AFun := ⟨31, 2, [.slot 4, .slot 5],
  (.seq (.run [0, 1] [⟨some 4, .mv, [.const (.string ⟨#[]⟩)], none⟩,
     ⟨some 5, .mv, [.const (.int .i64 0)], none⟩])
   (.seq (.seq (.run [0, 1, 13] [⟨some 11, .mv, [.tmp 0], none⟩,
       ⟨some 12, (.call 10), [.tmp 11], none⟩,
       ⟨some 13, (.un .not), [.tmp 12], none⟩])
     (.cond (.tmp 13)
      (.seq (.run [4, 5] [⟨some 4, .mv, [.const (.string ⟨#[]⟩)], none⟩,
         ⟨some 5, .mv, [.const (.int .i64 2)], none⟩])
       .ret)
      .skip))
    (.seq (.run [0, 1, 6] [⟨some 6, (.rawal 38), [], none⟩])
     (.seq (.seq (.run [0, 6, 15] [⟨some 14, .mv, [.tmp 1], none⟩,
         ⟨some 15, .rngs, [.tmp 14], none⟩])
       (.block 0 (.loop [0, 6, 15] (.seq (.run [0, 6, 15, 16, 17] [⟨some 16, .nxts, [.tmp 15], none⟩,
            ⟨some 17, (.ext 0), [.tmp 16], none⟩])
          (.seq (.cond (.tmp 17)
            .skip
            (.exit 0))
           (.block 1 (.seq (.run [0, 6, 8, 15] [⟨some 18, (.ext 2), [.tmp 16], none⟩,
               ⟨some 8, .mv, [.tmp 18], none⟩])
             (.seq (.run [0, 6, 9, 10, 15] [⟨some 20, .mv, [.tmp 0], none⟩,
                ⟨some 21, .mv, [.tmp 8], none⟩,
                ⟨some 22, (.call 11), [.tmp 20, .tmp 21], none⟩,
                ⟨some 19, .mv, [.tmp 22], none⟩,
                ⟨some 23, (.ext 0), [.tmp 19], none⟩,
                ⟨some 24, (.ext 1), [.tmp 19], none⟩,
                ⟨some 9, .mv, [.tmp 23], none⟩,
                ⟨some 10, .mv, [.tmp 24], none⟩])
              (.seq (.seq (.run [0, 6, 9, 10, 15, 26] [⟨some 25, .mv, [.tmp 10], none⟩,
                  ⟨some 26, (.eqg true 6), [.tmp 25, .const (.int .i64 0)], none⟩])
                (.cond (.tmp 26)
                 (.seq (.run [4, 5] [⟨some 27, .mv, [.tmp 10], none⟩,
                    ⟨some 4, .mv, [.const (.string ⟨#[]⟩)], none⟩,
                    ⟨some 5, .mv, [.tmp 27], none⟩])
                  .ret)
                 .skip))
               (.run [0, 6, 15] [⟨some 28, .mv, [.tmp 9], none⟩,
                 ⟨some 29, (.call 12), [.tmp 6, .tmp 28], none⟩]))))))))))
      (.seq (.run [4, 5] [⟨some 30, (.call 13), [.tmp 6], none⟩,
         ⟨some 4, .mv, [.tmp 30], none⟩,
         ⟨some 5, .mv, [.const (.int .i64 0)], none⟩])
       .ret)))))⟩

theorem f8_ok : compF Go.Proofs.Tryd.prog 8 f8.body.hints = some f8 := by kernel_rfl


def f9 : AFun := ⟨41, 2, [.cell 4 (.ld true 4)],
  (.seq (.run [1, 2, 4] [⟨some 2, .box, [.tmp 0], none⟩,
     ⟨some 4, (.alloc [(.int .i64 0), (.str []), (.str []), (.str [])]), [], none⟩])
   (.seq (.seq (.run [1, 2, 4, 6] [⟨some 5, (.faddr 0), [.tmp 2], none⟩,
       ⟨some 6, (.ld false 1), [.tmp 5], none⟩])
     (.block 0 (.seq (.run [1, 2, 4, 6, 7] [⟨some 8, (.eqg false 6), [.tmp 6, .const (.int .i64 0)], none⟩,
         ⟨some 7, .mv, [.tmp 8], none⟩])
       (.cond (.tmp 7)
        (.seq (.run [4] [⟨some 9, (.ld true 4), [.tmp 2], none⟩,
           ⟨some 10, .mv, [.tmp 1], none⟩,
           ⟨some 11, (.call 14), [.tmp 9, .tmp 10], none⟩,
           ⟨none, (.st 4), [.tmp 4, .tmp 11], none⟩])
         .ret)
        (.seq (.run [1, 2, 4, 6, 12] [⟨some 13, (.eqg false 6), [.tmp 6, .const (.int .i64 13)], none⟩,
           ⟨some 12, .mv, [.tmp 13], none⟩])
         (.cond (.tmp 12)
          (.seq (.run [4] [⟨some 14, (.ld true 4), [.tmp 2], none⟩,
             ⟨some 15, .mv, [.tmp 1], none⟩,
             ⟨some 16, (.call 15), [.tmp 14, .tmp 15], none⟩,
             ⟨none, (.st 4), [.tmp 4, .tmp 16], none⟩])
           .ret)
          (.seq (.seq (.run [1, 2, 4, 6, 17] [⟨some 18, (.eqg false 6), [.tmp 6, .const (.int .i64 14)], none⟩,
              ⟨some 17, .mv, [.tmp 18], none⟩])
            (.cond (.tmp 17)
             .skip
             (.run [1, 2, 4, 6, 17] [⟨some 19, (.eqg false 6), [.tmp 6, .const (.int .i64 15)], none⟩,
               ⟨some 17, .mv, [.tmp 19], none⟩])))
           (.cond (.tmp 17)
            (.seq (.seq (.run [2, 4, 21] [⟨some 20, .mv, [.tmp 1], none⟩,
                ⟨some 21, (.eqg false 6), [.tmp 20, .const (.int .u8 62)], none⟩])
              (.cond (.tmp 21)
               (.seq (.run [4] [⟨some 22, (.build [(.int .i64 0), (.str []), (.str []), (.str [])] []), [], none⟩,
                  ⟨none, (.st 4), [.tmp 4, .tmp 22], none⟩])
                .ret)
               .skip))
             (.seq (.run [4] [⟨some 23, (.ld true 4), [.tmp 2], none⟩,
                ⟨none, (.st 4), [.tmp 4, .tmp 23], none⟩])
              .ret))
            (.seq (.seq (.run [1, 2, 4, 6, 24] [⟨some 25, (.eqg false 6), [.tmp 6, .const (.int .i64 16)], none⟩,
                ⟨some 24, .mv, [.tmp 25], none⟩])
              (.cond (.tmp 24)
               .skip
               (.seq (.run [1, 2, 4, 6, 24] [⟨some 26, (.eqg false 6), [.tmp 6, .const (.int .i64 17)], none⟩,
                  ⟨some 24, .mv, [.tmp 26], none⟩])
                (.cond (.tmp 24)
                 .skip
                 (.run [1, 2, 4, 6, 24] [⟨some 27, (.eqg false 6), [.tmp 6, .const (.int .i64 18)], none⟩,
                   ⟨some 24, .mv, [.tmp 27], none⟩])))))
             (.cond (.tmp 24)
              (.seq (.run [4] [⟨some 28, (.ld true 4), [.tmp 2], none⟩,
                 ⟨some 29, .mv, [.tmp 1], none⟩,
                 ⟨some 30, (.call 16), [.tmp 28, .const (.int .i64 16), .const (.string ⟨#[60, 47, 115, 99, 114, 105, 112, 116]⟩), .tmp 29], none⟩,
                 ⟨none, (.st 4), [.tmp 4, .tmp 30], none⟩])
               .ret)
              (.seq (.seq (.run [1, 2, 4, 6, 31] [⟨some 32, (.eqg false 6), [.tmp 6, .const (.int .i64 19)], none⟩,
                  ⟨some 31, .mv, [.tmp 32], none⟩])
                (.cond (.tmp 31)
                 .skip
                 (.seq (.run [1, 2, 4, 6, 31] [⟨some 33, (.eqg false 6), [.tmp 6, .const (.int .i64 20)], none⟩,
                    ⟨some 31, .mv, [.tmp 33], none⟩])
                  (.cond (.tmp 31)
                   .skip
                   (.run [1, 2, 4, 31] [⟨some 34, (.eqg false 6), [.tmp 6, .const (.int .i64 21)], none⟩,
                     ⟨some 31, .mv, [.tmp 34], none⟩])))))
               (.cond (.tmp 31)
                (.seq (.run [4] [⟨some 35, (.ld true 4), [.tmp 2], none⟩,
                   ⟨some 36, .mv, [.tmp 1], none⟩,
                   ⟨some 37, (.call 16), [.tmp 35, .const (.int .i64 19), .const (.string ⟨#[60, 47, 115, 116, 121, 108, 101]⟩), .tmp 36], none⟩,
                   ⟨none, (.st 4), [.tmp 4, .tmp 37], none⟩])
                 .ret)
                .skip))))))))))))
    (.seq (.run [4] [⟨some 38, (.ld true 4), [.tmp 2], none⟩,
       ⟨some 39, .mv, [.tmp 1], none⟩,
       ⟨some 40, (.call 17), [.tmp 38, .tmp 39], none⟩,
       ⟨none, (.st 4), [.tmp 4, .tmp 40], none⟩])
     .ret)))⟩

theorem f9_ok : compF Go.Proofs.Tryd.prog 9 f9.body.hints = some f9 := by kernel_rfl


def f10 : AFun := ⟨9, 1, [.slot 2],
  (.seq (.run [0] [⟨some 2, .mv, [.const (.bool false)], none⟩])
   (.seq (.run [2] [⟨some 3, .mv, [.tmp 0], none⟩,
      ⟨some 4, (.bin .geq), [.tmp 3, .const (.int .i64 0)], none⟩,
      ⟨some 5, .mv, [.tmp 4], none⟩,
      ⟨some 6, .mv, [.tmp 0], some (5, true)⟩,
      ⟨some 7, (.bin .lss), [.tmp 6, .const (.int .i64 5)], some (5, true)⟩,
      ⟨some 8, .pick, [.tmp 5, .tmp 7, .const (.bool false)], none⟩,
      ⟨some 2, .mv, [.tmp 8], none⟩])
    .ret))⟩

theorem f10_ok : compF Go.Proofs.Tryd.prog 10 f10.body.hints = some f10 := by kernel_rfl


def f11 : AFun := ⟨80, 2, [.slot 4, .slot 5],
  (.seq (.run [0, 1] [⟨some 4, .mv, [.const (.string ⟨#[]⟩)], none⟩,
     ⟨some 5, .mv, [.const (.int .i64 0)], none⟩])
   (.seq (.run [0, 1] [⟨some 7, .mv, [.tmp 0], none⟩,
      ⟨some 8, .mv, [.tmp 1], none⟩,
      ⟨some 9, (.call 18), [.tmp 7, .tmp 8], none⟩,
      ⟨some 1, .mv, [.tmp 9], none⟩])
    (.seq (.seq (.run [1, 10] [⟨some 10, .mv, [.tmp 0], none⟩])
      (.block 0 (.seq (.block 6 (.seq (.block 5 (.seq (.block 4 (.seq (.block 3 (.seq (.block 2 (.seq (.block 1 (.seq (.seq (.seq (.run [1, 10, 11] [⟨some 12, (.eqg false 6), [.tmp 10, .const (.int .i64 1)], none⟩,
                        ⟨some 11, .mv, [.tmp 12], none⟩])
                      (.cond (.tmp 11)
                       (.exit 1)
                       .skip))
                     (.seq (.seq (.run [1, 10, 13] [⟨some 14, (.eqg false 6), [.tmp 10, .const (.int .i64 0)], none⟩,
                         ⟨some 13, .mv, [.tmp 14], none⟩])
                       (.cond (.tmp 13)
                        (.exit 2)
                        .skip))
                      (.seq (.seq (.run [1, 10, 15] [⟨some 16, (.eqg false 6), [.tmp 10, .const (.int .i64 2)], none⟩,
                          ⟨some 15, .mv, [.tmp 16], none⟩])
                        (.cond (.tmp 15)
                         (.exit 3)
                         .skip))
                       (.seq (.seq (.run [1, 10, 17] [⟨some 18, (.eqg false 6), [.tmp 10, .const (.int .i64 3)], none⟩,
                           ⟨some 17, .mv, [.tmp 18], none⟩])
                         (.cond (.tmp 17)
                          (.exit 4)
                          .skip))
                        (.seq (.run [1, 19] [⟨some 20, (.eqg false 6), [.tmp 10, .const (.int .i64 4)], none⟩,
                           ⟨some 19, .mv, [.tmp 20], none⟩])
                         (.cond (.tmp 19)
                          (.exit 5)
                          .skip))))))
                    (.exit 6)))
                  (.seq (.run [1, 26] [⟨some 21, .mv, [.tmp 1], none⟩,
                     ⟨some 22, (.eqg false 6), [.tmp 21, .const (.int .i32 96)], none⟩,
                     ⟨some 23, .mv, [.tmp 22], none⟩,
                     ⟨some 24, .mv, [.tmp 1], some (23, false)⟩,
                     ⟨some 25, (.eqg false 6), [.tmp 24, .const (.int .i32 61)], some (23, false)⟩,
                     ⟨some 26, .pick, [.tmp 23, .const (.bool true), .tmp 25], none⟩])
                   (.cond (.tmp 26)
                    (.seq (.run [4, 5] [⟨some 27, .mv, [.tmp 1], none⟩,
                       ⟨some 28, (.call 19), [.tmp 27], none⟩,
                       ⟨some 4, .mv, [.tmp 28], none⟩,
                       ⟨some 5, .mv, [.const (.int .i64 0)], none⟩])
                     .ret)
                    .skip))))
                (.seq (.seq (.run [1, 34] [⟨some 29, .mv, [.tmp 1], none⟩,
                    ⟨some 30, (.eqg false 6), [.tmp 29, .const (.int .i32 38)], none⟩,
                    ⟨some 31, .mv, [.tmp 30], none⟩,
                    ⟨some 32, .mv, [.tmp 1], some (31, false)⟩,
                    ⟨some 33, (.call 20), [.const (.string ⟨#[60, 62, 34, 39]⟩), .tmp 32], some (31, false)⟩,
                    ⟨some 34, .pick, [.tmp 31, .const (.bool true), .tmp 33], none⟩])
                  (.cond (.tmp 34)
                   (.seq (.run [4, 5] [⟨some 35, .mv, [.tmp 1], none⟩,
                      ⟨some 36, (.call 19), [.tmp 35], none⟩,
                      ⟨some 4, .mv, [.tmp 36], none⟩,
                      ⟨some 5, .mv, [.const (.int .i64 0)], none⟩])
                    .ret)
                   .skip))
                 (.exit 0))))
              (.seq (.seq (.run [1, 44] [⟨some 37, .mv, [.tmp 1], none⟩,
                  ⟨some 38, (.call 21), [.tmp 37], none⟩,
                  ⟨some 39, (.un .not), [.tmp 38], none⟩,
                  ⟨some 40, .mv, [.tmp 39], none⟩,
                  ⟨some 41, .mv, [.tmp 1], some (40, true)⟩,
                  ⟨some 42, (.call 20), [.const (.string ⟨#[45, 46, 95, 126]⟩), .tmp 41], some (40, true)⟩,
                  ⟨some 43, (.un .not), [.tmp 42], some (40, true)⟩,
                  ⟨some 44, .pick, [.tmp 40, .tmp 43, .const (.bool false)], none⟩])
                (.cond (.tmp 44)
                 (.seq (.run [4, 5] [⟨some 45, .mv, [.tmp 1], none⟩,
                    ⟨some 46, (.call 22), [.tmp 45], none⟩,
                    ⟨some 4, .mv, [.tmp 46], none⟩,
                    ⟨some 5, .mv, [.const (.int .i64 0)], none⟩])
                  .ret)
                 .skip))
               (.exit 0))))
            (.seq (.seq (.run [1, 56] [⟨some 47, .mv, [.tmp 1], none⟩,
                ⟨some 48, (.call 23), [.tmp 47], none⟩,
                ⟨some 49, .mv, [.tmp 48], none⟩,
                ⟨some 50, .mv, [.tmp 1], some (49, false)⟩,
                ⟨some 51, (.call 24), [.tmp 50], some (49, false)⟩,
                ⟨some 52, .pick, [.tmp 49, .const (.bool true), .tmp 51], none⟩,
                ⟨some 53, .mv, [.tmp 52], none⟩,
                ⟨some 54, .mv, [.tmp 1], some (53, false)⟩,
                ⟨some 55, (.call 20), [.const (.string ⟨#[34, 38, 39, 47, 60, 61, 62, 92, 96]⟩), .tmp 54], some (53, false)⟩,
                ⟨some 56, .pick, [.tmp 53, .const (.bool true), .tmp 55], none⟩])
              (.cond (.tmp 56)
               (.seq (.run [6] [⟨some 57, .mv, [.tmp 1], none⟩,
                  ⟨some 58, (.cvi .i64), [.tmp 57], none⟩,
                  ⟨some 59, (.call 25), [.tmp 58, .const (.int .i64 16)], none⟩,
                  ⟨some 6, .mv, [.tmp 59], none⟩])
                (.seq (.run [4, 5] [⟨some 60, .mv, [.tmp 6], none⟩,
                   ⟨some 61, (.len 0), [.tmp 60], none⟩,
                   ⟨some 62, (.bin .sub), [.const (.int .i64 4), .tmp 61], none⟩,
                   ⟨some 63, (.call 26), [.const (.string ⟨#[48]⟩), .tmp 62], none⟩,
                   ⟨some 64, (.bin .add), [.const (.string ⟨#[92, 117]⟩), .tmp 63], none⟩,
                   ⟨some 65, .mv, [.tmp 6], none⟩,
                   ⟨some 66, (.bin .add), [.tmp 64, .tmp 65], none⟩,
                   ⟨some 4, .mv, [.tmp 66], none⟩,
                   ⟨some 5, .mv, [.const (.int .i64 0)], none⟩])
                 .ret))
               .skip))
             (.exit 0))))
          (.seq (.seq (.run [1, 72] [⟨some 67, .mv, [.tmp 1], none⟩,
              ⟨some 68, (.call 23), [.tmp 67], none⟩,
              ⟨some 69, .mv, [.tmp 68], none⟩,
              ⟨some 70, .mv, [.tmp 1], some (69, false)⟩,
              ⟨some 71, (.call 20), [.const (.string ⟨#[34, 38, 39, 40, 41, 47, 58, 59, 60, 62, 92, 123, 125]⟩), .tmp 70], some (69, false)⟩,
              ⟨some 72, .pick, [.tmp 69, .const (.bool true), .tmp 71], none⟩])
            (.cond (.tmp 72)
             (.seq (.run [4, 5] [⟨some 73, .mv, [.tmp 1], none⟩,
                ⟨some 74, (.cvi .i64), [.tmp 73], none⟩,
                ⟨some 75, (.call 25), [.tmp 74, .const (.int .i64 16)], none⟩,
                ⟨some 76, (.bin .add), [.const (.string ⟨#[92]⟩), .tmp 75], none⟩,
                ⟨some 77, (.bin .add), [.tmp 76, .const (.string ⟨#[32]⟩)], none⟩,
                ⟨some 4, .mv, [.tmp 77], none⟩,
                ⟨some 5, .mv, [.const (.int .i64 0)], none⟩])
              .ret)
             .skip))
           (.exit 0))))
        (.seq (.seq (.run [4, 5] [⟨some 4, .mv, [.const (.string ⟨#[]⟩)], none⟩,
            ⟨some 5, .mv, [.const (.int .i64 2)], none⟩])
          .ret)
         (.exit 0)))))
     (.seq (.run [4, 5] [⟨some 78, .mv, [.tmp 1], none⟩,
        ⟨some 79, .cvc, [.tmp 78], none⟩,
        ⟨some 4, .mv, [.tmp 79], none⟩,
        ⟨some 5, .mv, [.const (.int .i64 0)], none⟩])
      .ret))))⟩

theorem f11_ok : compF Go.Proofs.Tryd.prog 11 f11.body.hints = some f11 := by kernel_rfl


def f14 : AFun := ⟨79, 2, [.cell 4 (.ld true 4)],
  (.seq (.run [1, 2, 4] [⟨some 2, .box, [.tmp 0], none⟩,
     ⟨some 4, (.alloc [(.int .i64 0), (.str []), (.str []), (.str [])]), [], none⟩])
   (.seq (.block 0 (.seq (.run [1, 2, 4, 5] [⟨some 6, (.faddr 3), [.tmp 2], none⟩,
        ⟨some 7, (.ld false 1), [.tmp 6], none⟩,
        ⟨some 8, (.eqg false 6), [.tmp 7, .const (.string ⟨#[60]⟩)], none⟩,
        ⟨some 9, .mv, [.tmp 8], none⟩,
        ⟨some 10, .mv, [.tmp 1], some (9, true)⟩,
        ⟨some 11, (.call 28), [.tmp 10], some (9, true)⟩,
        ⟨some 12, .pick, [.tmp 9, .tmp 11, .const (.bool false)], none⟩,
        ⟨some 5, .mv, [.tmp 12], none⟩])
      (.cond (.tmp 5)
       (.seq (.run [4] [⟨some 13, .mv, [.tmp 1], none⟩,
          ⟨some 14, (.call 29), [.tmp 13], none⟩,
          ⟨some 15, (.build [(.int .i64 0), (.str []), (.str []), (.str [])] [(0, 1), (1, 1)]), [.const (.int .i64 2), .tmp 14], none⟩,
          ⟨none, (.st 4), [.tmp 4, .tmp 15], none⟩])
        .ret)
       (.seq (.seq (.run [1, 2, 4, 16] [⟨some 17, (.faddr 3), [.tmp 2], none⟩,
           ⟨some 18, (.ld false 1), [.tmp 17], none⟩,
           ⟨some 19, (.eqg false 6), [.tmp 18, .const (.string ⟨#[60]⟩)], none⟩,
           ⟨some 20, .mv, [.tmp 19], none⟩,
           ⟨some 21, .mv, [.tmp 1], some (20, true)⟩,
           ⟨some 22, (.eqg false 6), [.tmp 21, .const (.int .u8 47)], some (20, true)⟩,
           ⟨some 23, .mv, [.tmp 22], some (20, true)⟩,
           ⟨some 24, .mv, [.tmp 1], some (23, false)⟩,
           ⟨some 25, (.eqg false 6), [.tmp 24, .const (.int .u8 33)], some (23, false)⟩,
           ⟨some 26, .pick, [.tmp 23, .const (.bool true), .tmp 25], some (20, true)⟩,
           ⟨some 27, .pick, [.tmp 20, .tmp 26, .const (.bool false)], none⟩,
           ⟨some 16, .mv, [.tmp 27], none⟩])
         (.cond (.tmp 16)
          .skip
          (.run [1, 2, 4, 16] [⟨some 28, (.faddr 3), [.tmp 2], none⟩,
            ⟨some 29, (.ld false 1), [.tmp 28], none⟩,
            ⟨some 30, (.eqg false 6), [.tmp 29, .const (.string ⟨#[60, 33]⟩)], none⟩,
            ⟨some 31, .mv, [.tmp 30], none⟩,
            ⟨some 32, .mv, [.tmp 1], some (31, true)⟩,
            ⟨some 33, (.eqg false 6), [.tmp 32, .const (.int .u8 45)], some (31, true)⟩,
            ⟨some 34, .pick, [.tmp 31, .tmp 33, .const (.bool false)], none⟩,
            ⟨some 16, .mv, [.tmp 34], none⟩])))
        (.cond (.tmp 16)
         (.seq (.run [4] [⟨some 35, (.faddr 3), [.tmp 2], none⟩,
            ⟨some 36, (.ld false 1), [.tmp 35], none⟩,
            ⟨some 37, .mv, [.tmp 1], none⟩,
            ⟨some 38, (.bslice 1 1 [(.int .u8 0)] [(0, 1)]), [.tmp 37], none⟩,
            ⟨some 39, .cvb, [.tmp 38], none⟩,
            ⟨some 40, (.bin .add), [.tmp 36, .tmp 39], none⟩,
            ⟨some 41, (.build [(.int .i64 0), (.str []), (.str []), (.str [])] [(3, 1)]), [.tmp 40], none⟩,
            ⟨none, (.st 4), [.tmp 4, .tmp 41], none⟩])
          .ret)
         (.seq (.run [1, 2, 4, 42] [⟨some 43, (.faddr 3), [.tmp 2], none⟩,
            ⟨some 44, (.ld false 1), [.tmp 43], none⟩,
            ⟨some 45, (.eqg false 6), [.tmp 44, .const (.string ⟨#[60, 47]⟩)], none⟩,
            ⟨some 46, .mv, [.tmp 45], none⟩,
            ⟨some 47, .mv, [.tmp 1], some (46, true)⟩,
            ⟨some 48, (.call 28), [.tmp 47], some (46, true)⟩,
            ⟨some 49, .pick, [.tmp 46, .tmp 48, .const (.bool false)], none⟩,
            ⟨some 42, .mv, [.tmp 49], none⟩])
          (.cond (.tmp 42)
           (.seq (.run [4] [⟨some 50, (.build [(.int .i64 0), (.str []), (.str []), (.str [])] [(0, 1)]), [.const (.int .i64 15)], none⟩,
              ⟨none, (.st 4), [.tmp 4, .tmp 50], none⟩])
            .ret)
           (.seq (.run [1, 2, 4, 51] [⟨some 52, (.faddr 3), [.tmp 2], none⟩,
              ⟨some 53, (.ld false 1), [.tmp 52], none⟩,
              ⟨some 54, (.eqg false 6), [.tmp 53, .const (.string ⟨#[60, 33, 45]⟩)], none⟩,
              ⟨some 55, .mv, [.tmp 54], none⟩,
              ⟨some 56, .mv, [.tmp 1], some (55, true)⟩,
              ⟨some 57, (.eqg false 6), [.tmp 56, .const (.int .u8 45)], some (55, true)⟩,
              ⟨some 58, .pick, [.tmp 55, .tmp 57, .const (.bool false)], none⟩,
              ⟨some 51, .mv, [.tmp 58], none⟩])
            (.cond (.tmp 51)
             (.seq (.run [4] [⟨some 59, (.build [(.int .i64 0), (.str []), (.str []), (.str [])] [(0, 1)]), [.const (.int .i64 13)], none⟩,
                ⟨none, (.st 4), [.tmp 4, .tmp 59], none⟩])
              .ret)
             (.seq (.run [1, 4, 60] [⟨some 61, (.faddr 3), [.tmp 2], none⟩,
                ⟨some 62, (.ld false 1), [.tmp 61], none⟩,
                ⟨some 63, (.eqg false 6), [.tmp 62, .const (.string ⟨#[60, 33]⟩)], none⟩,
                ⟨some 64, .mv, [.tmp 63], none⟩,
                ⟨some 65, (.faddr 3), [.tmp 2], some (64, false)⟩,
                ⟨some 66, (.ld false 1), [.tmp 65], some (64, false)⟩,
                ⟨some 67, (.eqg false 6), [.tmp 66, .const (.string ⟨#[60, 33, 45]⟩)], some (64, false)⟩,
                ⟨some 68, .pick, [.tmp 64, .const (.bool true), .tmp 67], none⟩,
                ⟨some 69, .mv, [.tmp 68], none⟩,
                ⟨some 70, .mv, [.tmp 1], some (69, true)⟩,
                ⟨some 71, (.eqg true 6), [.tmp 70, .const (.int .u8 62)], some (69, true)⟩,
                ⟨some 72, .pick, [.tmp 69, .tmp 71, .const (.bool false)], none⟩,
                ⟨some 60, .mv, [.tmp 72], none⟩])
              (.cond (.tmp 60)
               (.seq (.run [4] [⟨some 73, (.build [(.int .i64 0), (.str []), (.str []), (.str [])] [(0, 1)]), [.const (.int .i64 14)], none⟩,
                  ⟨none, (.st 4), [.tmp 4, .tmp 73], none⟩])
                .ret)
               (.seq (.run [4, 74] [⟨some 75, .mv, [.tmp 1], none⟩,
                  ⟨some 76, (.eqg false 6), [.tmp 75, .const (.int .u8 60)], none⟩,
                  ⟨some 74, .mv, [.tmp 76], none⟩])
                (.cond (.tmp 74)
                 (.seq (.run [4] [⟨some 77, (.build [(.int .i64 0), (.str []), (.str []), (.str [])] [(3, 1)]), [.const (.string ⟨#[60]⟩)], none⟩,
                    ⟨none, (.st 4), [.tmp 4, .tmp 77], none⟩])
                  .ret)
                 .skip)))))))))))))
    (.seq (.run [4] [⟨some 78, (.build [(.int .i64 0), (.str []), (.str []), (.str [])] []), [], none⟩,
       ⟨none, (.st 4), [.tmp 4, .tmp 78], none⟩])
     .ret)))⟩

theorem f14_ok : compF Go.Proofs.Tryd.prog 14 f14.body.hints = some f14 := by kernel_rfl


def f15 : AFun := ⟨30, 2, [.cell 4 (.ld true 4)],
  (.seq (.run [1, 2, 4] [⟨some 2, .box, [.tmp 0], none⟩,
     ⟨some 4, (.alloc [(.int .i64 0), (.str []), (.str []), (.str [])]), [], none⟩])
   (.seq (.block 0 (.seq (.run [1, 2, 4, 5] [⟨some 6, (.faddr 3), [.tmp 2], none⟩,
        ⟨some 7, (.ld false 1), [.tmp 6], none⟩,
        ⟨some 8, (.eqg false 6), [.tmp 7, .const (.string ⟨#[45, 45]⟩)], none⟩,
        ⟨some 9, .mv, [.tmp 8], none⟩,
        ⟨some 10, .mv, [.tmp 1], some (9, true)⟩,
        ⟨some 11, (.eqg false 6), [.tmp 10, .const (.int .u8 62)], some (9, true)⟩,
        ⟨some 12, .pick, [.tmp 9, .tmp 11, .const (.bool false)], none⟩,
        ⟨some 5, .mv, [.tmp 12], none⟩])
      (.cond (.tmp 5)
       (.seq (.run [4] [⟨some 13, (.build [(.int .i64 0), (.str []), (.str []), (.str [])] []), [], none⟩,
          ⟨none, (.st 4), [.tmp 4, .tmp 13], none⟩])
        .ret)
       (.seq (.run [2, 4, 14] [⟨some 15, .mv, [.tmp 1], none⟩,
          ⟨some 16, (.eqg true 6), [.tmp 15, .const (.int .u8 45)], none⟩,
          ⟨some 14, .mv, [.tmp 16], none⟩])
        (.cond (.tmp 14)
         (.seq (.run [4] [⟨some 17, (.ld true 4), [.tmp 2], none⟩,
            ⟨some 18, (.call 30), [.tmp 17, .const (.string ⟨#[]⟩)], none⟩,
            ⟨none, (.st 4), [.tmp 4, .tmp 18], none⟩])
          .ret)
         (.seq (.run [2, 4, 19] [⟨some 20, (.faddr 3), [.tmp 2], none⟩,
            ⟨some 21, (.ld false 1), [.tmp 20], none⟩,
            ⟨some 22, (.len 0), [.tmp 21], none⟩,
            ⟨some 23, (.bin .lss), [.tmp 22, .const (.int .i64 2)], none⟩,
            ⟨some 19, .mv, [.tmp 23], none⟩])
          (.cond (.tmp 19)
           (.seq (.run [4] [⟨some 24, (.ld true 4), [.tmp 2], none⟩,
              ⟨some 25, (.faddr 3), [.tmp 2], none⟩,
              ⟨some 26, (.ld false 1), [.tmp 25], none⟩,
              ⟨some 27, (.bin .add), [.tmp 26, .const (.string ⟨#[45]⟩)], none⟩,
              ⟨some 28, (.call 30), [.tmp 24, .tmp 27], none⟩,
              ⟨none, (.st 4), [.tmp 4, .tmp 28], none⟩])
            .ret)
           .skip)))))))
    (.seq (.run [4] [⟨some 29, (.ld true 4), [.tmp 2], none⟩,
       ⟨none, (.st 4), [.tmp 4, .tmp 29], none⟩])
     .ret)))⟩

theorem f15_ok : compF Go.Proofs.Tryd.prog 15 f15.body.hints = some f15 := by kernel_rfl


def f16 : AFun := ⟨93, 4, [.cell 8 (.ld true 4)],
  (.seq (.run [1, 2, 3, 4, 8] [⟨some 4, .box, [.tmp 0], none⟩,
     ⟨some 8, (.alloc [(.int .i64 0), (.str []), (.str []), (.str [])]), [], none⟩])
   (.seq (.seq (.runD [1, 2, 3, 4, 8, 9] [⟨0, ⟨some 13, (.faddr 3), [.tmp 4], none⟩, []⟩,
       ⟨1, ⟨some 14, (.ld false 1), [.tmp 13], none⟩, []⟩,
       ⟨2, ⟨some 15, .mv, [.tmp 3], none⟩, []⟩,
       ⟨3, ⟨some 16, (.call 29), [.tmp 15], none⟩, [1]⟩,
       ⟨4, ⟨some 17, (.bin .add), [.tmp 14, .tmp 16], none⟩, []⟩,
       ⟨5, ⟨some 9, .mv, [.tmp 17], none⟩, []⟩])
     (.seq (.run [1, 2, 3, 4, 8, 9, 25] [⟨some 18, (.faddr 3), [.tmp 4], none⟩,
        ⟨some 19, (.ld false 1), [.tmp 18], none⟩,
        ⟨some 20, (.call 31), [.tmp 19, .const (.string ⟨#[60]⟩)], none⟩,
        ⟨some 21, .mv, [.tmp 20], none⟩,
        ⟨some 22, .mv, [.tmp 2], some (21, true)⟩,
        ⟨some 23, .mv, [.tmp 9], some (21, true)⟩,
        ⟨some 24, (.call 31), [.tmp 22, .tmp 23], some (21, true)⟩,
        ⟨some 25, .pick, [.tmp 21, .tmp 24, .const (.bool false)], none⟩])
      (.cond (.tmp 25)
       (.seq (.seq (.run [4, 8, 9, 28] [⟨some 26, .mv, [.tmp 9], none⟩,
           ⟨some 27, .mv, [.tmp 2], none⟩,
           ⟨some 28, (.eqg false 6), [.tmp 26, .tmp 27], none⟩])
         (.cond (.tmp 28)
          (.seq (.run [8] [⟨some 29, (.build [(.int .i64 0), (.str []), (.str []), (.str [])] [(0, 1)]), [.const (.int .i64 15)], none⟩,
             ⟨none, (.st 4), [.tmp 8, .tmp 29], none⟩])
           .ret)
          .skip))
        (.seq (.run [8] [⟨some 30, (.ld true 4), [.tmp 4], none⟩,
           ⟨some 31, .mv, [.tmp 9], none⟩,
           ⟨some 32, (.call 30), [.tmp 30, .tmp 31], none⟩,
           ⟨none, (.st 4), [.tmp 8, .tmp 32], none⟩])
         .ret))
       .skip)))
    (.seq (.run [1, 3, 4, 8, 10] [⟨some 33, (.faddr 3), [.tmp 4], none⟩,
       ⟨some 34, (.ld false 1), [.tmp 33], none⟩,
       ⟨some 35, (.eqg false 6), [.tmp 34, .const (.string ⟨#[92]⟩)], none⟩,
       ⟨some 10, .mv, [.tmp 35], none⟩])
     (.seq (.run [1, 3, 4, 8, 10] [⟨some 36, (.faddr 3), [.tmp 4], none⟩,
        ⟨none, (.st 1), [.tmp 36, .const (.string ⟨#[]⟩)], none⟩])
      (.seq (.run [1, 3, 4, 8, 10, 11] [⟨some 37, (.build [(.int .u8 0), (.int .u8 0), (.int .u8 0)] [(0, 1), (1, 1), (2, 1)]), [.const (.int .u8 0), .const (.int .u8 34), .const (.int .u8 39)], none⟩,
         ⟨some 11, (.alloc [(.int .u8 0), (.int .u8 0), (.int .u8 0)]), [], none⟩,
         ⟨none, (.st 3), [.tmp 11, .tmp 37], none⟩])
       (.seq (.seq (.run [1, 3, 4, 8, 10, 11, 12] [⟨some 38, (.faddr 0), [.tmp 4], none⟩,
           ⟨some 39, (.ld false 1), [.tmp 38], none⟩,
           ⟨some 40, .mv, [.tmp 1], none⟩,
           ⟨some 41, (.bin .sub), [.tmp 39, .tmp 40], none⟩,
           ⟨some 12, .mv, [.tmp 41], none⟩])
         (.block 0 (.seq (.run [1, 3, 4, 8, 10, 11, 12, 42] [⟨some 43, .mv, [.tmp 3], none⟩,
             ⟨some 44, (.eqg false 6), [.tmp 43, .const (.int .u8 60)], none⟩,
             ⟨some 42, .mv, [.tmp 44], none⟩])
           (.cond (.tmp 42)
            (.run [4, 8] [⟨some 45, (.faddr 3), [.tmp 4], none⟩,
              ⟨none, (.st 1), [.tmp 45, .const (.string ⟨#[60]⟩)], none⟩])
            (.seq (.run [1, 3, 4, 8, 11, 12, 46] [⟨some 47, .mv, [.tmp 10], none⟩,
               ⟨some 46, .mv, [.tmp 47], none⟩])
             (.cond (.tmp 46)
              .skip
              (.seq (.run [1, 3, 4, 8, 11, 12, 48] [⟨some 49, .mv, [.tmp 12], none⟩,
                 ⟨some 50, (.eqg false 6), [.tmp 49, .const (.int .i64 0)], none⟩,
                 ⟨some 51, .mv, [.tmp 50], none⟩,
                 ⟨some 52, .mv, [.tmp 3], some (51, true)⟩,
                 ⟨some 53, (.eqg false 6), [.tmp 52, .const (.int .u8 34)], some (51, true)⟩,
                 ⟨some 54, .pick, [.tmp 51, .tmp 53, .const (.bool false)], none⟩,
                 ⟨some 48, .mv, [.tmp 54], none⟩])
               (.cond (.tmp 48)
                (.run [4, 8] [⟨some 55, .mv, [.tmp 1], none⟩,
                  ⟨some 56, (.bin .add), [.tmp 55, .const (.int .i64 1)], none⟩,
                  ⟨some 57, (.faddr 0), [.tmp 4], none⟩,
                  ⟨none, (.st 1), [.tmp 57, .tmp 56], none⟩])
                (.seq (.run [1, 3, 4, 8, 11, 12, 58] [⟨some 59, .mv, [.tmp 12], none⟩,
                   ⟨some 60, (.eqg false 6), [.tmp 59, .const (.int .i64 0)], none⟩,
                   ⟨some 61, .mv, [.tmp 60], none⟩,
                   ⟨some 62, .mv, [.tmp 3], some (61, true)⟩,
                   ⟨some 63, (.eqg false 6), [.tmp 62, .const (.int .u8 39)], some (61, true)⟩,
                   ⟨some 64, .pick, [.tmp 61, .tmp 63, .const (.bool false)], none⟩,
                   ⟨some 58, .mv, [.tmp 64], none⟩])
                 (.cond (.tmp 58)
                  (.run [4, 8] [⟨some 65, .mv, [.tmp 1], none⟩,
                    ⟨some 66, (.bin .add), [.tmp 65, .const (.int .i64 2)], none⟩,
                    ⟨some 67, (.faddr 0), [.tmp 4], none⟩,
                    ⟨none, (.st 1), [.tmp 67, .tmp 66], none⟩])
                  (.seq (.run [1, 3, 4, 8, 12, 68] [⟨some 69, .mv, [.tmp 12], none⟩,
                     ⟨some 70, (.eqg true 6), [.tmp 69, .const (.int .i64 0)], none⟩,
                     ⟨some 71, .mv, [.tmp 70], none⟩,
                     ⟨some 72, .mv, [.tmp 3], some (71, true)⟩,
                     ⟨some 73, .mv, [.tmp 12], some (71, true)⟩,
                     ⟨some 74, (.aaddr 1 3), [.tmp 11, .tmp 73], some (71, true)⟩,
                     ⟨some 75, (.ld false 1), [.tmp 74], some (71, true)⟩,
                     ⟨some 76, (.eqg false 6), [.tmp 72, .tmp 75], some (71, true)⟩,
                     ⟨some 77, .mv, [.tmp 76], some (71, true)⟩,
                     ⟨some 78, .mv, [.tmp 3], some (77, false)⟩,
                     ⟨some 79, (.eqg false 6), [.tmp 78, .const (.int .u8 10)], some (77, false)⟩,
                     ⟨some 80, .pick, [.tmp 77, .const (.bool true), .tmp 79], some (71, true)⟩,
                     ⟨some 81, .pick, [.tmp 71, .tmp 80, .const (.bool false)], none⟩,
                     ⟨some 68, .mv, [.tmp 81], none⟩])
                   (.cond (.tmp 68)
                    (.run [4, 8] [⟨some 82, .mv, [.tmp 1], none⟩,
                      ⟨some 83, (.faddr 0), [.tmp 4], none⟩,
                      ⟨none, (.st 1), [.tmp 83, .tmp 82], none⟩])
                    (.seq (.run [4, 8, 84] [⟨some 85, .mv, [.tmp 12], none⟩,
                       ⟨some 86, (.eqg true 6), [.tmp 85, .const (.int .i64 0)], none⟩,
                       ⟨some 87, .mv, [.tmp 86], none⟩,
                       ⟨some 88, .mv, [.tmp 3], some (87, true)⟩,
                       ⟨some 89, (.eqg false 6), [.tmp 88, .const (.int .u8 92)], some (87, true)⟩,
                       ⟨some 90, .pick, [.tmp 87, .tmp 89, .const (.bool false)], none⟩,
                       ⟨some 84, .mv, [.tmp 90], none⟩])
                     (.cond (.tmp 84)
                      (.run [4, 8] [⟨some 91, (.faddr 3), [.tmp 4], none⟩,
                        ⟨none, (.st 1), [.tmp 91, .const (.string ⟨#[92]⟩)], none⟩])
                      .skip))))))))))))))
        (.seq (.run [8] [⟨some 92, (.ld true 4), [.tmp 4], none⟩,
           ⟨none, (.st 4), [.tmp 8, .tmp 92], none⟩])
         .ret)))))))⟩

theorem f16_ok : compF Go.Proofs.Tryd.prog 16 f16.body.hints = some f16 := by kernel_rfl


def f17 : AFun := ⟨50, 2, [.cell 4 (.ld true 4)],
  (.seq (.run [1, 2, 4] [⟨some 2, .box, [.tmp 0], none⟩,
     ⟨some 4, (.alloc [(.int .i64 0), (.str []), (.str []), (.str [])]), [], none⟩])
   (.seq (.seq (.run [1, 2, 4, 6] [⟨some 5, (.faddr 0), [.tmp 2], none⟩,
       ⟨some 6, (.ld false 1), [.tmp 5], none⟩])
     (.block 0 (.seq (.seq (.run [1, 2, 4, 6, 7] [⟨some 8, (.eqg false 6), [.tmp 6, .const (.int .i64 7)], none⟩,
          ⟨some 7, .mv, [.tmp 8], none⟩])
        (.cond (.tmp 7)
         .skip
         (.seq (.run [1, 2, 4, 6, 7] [⟨some 9, (.eqg false 6), [.tmp 6, .const (.int .i64 9)], none⟩,
            ⟨some 7, .mv, [.tmp 9], none⟩])
          (.cond (.tmp 7)
           .skip
           (.run [1, 2, 4, 6, 7] [⟨some 10, (.eqg false 6), [.tmp 6, .const (.int .i64 11)], none⟩,
             ⟨some 7, .mv, [.tmp 10], none⟩])))))
       (.cond (.tmp 7)
        (.seq (.seq (.run [2, 4, 12] [⟨some 11, .mv, [.tmp 1], none⟩,
            ⟨some 12, (.eqg false 6), [.tmp 11, .const (.int .u8 34)], none⟩])
          (.cond (.tmp 12)
           (.seq (.run [4] [⟨some 13, (.ld true 4), [.tmp 2], none⟩,
              ⟨some 14, (.call 32), [.tmp 13, .const (.int .i64 1)], none⟩,
              ⟨none, (.st 4), [.tmp 4, .tmp 14], none⟩])
            .ret)
           .skip))
         (.seq (.run [4] [⟨some 15, (.ld true 4), [.tmp 2], none⟩,
            ⟨none, (.st 4), [.tmp 4, .tmp 15], none⟩])
          .ret))
        (.seq (.seq (.run [1, 2, 4, 6, 16] [⟨some 17, (.eqg false 6), [.tmp 6, .const (.int .i64 8)], none⟩,
            ⟨some 16, .mv, [.tmp 17], none⟩])
          (.cond (.tmp 16)
           .skip
           (.seq (.run [1, 2, 4, 6, 16] [⟨some 18, (.eqg false 6), [.tmp 6, .const (.int .i64 10)], none⟩,
              ⟨some 16, .mv, [.tmp 18], none⟩])
            (.cond (.tmp 16)
             .skip
             (.run [1, 2, 4, 16] [⟨some 19, (.eqg false 6), [.tmp 6, .const (.int .i64 12)], none⟩,
               ⟨some 16, .mv, [.tmp 19], none⟩])))))
         (.cond (.tmp 16)
          (.seq (.seq (.run [2, 4, 21] [⟨some 20, .mv, [.tmp 1], none⟩,
              ⟨some 21, (.eqg false 6), [.tmp 20, .const (.int .u8 39)], none⟩])
            (.cond (.tmp 21)
             (.seq (.run [4] [⟨some 22, (.ld true 4), [.tmp 2], none⟩,
                ⟨some 23, (.call 32), [.tmp 22, .const (.int .i64 1)], none⟩,
                ⟨none, (.st 4), [.tmp 4, .tmp 23], none⟩])
              .ret)
             .skip))
           (.seq (.run [4] [⟨some 24, (.ld true 4), [.tmp 2], none⟩,
              ⟨none, (.st 4), [.tmp 4, .tmp 24], none⟩])
            .ret))
          .skip))))))
    (.seq (.block 1 (.seq (.run [1, 2, 4, 25] [⟨some 26, .mv, [.tmp 1], none⟩,
         ⟨some 27, (.eqg false 6), [.tmp 26, .const (.int .u8 62)], none⟩,
         ⟨some 25, .mv, [.tmp 27], none⟩])
       (.cond (.tmp 25)
        (.seq (.run [4] [⟨some 28, (.ld true 4), [.tmp 2], none⟩,
           ⟨some 29, (.call 33), [.tmp 28], none⟩,
           ⟨none, (.st 4), [.tmp 4, .tmp 29], none⟩])
         .ret)
        (.seq (.run [1, 2, 4, 30] [⟨some 31, (.faddr 0), [.tmp 2], none⟩,
           ⟨some 32, (.ld false 1), [.tmp 31], none⟩,
           ⟨some 33, (.eqg false 6), [.tmp 32, .const (.int .i64 5)], none⟩,
           ⟨some 30, .mv, [.tmp 33], none⟩])
         (.cond (.tmp 30)
          (.seq (.run [4] [⟨some 34, (.ld true 4), [.tmp 2], none⟩,
             ⟨some 35, .mv, [.tmp 1], none⟩,
             ⟨some 36, (.call 34), [.tmp 34, .tmp 35], none⟩,
             ⟨none, (.st 4), [.tmp 4, .tmp 36], none⟩])
           .ret)
          (.seq (.run [1, 2, 4, 37] [⟨some 38, (.faddr 0), [.tmp 2], none⟩,
             ⟨some 39, (.ld false 1), [.tmp 38], none⟩,
             ⟨some 40, (.eqg true 6), [.tmp 39, .const (.int .i64 6)], none⟩,
             ⟨some 37, .mv, [.tmp 40], none⟩])
           (.cond (.tmp 37)
            (.seq (.run [4] [⟨some 41, (.ld true 4), [.tmp 2], none⟩,
               ⟨some 42, .mv, [.tmp 1], none⟩,
               ⟨some 43, (.call 35), [.tmp 41, .tmp 42], none⟩,
               ⟨none, (.st 4), [.tmp 4, .tmp 43], none⟩])
             .ret)
            (.seq (.run [2, 4, 44] [⟨some 45, .mv, [.tmp 1], none⟩,
               ⟨some 46, (.call 36), [.tmp 45], none⟩,
               ⟨some 44, .mv, [.tmp 46], none⟩])
             (.cond (.tmp 44)
              (.seq (.run [4] [⟨some 47, (.ld true 4), [.tmp 2], none⟩,
                 ⟨some 48, (.call 32), [.tmp 47, .const (.int .i64 1)], none⟩,
                 ⟨none, (.st 4), [.tmp 4, .tmp 48], none⟩])
               .ret)
              .skip)))))))))
     (.seq (.run [4] [⟨some 49, (.ld true 4), [.tmp 2], none⟩,
        ⟨none, (.st 4), [.tmp 4, .tmp 49], none⟩])
      .ret))))⟩

theorem f17_ok : compF Go.Proofs.Tryd.prog 17 f17.body.hints = some f17 := by kernel_rfl


def f18 : AFun := ⟨21, 2, [.slot 4],
  (.seq (.run [0, 1] [⟨some 4, .mv, [.const (.int .i32 0)], none⟩])
   (.seq (.block 0 (.seq (.run [0, 1, 5] [⟨some 6, .mv, [.tmp 1], none⟩,
        ⟨some 7, (.call 37), [.tmp 6], none⟩,
        ⟨some 8, (.un .not), [.tmp 7], none⟩,
        ⟨some 5, .mv, [.tmp 8], none⟩])
      (.cond (.tmp 5)
       (.seq (.run [4] [⟨some 4, .mv, [.const (.int .i32 65533)], none⟩])
        .ret)
       (.seq (.run [1, 9] [⟨some 10, .mv, [.tmp 1], none⟩,
          ⟨some 11, (.eqg false 6), [.tmp 10, .const (.int .i32 0)], none⟩,
          ⟨some 12, .mv, [.tmp 11], none⟩,
          ⟨some 13, .mv, [.tmp 0], some (12, true)⟩,
          ⟨some 14, (.eqg true 6), [.tmp 13, .const (.int .i64 2)], some (12, true)⟩,
          ⟨some 15, .pick, [.tmp 12, .tmp 14, .const (.bool false)], none⟩,
          ⟨some 16, .mv, [.tmp 15], none⟩,
          ⟨some 17, .mv, [.tmp 0], some (16, true)⟩,
          ⟨some 18, (.eqg true 6), [.tmp 17, .const (.int .i64 3)], some (16, true)⟩,
          ⟨some 19, .pick, [.tmp 16, .tmp 18, .const (.bool false)], none⟩,
          ⟨some 9, .mv, [.tmp 19], none⟩])
        (.cond (.tmp 9)
         (.seq (.run [4] [⟨some 4, .mv, [.const (.int .i32 65533)], none⟩])
          .ret)
         .skip)))))
    (.seq (.run [4] [⟨some 20, .mv, [.tmp 1], none⟩,
       ⟨some 4, .mv, [.tmp 20], none⟩])
     .ret)))⟩

theorem f18_ok : compF Go.Proofs.Tryd.prog 18 f18.body.hints = some f18 := by kernel_rfl


def f19 : AFun := ⟨15, 1, [.slot 2],
  (.seq (.run [0] [⟨some 2, .mv, [.const (.string ⟨#[]⟩)], none⟩])
   (.seq (.seq (.run [0, 3] [⟨some 3, .mv, [.tmp 0], none⟩])
     (.block 0 (.seq (.run [0, 3, 4] [⟨some 5, (.eqg false 6), [.tmp 3, .const (.int .i32 38)], none⟩,
         ⟨some 4, .mv, [.tmp 5], none⟩])
       (.cond (.tmp 4)
        (.seq (.run [2] [⟨some 2, .mv, [.const (.string ⟨#[38, 97, 109, 112, 59]⟩)], none⟩])
         .ret)
        (.seq (.run [0, 3, 6] [⟨some 7, (.eqg false 6), [.tmp 3, .const (.int .i32 60)], none⟩,
           ⟨some 6, .mv, [.tmp 7], none⟩])
         (.cond (.tmp 6)
          (.seq (.run [2] [⟨some 2, .mv, [.const (.string ⟨#[38, 108, 116, 59]⟩)], none⟩])
           .ret)
          (.seq (.run [0, 8] [⟨some 9, (.eqg false 6), [.tmp 3, .const (.int .i32 62)], none⟩,
             ⟨some 8, .mv, [.tmp 9], none⟩])
           (.cond (.tmp 8)
            (.seq (.run [2] [⟨some 2, .mv, [.const (.string ⟨#[38, 103, 116, 59]⟩)], none⟩])
             .ret)
            .skip))))))))
    (.seq (.run [2] [⟨some 10, .mv, [.tmp 0], none⟩,
       ⟨some 11, (.cvi .i64), [.tmp 10], none⟩,
       ⟨some 12, (.call 38), [.tmp 11], none⟩,
       ⟨some 13, (.bin .add), [.const (.string ⟨#[38, 35]⟩), .tmp 12], none⟩,
       ⟨some 14, (.bin .add), [.tmp 13, .const (.string ⟨#[59]⟩)], none⟩,
       ⟨some 2, .mv, [.tmp 14], none⟩])
     .ret)))⟩

theorem f19_ok : compF Go.Proofs.Tryd.prog 19 f19.body.hints = some f19 := by kernel_rfl


def f20 : AFun := ⟨9, 2, [.slot 4],
  (.seq (.run [0, 1] [⟨some 4, .mv, [.const (.bool false)], none⟩])
   (.seq (.run [4] [⟨some 5, .mv, [.tmp 0], none⟩,
      ⟨some 6, .mv, [.tmp 1], none⟩,
      ⟨some 7, (.call 39), [.tmp 5, .tmp 6], none⟩,
      ⟨some 8, (.bin .geq), [.tmp 7, .const (.int .i64 0)], none⟩,
      ⟨some 4, .mv, [.tmp 8], none⟩])
    .ret))⟩

theorem f20_ok : compF Go.Proofs.Tryd.prog 20 f20.body.hints = some f20 := by kernel_rfl


def f21 : AFun := ⟨25, 1, [.slot 2],
  (.seq (.run [0] [⟨some 2, .mv, [.const (.bool false)], none⟩])
   (.seq (.run [2] [⟨some 3, .mv, [.tmp 0], none⟩,
      ⟨some 4, (.bin .geq), [.tmp 3, .const (.int .i32 97)], none⟩,
      ⟨some 5, .mv, [.tmp 4], none⟩,
      ⟨some 6, .mv, [.tmp 0], some (5, true)⟩,
      ⟨some 7, (.bin .leq), [.tmp 6, .const (.int .i32 122)], some (5, true)⟩,
      ⟨some 8, .pick, [.tmp 5, .tmp 7, .const (.bool false)], none⟩,
      ⟨some 9, .mv, [.tmp 8], none⟩,
      ⟨some 10, .mv, [.tmp 0], some (9, false)⟩,
      ⟨some 11, (.bin .geq), [.tmp 10, .const (.int .i32 65)], some (9, false)⟩,
      ⟨some 12, .mv, [.tmp 11], some (9, false)⟩,
      ⟨some 13, .mv, [.tmp 0], some (12, true)⟩,
      ⟨some 14, (.bin .leq), [.tmp 13, .const (.int .i32 90)], some (12, true)⟩,
      ⟨some 15, .pick, [.tmp 12, .tmp 14, .const (.bool false)], some (9, false)⟩,
      ⟨some 16, .pick, [.tmp 9, .const (.bool true), .tmp 15], none⟩,
      ⟨some 17, .mv, [.tmp 16], none⟩,
      ⟨some 18, .mv, [.tmp 0], some (17, false)⟩,
      ⟨some 19, (.bin .geq), [.tmp 18, .const (.int .i32 48)], some (17, false)⟩,
      ⟨some 20, .mv, [.tmp 19], some (17, false)⟩,
      ⟨some 21, .mv, [.tmp 0], some (20, true)⟩,
      ⟨some 22, (.bin .leq), [.tmp 21, .const (.int .i32 57)], some (20, true)⟩,
      ⟨some 23, .pick, [.tmp 20, .tmp 22, .const (.bool false)], some (17, false)⟩,
      ⟨some 24, .pick, [.tmp 17, .const (.bool true), .tmp 23], none⟩,
      ⟨some 2, .mv, [.tmp 24], none⟩])
    .ret))⟩

theorem f21_ok : compF Go.Proofs.Tryd.prog 21 f21.body.hints = some f21 := by kernel_rfl


def f22 : AFun := ⟨25, 1, [.slot 2],
  (.seq (.run [0] [⟨some 2, .mv, [.const (.string ⟨#[]⟩)], none⟩])
   (.seq (.run [0, 3] [⟨some 3, .mv, [.const (.slice none 0 0)], none⟩])
    (.seq (.seq (.run [3, 7, 8, 9] [⟨some 6, .mv, [.tmp 0], none⟩,
        ⟨some 7, (.call 40), [.const (.slice none 0 0), .tmp 6], none⟩,
        ⟨some 8, (.len 1), [.tmp 7], none⟩,
        ⟨some 9, .mv, [.const (.int .i64 0)], none⟩])
      (.block 0 (.loop [3, 7, 8, 9] (.seq (.run [3, 7, 8, 9, 10] [⟨some 10, (.bin .lss), [.tmp 9, .tmp 8], none⟩])
         (.seq (.cond (.tmp 10)
           .skip
           (.exit 0))
          (.seq (.block 1 (.seq (.run [3, 5, 7, 8, 9] [⟨some 11, (.iaddr 1), [.tmp 7, .tmp 9], none⟩,
               ⟨some 12, (.ld false 1), [.tmp 11], none⟩,
               ⟨some 5, .mv, [.tmp 12], none⟩])
             (.runD [3, 7, 8, 9] [⟨0, ⟨some 13, .mv, [.tmp 3], none⟩, []⟩,
               ⟨1, ⟨some 14, .mv, [.tmp 5], none⟩, []⟩,
               ⟨2, ⟨some 15, (.bin .shr), [.tmp 14, .const (.int .u64 4)], none⟩, []⟩,
               ⟨3, ⟨some 16, .ixs, [.const (.string ⟨#[48, 49, 50, 51, 52, 53, 54, 55, 56, 57, 65, 66, 67, 68, 69, 70]⟩), .tmp 15], none⟩, []⟩,
               ⟨4, ⟨some 17, .mv, [.tmp 5], none⟩, []⟩,
               ⟨5, ⟨some 18, (.bin .and), [.tmp 17, .const (.int .u8 15)], none⟩, []⟩,
               ⟨6, ⟨some 19, .ixs, [.const (.string ⟨#[48, 49, 50, 51, 52, 53, 54, 55, 56, 57, 65, 66, 67, 68, 69, 70]⟩), .tmp 18], none⟩, []⟩,
               ⟨7, ⟨some 20, (.bslice 1 3 [(.int .u8 0)] [(0, 1), (1, 1), (2, 1)]), [.const (.int .u8 37), .tmp 16, .tmp 19], none⟩, []⟩,
               ⟨8, ⟨some 21, (.app 1 1), [.tmp 13, .tmp 20], none⟩, []⟩,
               ⟨9, ⟨some 3, .mv, [.tmp 21], none⟩, []⟩])))
           (.run [3, 7, 8, 9] [⟨some 22, (.bin .add), [.tmp 9, .const (.int .i64 1)], none⟩,
             ⟨some 9, .mv, [.tmp 22], none⟩])))))))
     (.seq (.run [2] [⟨some 23, .mv, [.tmp 3], none⟩,
        ⟨some 24, .cvb, [.tmp 23], none⟩,
        ⟨some 2, .mv, [.tmp 24], none⟩])
      .ret))))⟩

theorem f22_ok : compF Go.Proofs.Tryd.prog 22 f22.body.hints = some f22 := by kernel_rfl


def f23 : AFun := ⟨9, 1, [.slot 2],
  (.seq (.run [0] [⟨some 2, .mv, [.const (.bool false)], none⟩])
   (.seq (.run [2] [⟨some 3, .mv, [.tmp 0], none⟩,
      ⟨some 4, (.bin .lss), [.tmp 3, .const (.int .i32 32)], none⟩,
      ⟨some 5, .mv, [.tmp 4], none⟩,
      ⟨some 6, .mv, [.tmp 0], some (5, false)⟩,
      ⟨some 7, (.eqg false 6), [.tmp 6, .const (.int .i32 127)], some (5, false)⟩,
      ⟨some 8, .pick, [.tmp 5, .const (.bool true), .tmp 7], none⟩,
      ⟨some 2, .mv, [.tmp 8], none⟩])
    .ret))⟩

theorem f23_ok : compF Go.Proofs.Tryd.prog 23 f23.body.hints = some f23 := by kernel_rfl


def f24 : AFun := ⟨9, 1, [.slot 2],
  (.seq (.run [0] [⟨some 2, .mv, [.const (.bool false)], none⟩])
   (.seq (.run [2] [⟨some 3, .mv, [.tmp 0], none⟩,
      ⟨some 4, (.eqg false 6), [.tmp 3, .const (.int .i32 8232)], none⟩,
      ⟨some 5, .mv, [.tmp 4], none⟩,
      ⟨some 6, .mv, [.tmp 0], some (5, false)⟩,
      ⟨some 7, (.eqg false 6), [.tmp 6, .const (.int .i32 8233)], some (5, false)⟩,
      ⟨some 8, .pick, [.tmp 5, .const (.bool true), .tmp 7], none⟩,
      ⟨some 2, .mv, [.tmp 8], none⟩])
    .ret))⟩

theorem f24_ok : compF Go.Proofs.Tryd.prog 24 f24.body.hints = some f24 := by kernel_rfl


def f25 : AFun := ⟨8, 2, [.slot 4],
  (.seq (.run [0, 1] [⟨some 4, .mv, [.const (.string ⟨#[]⟩)], none⟩])
   (.seq (.run [4] [⟨some 5, .mv, [.tmp 0], none⟩,
      ⟨some 6, .mv, [.tmp 1], none⟩,
      ⟨some 7, (.call 41), [.tmp 5, .tmp 6], none⟩,
      ⟨some 4, .mv, [.tmp 7], none⟩])
    .ret))⟩

theorem f25_ok : compF Go.Proofs.Tryd.prog 25 f25.body.hints = some f25 := by kernel_rfl


def f28 : AFun := ⟨17, 1, [.slot 2],
  (.seq (.run [0] [⟨some 2, .mv, [.const (.bool false)], none⟩])
   (.seq (.run [2] [⟨some 3, .mv, [.tmp 0], none⟩,
      ⟨some 4, (.bin .geq), [.tmp 3, .const (.int .u8 97)], none⟩,
      ⟨some 5, .mv, [.tmp 4], none⟩,
      ⟨some 6, .mv, [.tmp 0], some (5, true)⟩,
      ⟨some 7, (.bin .leq), [.tmp 6, .const (.int .u8 122)], some (5, true)⟩,
      ⟨some 8, .pick, [.tmp 5, .tmp 7, .const (.bool false)], none⟩,
      ⟨some 9, .mv, [.tmp 8], none⟩,
      ⟨some 10, .mv, [.tmp 0], some (9, false)⟩,
      ⟨some 11, (.bin .geq), [.tmp 10, .const (.int .u8 65)], some (9, false)⟩,
      ⟨some 12, .mv, [.tmp 11], some (9, false)⟩,
      ⟨some 13, .mv, [.tmp 0], some (12, true)⟩,
      ⟨some 14, (.bin .leq), [.tmp 13, .const (.int .u8 90)], some (12, true)⟩,
      ⟨some 15, .pick, [.tmp 12, .tmp 14, .const (.bool false)], some (9, false)⟩,
      ⟨some 16, .pick, [.tmp 9, .const (.bool true), .tmp 15], none⟩,
      ⟨some 2, .mv, [.tmp 16], none⟩])
    .ret))⟩

theorem f28_ok : compF Go.Proofs.Tryd.prog 28 f28.body.hints = some f28 := by kernel_rfl


def f29 : AFun := ⟨14, 1, [.slot 2],
  (.seq (.run [0] [⟨some 2, .mv, [.const (.string ⟨#[]⟩)], none⟩])
   (.seq (.seq (.run [0, 8] [⟨some 3, .mv, [.tmp 0], none⟩,
       ⟨some 4, (.bin .geq), [.tmp 3, .const (.int .u8 65)], none⟩,
       ⟨some 5, .mv, [.tmp 4], none⟩,
       ⟨some 6, .mv, [.tmp 0], some (5, true)⟩,
       ⟨some 7, (.bin .leq), [.tmp 6, .const (.int .u8 90)], some (5, true)⟩,
       ⟨some 8, .pick, [.tmp 5, .tmp 7, .const (.bool false)], none⟩])
     (.cond (.tmp 8)
      (.run [0] [⟨some 9, .mv, [.tmp 0], none⟩,
        ⟨some 10, (.bin .add), [.tmp 9, .const (.int .u8 32)], none⟩,
        ⟨some 0, .mv, [.tmp 10], none⟩])
      .skip))
    (.seq (.run [2] [⟨some 11, .mv, [.tmp 0], none⟩,
       ⟨some 12, (.bslice 1 1 [(.int .u8 0)] [(0, 1)]), [.tmp 11], none⟩,
       ⟨some 13, .cvb, [.tmp 12], none⟩,
       ⟨some 2, .mv, [.tmp 13], none⟩])
     .ret)))⟩

theorem f29_ok : compF Go.Proofs.Tryd.prog 29 f29.body.hints = some f29 := by kernel_rfl


def f30 : AFun := ⟨8, 2, [.cell 4 (.ld true 4)],
  (.seq (.run [1, 2, 4] [⟨some 2, .box, [.tmp 0], none⟩,
     ⟨some 4, (.alloc [(.int .i64 0), (.str []), (.str []), (.str [])]), [], none⟩])
   (.seq (.run [2, 4] [⟨some 5, .mv, [.tmp 1], none⟩,
      ⟨some 6, (.faddr 3), [.tmp 2], none⟩,
      ⟨none, (.st 1), [.tmp 6, .tmp 5], none⟩])
    (.seq (.run [4] [⟨some 7, (.ld true 4), [.tmp 2], none⟩,
       ⟨none, (.st 4), [.tmp 4, .tmp 7], none⟩])
     .ret)))⟩

theorem f30_ok : compF Go.Proofs.Tryd.prog 30 f30.body.hints = some f30 := by kernel_rfl


def f31 : AFun := ⟨8, 2, [.slot 4],
  (.seq (.run [0, 1] [⟨some 4, .mv, [.const (.bool false)], none⟩])
   (.seq (.run [4] [⟨some 5, .mv, [.tmp 0], none⟩,
      ⟨some 6, .mv, [.tmp 1], none⟩,
      ⟨some 7, (.call 46), [.tmp 5, .tmp 6], none⟩,
      ⟨some 4, .mv, [.tmp 7], none⟩])
    .ret))⟩

theorem f31_ok : compF Go.Proofs.Tryd.prog 31 f31.body.hints = some f31 := by kernel_rfl


def f32 : AFun := ⟨9, 2, [.cell 4 (.ld true 4)],
  (.seq (.run [1, 2, 4] [⟨some 2, .box, [.tmp 0], none⟩,
     ⟨some 4, (.alloc [(.int .i64 0), (.str []), (.str []), (.str [])]), [], none⟩])
   (.seq (.run [4] [⟨some 5, .mv, [.tmp 1], none⟩,
      ⟨some 6, (.faddr 1), [.tmp 2], none⟩,
      ⟨some 7, (.ld false 1), [.tmp 6], none⟩,
      ⟨some 8, (.build [(.int .i64 0), (.str []), (.str []), (.str [])] [(0, 1), (1, 1)]), [.tmp 5, .tmp 7], none⟩,
      ⟨none, (.st 4), [.tmp 4, .tmp 8], none⟩])
    .ret))⟩

theorem f32_ok : compF Go.Proofs.Tryd.prog 32 f32.body.hints = some f32 := by kernel_rfl


def f33 : AFun := ⟨12, 1, [.cell 2 (.ld true 4)],
  (.seq (.run [1, 2] [⟨some 1, .box, [.tmp 0], none⟩,
     ⟨some 2, (.alloc [(.int .i64 0), (.str []), (.str []), (.str [])]), [], none⟩])
   (.seq (.seq (.run [2, 4] [⟨some 3, (.faddr 1), [.tmp 1], none⟩,
       ⟨some 4, (.ld false 1), [.tmp 3], none⟩])
     (.block 0 (.seq (.run [2, 4, 5] [⟨some 6, (.eqg false 6), [.tmp 4, .const (.string ⟨#[115, 99, 114, 105, 112, 116]⟩)], none⟩,
         ⟨some 5, .mv, [.tmp 6], none⟩])
       (.cond (.tmp 5)
        (.seq (.run [2] [⟨some 7, (.build [(.int .i64 0), (.str []), (.str []), (.str [])] [(0, 1)]), [.const (.int .i64 16)], none⟩,
           ⟨none, (.st 4), [.tmp 2, .tmp 7], none⟩])
         .ret)
        (.seq (.run [2, 8] [⟨some 9, (.eqg false 6), [.tmp 4, .const (.string ⟨#[115, 116, 121, 108, 101]⟩)], none⟩,
           ⟨some 8, .mv, [.tmp 9], none⟩])
         (.cond (.tmp 8)
          (.seq (.run [2] [⟨some 10, (.build [(.int .i64 0), (.str []), (.str []), (.str [])] [(0, 1)]), [.const (.int .i64 19)], none⟩,
             ⟨none, (.st 4), [.tmp 2, .tmp 10], none⟩])
           .ret)
          .skip))))))
    (.seq (.run [2] [⟨some 11, (.build [(.int .i64 0), (.str []), (.str []), (.str [])] []), [], none⟩,
       ⟨none, (.st 4), [.tmp 2, .tmp 11], none⟩])
     .ret)))⟩

theorem f33_ok : compF Go.Proofs.Tryd.prog 33 f33.body.hints = some f33 := by kernel_rfl


def f34 : AFun := ⟨55, 2, [.cell 4 (.ld true 4)],
  (.seq (.run [1, 2, 4] [⟨some 2, .box, [.tmp 0], none⟩,
     ⟨some 4, (.alloc [(.int .i64 0), (.str []), (.str []), (.str [])]), [], none⟩])
   (.seq (.block 0 (.seq (.run [1, 2, 4, 7] [⟨some 8, .mv, [.tmp 1], none⟩,
        ⟨some 9, (.call 36), [.tmp 8], none⟩,
        ⟨some 7, .mv, [.tmp 9], none⟩])
      (.cond (.tmp 7)
       (.seq (.run [4] [⟨some 10, (.ld true 4), [.tmp 2], none⟩,
          ⟨none, (.st 4), [.tmp 4, .tmp 10], none⟩])
        .ret)
       (.seq (.run [1, 2, 4, 11] [⟨some 12, .mv, [.tmp 1], none⟩,
          ⟨some 13, (.eqg true 6), [.tmp 12, .const (.int .u8 34)], none⟩,
          ⟨some 14, .mv, [.tmp 13], none⟩,
          ⟨some 15, .mv, [.tmp 1], some (14, true)⟩,
          ⟨some 16, (.eqg true 6), [.tmp 15, .const (.int .u8 39)], some (14, true)⟩,
          ⟨some 17, .pick, [.tmp 14, .tmp 16, .const (.bool false)], none⟩,
          ⟨some 11, .mv, [.tmp 17], none⟩])
        (.cond (.tmp 11)
         (.seq (.run [4] [⟨some 18, (.ld true 4), [.tmp 2], none⟩,
            ⟨some 19, (.call 32), [.tmp 18, .const (.int .i64 6)], none⟩,
            ⟨none, (.st 4), [.tmp 4, .tmp 19], none⟩])
          .ret)
         .skip)))))
    (.seq (.run [1, 2, 4, 5] [⟨some 5, .mv, [.const (.int .i64 7)], none⟩])
     (.seq (.seq (.run [1, 2, 4, 5, 6] [⟨some 20, (.faddr 2), [.tmp 2], none⟩,
         ⟨some 21, (.ld false 1), [.tmp 20], none⟩,
         ⟨some 6, .mv, [.tmp 21], none⟩])
       (.block 1 (.seq (.run [1, 2, 4, 5, 6, 22] [⟨some 23, .mv, [.tmp 6], none⟩,
           ⟨some 24, (.eqg false 6), [.tmp 23, .const (.string ⟨#[104, 114, 101, 102]⟩)], none⟩,
           ⟨some 25, .mv, [.tmp 24], none⟩,
           ⟨some 26, .mv, [.tmp 6], some (25, false)⟩,
           ⟨some 27, (.eqg false 6), [.tmp 26, .const (.string ⟨#[115, 114, 99]⟩)], some (25, false)⟩,
           ⟨some 28, .pick, [.tmp 25, .const (.bool true), .tmp 27], none⟩,
           ⟨some 29, .mv, [.tmp 28], none⟩,
           ⟨some 30, .mv, [.tmp 6], some (29, false)⟩,
           ⟨some 31, (.eqg false 6), [.tmp 30, .const (.string ⟨#[97, 99, 116, 105, 111, 110]⟩)], some (29, false)⟩,
           ⟨some 32, .pick, [.tmp 29, .const (.bool true), .tmp 31], none⟩,
           ⟨some 33, .mv, [.tmp 32], none⟩,
           ⟨some 34, .mv, [.tmp 6], some (33, false)⟩,
           ⟨some 35, (.eqg false 6), [.tmp 34, .const (.string ⟨#[102, 111, 114, 109, 97, 99, 116, 105, 111, 110]⟩)], some (33, false)⟩,
           ⟨some 36, .pick, [.tmp 33, .const (.bool true), .tmp 35], none⟩,
           ⟨some 22, .mv, [.tmp 36], none⟩])
         (.cond (.tmp 22)
          (.run [1, 2, 4, 5] [⟨some 5, .mv, [.const (.int .i64 9)], none⟩])
          (.seq (.run [1, 2, 4, 5, 37] [⟨some 38, .mv, [.tmp 6], none⟩,
             ⟨some 39, (.eqg false 6), [.tmp 38, .const (.string ⟨#[115, 116, 121, 108, 101]⟩)], none⟩,
             ⟨some 40, .mv, [.tmp 39], none⟩,
             ⟨some 41, .mv, [.tmp 6], some (40, false)⟩,
             ⟨some 42, (.eqg false 6), [.tmp 41, .const (.string ⟨#[115, 114, 99, 100, 111, 99]⟩)], some (40, false)⟩,
             ⟨some 43, .pick, [.tmp 40, .const (.bool true), .tmp 42], none⟩,
             ⟨some 44, .mv, [.tmp 43], none⟩,
             ⟨some 45, .mv, [.tmp 6], some (44, false)⟩,
             ⟨some 46, (.call 31), [.tmp 45, .const (.string ⟨#[111, 110]⟩)], some (44, false)⟩,
             ⟨some 47, .pick, [.tmp 44, .const (.bool true), .tmp 46], none⟩,
             ⟨some 37, .mv, [.tmp 47], none⟩])
           (.cond (.tmp 37)
            (.run [1, 2, 4, 5] [⟨some 5, .mv, [.const (.int .i64 11)], none⟩])
            .skip))))))
      (.seq (.seq (.run [2, 4, 5, 49] [⟨some 48, .mv, [.tmp 1], none⟩,
          ⟨some 49, (.eqg false 6), [.tmp 48, .const (.int .u8 39)], none⟩])
        (.cond (.tmp 49)
         (.run [2, 4, 5] [⟨some 50, .mv, [.tmp 5], none⟩,
           ⟨some 51, (.bin .add), [.tmp 50, .const (.int .i64 1)], none⟩,
           ⟨some 5, .mv, [.tmp 51], none⟩])
         .skip))
       (.seq (.run [4] [⟨some 52, (.ld true 4), [.tmp 2], none⟩,
          ⟨some 53, .mv, [.tmp 5], none⟩,
          ⟨some 54, (.call 32), [.tmp 52, .tmp 53], none⟩,
          ⟨none, (.st 4), [.tmp 4, .tmp 54], none⟩])
        .ret))))))⟩

theorem f34_ok : compF Go.Proofs.Tryd.prog 34 f34.body.hints = some f34 := by kernel_rfl


def f35 : AFun := ⟨63, 2, [.cell 4 (.ld true 4)],
  (.seq (.run [1, 2, 4] [⟨some 2, .box, [.tmp 0], none⟩,
     ⟨some 4, (.alloc [(.int .i64 0), (.str []), (.str []), (.str [])]), [], none⟩])
   (.seq (.block 0 (.seq (.seq (.run [1, 2, 4, 5] [⟨some 6, .mv, [.tmp 1], none⟩,
         ⟨some 7, (.eqg false 6), [.tmp 6, .const (.int .u8 47)], none⟩,
         ⟨some 5, .mv, [.tmp 7], none⟩])
       (.cond (.tmp 5)
        .skip
        (.run [1, 2, 4, 5] [⟨some 8, (.faddr 0), [.tmp 2], none⟩,
          ⟨some 9, (.ld false 1), [.tmp 8], none⟩,
          ⟨some 10, (.eqg false 6), [.tmp 9, .const (.int .i64 2)], none⟩,
          ⟨some 11, .mv, [.tmp 10], none⟩,
          ⟨some 12, .mv, [.tmp 1], some (11, true)⟩,
          ⟨some 13, (.call 36), [.tmp 12], some (11, true)⟩,
          ⟨some 14, .pick, [.tmp 11, .tmp 13, .const (.bool false)], none⟩,
          ⟨some 5, .mv, [.tmp 14], none⟩])))
      (.cond (.tmp 5)
       (.seq (.run [4] [⟨some 15, (.ld true 4), [.tmp 2], none⟩,
          ⟨some 16, (.call 32), [.tmp 15, .const (.int .i64 1)], none⟩,
          ⟨none, (.st 4), [.tmp 4, .tmp 16], none⟩])
        .ret)
       (.seq (.run [1, 2, 4, 17] [⟨some 18, (.faddr 0), [.tmp 2], none⟩,
          ⟨some 19, (.ld false 1), [.tmp 18], none⟩,
          ⟨some 20, (.eqg false 6), [.tmp 19, .const (.int .i64 2)], none⟩,
          ⟨some 17, .mv, [.tmp 20], none⟩])
        (.cond (.tmp 17)
         (.seq (.run [2, 4] [⟨some 21, (.faddr 1), [.tmp 2], none⟩,
            ⟨some 22, (.ld false 1), [.tmp 21], none⟩,
            ⟨some 23, .mv, [.tmp 1], none⟩,
            ⟨some 24, (.call 47), [.tmp 22, .tmp 23], none⟩,
            ⟨some 25, (.faddr 1), [.tmp 2], none⟩,
            ⟨none, (.st 1), [.tmp 25, .tmp 24], none⟩])
          (.seq (.run [4] [⟨some 26, (.ld true 4), [.tmp 2], none⟩,
             ⟨none, (.st 4), [.tmp 4, .tmp 26], none⟩])
           .ret))
         (.seq (.run [1, 2, 4, 27] [⟨some 28, (.faddr 0), [.tmp 2], none⟩,
            ⟨some 29, (.ld false 1), [.tmp 28], none⟩,
            ⟨some 30, (.eqg false 6), [.tmp 29, .const (.int .i64 1)], none⟩,
            ⟨some 31, .mv, [.tmp 30], none⟩,
            ⟨some 32, .mv, [.tmp 1], some (31, true)⟩,
            ⟨some 33, (.call 36), [.tmp 32], some (31, true)⟩,
            ⟨some 34, .pick, [.tmp 31, .tmp 33, .const (.bool false)], none⟩,
            ⟨some 27, .mv, [.tmp 34], none⟩])
          (.cond (.tmp 27)
           (.seq (.run [4] [⟨some 35, (.ld true 4), [.tmp 2], none⟩,
              ⟨none, (.st 4), [.tmp 4, .tmp 35], none⟩])
            .ret)
           (.seq (.run [1, 2, 4, 36] [⟨some 37, .mv, [.tmp 1], none⟩,
              ⟨some 38, (.call 36), [.tmp 37], none⟩,
              ⟨some 36, .mv, [.tmp 38], none⟩])
            (.cond (.tmp 36)
             (.seq (.run [2, 4] [⟨some 39, (.faddr 0), [.tmp 2], none⟩,
                ⟨none, (.st 1), [.tmp 39, .const (.int .i64 4)], none⟩])
              (.seq (.run [4] [⟨some 40, (.ld true 4), [.tmp 2], none⟩,
                 ⟨none, (.st 4), [.tmp 4, .tmp 40], none⟩])
               .ret))
             (.seq (.run [1, 2, 4, 41] [⟨some 42, (.faddr 0), [.tmp 2], none⟩,
                ⟨some 43, (.ld false 1), [.tmp 42], none⟩,
                ⟨some 44, (.eqg true 6), [.tmp 43, .const (.int .i64 1)], none⟩,
                ⟨some 45, .mv, [.tmp 44], none⟩,
                ⟨some 46, .mv, [.tmp 1], some (45, true)⟩,
                ⟨some 47, (.eqg false 6), [.tmp 46, .const (.int .u8 61)], some (45, true)⟩,
                ⟨some 48, .pick, [.tmp 45, .tmp 47, .const (.bool false)], none⟩,
                ⟨some 41, .mv, [.tmp 48], none⟩])
              (.cond (.tmp 41)
               (.seq (.run [2, 4] [⟨some 49, (.faddr 0), [.tmp 2], none⟩,
                  ⟨none, (.st 1), [.tmp 49, .const (.int .i64 5)], none⟩])
                (.seq (.run [4] [⟨some 50, (.ld true 4), [.tmp 2], none⟩,
                   ⟨none, (.st 4), [.tmp 4, .tmp 50], none⟩])
                 .ret))
               (.seq (.run [1, 2, 4, 51] [⟨some 52, (.faddr 0), [.tmp 2], none⟩,
                  ⟨some 53, (.ld false 1), [.tmp 52], none⟩,
                  ⟨some 54, (.eqg true 6), [.tmp 53, .const (.int .i64 3)], none⟩,
                  ⟨some 51, .mv, [.tmp 54], none⟩])
                (.cond (.tmp 51)
                 (.run [1, 2, 4] [⟨some 55, (.ld true 4), [.tmp 2], none⟩,
                   ⟨some 56, (.call 32), [.tmp 55, .const (.int .i64 3)], none⟩,
                   ⟨none, (.st 4), [.tmp 2, .tmp 56], none⟩])
                 .skip)))))))))))))
    (.seq (.run [2, 4] [⟨some 57, (.faddr 2), [.tmp 2], none⟩,
       ⟨some 58, (.ld false 1), [.tmp 57], none⟩,
       ⟨some 59, .mv, [.tmp 1], none⟩,
       ⟨some 60, (.call 47), [.tmp 58, .tmp 59], none⟩,
       ⟨some 61, (.faddr 2), [.tmp 2], none⟩,
       ⟨none, (.st 1), [.tmp 61, .tmp 60], none⟩])
     (.seq (.run [4] [⟨some 62, (.ld true 4), [.tmp 2], none⟩,
        ⟨none, (.st 4), [.tmp 4, .tmp 62], none⟩])
      .ret))))⟩

theorem f35_ok : compF Go.Proofs.Tryd.prog 35 f35.body.hints = some f35 := by kernel_rfl


def f36 : AFun := ⟨6, 1, [.slot 2],
  (.seq (.run [0] [⟨some 2, .mv, [.const (.bool false)], none⟩])
   (.seq (.run [2] [⟨some 3, .mv, [.tmp 0], none⟩,
      ⟨some 4, (.call 48), [.const (.string ⟨#[32, 9, 10, 12, 13]⟩), .tmp 3], none⟩,
      ⟨some 5, (.bin .geq), [.tmp 4, .const (.int .i64 0)], none⟩,
      ⟨some 2, .mv, [.tmp 5], none⟩])
    .ret))⟩

theorem f36_ok : compF Go.Proofs.Tryd.prog 36 f36.body.hints = some f36 := by kernel_rfl


def f37 : AFun := ⟨17, 1, [.slot 2],
  (.seq (.run [0] [⟨some 2, .mv, [.const (.bool false)], none⟩])
   (.seq (.block 0 (.seq (.run [0, 3] [⟨some 4, .mv, [.tmp 0], none⟩,
        ⟨some 5, (.bin .leq), [.const (.int .i32 0), .tmp 4], none⟩,
        ⟨some 6, .mv, [.tmp 5], none⟩,
        ⟨some 7, .mv, [.tmp 0], some (6, true)⟩,
        ⟨some 8, (.bin .lss), [.tmp 7, .const (.int .i32 55296)], some (6, true)⟩,
        ⟨some 9, .pick, [.tmp 6, .tmp 8, .const (.bool false)], none⟩,
        ⟨some 3, .mv, [.tmp 9], none⟩])
      (.cond (.tmp 3)
       (.seq (.run [2] [⟨some 2, .mv, [.const (.bool true)], none⟩])
        .ret)
       (.seq (.run [10] [⟨some 11, .mv, [.tmp 0], none⟩,
          ⟨some 12, (.bin .lss), [.const (.int .i32 57343), .tmp 11], none⟩,
          ⟨some 13, .mv, [.tmp 12], none⟩,
          ⟨some 14, .mv, [.tmp 0], some (13, true)⟩,
          ⟨some 15, (.bin .leq), [.tmp 14, .const (.int .i32 1114111)], some (13, true)⟩,
          ⟨some 16, .pick, [.tmp 13, .tmp 15, .const (.bool false)], none⟩,
          ⟨some 10, .mv, [.tmp 16], none⟩])
        (.cond (.tmp 10)
         (.seq (.run [2] [⟨some 2, .mv, [.const (.bool true)], none⟩])
          .ret)
         .skip)))))
    (.seq (.run [2] [⟨some 2, .mv, [.const (.bool false)], none⟩])
     .ret)))⟩

theorem f37_ok : compF Go.Proofs.Tryd.prog 37 f37.body.hints = some f37 := by kernel_rfl


def f38 : AFun := ⟨5, 1, [.slot 2],
  (.seq (.run [0] [⟨some 2, .mv, [.const (.string ⟨#[]⟩)], none⟩])
   (.seq (.run [2] [⟨some 3, .mv, [.tmp 0], none⟩,
      ⟨some 4, (.call 49), [.tmp 3], none⟩,
      ⟨some 2, .mv, [.tmp 4], none⟩])
    .ret))⟩

theorem f38_ok : compF Go.Proofs.Tryd.prog 38 f38.body.hints = some f38 := by kernel_rfl


def f39 : AFun := ⟨187, 2, [.slot 4],
  (.seq (.run [0, 1] [⟨some 4, .mv, [.const (.int .i64 0)], none⟩])
   (.block 0 (.seq (.run [0, 1, 160] [⟨some 161, .mv, [.tmp 1], none⟩,
       ⟨some 162, (.bin .leq), [.const (.int .i32 0), .tmp 161], none⟩,
       ⟨some 163, .mv, [.tmp 162], none⟩,
       ⟨some 164, .mv, [.tmp 1], some (163, true)⟩,
       ⟨some 165, (.bin .lss), [.tmp 164, .const (.int .i32 128)], some (163, true)⟩,
       ⟨some 166, .pick, [.tmp 163, .tmp 165, .const (.bool false)], none⟩,
       ⟨some 160, .mv, [.tmp 166], none⟩])
     (.cond (.tmp 160)
      (.seq (.run [4] [⟨some 167, .mv, [.tmp 0], none⟩,
         ⟨some 168, .mv, [.tmp 1], none⟩,
         ⟨some 169, (.cvi .u8), [.tmp 168], none⟩,
         ⟨some 170, (.call 48), [.tmp 167, .tmp 169], none⟩,
         ⟨some 4, .mv, [.tmp 170], none⟩])
       .ret)
      (.seq (.run [0, 1, 171] [⟨some 172, .mv, [.tmp 1], none⟩,
         ⟨some 173, (.eqg false 6), [.tmp 172, .const (.int .i32 65533)], none⟩,
         ⟨some 171, .mv, [.tmp 173], none⟩])
       (.cond (.tmp 171)
        (.seq (.seq (.run [175] [⟨some 174, .mv, [.tmp 0], none⟩,
            ⟨some 175, .rngs, [.tmp 174], none⟩])
          (.block 9 (.loop [175] (.seq (.run [175, 176, 177] [⟨some 176, .nxts, [.tmp 175], none⟩,
               ⟨some 177, (.ext 0), [.tmp 176], none⟩])
             (.seq (.cond (.tmp 177)
               .skip
               (.exit 9))
              (.block 10 (.seq (.run [5, 6, 175] [⟨some 178, (.ext 1), [.tmp 176], none⟩,
                  ⟨some 179, (.ext 2), [.tmp 176], none⟩,
                  ⟨some 5, .mv, [.tmp 178], none⟩,
                  ⟨some 6, .mv, [.tmp 179], none⟩])
                (.seq (.run [5, 175, 181] [⟨some 180, .mv, [.tmp 6], none⟩,
                   ⟨some 181, (.eqg false 6), [.tmp 180, .const (.int .i32 65533)], none⟩])
                 (.cond (.tmp 181)
                  (.seq (.run [4] [⟨some 182, .mv, [.tmp 5], none⟩,
                     ⟨some 4, .mv, [.tmp 182], none⟩])
                   .ret)
                  .skip)))))))))
         (.seq (.run [4] [⟨some 4, .mv, [.const (.int .i64 (-1))], none⟩])
          .ret))
        (.seq (.run [0, 1, 183] [⟨some 184, .mv, [.tmp 1], none⟩,
           ⟨some 185, (.call 37), [.tmp 184], none⟩,
           ⟨some 186, (.un .not), [.tmp 185], none⟩,
           ⟨some 183, .mv, [.tmp 186], none⟩])
         (.cond (.tmp 183)
          (.seq (.run [4] [⟨some 4, .mv, [.const (.int .i64 (-1))], none⟩])
           .ret)
          (.seq (.run [0, 7] [⟨some 17, .mv, [.tmp 1], none⟩,
             ⟨some 18, .cvc, [.tmp 17], none⟩,
             ⟨some 7, .mv, [.tmp 18], none⟩])
           (.seq (.run [0, 7, 8] [⟨some 19, .mv, [.tmp 7], none⟩,
              ⟨some 20, (.len 0), [.tmp 19], none⟩,
              ⟨some 21, (.bin .sub), [.tmp 20, .const (.int .i64 1)], none⟩,
              ⟨some 8, .mv, [.tmp 21], none⟩])
            (.seq (.run [0, 7, 8, 9] [⟨some 22, .mv, [.tmp 8], none⟩,
               ⟨some 9, .mv, [.tmp 22], none⟩])
             (.seq (.run [0, 7, 8, 9] [⟨some 10, .mv, [.const (.int .i64 0)], none⟩])
              (.seq (.block 1 (.loop [0, 7, 8, 9] (.seq (.seq (.run [0, 7, 8, 9, 26] [⟨some 23, .mv, [.tmp 9], none⟩,
                     ⟨some 24, .mv, [.tmp 0], none⟩,
                     ⟨some 25, (.len 0), [.tmp 24], none⟩,
                     ⟨some 26, (.bin .lss), [.tmp 23, .tmp 25], none⟩])
                   (.cond (.tmp 26)
                    .skip
                    (.exit 1)))
                  (.block 2 (.seq (.seq (.runD [0, 7, 8, 9, 33] [⟨0, ⟨some 27, .mv, [.tmp 0], none⟩, []⟩,
                       ⟨1, ⟨some 28, .mv, [.tmp 9], none⟩, []⟩,
                       ⟨2, ⟨some 29, .ixs, [.tmp 27, .tmp 28], none⟩, []⟩,
                       ⟨3, ⟨some 30, .mv, [.tmp 7], none⟩, []⟩,
                       ⟨4, ⟨some 31, .mv, [.tmp 8], none⟩, []⟩,
                       ⟨5, ⟨some 32, .ixs, [.tmp 30, .tmp 31], none⟩, []⟩,
                       ⟨6, ⟨some 33, (.eqg true 6), [.tmp 29, .tmp 32], none⟩, []⟩])
                     (.cond (.tmp 33)
                      (.seq (.runD [0, 7, 8, 9, 11] [⟨0, ⟨some 34, .mv, [.tmp 0], none⟩, []⟩,
                         ⟨1, ⟨some 35, .mv, [.tmp 9], none⟩, []⟩,
                         ⟨2, ⟨some 36, (.bin .add), [.tmp 35, .const (.int .i64 1)], none⟩, []⟩,
                         ⟨3, ⟨some 37, (.slc 0 true false), [.tmp 34, .tmp 36], none⟩, []⟩,
                         ⟨4, ⟨some 38, .mv, [.tmp 7], none⟩, []⟩,
                         ⟨5, ⟨some 39, .mv, [.tmp 8], none⟩, []⟩,
                         ⟨6, ⟨some 40, .ixs, [.tmp 38, .tmp 39], none⟩, []⟩,
                         ⟨7, ⟨some 41, (.call 48), [.tmp 37, .tmp 40], none⟩, []⟩,
                         ⟨8, ⟨some 11, .mv, [.tmp 41], none⟩, []⟩])
                       (.seq (.seq (.run [0, 7, 8, 9, 11, 43] [⟨some 42, .mv, [.tmp 11], none⟩,
                           ⟨some 43, (.bin .lss), [.tmp 42, .const (.int .i64 0)], none⟩])
                         (.cond (.tmp 43)
                          (.seq (.run [4] [⟨some 4, .mv, [.const (.int .i64 (-1))], none⟩])
                           .ret)
                          .skip))
                        (.run [0, 7, 8, 9] [⟨some 44, .mv, [.tmp 9], none⟩,
                          ⟨some 45, .mv, [.tmp 11], none⟩,
                          ⟨some 46, (.bin .add), [.tmp 45, .const (.int .i64 1)], none⟩,
                          ⟨some 47, (.bin .add), [.tmp 44, .tmp 46], none⟩,
                          ⟨some 9, .mv, [.tmp 47], none⟩])))
                      .skip))
                    (.seq (.seq (.run [0, 7, 8, 9, 12] [⟨some 12, .mv, [.const (.int .i64 1)], none⟩])
                      (.block 3 (.loop [0, 7, 8, 9, 12] (.seq (.seq (.run [0, 7, 8, 9, 12, 51] [⟨some 48, .mv, [.tmp 12], none⟩,
                            ⟨some 49, .mv, [.tmp 7], none⟩,
                            ⟨some 50, (.len 0), [.tmp 49], none⟩,
                            ⟨some 51, (.bin .lss), [.tmp 48, .tmp 50], none⟩])
                          (.cond (.tmp 51)
                           .skip
                           (.exit 3)))
                         (.seq (.block 4 (.seq (.runD [0, 7, 8, 9, 12, 64] [⟨0, ⟨some 54, .mv, [.tmp 0], none⟩, []⟩,
                              ⟨1, ⟨some 55, .mv, [.tmp 9], none⟩, []⟩,
                              ⟨2, ⟨some 56, .mv, [.tmp 12], none⟩, []⟩,
                              ⟨3, ⟨some 57, (.bin .sub), [.tmp 55, .tmp 56], none⟩, []⟩,
                              ⟨4, ⟨some 58, .ixs, [.tmp 54, .tmp 57], none⟩, []⟩,
                              ⟨5, ⟨some 59, .mv, [.tmp 7], none⟩, []⟩,
                              ⟨6, ⟨some 60, .mv, [.tmp 8], none⟩, []⟩,
                              ⟨7, ⟨some 61, .mv, [.tmp 12], none⟩, []⟩,
                              ⟨8, ⟨some 62, (.bin .sub), [.tmp 60, .tmp 61], none⟩, []⟩,
                              ⟨9, ⟨some 63, .ixs, [.tmp 59, .tmp 62], none⟩, []⟩,
                              ⟨10, ⟨some 64, (.eqg true 6), [.tmp 58, .tmp 63], none⟩, []⟩])
                            (.cond (.tmp 64)
                             .stuck
                             .skip)))
                          (.run [0, 7, 8, 9, 12] [⟨some 52, .mv, [.tmp 12], none⟩,
                            ⟨some 53, (.bin .add), [.tmp 52, .const (.int .i64 1)], none⟩,
                            ⟨some 12, .mv, [.tmp 53], none⟩]))))))
                     (.seq (.seq (.run [4] [⟨some 65, .mv, [.tmp 9], none⟩,
                         ⟨some 66, .mv, [.tmp 8], none⟩,
                         ⟨some 67, (.bin .sub), [.tmp 65, .tmp 66], none⟩,
                         ⟨some 4, .mv, [.tmp 67], none⟩])
                       .ret)
                      (.seq .skip
                       (.seq (.run [0, 7, 8, 9, 10] [⟨some 68, .mv, [.tmp 10], none⟩,
                          ⟨some 69, (.bin .add), [.tmp 68, .const (.int .i64 1)], none⟩,
                          ⟨some 10, .mv, [.tmp 69], none⟩])
                        (.seq (.run [0, 7, 8, 9, 10] [⟨some 70, .mv, [.tmp 9], none⟩,
                           ⟨some 71, (.bin .add), [.tmp 70, .const (.int .i64 1)], none⟩,
                           ⟨some 9, .mv, [.tmp 71], none⟩])
                         (.seq (.run [0, 7, 8, 9, 98] [⟨some 72, .mv, [.const (.bool true)], none⟩,
                            ⟨some 73, .mv, [.tmp 10], some (72, true)⟩,
                            ⟨some 74, .mv, [.tmp 9], some (72, true)⟩,
                            ⟨some 75, (.call 50), [.tmp 74], some (72, true)⟩,
                            ⟨some 76, (.bin .gtr), [.tmp 73, .tmp 75], some (72, true)⟩,
                            ⟨some 77, .pick, [.tmp 72, .tmp 76, .const (.bool false)], none⟩,
                            ⟨some 78, .mv, [.tmp 77], none⟩,
                            ⟨some 79, .mv, [.tmp 9], some (78, true)⟩,
                            ⟨some 80, .mv, [.tmp 0], some (78, true)⟩,
                            ⟨some 81, (.len 0), [.tmp 80], some (78, true)⟩,
                            ⟨some 82, (.bin .lss), [.tmp 79, .tmp 81], some (78, true)⟩,
                            ⟨some 83, .pick, [.tmp 78, .tmp 82, .const (.bool false)], none⟩,
                            ⟨some 84, .mv, [.tmp 83], none⟩,
                            ⟨some 85, .mv, [.const (.bool false)], some (84, false)⟩,
                            ⟨some 86, .mv, [.tmp 10], some (85, true)⟩,
                            ⟨some 87, .mv, [.tmp 9], some (85, true)⟩,
                            ⟨some 88, (.bin .shr), [.tmp 87, .const (.int .u64 4)], some (85, true)⟩,
                            ⟨some 89, (.bin .add), [.const (.int .i64 4), .tmp 88], some (85, true)⟩,
                            ⟨some 90, (.bin .geq), [.tmp 86, .tmp 89], some (85, true)⟩,
                            ⟨some 91, .pick, [.tmp 85, .tmp 90, .const (.bool false)], some (84, false)⟩,
                            ⟨some 92, .mv, [.tmp 91], some (84, false)⟩,
                            ⟨some 93, .mv, [.tmp 9], some (92, true)⟩,
                            ⟨some 94, .mv, [.tmp 0], some (92, true)⟩,
                            ⟨some 95, (.len 0), [.tmp 94], some (92, true)⟩,
                            ⟨some 96, (.bin .lss), [.tmp 93, .tmp 95], some (92, true)⟩,
                            ⟨some 97, .pick, [.tmp 92, .tmp 96, .const (.bool false)], some (84, false)⟩,
                            ⟨some 98, .pick, [.tmp 84, .const (.bool true), .tmp 97], none⟩])
                          (.cond (.tmp 98)
                           .stuck
                           .skip))))))))))))
               (.seq (.seq (.run [4] [⟨some 4, .mv, [.const (.int .i64 (-1))], none⟩])
                 .ret)
                (.seq .skip
                 (.seq (.cond (.const (.bool true))
                   (.seq (.run [8, 9, 13] [⟨some 99, .mv, [.tmp 0], none⟩,
                      ⟨some 100, .mv, [.tmp 9], none⟩,
                      ⟨some 101, .mv, [.tmp 8], none⟩,
                      ⟨some 102, (.bin .sub), [.tmp 100, .tmp 101], none⟩,
                      ⟨some 103, (.slc 0 true false), [.tmp 99, .tmp 102], none⟩,
                      ⟨some 104, .mv, [.tmp 1], none⟩,
                      ⟨some 105, .cvc, [.tmp 104], none⟩,
                      ⟨some 106, (.call 51), [.tmp 103, .tmp 105], none⟩,
                      ⟨some 13, .mv, [.tmp 106], none⟩])
                    (.seq (.run [8, 9, 13, 108] [⟨some 107, .mv, [.tmp 13], none⟩,
                       ⟨some 108, (.bin .geq), [.tmp 107, .const (.int .i64 0)], none⟩])
                     (.cond (.tmp 108)
                      (.seq (.run [4] [⟨some 109, .mv, [.tmp 9], none⟩,
                         ⟨some 110, .mv, [.tmp 13], none⟩,
                         ⟨some 111, (.bin .add), [.tmp 109, .tmp 110], none⟩,
                         ⟨some 112, .mv, [.tmp 8], none⟩,
                         ⟨some 113, (.bin .sub), [.tmp 111, .tmp 112], none⟩,
                         ⟨some 4, .mv, [.tmp 113], none⟩])
                       .ret)
                      .skip)))
                   (.seq (.run [0, 7, 8, 9, 14] [⟨some 114, .mv, [.tmp 7], none⟩,
                      ⟨some 115, .mv, [.tmp 8], none⟩,
                      ⟨some 116, .ixs, [.tmp 114, .tmp 115], none⟩,
                      ⟨some 14, .mv, [.tmp 116], none⟩])
                    (.seq (.run [0, 7, 8, 9, 14, 15] [⟨some 117, .mv, [.tmp 7], none⟩,
                       ⟨some 118, .mv, [.tmp 8], none⟩,
                       ⟨some 119, (.bin .sub), [.tmp 118, .const (.int .i64 1)], none⟩,
                       ⟨some 120, .ixs, [.tmp 117, .tmp 119], none⟩,
                       ⟨some 15, .mv, [.tmp 120], none⟩])
                     (.seq .skip
                      (.block 5 (.loop [0, 7, 8, 9, 14, 15] (.seq (.seq (.run [0, 7, 8, 9, 14, 15, 124] [⟨some 121, .mv, [.tmp 9], none⟩,
                            ⟨some 122, .mv, [.tmp 0], none⟩,
                            ⟨some 123, (.len 0), [.tmp 122], none⟩,
                            ⟨some 124, (.bin .lss), [.tmp 121, .tmp 123], none⟩])
                          (.cond (.tmp 124)
                           .skip
                           (.exit 5)))
                         (.seq (.block 6 (.seq (.run [0, 7, 8, 9, 14, 15, 139] [⟨some 127, .mv, [.tmp 0], none⟩,
                              ⟨some 128, .mv, [.tmp 9], none⟩,
                              ⟨some 129, .ixs, [.tmp 127, .tmp 128], none⟩,
                              ⟨some 130, .mv, [.tmp 14], none⟩,
                              ⟨some 131, (.eqg false 6), [.tmp 129, .tmp 130], none⟩,
                              ⟨some 132, .mv, [.tmp 131], none⟩,
                              ⟨some 133, .mv, [.tmp 0], some (132, true)⟩,
                              ⟨some 134, .mv, [.tmp 9], some (132, true)⟩,
                              ⟨some 135, (.bin .sub), [.tmp 134, .const (.int .i64 1)], some (132, true)⟩,
                              ⟨some 136, .ixs, [.tmp 133, .tmp 135], some (132, true)⟩,
                              ⟨some 137, .mv, [.tmp 15], some (132, true)⟩,
                              ⟨some 138, (.eqg false 6), [.tmp 136, .tmp 137], some (132, true)⟩,
                              ⟨some 139, .pick, [.tmp 132, .tmp 138, .const (.bool false)], none⟩])
                            (.cond (.tmp 139)
                             (.seq (.seq (.run [0, 7, 8, 9, 14, 15, 16] [⟨some 16, .mv, [.const (.int .i64 2)], none⟩])
                               (.block 7 (.loop [0, 7, 8, 9, 14, 15, 16] (.seq (.seq (.run [0, 7, 8, 9, 14, 15, 16, 143] [⟨some 140, .mv, [.tmp 16], none⟩,
                                     ⟨some 141, .mv, [.tmp 7], none⟩,
                                     ⟨some 142, (.len 0), [.tmp 141], none⟩,
                                     ⟨some 143, (.bin .lss), [.tmp 140, .tmp 142], none⟩])
                                   (.cond (.tmp 143)
                                    .skip
                                    (.exit 7)))
                                  (.seq (.block 8 (.seq (.runD [0, 7, 8, 9, 14, 15, 16, 156] [⟨0, ⟨some 146, .mv, [.tmp 0], none⟩, []⟩,
                                       ⟨1, ⟨some 147, .mv, [.tmp 9], none⟩, []⟩,
                                       ⟨2, ⟨some 148, .mv, [.tmp 16], none⟩, []⟩,
                                       ⟨3, ⟨some 149, (.bin .sub), [.tmp 147, .tmp 148], none⟩, []⟩,
                                       ⟨4, ⟨some 150, .ixs, [.tmp 146, .tmp 149], none⟩, []⟩,
                                       ⟨5, ⟨some 151, .mv, [.tmp 7], none⟩, []⟩,
                                       ⟨6, ⟨some 152, .mv, [.tmp 8], none⟩, []⟩,
                                       ⟨7, ⟨some 153, .mv, [.tmp 16], none⟩, []⟩,
                                       ⟨8, ⟨some 154, (.bin .sub), [.tmp 152, .tmp 153], none⟩, []⟩,
                                       ⟨9, ⟨some 155, .ixs, [.tmp 151, .tmp 154], none⟩, []⟩,
                                       ⟨10, ⟨some 156, (.eqg true 6), [.tmp 150, .tmp 155], none⟩, []⟩])
                                     (.cond (.tmp 156)
                                      (.exit 6)
                                      .skip)))
                                   (.run [0, 7, 8, 9, 14, 15, 16] [⟨some 144, .mv, [.tmp 16], none⟩,
                                     ⟨some 145, (.bin .add), [.tmp 144, .const (.int .i64 1)], none⟩,
                                     ⟨some 16, .mv, [.tmp 145], none⟩]))))))
                              (.seq (.run [4] [⟨some 157, .mv, [.tmp 9], none⟩,
                                 ⟨some 158, .mv, [.tmp 8], none⟩,
                                 ⟨some 159, (.bin .sub), [.tmp 157, .tmp 158], none⟩,
                                 ⟨some 4, .mv, [.tmp 159], none⟩])
                               .ret))
                             .skip)))
                          (.run [0, 7, 8, 9, 14, 15] [⟨some 125, .mv, [.tmp 9], none⟩,
                            ⟨some 126, (.bin .add), [.tmp 125, .const (.int .i64 1)], none⟩,
                            ⟨some 9, .mv, [.tmp 126], none⟩])))))))))
                  (.seq (.run [4] [⟨some 4, .mv, [.const (.int .i64 (-1))], none⟩])
                   .ret)))))))))))))))))⟩

theorem f39_ok : compF Go.Proofs.Tryd.prog 39 f39.body.hints = some f39 := by kernel_rfl


def f40 : AFun := ⟨16, 2, [.slot 4],
  (.seq (.run [0, 1] [⟨some 4, .mv, [.const (.slice none 0 0)], none⟩])
   (.seq (.seq (.run [0, 1, 7] [⟨some 5, .mv, [.tmp 1], none⟩,
       ⟨some 6, (.cvi .u32), [.tmp 5], none⟩,
       ⟨some 7, (.bin .leq), [.tmp 6, .const (.int .u32 127)], none⟩])
     (.cond (.tmp 7)
      (.seq (.run [4] [⟨some 8, .mv, [.tmp 0], none⟩,
         ⟨some 9, .mv, [.tmp 1], none⟩,
         ⟨some 10, (.cvi .u8), [.tmp 9], none⟩,
         ⟨some 11, (.bslice 1 1 [(.int .u8 0)] [(0, 1)]), [.tmp 10], none⟩,
         ⟨some 12, (.app 1 1), [.tmp 8, .tmp 11], none⟩,
         ⟨some 4, .mv, [.tmp 12], none⟩])
       .ret)
      .skip))
    (.seq (.run [4] [⟨some 13, .mv, [.tmp 0], none⟩,
       ⟨some 14, .mv, [.tmp 1], none⟩,
       ⟨some 15, (.call 52), [.tmp 13, .tmp 14], none⟩,
       ⟨some 4, .mv, [.tmp 15], none⟩])
     .ret)))⟩

theorem f40_ok : compF Go.Proofs.Tryd.prog 40 f40.body.hints = some f40 := by kernel_rfl


def f41 : AFun := ⟨54, 2, [.slot 4],
  (.seq (.run [0, 1] [⟨some 4, .mv, [.const (.string ⟨#[]⟩)], none⟩])
   (.seq (.seq (.run [0, 1, 11] [⟨some 10, .mv, [.tmp 1], none⟩,
       ⟨some 11, (.eqg false 6), [.tmp 10, .const (.int .i64 10)], none⟩])
     (.cond (.tmp 11)
      (.seq (.seq (.run [0, 17] [⟨some 12, .mv, [.tmp 0], none⟩,
          ⟨some 13, (.bin .leq), [.const (.int .i64 0), .tmp 12], none⟩,
          ⟨some 14, .mv, [.tmp 13], none⟩,
          ⟨some 15, .mv, [.tmp 0], some (14, true)⟩,
          ⟨some 16, (.bin .lss), [.tmp 15, .const (.int .i64 100)], some (14, true)⟩,
          ⟨some 17, .pick, [.tmp 14, .tmp 16, .const (.bool false)], none⟩])
        (.cond (.tmp 17)
         (.seq (.run [4] [⟨some 18, .mv, [.tmp 0], none⟩,
            ⟨some 19, (.call 53), [.tmp 18], none⟩,
            ⟨some 4, .mv, [.tmp 19], none⟩])
          .ret)
         .skip))
       (.seq (.run [0, 5] [⟨some 5, (.alloc [(.int .u8 0), (.int .u8 0), (.int .u8 0), (.int .u8 0), (.int .u8 0), (.int .u8 0), (.int .u8 0), (.int .u8 0), (.int .u8 0), (.int .u8 0), (.int .u8 0), (.int .u8 0), (.int .u8 0), (.int .u8 0), (.int .u8 0), (.int .u8 0), (.int .u8 0), (.int .u8 0), (.int .u8 0), (.int .u8 0), (.int .u8 0), (.int .u8 0), (.int .u8 0), (.int .u8 0)]), [], none⟩])
        (.seq (.run [0, 5, 6] [⟨some 20, .mv, [.tmp 0], none⟩,
           ⟨some 21, (.cvi .u64), [.tmp 20], none⟩,
           ⟨some 6, .mv, [.tmp 21], none⟩])
         (.seq (.seq (.run [0, 5, 6, 23] [⟨some 22, .mv, [.tmp 0], none⟩,
             ⟨some 23, (.bin .lss), [.tmp 22, .const (.int .i64 0)], none⟩])
           (.cond (.tmp 23)
            (.run [0, 5, 6] [⟨some 24, .mv, [.tmp 6], none⟩,
              ⟨some 25, (.un .neg), [.tmp 24], none⟩,
              ⟨some 6, .mv, [.tmp 25], none⟩])
            .skip))
          (.seq (.run [0, 5, 6, 7] [⟨some 26, .mv, [.tmp 6], none⟩,
             ⟨some 27, (.call 54), [.tmp 26], none⟩,
             ⟨some 7, .mv, [.tmp 27], none⟩])
           (.seq (.run [0, 5, 7] [⟨some 28, .mv, [.tmp 7], none⟩,
              ⟨some 29, (.bin .add), [.const (.int .i64 1), .tmp 28], none⟩,
              ⟨some 30, (.slp 1 24 true true), [.tmp 5, .const (.int .i64 1), .tmp 29], none⟩,
              ⟨some 31, .mv, [.tmp 6], none⟩,
              ⟨some 32, (.call 55), [.tmp 30, .tmp 31], none⟩])
            (.seq (.seq (.run [5, 7, 34] [⟨some 33, .mv, [.tmp 0], none⟩,
                ⟨some 34, (.bin .lss), [.tmp 33, .const (.int .i64 0)], none⟩])
              (.cond (.tmp 34)
               (.seq (.run [5, 7] [⟨some 35, (.aaddr 1 24), [.tmp 5, .const (.int .i64 0)], none⟩,
                  ⟨none, (.st 1), [.tmp 35, .const (.int .u8 45)], none⟩])
                (.seq (.run [4] [⟨some 36, .mv, [.tmp 7], none⟩,
                   ⟨some 37, (.bin .add), [.const (.int .i64 1), .tmp 36], none⟩,
                   ⟨some 38, (.slp 1 24 false true), [.tmp 5, .tmp 37], none⟩,
                   ⟨some 39, .cvb, [.tmp 38], none⟩,
                   ⟨some 4, .mv, [.tmp 39], none⟩])
                 .ret))
               .skip))
             (.seq (.run [4] [⟨some 40, .mv, [.tmp 7], none⟩,
                ⟨some 41, (.bin .add), [.const (.int .i64 1), .tmp 40], none⟩,
                ⟨some 42, (.slp 1 24 true true), [.tmp 5, .const (.int .i64 1), .tmp 41], none⟩,
                ⟨some 43, .cvb, [.tmp 42], none⟩,
                ⟨some 4, .mv, [.tmp 43], none⟩])
              .ret))))))))
      .skip))
    (.seq (.run [9] [⟨some 45, .mv, [.tmp 0], none⟩,
       ⟨some 46, (.cvi .u64), [.tmp 45], none⟩,
       ⟨some 47, .mv, [.tmp 1], none⟩,
       ⟨some 48, .mv, [.tmp 0], none⟩,
       ⟨some 49, (.bin .lss), [.tmp 48, .const (.int .i64 0)], none⟩,
       ⟨some 50, (.call 56), [.const (.slice none 0 0), .tmp 46, .tmp 47, .tmp 49, .const (.bool false)], none⟩,
       ⟨some 44, .mv, [.tmp 50], none⟩,
       ⟨some 51, (.ext 0), [.tmp 44], none⟩,
       ⟨some 52, (.ext 1), [.tmp 44], none⟩,
       ⟨some 8, .mv, [.tmp 51], none⟩,
       ⟨some 9, .mv, [.tmp 52], none⟩])
     (.seq (.run [4] [⟨some 53, .mv, [.tmp 9], none⟩,
        ⟨some 4, .mv, [.tmp 53], none⟩])
      .ret))))⟩

theorem f41_ok : compF Go.Proofs.Tryd.prog 41 f41.body.hints = some f41 := by kernel_rfl


def f46 : AFun := ⟨18, 2, [.slot 4],
  (.seq (.run [0, 1] [⟨some 4, .mv, [.const (.bool false)], none⟩])
   (.seq (.run [4] [⟨some 5, .mv, [.tmp 0], none⟩,
      ⟨some 6, (.len 0), [.tmp 5], none⟩,
      ⟨some 7, .mv, [.tmp 1], none⟩,
      ⟨some 8, (.len 0), [.tmp 7], none⟩,
      ⟨some 9, (.bin .geq), [.tmp 6, .tmp 8], none⟩,
      ⟨some 10, .mv, [.tmp 9], none⟩,
      ⟨some 11, .mv, [.tmp 0], some (10, true)⟩,
      ⟨some 12, .mv, [.tmp 1], some (10, true)⟩,
      ⟨some 13, (.len 0), [.tmp 12], some (10, true)⟩,
      ⟨some 14, (.slc 0 false true), [.tmp 11, .tmp 13], some (10, true)⟩,
      ⟨some 15, .mv, [.tmp 1], some (10, true)⟩,
      ⟨some 16, (.eqg false 6), [.tmp 14, .tmp 15], some (10, true)⟩,
      ⟨some 17, .pick, [.tmp 10, .tmp 16, .const (.bool false)], none⟩,
      ⟨some 4, .mv, [.tmp 17], none⟩])
    .ret))⟩

theorem f46_ok : compF Go.Proofs.Tryd.prog 46 f46.body.hints = some f46 := by kernel_rfl


def f47 : AFun := ⟨13, 2, [.slot 4],
  (.seq (.run [0, 1] [⟨some 4, .mv, [.const (.string ⟨#[]⟩)], none⟩])
   (.seq (.seq (.run [0, 1, 7] [⟨some 5, .mv, [.tmp 0], none⟩,
       ⟨some 6, (.len 0), [.tmp 5], none⟩,
       ⟨some 7, (.eqg false 6), [.tmp 6, .const (.int .i64 16)], none⟩])
     (.cond (.tmp 7)
      (.seq (.run [4] [⟨some 8, .mv, [.tmp 0], none⟩,
         ⟨some 4, .mv, [.tmp 8], none⟩])
       .ret)
      .skip))
    (.seq (.run [4] [⟨some 9, .mv, [.tmp 0], none⟩,
       ⟨some 10, .mv, [.tmp 1], none⟩,
       ⟨some 11, (.call 29), [.tmp 10], none⟩,
       ⟨some 12, (.bin .add), [.tmp 9, .tmp 11], none⟩,
       ⟨some 4, .mv, [.tmp 12], none⟩])
     .ret)))⟩

theorem f47_ok : compF Go.Proofs.Tryd.prog 47 f47.body.hints = some f47 := by kernel_rfl


def f49 : AFun := ⟨5, 1, [.slot 2],
  (.seq (.run [0] [⟨some 2, .mv, [.const (.string ⟨#[]⟩)], none⟩])
   (.seq (.run [2] [⟨some 3, .mv, [.tmp 0], none⟩,
      ⟨some 4, (.call 41), [.tmp 3, .const (.int .i64 10)], none⟩,
      ⟨some 2, .mv, [.tmp 4], none⟩])
    .ret))⟩

theorem f49_ok : compF Go.Proofs.Tryd.prog 49 f49.body.hints = some f49 := by kernel_rfl


def f52 : AFun := ⟨78, 2, [.slot 4],
  (.seq (.run [0, 1] [⟨some 4, .mv, [.const (.slice none 0 0)], none⟩])
   (.seq (.run [0, 1, 5] [⟨some 6, .mv, [.tmp 1], none⟩,
      ⟨some 7, (.cvi .u32), [.tmp 6], none⟩,
      ⟨some 5, .mv, [.tmp 7], none⟩])
    (.block 0 (.seq (.run [0, 1, 5, 11] [⟨some 12, .mv, [.tmp 5], none⟩,
        ⟨some 13, (.bin .leq), [.tmp 12, .const (.int .u32 2047)], none⟩,
        ⟨some 11, .mv, [.tmp 13], none⟩])
      (.cond (.tmp 11)
       (.seq (.run [4] [⟨some 14, .mv, [.tmp 0], none⟩,
          ⟨some 15, .mv, [.tmp 1], none⟩,
          ⟨some 16, (.bin .shr), [.tmp 15, .const (.int .u64 6)], none⟩,
          ⟨some 17, (.cvi .u8), [.tmp 16], none⟩,
          ⟨some 18, (.bin .or), [.const (.int .u8 192), .tmp 17], none⟩,
          ⟨some 19, .mv, [.tmp 1], none⟩,
          ⟨some 20, (.cvi .u8), [.tmp 19], none⟩,
          ⟨some 21, (.bin .and), [.tmp 20, .const (.int .u8 63)], none⟩,
          ⟨some 22, (.bin .or), [.const (.int .u8 128), .tmp 21], none⟩,
          ⟨some 23, (.bslice 1 2 [(.int .u8 0)] [(0, 1), (1, 1)]), [.tmp 18, .tmp 22], none⟩,
          ⟨some 24, (.app 1 1), [.tmp 14, .tmp 23], none⟩,
          ⟨some 4, .mv, [.tmp 24], none⟩])
        .ret)
       (.seq (.seq (.run [0, 1, 5, 25] [⟨some 26, .mv, [.tmp 5], none⟩,
           ⟨some 27, (.bin .lss), [.tmp 26, .const (.int .u32 55296)], none⟩,
           ⟨some 25, .mv, [.tmp 27], none⟩])
         (.cond (.tmp 25)
          .skip
          (.run [0, 1, 5, 25] [⟨some 28, .mv, [.tmp 5], none⟩,
            ⟨some 29, (.bin .lss), [.const (.int .u32 57343), .tmp 28], none⟩,
            ⟨some 30, .mv, [.tmp 29], none⟩,
            ⟨some 31, .mv, [.tmp 5], some (30, true)⟩,
            ⟨some 32, (.bin .leq), [.tmp 31, .const (.int .u32 65535)], some (30, true)⟩,
            ⟨some 33, .pick, [.tmp 30, .tmp 32, .const (.bool false)], none⟩,
            ⟨some 25, .mv, [.tmp 33], none⟩])))
        (.cond (.tmp 25)
         (.seq (.run [4] [⟨some 34, .mv, [.tmp 0], none⟩,
            ⟨some 35, .mv, [.tmp 1], none⟩,
            ⟨some 36, (.bin .shr), [.tmp 35, .const (.int .u64 12)], none⟩,
            ⟨some 37, (.cvi .u8), [.tmp 36], none⟩,
            ⟨some 38, (.bin .or), [.const (.int .u8 224), .tmp 37], none⟩,
            ⟨some 39, .mv, [.tmp 1], none⟩,
            ⟨some 40, (.bin .shr), [.tmp 39, .const (.int .u64 6)], none⟩,
            ⟨some 41, (.cvi .u8), [.tmp 40], none⟩,
            ⟨some 42, (.bin .and), [.tmp 41, .const (.int .u8 63)], none⟩,
            ⟨some 43, (.bin .or), [.const (.int .u8 128), .tmp 42], none⟩,
            ⟨some 44, .mv, [.tmp 1], none⟩,
            ⟨some 45, (.cvi .u8), [.tmp 44], none⟩,
            ⟨some 46, (.bin .and), [.tmp 45, .const (.int .u8 63)], none⟩,
            ⟨some 47, (.bin .or), [.const (.int .u8 128), .tmp 46], none⟩,
            ⟨some 48, (.bslice 1 3 [(.int .u8 0)] [(0, 1), (1, 1), (2, 1)]), [.tmp 38, .tmp 43, .tmp 47], none⟩,
            ⟨some 49, (.app 1 1), [.tmp 34, .tmp 48], none⟩,
            ⟨some 4, .mv, [.tmp 49], none⟩])
          .ret)
         (.seq (.run [0, 1, 50] [⟨some 51, .mv, [.tmp 5], none⟩,
            ⟨some 52, (.bin .gtr), [.tmp 51, .const (.int .u32 65535)], none⟩,
            ⟨some 53, .mv, [.tmp 52], none⟩,
            ⟨some 54, .mv, [.tmp 5], some (53, true)⟩,
            ⟨some 55, (.bin .leq), [.tmp 54, .const (.int .u32 1114111)], some (53, true)⟩,
            ⟨some 56, .pick, [.tmp 53, .tmp 55, .const (.bool false)], none⟩,
            ⟨some 50, .mv, [.tmp 56], none⟩])
          (.cond (.tmp 50)
           (.seq (.run [4] [⟨some 57, .mv, [.tmp 0], none⟩,
              ⟨some 58, .mv, [.tmp 1], none⟩,
              ⟨some 59, (.bin .shr), [.tmp 58, .const (.int .u64 18)], none⟩,
              ⟨some 60, (.cvi .u8), [.tmp 59], none⟩,
              ⟨some 61, (.bin .or), [.const (.int .u8 240), .tmp 60], none⟩,
              ⟨some 62, .mv, [.tmp 1], none⟩,
              ⟨some 63, (.bin .shr), [.tmp 62, .const (.int .u64 12)], none⟩,
              ⟨some 64, (.cvi .u8), [.tmp 63], none⟩,
              ⟨some 65, (.bin .and), [.tmp 64, .const (.int .u8 63)], none⟩,
              ⟨some 66, (.bin .or), [.const (.int .u8 128), .tmp 65], none⟩,
              ⟨some 67, .mv, [.tmp 1], none⟩,
              ⟨some 68, (.bin .shr), [.tmp 67, .const (.int .u64 6)], none⟩,
              ⟨some 69, (.cvi .u8), [.tmp 68], none⟩,
              ⟨some 70, (.bin .and), [.tmp 69, .const (.int .u8 63)], none⟩,
              ⟨some 71, (.bin .or), [.const (.int .u8 128), .tmp 70], none⟩,
              ⟨some 72, .mv, [.tmp 1], none⟩,
              ⟨some 73, (.cvi .u8), [.tmp 72], none⟩,
              ⟨some 74, (.bin .and), [.tmp 73, .const (.int .u8 63)], none⟩,
              ⟨some 75, (.bin .or), [.const (.int .u8 128), .tmp 74], none⟩,
              ⟨some 76, (.bslice 1 4 [(.int .u8 0)] [(0, 1), (1, 1), (2, 1), (3, 1)]), [.tmp 61, .tmp 66, .tmp 71, .tmp 75], none⟩,
              ⟨some 77, (.app 1 1), [.tmp 57, .tmp 76], none⟩,
              ⟨some 4, .mv, [.tmp 77], none⟩])
            .ret)
           (.seq (.run [4] [⟨some 8, .mv, [.tmp 0], none⟩,
              ⟨some 9, (.bslice 1 3 [(.int .u8 0)] [(0, 1), (1, 1), (2, 1)]), [.const (.int .u8 239), .const (.int .u8 191), .const (.int .u8 189)], none⟩,
              ⟨some 10, (.app 1 1), [.tmp 8, .tmp 9], none⟩,
              ⟨some 4, .mv, [.tmp 10], none⟩])
            .ret))))))))))⟩

theorem f52_ok : compF Go.Proofs.Tryd.prog 52 f52.body.hints = some f52 := by kernel_rfl


def f53 : AFun := ⟨15, 1, [.slot 2],
  (.seq (.run [0] [⟨some 2, .mv, [.const (.string ⟨#[]⟩)], none⟩])
   (.seq (.seq (.run [0, 4] [⟨some 3, .mv, [.tmp 0], none⟩,
       ⟨some 4, (.bin .lss), [.tmp 3, .const (.int .i64 10)], none⟩])
     (.cond (.tmp 4)
      (.seq (.run [2] [⟨some 5, .mv, [.tmp 0], none⟩,
         ⟨some 6, .mv, [.tmp 0], none⟩,
         ⟨some 7, (.bin .add), [.tmp 6, .const (.int .i64 1)], none⟩,
         ⟨some 8, (.slc 0 true true), [.const (.string ⟨#[48, 49, 50, 51, 52, 53, 54, 55, 56, 57, 97, 98, 99, 100, 101, 102, 103, 104, 105, 106, 107, 108, 109, 110, 111, 112, 113, 114, 115, 116, 117, 118, 119, 120, 121, 122]⟩), .tmp 5, .tmp 7], none⟩,
         ⟨some 2, .mv, [.tmp 8], none⟩])
       .ret)
      .skip))
    (.seq (.run [2] [⟨some 9, .mv, [.tmp 0], none⟩,
       ⟨some 10, (.bin .mul), [.tmp 9, .const (.int .i64 2)], none⟩,
       ⟨some 11, .mv, [.tmp 0], none⟩,
       ⟨some 12, (.bin .mul), [.tmp 11, .const (.int .i64 2)], none⟩,
       ⟨some 13, (.bin .add), [.tmp 12, .const (.int .i64 2)], none⟩,
       ⟨some 14, (.slc 0 true true), [.const (.string ⟨#[48, 48, 48, 49, 48, 50, 48, 51, 48, 52, 48, 53, 48, 54, 48, 55, 48, 56, 48, 57, 49, 48, 49, 49, 49, 50, 49, 51, 49, 52, 49, 53, 49, 54, 49, 55, 49, 56, 49, 57, 50, 48, 50, 49, 50, 50, 50, 51, 50, 52, 50, 53, 50, 54, 50, 55, 50, 56, 50, 57, 51, 48, 51, 49, 51, 50, 51, 51, 51, 52, 51, 53, 51, 54, 51, 55, 51, 56, 51, 57, 52, 48, 52, 49, 52, 50, 52, 51, 52, 52, 52, 53, 52, 54, 52, 55, 52, 56, 52, 57, 53, 48, 53, 49, 53, 50, 53, 51, 53, 52, 53, 53, 53, 54, 53, 55, 53, 56, 53, 57, 54, 48, 54, 49, 54, 50, 54, 51, 54, 52, 54, 53, 54, 54, 54, 55, 54, 56, 54, 57, 55, 48, 55, 49, 55, 50, 55, 51, 55, 52, 55, 53, 55, 54, 55, 55, 55, 56, 55, 57, 56, 48, 56, 49, 56, 50, 56, 51, 56, 52, 56, 53, 56, 54, 56, 55, 56, 56, 56, 57, 57, 48, 57, 49, 57, 50, 57, 51, 57, 52, 57, 53, 57, 54, 57, 55, 57, 56, 57, 57]⟩), .tmp 10, .tmp 13], none⟩,
       ⟨some 2, .mv, [.tmp 14], none⟩])
     .ret)))⟩

theorem f53_ok : compF Go.Proofs.Tryd.prog 53 f53.body.hints = some f53 := by kernel_rfl


def f56 : AFun := ⟨102, 5, [.slot 10, .slot 11],
  (.seq (.run [0, 1, 2, 3, 4, 10, 11] [⟨some 10, .mv, [.const (.slice none 0 0)], none⟩,
     ⟨some 11, .mv, [.const (.string ⟨#[]⟩)], none⟩])
   (.seq (.seq (.run [0, 1, 2, 3, 4, 10, 11, 28] [⟨some 19, .mv, [.tmp 2], none⟩,
       ⟨some 20, (.bin .lss), [.tmp 19, .const (.int .i64 2)], none⟩,
       ⟨some 21, .mv, [.tmp 20], none⟩,
       ⟨some 22, .mv, [.tmp 2], some (21, false)⟩,
       ⟨some 23, (.eqg false 6), [.tmp 22, .const (.int .i64 10)], some (21, false)⟩,
       ⟨some 24, .pick, [.tmp 21, .const (.bool true), .tmp 23], none⟩,
       ⟨some 25, .mv, [.tmp 24], none⟩,
       ⟨some 26, .mv, [.tmp 2], some (25, false)⟩,
       ⟨some 27, (.bin .gtr), [.tmp 26, .const (.int .i64 36)], some (25, false)⟩,
       ⟨some 28, .pick, [.tmp 25, .const (.bool true), .tmp 27], none⟩])
     (.cond (.tmp 28)
      (.run [0, 1, 2, 3, 4, 10, 11] [⟨some 29, (.mkif 9), [.const (.string ⟨#[115, 116, 114, 99, 111, 110, 118, 58, 32, 105, 108, 108, 101, 103, 97, 108, 32, 65, 112, 112, 101, 110, 100, 73, 110, 116, 47, 70, 111, 114, 109, 97, 116, 73, 110, 116, 32, 98, 97, 115, 101]⟩)], none⟩,
        ⟨none, .stuck, [], none⟩])
      .skip))
    (.seq (.run [0, 1, 2, 3, 4, 10, 11, 12] [⟨some 12, (.alloc [(.int .u8 0), (.int .u8 0), (.int .u8 0), (.int .u8 0), (.int .u8 0), (.int .u8 0), (.int .u8 0), (.int .u8 0), (.int .u8 0), (.int .u8 0), (.int .u8 0), (.int .u8 0), (.int .u8 0), (.int .u8 0), (.int .u8 0), (.int .u8 0), (.int .u8 0), (.int .u8 0), (.int .u8 0), (.int .u8 0), (.int .u8 0), (.int .u8 0), (.int .u8 0), (.int .u8 0), (.int .u8 0), (.int .u8 0), (.int .u8 0), (.int .u8 0), (.int .u8 0), (.int .u8 0), (.int .u8 0), (.int .u8 0), (.int .u8 0), (.int .u8 0), (.int .u8 0), (.int .u8 0), (.int .u8 0), (.int .u8 0), (.int .u8 0), (.int .u8 0), (.int .u8 0), (.int .u8 0), (.int .u8 0), (.int .u8 0), (.int .u8 0), (.int .u8 0), (.int .u8 0), (.int .u8 0), (.int .u8 0), (.int .u8 0), (.int .u8 0), (.int .u8 0), (.int .u8 0), (.int .u8 0), (.int .u8 0), (.int .u8 0), (.int .u8 0), (.int .u8 0), (.int .u8 0), (.int .u8 0), (.int .u8 0), (.int .u8 0), (.int .u8 0), (.int .u8 0), (.int .u8 0)]), [], none⟩])
     (.seq (.run [0, 1, 2, 3, 4, 10, 11, 12, 13] [⟨some 13, .mv, [.const (.int .i64 65)], none⟩])
      (.seq (.seq (.run [0, 1, 2, 3, 4, 10, 11, 12, 13, 30] [⟨some 30, .mv, [.tmp 3], none⟩])
        (.cond (.tmp 30)
         (.run [0, 1, 2, 3, 4, 10, 11, 12, 13] [⟨some 31, .mv, [.tmp 1], none⟩,
           ⟨some 32, (.un .neg), [.tmp 31], none⟩,
           ⟨some 1, .mv, [.tmp 32], none⟩])
         .skip))
       (.seq (.seq (.run [0, 1, 2, 3, 4, 10, 11, 12, 13, 34] [⟨some 33, .mv, [.tmp 2], none⟩,
           ⟨some 34, (.call 64), [.tmp 33], none⟩])
         (.cond (.tmp 34)
          (.seq (.run [0, 1, 2, 3, 4, 10, 11, 12, 13, 14] [⟨some 35, .mv, [.tmp 2], none⟩,
             ⟨some 36, (.cvi .u64), [.tmp 35], none⟩,
             ⟨some 37, (.call 65), [.tmp 36], none⟩,
             ⟨some 38, (.cvi .u64), [.tmp 37], none⟩,
             ⟨some 14, .mv, [.tmp 38], none⟩])
           (.seq (.run [0, 1, 2, 3, 4, 10, 11, 12, 13, 14, 15] [⟨some 39, .mv, [.tmp 2], none⟩,
              ⟨some 40, (.cvi .u64), [.tmp 39], none⟩,
              ⟨some 15, .mv, [.tmp 40], none⟩])
            (.seq (.run [0, 1, 3, 4, 10, 11, 12, 13, 14, 15, 16] [⟨some 41, .mv, [.tmp 2], none⟩,
               ⟨some 42, (.cvi .u64), [.tmp 41], none⟩,
               ⟨some 43, (.bin .sub), [.tmp 42, .const (.int .u64 1)], none⟩,
               ⟨some 16, .mv, [.tmp 43], none⟩])
             (.seq (.block 0 (.loop [0, 1, 3, 4, 10, 11, 12, 13, 14, 15, 16] (.seq (.seq (.run [0, 1, 3, 4, 10, 11, 12, 13, 14, 15, 16, 46] [⟨some 44, .mv, [.tmp 1], none⟩,
                    ⟨some 45, .mv, [.tmp 15], none⟩,
                    ⟨some 46, (.bin .geq), [.tmp 44, .tmp 45], none⟩])
                  (.cond (.tmp 46)
                   .skip
                   (.exit 0)))
                 (.block 1 (.seq (.run [0, 1, 3, 4, 10, 11, 12, 13, 14, 15, 16] [⟨some 47, .mv, [.tmp 13], none⟩,
                     ⟨some 48, (.bin .sub), [.tmp 47, .const (.int .i64 1)], none⟩,
                     ⟨some 13, .mv, [.tmp 48], none⟩])
                   (.seq (.run [0, 1, 3, 4, 10, 11, 12, 13, 14, 15, 16] [⟨some 49, .mv, [.tmp 13], none⟩,
                      ⟨some 50, .mv, [.tmp 1], none⟩,
                      ⟨some 51, .mv, [.tmp 16], none⟩,
                      ⟨some 52, (.bin .and), [.tmp 50, .tmp 51], none⟩,
                      ⟨some 53, .ixs, [.const (.string ⟨#[48, 49, 50, 51, 52, 53, 54, 55, 56, 57, 97, 98, 99, 100, 101, 102, 103, 104, 105, 106, 107, 108, 109, 110, 111, 112, 113, 114, 115, 116, 117, 118, 119, 120, 121, 122]⟩), .tmp 52], none⟩,
                      ⟨some 54, (.aaddr 1 65), [.tmp 12, .tmp 49], none⟩,
                      ⟨none, (.st 1), [.tmp 54, .tmp 53], none⟩])
                    (.run [0, 1, 3, 4, 10, 11, 12, 13, 14, 15, 16] [⟨some 55, .mv, [.tmp 1], none⟩,
                      ⟨some 56, .mv, [.tmp 14], none⟩,
                      ⟨some 57, (.bin .shr), [.tmp 55, .tmp 56], none⟩,
                      ⟨some 1, .mv, [.tmp 57], none⟩])))))))
              (.seq (.run [0, 1, 3, 4, 10, 11, 12, 13] [⟨some 58, .mv, [.tmp 13], none⟩,
                 ⟨some 59, (.bin .sub), [.tmp 58, .const (.int .i64 1)], none⟩,
                 ⟨some 13, .mv, [.tmp 59], none⟩])
               (.run [0, 3, 4, 10, 11, 12, 13] [⟨some 60, .mv, [.tmp 13], none⟩,
                 ⟨some 61, .mv, [.tmp 1], none⟩,
                 ⟨some 62, .ixs, [.const (.string ⟨#[48, 49, 50, 51, 52, 53, 54, 55, 56, 57, 97, 98, 99, 100, 101, 102, 103, 104, 105, 106, 107, 108, 109, 110, 111, 112, 113, 114, 115, 116, 117, 118, 119, 120, 121, 122]⟩), .tmp 61], none⟩,
                 ⟨some 63, (.aaddr 1 65), [.tmp 12, .tmp 60], none⟩,
                 ⟨none, (.st 1), [.tmp 63, .tmp 62], none⟩]))))))
          (.seq (.run [0, 1, 3, 4, 10, 11, 12, 13, 17] [⟨some 64, .mv, [.tmp 2], none⟩,
             ⟨some 65, (.cvi .u64), [.tmp 64], none⟩,
             ⟨some 17, .mv, [.tmp 65], none⟩])
           (.seq (.block 2 (.loop [0, 1, 3, 4, 10, 11, 12, 13, 17] (.seq (.seq (.run [0, 1, 3, 4, 10, 11, 12, 13, 17, 68] [⟨some 66, .mv, [.tmp 1], none⟩,
                  ⟨some 67, .mv, [.tmp 17], none⟩,
                  ⟨some 68, (.bin .geq), [.tmp 66, .tmp 67], none⟩])
                (.cond (.tmp 68)
                 .skip
                 (.exit 2)))
               (.block 3 (.seq (.run [0, 1, 3, 4, 10, 11, 12, 13, 17] [⟨some 69, .mv, [.tmp 13], none⟩,
                   ⟨some 70, (.bin .sub), [.tmp 69, .const (.int .i64 1)], none⟩,
                   ⟨some 13, .mv, [.tmp 70], none⟩])
                 (.seq (.run [0, 1, 3, 4, 10, 11, 12, 13, 17, 18] [⟨some 71, .mv, [.tmp 1], none⟩,
                    ⟨some 72, .mv, [.tmp 17], none⟩,
                    ⟨some 73, (.bin .quo), [.tmp 71, .tmp 72], none⟩,
                    ⟨some 18, .mv, [.tmp 73], none⟩])
                  (.seq (.run [0, 3, 4, 10, 11, 12, 13, 17, 18] [⟨some 74, .mv, [.tmp 13], none⟩,
                     ⟨some 75, .mv, [.tmp 1], none⟩,
                     ⟨some 76, .mv, [.tmp 18], none⟩,
                     ⟨some 77, .mv, [.tmp 17], none⟩,
                     ⟨some 78, (.bin .mul), [.tmp 76, .tmp 77], none⟩,
                     ⟨some 79, (.bin .sub), [.tmp 75, .tmp 78], none⟩,
                     ⟨some 80, .ixs, [.const (.string ⟨#[48, 49, 50, 51, 52, 53, 54, 55, 56, 57, 97, 98, 99, 100, 101, 102, 103, 104, 105, 106, 107, 108, 109, 110, 111, 112, 113, 114, 115, 116, 117, 118, 119, 120, 121, 122]⟩), .tmp 79], none⟩,
                     ⟨some 81, (.aaddr 1 65), [.tmp 12, .tmp 74], none⟩,
                     ⟨none, (.st 1), [.tmp 81, .tmp 80], none⟩])
                   (.run [0, 1, 3, 4, 10, 11, 12, 13, 17] [⟨some 82, .mv, [.tmp 18], none⟩,
                     ⟨some 1, .mv, [.tmp 82], none⟩]))))))))
            (.seq (.run [0, 1, 3, 4, 10, 11, 12, 13] [⟨some 83, .mv, [.tmp 13], none⟩,
               ⟨some 84, (.bin .sub), [.tmp 83, .const (.int .i64 1)], none⟩,
               ⟨some 13, .mv, [.tmp 84], none⟩])
             (.run [0, 3, 4, 10, 11, 12, 13] [⟨some 85, .mv, [.tmp 13], none⟩,
               ⟨some 86, .mv, [.tmp 1], none⟩,
               ⟨some 87, .ixs, [.const (.string ⟨#[48, 49, 50, 51, 52, 53, 54, 55, 56, 57, 97, 98, 99, 100, 101, 102, 103, 104, 105, 106, 107, 108, 109, 110, 111, 112, 113, 114, 115, 116, 117, 118, 119, 120, 121, 122]⟩), .tmp 86], none⟩,
               ⟨some 88, (.aaddr 1 65), [.tmp 12, .tmp 85], none⟩,
               ⟨none, (.st 1), [.tmp 88, .tmp 87], none⟩]))))))
        (.seq (.seq (.run [0, 4, 10, 11, 12, 13, 89] [⟨some 89, .mv, [.tmp 3], none⟩])
          (.cond (.tmp 89)
           (.seq (.run [0, 4, 10, 11, 12, 13] [⟨some 90, .mv, [.tmp 13], none⟩,
              ⟨some 91, (.bin .sub), [.tmp 90, .const (.int .i64 1)], none⟩,
              ⟨some 13, .mv, [.tmp 91], none⟩])
            (.run [0, 4, 10, 11, 12, 13] [⟨some 92, .mv, [.tmp 13], none⟩,
              ⟨some 93, (.aaddr 1 65), [.tmp 12, .tmp 92], none⟩,
              ⟨none, (.st 1), [.tmp 93, .const (.int .u8 45)], none⟩]))
           .skip))
         (.seq (.seq (.run [0, 10, 11, 12, 13, 94] [⟨some 94, .mv, [.tmp 4], none⟩])
           (.cond (.tmp 94)
            (.seq (.run [10, 11] [⟨some 95, .mv, [.tmp 0], none⟩,
               ⟨some 96, .mv, [.tmp 13], none⟩,
               ⟨some 97, (.slp 1 65 true false), [.tmp 12, .tmp 96], none⟩,
               ⟨some 98, (.app 1 1), [.tmp 95, .tmp 97], none⟩,
               ⟨some 10, .mv, [.tmp 98], none⟩])
             .ret)
            .skip))
          (.seq (.run [10, 11] [⟨some 99, .mv, [.tmp 13], none⟩,
             ⟨some 100, (.slp 1 65 true false), [.tmp 12, .tmp 99], none⟩,
             ⟨some 101, .cvb, [.tmp 100], none⟩,
             ⟨some 11, .mv, [.tmp 101], none⟩])
           .ret)))))))))⟩

theorem f56_ok : compF Go.Proofs.Tryd.prog 56 f56.body.hints = some f56 := by kernel_rfl


def f64 : AFun := ⟨8, 1, [.slot 2],
  (.seq (.run [0] [⟨some 2, .mv, [.const (.bool false)], none⟩])
   (.seq (.run [2] [⟨some 3, .mv, [.tmp 0], none⟩,
      ⟨some 4, .mv, [.tmp 0], none⟩,
      ⟨some 5, (.bin .sub), [.tmp 4, .const (.int .i64 1)], none⟩,
      ⟨some 6, (.bin .and), [.tmp 3, .tmp 5], none⟩,
      ⟨some 7, (.eqg false 6), [.tmp 6, .const (.int .i64 0)], none⟩,
      ⟨some 2, .mv, [.tmp 7], none⟩])
    .ret))⟩

theorem f64_ok : compF Go.Proofs.Tryd.prog 64 f64.body.hints = some f64 := by kernel_rfl


def f65 : AFun := ⟨8, 1, [.slot 2],
  (.seq (.run [0] [⟨some 2, .mv, [.const (.int .i64 0)], none⟩])
   (.seq (.cond (.const (.bool false))
     (.seq (.run [2] [⟨some 3, .mv, [.tmp 0], none⟩,
        ⟨some 4, (.cvi .u32), [.tmp 3], none⟩,
        ⟨some 5, (.call 68), [.tmp 4], none⟩,
        ⟨some 2, .mv, [.tmp 5], none⟩])
      .ret)
     .skip)
    (.seq (.run [2] [⟨some 6, .mv, [.tmp 0], none⟩,
       ⟨some 7, (.call 69), [.tmp 6], none⟩,
       ⟨some 2, .mv, [.tmp 7], none⟩])
     .ret)))⟩

theorem f65_ok : compF Go.Proofs.Tryd.prog 65 f65.body.hints = some f65 := by kernel_rfl


def f69 : AFun := ⟨14, 1, [.slot 2],
  (.seq (.run [0] [⟨some 2, .mv, [.const (.int .i64 0)], none⟩])
   (.seq (.seq (.run [0, 4] [⟨some 3, .mv, [.tmp 0], none⟩,
       ⟨some 4, (.eqg false 6), [.tmp 3, .const (.int .u64 0)], none⟩])
     (.cond (.tmp 4)
      (.seq (.run [2] [⟨some 2, .mv, [.const (.int .i64 64)], none⟩])
       .ret)
      .skip))
    (.seq (.run [2] [⟨some 5, .mv, [.tmp 0], none⟩,
       ⟨some 6, .mv, [.tmp 0], none⟩,
       ⟨some 7, (.un .neg), [.tmp 6], none⟩,
       ⟨some 8, (.bin .and), [.tmp 5, .tmp 7], none⟩,
       ⟨some 9, (.bin .mul), [.tmp 8, .const (.int .u64 285870213051353865)], none⟩,
       ⟨some 10, (.bin .shr), [.tmp 9, .const (.int .u64 58)], none⟩,
       ⟨some 11, (.aaddr 1 64), [.global 3, .tmp 10], none⟩,
       ⟨some 12, (.ld false 1), [.tmp 11], none⟩,
       ⟨some 13, (.cvi .i64), [.tmp 12], none⟩,
       ⟨some 2, .mv, [.tmp 13], none⟩])
     .ret)))⟩

theorem f69_ok : compF Go.Proofs.Tryd.prog 69 f69.body.hints = some f69 := by kernel_rfl

end Go.AL.Fun
