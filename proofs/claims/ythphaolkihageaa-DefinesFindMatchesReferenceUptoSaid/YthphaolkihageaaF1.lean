/- The functions of this seat's program, turned. Printed by a program; each is checked against the program. -/
import Derived.Test.YthphaolkihageaaB3
import Derived.Test.YthphaolkihageaaProg
import Derived.KernelRfl
namespace Go.AL.Fun
open Go.AL


def f3 : AFun := ⟨37, 2, [.slot 4],
  (.seq (.run [0, 1] [⟨some 4, .mv, [.const (.bool false)], none⟩])
   (.seq (.run [1, 5] [⟨some 10, .mv, [.tmp 0], none⟩,
      ⟨some 11, (.call 5), [.tmp 10], none⟩,
      ⟨some 5, .mv, [.tmp 11], none⟩])
    (.seq (.run [1, 5, 6, 7] [⟨some 13, .mv, [.tmp 5], none⟩,
       ⟨some 14, .mv, [.tmp 1], none⟩,
       ⟨some 15, (.call 6), [.tmp 13, .tmp 14], none⟩,
       ⟨some 12, .mv, [.tmp 15], none⟩,
       ⟨some 16, (.ext 0), [.tmp 12], none⟩,
       ⟨some 17, (.ext 1), [.tmp 12], none⟩,
       ⟨some 6, (.alloc [(.int .i64 0), (.int .i64 0), (.str []), (.str []), (.bool false), (.bool false), (.sl [] .nil), (.sl [] .nil)]), [], none⟩,
       ⟨none, (.st 8), [.tmp 6, .tmp 16], none⟩,
       ⟨some 7, .mv, [.tmp 17], none⟩])
     (.seq (.run [6, 7, 8, 9] [⟨some 19, .mv, [.tmp 5], none⟩,
        ⟨some 20, .mv, [.tmp 1], none⟩,
        ⟨some 21, (.call 7), [.tmp 19, .tmp 20], none⟩,
        ⟨some 18, .mv, [.tmp 21], none⟩,
        ⟨some 22, (.ext 0), [.tmp 18], none⟩,
        ⟨some 23, (.ext 1), [.tmp 18], none⟩,
        ⟨some 8, (.alloc [(.int .i64 0), (.int .i64 0), (.str []), (.str []), (.bool false), (.bool false), (.sl [] .nil), (.sl [] .nil)]), [], none⟩,
        ⟨none, (.st 8), [.tmp 8, .tmp 22], none⟩,
        ⟨some 9, .mv, [.tmp 23], none⟩])
      (.seq (.run [4] [⟨some 24, (.call 8), [], none⟩,
         ⟨some 25, .mv, [.tmp 24], none⟩,
         ⟨some 26, .mv, [.tmp 7], some (25, true)⟩,
         ⟨some 27, .mv, [.tmp 9], some (25, true)⟩,
         ⟨some 28, (.eqg false 0), [.tmp 26, .tmp 27], some (25, true)⟩,
         ⟨some 29, .pick, [.tmp 25, .tmp 28, .const (.bool false)], none⟩,
         ⟨some 30, .mv, [.tmp 29], none⟩,
         ⟨some 31, (.ld true 8), [.tmp 6], some (30, true)⟩,
         ⟨some 32, (.bslice 8 1 [(.int .i64 0), (.int .i64 0), (.str []), (.str []), (.bool false), (.bool false), (.sl [] .nil), (.sl [] .nil)] [(0, 8)]), [.tmp 31], some (30, true)⟩,
         ⟨some 33, (.ld true 8), [.tmp 8], some (30, true)⟩,
         ⟨some 34, (.bslice 8 1 [(.int .i64 0), (.int .i64 0), (.str []), (.str []), (.bool false), (.bool false), (.sl [] .nil), (.sl [] .nil)] [(0, 8)]), [.tmp 33], some (30, true)⟩,
         ⟨some 35, (.call 9), [.tmp 32, .tmp 34, .const (.bool true)], some (30, true)⟩,
         ⟨some 36, .pick, [.tmp 30, .tmp 35, .const (.bool false)], none⟩,
         ⟨some 4, .mv, [.tmp 36], none⟩])
       .ret)))))⟩

theorem f3_ok : compF Go.Proofs.Try.prog 3 f3.body.hints = some f3 := by kernel_rfl


def f4 : AFun := ⟨82, 1, [.slot 2],
  (.seq (.run [0] [⟨some 2, .mv, [.const (.bool false)], none⟩])
   (.seq (.run [3] [⟨some 15, .mv, [.tmp 0], none⟩,
      ⟨some 16, (.call 5), [.tmp 15], none⟩,
      ⟨some 3, .mv, [.tmp 16], none⟩])
    (.seq (.run [3, 4] [⟨some 17, .mv, [.tmp 3], none⟩,
       ⟨some 18, (.call 10), [.tmp 17], none⟩,
       ⟨some 4, .mv, [.tmp 18], none⟩])
     (.seq (.seq (.run [3, 4, 20, 21, 22] [⟨some 19, .mv, [.tmp 3], none⟩,
         ⟨some 20, (.call 11), [.tmp 19], none⟩,
         ⟨some 21, (.len 1), [.tmp 20], none⟩,
         ⟨some 22, .mv, [.const (.int .i64 0)], none⟩])
       (.block 0 (.loop [3, 4, 20, 21, 22] (.seq (.run [3, 4, 20, 21, 22, 23] [⟨some 23, (.bin .lss), [.tmp 22, .tmp 21], none⟩])
          (.seq (.cond (.tmp 23)
            .skip
            (.exit 0))
           (.seq (.block 1 (.seq (.run [3, 4, 6, 20, 21, 22] [⟨some 24, (.iaddr 1), [.tmp 20, .tmp 22], none⟩,
                ⟨some 25, (.ld false 1), [.tmp 24], none⟩,
                ⟨some 6, .mv, [.tmp 25], none⟩])
              (.seq (.run [3, 4, 20, 21, 22, 29] [⟨some 26, .mv, [.tmp 4], none⟩,
                 ⟨some 27, .mv, [.tmp 6], none⟩,
                 ⟨some 28, (.call 12), [.tmp 26, .tmp 27], none⟩,
                 ⟨some 29, (.un .not), [.tmp 28], none⟩])
               (.cond (.tmp 29)
                (.seq (.run [2] [⟨some 2, .mv, [.const (.bool false)], none⟩])
                 .ret)
                .skip))))
            (.run [3, 4, 20, 21, 22] [⟨some 30, (.bin .add), [.tmp 22, .const (.int .i64 1)], none⟩,
              ⟨some 22, .mv, [.tmp 30], none⟩])))))))
      (.seq (.seq (.run [3, 4, 8] [⟨some 32, .mv, [.tmp 3], none⟩,
          ⟨some 33, (.call 13), [.tmp 32], none⟩,
          ⟨some 31, .mv, [.tmp 33], none⟩,
          ⟨some 34, (.ext 0), [.tmp 31], none⟩,
          ⟨some 35, (.ext 1), [.tmp 31], none⟩,
          ⟨some 7, .mv, [.tmp 34], none⟩,
          ⟨some 8, .mv, [.tmp 35], none⟩])
        (.seq (.run [3, 4, 37] [⟨some 36, .mv, [.tmp 8], none⟩,
           ⟨some 37, (.eqg true 6), [.tmp 36, .const (.int .i64 0)], none⟩])
         (.cond (.tmp 37)
          (.seq (.run [2] [⟨some 38, (.call 8), [], none⟩,
             ⟨some 2, .mv, [.tmp 38], none⟩])
           .ret)
          .skip)))
       (.seq (.seq (.run [3, 4, 39, 40, 41] [⟨some 39, .mv, [.tmp 4], none⟩,
           ⟨some 40, (.len 1), [.tmp 39], none⟩,
           ⟨some 41, .mv, [.const (.int .i64 0)], none⟩])
         (.block 2 (.loop [3, 4, 39, 40, 41] (.seq (.run [3, 4, 39, 40, 41, 42] [⟨some 42, (.bin .lss), [.tmp 41, .tmp 40], none⟩])
            (.seq (.cond (.tmp 42)
              .skip
              (.exit 2))
             (.seq (.block 3 (.seq (.run [3, 4, 9, 10, 39, 40, 41] [⟨some 43, .mv, [.tmp 41], none⟩,
                  ⟨some 44, (.iaddr 1), [.tmp 39, .tmp 41], none⟩,
                  ⟨some 45, (.ld false 1), [.tmp 44], none⟩,
                  ⟨some 9, .mv, [.tmp 43], none⟩,
                  ⟨some 10, .mv, [.tmp 45], none⟩])
                (.seq (.run [3, 4, 39, 40, 41, 50] [⟨some 46, .mv, [.tmp 4], none⟩,
                   ⟨some 47, .mv, [.tmp 9], none⟩,
                   ⟨some 48, (.slc 1 false true), [.tmp 46, .tmp 47], none⟩,
                   ⟨some 49, .mv, [.tmp 10], none⟩,
                   ⟨some 50, (.call 12), [.tmp 48, .tmp 49], none⟩])
                 (.cond (.tmp 50)
                  (.seq (.run [2] [⟨some 2, .mv, [.const (.bool false)], none⟩])
                   .ret)
                  .skip))))
              (.run [3, 4, 39, 40, 41] [⟨some 51, (.bin .add), [.tmp 41, .const (.int .i64 1)], none⟩,
                ⟨some 41, .mv, [.tmp 51], none⟩])))))))
        (.seq (.seq (.run [3, 53, 54, 55] [⟨some 52, .mv, [.tmp 3], none⟩,
            ⟨some 53, (.call 14), [.tmp 52], none⟩,
            ⟨some 54, (.len 1), [.tmp 53], none⟩,
            ⟨some 55, .mv, [.const (.int .i64 0)], none⟩])
          (.block 4 (.loop [3, 53, 54, 55] (.seq (.run [3, 53, 54, 55, 56] [⟨some 56, (.bin .lss), [.tmp 55, .tmp 54], none⟩])
             (.seq (.cond (.tmp 56)
               .skip
               (.exit 4))
              (.seq (.block 5 (.seq (.run [3, 12, 53, 54, 55] [⟨some 57, (.iaddr 8), [.tmp 53, .tmp 55], none⟩,
                   ⟨some 58, (.ld true 8), [.tmp 57], none⟩,
                   ⟨some 12, (.alloc [(.int .i64 0), (.int .i64 0), (.str []), (.str []), (.bool false), (.bool false), (.sl [] .nil), (.sl [] .nil)]), [], none⟩,
                   ⟨none, (.st 8), [.tmp 12, .tmp 58], none⟩])
                 (.seq (.run [3, 12, 13, 14, 53, 54, 55] [⟨some 60, .mv, [.tmp 3], none⟩,
                    ⟨some 61, (.faddr 2), [.tmp 12], none⟩,
                    ⟨some 62, (.ld false 1), [.tmp 61], none⟩,
                    ⟨some 63, (.call 6), [.tmp 60, .tmp 62], none⟩,
                    ⟨some 59, .mv, [.tmp 63], none⟩,
                    ⟨some 64, (.ext 0), [.tmp 59], none⟩,
                    ⟨some 65, (.ext 1), [.tmp 59], none⟩,
                    ⟨some 13, (.alloc [(.int .i64 0), (.int .i64 0), (.str []), (.str []), (.bool false), (.bool false), (.sl [] .nil), (.sl [] .nil)]), [], none⟩,
                    ⟨none, (.st 8), [.tmp 13, .tmp 64], none⟩,
                    ⟨some 14, .mv, [.tmp 65], none⟩])
                  (.seq (.run [3, 53, 54, 55, 79] [⟨some 66, .mv, [.tmp 14], none⟩,
                     ⟨some 67, (.un .not), [.tmp 66], none⟩,
                     ⟨some 68, .mv, [.tmp 67], none⟩,
                     ⟨some 69, (.faddr 2), [.tmp 13], some (68, false)⟩,
                     ⟨some 70, (.ld false 1), [.tmp 69], some (68, false)⟩,
                     ⟨some 71, (.faddr 2), [.tmp 12], some (68, false)⟩,
                     ⟨some 72, (.ld false 1), [.tmp 71], some (68, false)⟩,
                     ⟨some 73, (.eqg true 6), [.tmp 70, .tmp 72], some (68, false)⟩,
                     ⟨some 74, .pick, [.tmp 68, .const (.bool true), .tmp 73], none⟩,
                     ⟨some 75, .mv, [.tmp 74], none⟩,
                     ⟨some 76, (.faddr 0), [.tmp 13], some (75, false)⟩,
                     ⟨some 77, (.ld false 1), [.tmp 76], some (75, false)⟩,
                     ⟨some 78, (.eqg true 6), [.tmp 77, .const (.int .i64 6)], some (75, false)⟩,
                     ⟨some 79, .pick, [.tmp 75, .const (.bool true), .tmp 78], none⟩])
                   (.cond (.tmp 79)
                    (.seq (.run [2] [⟨some 2, .mv, [.const (.bool false)], none⟩])
                     .ret)
                    .skip)))))
               (.run [3, 53, 54, 55] [⟨some 80, (.bin .add), [.tmp 55, .const (.int .i64 1)], none⟩,
                 ⟨some 55, .mv, [.tmp 80], none⟩])))))))
         (.seq (.run [2] [⟨some 81, (.call 8), [], none⟩,
            ⟨some 2, .mv, [.tmp 81], none⟩])
          .ret))))))))⟩

theorem f4_ok : compF Go.Proofs.Try.prog 4 f4.body.hints = some f4 := by kernel_rfl


def f5 : AFun := ⟨18, 1, [.slot 2],
  (.seq (.run [0] [⟨some 2, .mv, [.const (.slice none 0 0)], none⟩])
   (.seq (.seq (.run [0, 8] [⟨some 6, .mv, [.tmp 0], none⟩,
       ⟨some 7, (.len 0), [.tmp 6], none⟩,
       ⟨some 8, (.bin .gtr), [.tmp 7, .const (.int .i64 5000)], none⟩])
     (.cond (.tmp 8)
      (.seq (.run [2] [⟨some 2, .mv, [.const (.slice none 0 0)], none⟩])
       .ret)
      .skip))
    (.seq (.run [3, 5] [⟨some 10, .mv, [.tmp 0], none⟩,
       ⟨some 11, (.call 15), [.tmp 10], none⟩,
       ⟨some 9, .mv, [.tmp 11], none⟩,
       ⟨some 12, (.ext 0), [.tmp 9], none⟩,
       ⟨some 13, (.ext 1), [.tmp 9], none⟩,
       ⟨some 14, (.ext 2), [.tmp 9], none⟩,
       ⟨some 3, .mv, [.tmp 12], none⟩,
       ⟨some 4, .mv, [.tmp 13], none⟩,
       ⟨some 5, .mv, [.tmp 14], none⟩])
     (.seq (.seq (.run [3, 16] [⟨some 15, .mv, [.tmp 5], none⟩,
         ⟨some 16, (.eqg true 6), [.tmp 15, .const (.int .i64 0)], none⟩])
       (.cond (.tmp 16)
        (.seq (.run [2] [⟨some 2, .mv, [.const (.slice none 0 0)], none⟩])
         .ret)
        .skip))
      (.seq (.run [2] [⟨some 17, .mv, [.tmp 3], none⟩,
         ⟨some 2, .mv, [.tmp 17], none⟩])
       .ret)))))⟩

theorem f5_ok : compF Go.Proofs.Try.prog 5 f5.body.hints = some f5 := by kernel_rfl


def f6 : AFun := ⟨17, 2, [.cell 4 (.ld true 8), .slot 5],
  (.seq (.run [0, 3, 4] [⟨some 3, .box, [.tmp 1], none⟩,
     ⟨some 4, (.alloc [(.int .i64 0), (.int .i64 0), (.str []), (.str []), (.bool false), (.bool false), (.sl [] .nil), (.sl [] .nil)]), [], none⟩,
     ⟨some 5, .mv, [.const (.bool false)], none⟩])
   (.seq (.run [0, 4, 6] [⟨some 7, .mv, [.tmp 0], none⟩,
      ⟨some 8, (.mkfn (.func 17) 0), [.tmp 3], none⟩,
      ⟨some 9, (.call 16), [.tmp 7, .tmp 8], none⟩,
      ⟨some 6, .mv, [.tmp 9], none⟩])
    (.seq (.seq (.run [0, 4, 6, 11] [⟨some 10, .mv, [.tmp 6], none⟩,
        ⟨some 11, (.bin .lss), [.tmp 10, .const (.int .i64 0)], none⟩])
      (.cond (.tmp 11)
       (.seq (.run [4, 5] [⟨some 12, (.build [(.int .i64 0), (.int .i64 0), (.str []), (.str []), (.bool false), (.bool false), (.sl [] .nil), (.sl [] .nil)] []), [], none⟩,
          ⟨none, (.st 8), [.tmp 4, .tmp 12], none⟩,
          ⟨some 5, .mv, [.const (.bool false)], none⟩])
        .ret)
       .skip))
     (.seq (.run [4, 5] [⟨some 13, .mv, [.tmp 0], none⟩,
        ⟨some 14, .mv, [.tmp 6], none⟩,
        ⟨some 15, (.iaddr 8), [.tmp 13, .tmp 14], none⟩,
        ⟨some 16, (.ld true 8), [.tmp 15], none⟩,
        ⟨none, (.st 8), [.tmp 4, .tmp 16], none⟩,
        ⟨some 5, .mv, [.const (.bool true)], none⟩])
      .ret))))⟩

theorem f6_ok : compF Go.Proofs.Try.prog 6 f6.body.hints = some f6 := by kernel_rfl


def f7 : AFun := ⟨33, 2, [.cell 4 (.ld true 8), .slot 5],
  (.seq (.run [0, 1, 4] [⟨some 4, (.alloc [(.int .i64 0), (.int .i64 0), (.str []), (.str []), (.bool false), (.bool false), (.sl [] .nil), (.sl [] .nil)]), [], none⟩,
     ⟨some 5, .mv, [.const (.bool false)], none⟩])
   (.seq (.seq (.run [0, 1, 4, 6] [⟨some 6, .mv, [.const (.int .i64 0)], none⟩])
     (.block 0 (.loop [0, 1, 4, 6] (.seq (.seq (.run [0, 1, 4, 6, 10] [⟨some 7, .mv, [.tmp 6], none⟩,
           ⟨some 8, .mv, [.tmp 0], none⟩,
           ⟨some 9, (.len 1), [.tmp 8], none⟩,
           ⟨some 10, (.bin .lss), [.tmp 7, .tmp 9], none⟩])
         (.cond (.tmp 10)
          .skip
          (.exit 0)))
        (.seq (.block 1 (.seq (.run [0, 1, 4, 6, 27] [⟨some 13, .mv, [.tmp 0], none⟩,
             ⟨some 14, .mv, [.tmp 6], none⟩,
             ⟨some 15, (.iaddr 8), [.tmp 13, .tmp 14], none⟩,
             ⟨some 16, (.faddr 0), [.tmp 15], none⟩,
             ⟨some 17, (.ld false 1), [.tmp 16], none⟩,
             ⟨some 18, (.eqg false 6), [.tmp 17, .const (.int .i64 6)], none⟩,
             ⟨some 19, .mv, [.tmp 18], none⟩,
             ⟨some 20, .mv, [.tmp 0], some (19, true)⟩,
             ⟨some 21, .mv, [.tmp 6], some (19, true)⟩,
             ⟨some 22, (.iaddr 8), [.tmp 20, .tmp 21], some (19, true)⟩,
             ⟨some 23, (.faddr 2), [.tmp 22], some (19, true)⟩,
             ⟨some 24, (.ld false 1), [.tmp 23], some (19, true)⟩,
             ⟨some 25, .mv, [.tmp 1], some (19, true)⟩,
             ⟨some 26, (.eqg false 6), [.tmp 24, .tmp 25], some (19, true)⟩,
             ⟨some 27, .pick, [.tmp 19, .tmp 26, .const (.bool false)], none⟩])
           (.cond (.tmp 27)
            (.seq (.run [4, 5] [⟨some 28, .mv, [.tmp 0], none⟩,
               ⟨some 29, .mv, [.tmp 6], none⟩,
               ⟨some 30, (.iaddr 8), [.tmp 28, .tmp 29], none⟩,
               ⟨some 31, (.ld true 8), [.tmp 30], none⟩,
               ⟨none, (.st 8), [.tmp 4, .tmp 31], none⟩,
               ⟨some 5, .mv, [.const (.bool true)], none⟩])
             .ret)
            .skip)))
         (.run [0, 1, 4, 6] [⟨some 11, .mv, [.tmp 6], none⟩,
           ⟨some 12, (.bin .add), [.tmp 11, .const (.int .i64 1)], none⟩,
           ⟨some 6, .mv, [.tmp 12], none⟩]))))))
    (.seq (.run [4, 5] [⟨some 32, (.build [(.int .i64 0), (.int .i64 0), (.str []), (.str []), (.bool false), (.bool false), (.sl [] .nil), (.sl [] .nil)] []), [], none⟩,
       ⟨none, (.st 8), [.tmp 4, .tmp 32], none⟩,
       ⟨some 5, .mv, [.const (.bool false)], none⟩])
     .ret)))⟩

theorem f7_ok : compF Go.Proofs.Try.prog 7 f7.body.hints = some f7 := by kernel_rfl


def f8 : AFun := ⟨24, 0, [.slot 0],
  (.seq (.run [] [⟨some 0, .mv, [.const (.bool false)], none⟩])
   (.seq (.run [1] [⟨some 4, (.call 5), [.const (.string ⟨#[123, 123, 99, 97, 108, 108, 32, 102, 125, 125, 123, 123, 100, 101, 102, 105, 110, 101, 32, 102, 125, 125, 123, 123, 99, 97, 108, 108, 32, 103, 125, 125, 123, 123, 101, 110, 100, 125, 125, 123, 123, 100, 101, 102, 105, 110, 101, 32, 103, 125, 125, 123, 123, 101, 110, 100, 125, 125, 123, 123, 100, 101, 102, 105, 110, 101, 32, 104, 125, 125, 123, 123, 101, 110, 100, 125, 125]⟩)], none⟩,
      ⟨some 1, .mv, [.tmp 4], none⟩])
    (.seq (.run [1, 3] [⟨some 6, .mv, [.tmp 1], none⟩,
       ⟨some 7, (.call 13), [.tmp 6], none⟩,
       ⟨some 5, .mv, [.tmp 7], none⟩,
       ⟨some 8, (.ext 0), [.tmp 5], none⟩,
       ⟨some 9, (.ext 1), [.tmp 5], none⟩,
       ⟨some 2, .mv, [.tmp 8], none⟩,
       ⟨some 3, .mv, [.tmp 9], none⟩])
     (.seq (.run [0] [⟨some 10, .mv, [.tmp 1], none⟩,
        ⟨some 11, (.call 11), [.tmp 10], none⟩,
        ⟨some 12, (.bslice 1 2 [(.str [])] [(0, 1), (1, 1)]), [.const (.string ⟨#[102]⟩), .const (.string ⟨#[103]⟩)], none⟩,
        ⟨some 13, (.call 18), [.tmp 11, .tmp 12], none⟩,
        ⟨some 14, .mv, [.tmp 13], none⟩,
        ⟨some 15, .mv, [.tmp 3], some (14, true)⟩,
        ⟨some 16, (.eqg false 6), [.tmp 15, .const (.int .i64 0)], some (14, true)⟩,
        ⟨some 17, .pick, [.tmp 14, .tmp 16, .const (.bool false)], none⟩,
        ⟨some 18, .mv, [.tmp 17], none⟩,
        ⟨some 19, .mv, [.tmp 1], some (18, true)⟩,
        ⟨some 20, (.call 19), [.tmp 19], some (18, true)⟩,
        ⟨some 21, (.len 1), [.tmp 20], some (18, true)⟩,
        ⟨some 22, (.eqg false 6), [.tmp 21, .const (.int .i64 1)], some (18, true)⟩,
        ⟨some 23, .pick, [.tmp 18, .tmp 22, .const (.bool false)], none⟩,
        ⟨some 0, .mv, [.tmp 23], none⟩])
      .ret))))⟩

theorem f8_ok : compF Go.Proofs.Try.prog 8 f8.body.hints = some f8 := by kernel_rfl


def f9 : AFun := ⟨88, 3, [.slot 6],
  (.seq (.run [0, 1, 2] [⟨some 6, .mv, [.const (.bool false)], none⟩])
   (.seq (.seq (.run [0, 1, 2, 14] [⟨some 10, .mv, [.tmp 0], none⟩,
       ⟨some 11, (.len 1), [.tmp 10], none⟩,
       ⟨some 12, .mv, [.tmp 1], none⟩,
       ⟨some 13, (.len 1), [.tmp 12], none⟩,
       ⟨some 14, (.eqg true 6), [.tmp 11, .tmp 13], none⟩])
     (.cond (.tmp 14)
      (.seq (.run [6] [⟨some 6, .mv, [.const (.bool false)], none⟩])
       .ret)
      .skip))
    (.seq (.seq (.run [0, 1, 2, 7] [⟨some 7, .mv, [.const (.int .i64 0)], none⟩])
      (.block 0 (.loop [0, 1, 2, 7] (.seq (.seq (.run [0, 1, 2, 7, 18] [⟨some 15, .mv, [.tmp 7], none⟩,
            ⟨some 16, .mv, [.tmp 0], none⟩,
            ⟨some 17, (.len 1), [.tmp 16], none⟩,
            ⟨some 18, (.bin .lss), [.tmp 15, .tmp 17], none⟩])
          (.cond (.tmp 18)
           .skip
           (.exit 0)))
         (.seq (.block 1 (.seq (.run [0, 1, 2, 7, 8] [⟨some 21, .mv, [.tmp 0], none⟩,
              ⟨some 22, .mv, [.tmp 7], none⟩,
              ⟨some 23, (.iaddr 8), [.tmp 21, .tmp 22], none⟩,
              ⟨some 24, (.ld true 8), [.tmp 23], none⟩,
              ⟨some 8, (.alloc [(.int .i64 0), (.int .i64 0), (.str []), (.str []), (.bool false), (.bool false), (.sl [] .nil), (.sl [] .nil)]), [], none⟩,
              ⟨none, (.st 8), [.tmp 8, .tmp 24], none⟩])
            (.seq (.run [0, 1, 2, 7, 8, 9] [⟨some 25, .mv, [.tmp 1], none⟩,
               ⟨some 26, .mv, [.tmp 7], none⟩,
               ⟨some 27, (.iaddr 8), [.tmp 25, .tmp 26], none⟩,
               ⟨some 28, (.ld true 8), [.tmp 27], none⟩,
               ⟨some 9, (.alloc [(.int .i64 0), (.int .i64 0), (.str []), (.str []), (.bool false), (.bool false), (.sl [] .nil), (.sl [] .nil)]), [], none⟩,
               ⟨none, (.st 8), [.tmp 9, .tmp 28], none⟩])
             (.seq (.seq (.run [0, 1, 2, 7, 8, 9, 71] [⟨some 29, (.faddr 0), [.tmp 8], none⟩,
                 ⟨some 30, (.ld false 1), [.tmp 29], none⟩,
                 ⟨some 31, (.faddr 0), [.tmp 9], none⟩,
                 ⟨some 32, (.ld false 1), [.tmp 31], none⟩,
                 ⟨some 33, (.eqg true 6), [.tmp 30, .tmp 32], none⟩,
                 ⟨some 34, .mv, [.tmp 33], none⟩,
                 ⟨some 35, .mv, [.tmp 2], some (34, false)⟩,
                 ⟨some 36, .mv, [.tmp 35], some (34, false)⟩,
                 ⟨some 37, (.faddr 1), [.tmp 8], some (36, true)⟩,
                 ⟨some 38, (.ld false 1), [.tmp 37], some (36, true)⟩,
                 ⟨some 39, (.faddr 1), [.tmp 9], some (36, true)⟩,
                 ⟨some 40, (.ld false 1), [.tmp 39], some (36, true)⟩,
                 ⟨some 41, (.eqg true 6), [.tmp 38, .tmp 40], some (36, true)⟩,
                 ⟨some 42, .pick, [.tmp 36, .tmp 41, .const (.bool false)], some (34, false)⟩,
                 ⟨some 43, .pick, [.tmp 34, .const (.bool true), .tmp 42], none⟩,
                 ⟨some 44, .mv, [.tmp 43], none⟩,
                 ⟨some 45, (.faddr 2), [.tmp 8], some (44, false)⟩,
                 ⟨some 46, (.ld false 1), [.tmp 45], some (44, false)⟩,
                 ⟨some 47, (.faddr 2), [.tmp 9], some (44, false)⟩,
                 ⟨some 48, (.ld false 1), [.tmp 47], some (44, false)⟩,
                 ⟨some 49, (.eqg true 6), [.tmp 46, .tmp 48], some (44, false)⟩,
                 ⟨some 50, .pick, [.tmp 44, .const (.bool true), .tmp 49], none⟩,
                 ⟨some 51, .mv, [.tmp 50], none⟩,
                 ⟨some 52, (.faddr 3), [.tmp 8], some (51, false)⟩,
                 ⟨some 53, (.ld false 1), [.tmp 52], some (51, false)⟩,
                 ⟨some 54, (.faddr 3), [.tmp 9], some (51, false)⟩,
                 ⟨some 55, (.ld false 1), [.tmp 54], some (51, false)⟩,
                 ⟨some 56, (.eqg true 6), [.tmp 53, .tmp 55], some (51, false)⟩,
                 ⟨some 57, .pick, [.tmp 51, .const (.bool true), .tmp 56], none⟩,
                 ⟨some 58, .mv, [.tmp 57], none⟩,
                 ⟨some 59, (.faddr 4), [.tmp 8], some (58, false)⟩,
                 ⟨some 60, (.ld false 1), [.tmp 59], some (58, false)⟩,
                 ⟨some 61, (.faddr 4), [.tmp 9], some (58, false)⟩,
                 ⟨some 62, (.ld false 1), [.tmp 61], some (58, false)⟩,
                 ⟨some 63, (.eqg true 0), [.tmp 60, .tmp 62], some (58, false)⟩,
                 ⟨some 64, .pick, [.tmp 58, .const (.bool true), .tmp 63], none⟩,
                 ⟨some 65, .mv, [.tmp 64], none⟩,
                 ⟨some 66, (.faddr 5), [.tmp 8], some (65, false)⟩,
                 ⟨some 67, (.ld false 1), [.tmp 66], some (65, false)⟩,
                 ⟨some 68, (.faddr 5), [.tmp 9], some (65, false)⟩,
                 ⟨some 69, (.ld false 1), [.tmp 68], some (65, false)⟩,
                 ⟨some 70, (.eqg true 0), [.tmp 67, .tmp 69], some (65, false)⟩,
                 ⟨some 71, .pick, [.tmp 65, .const (.bool true), .tmp 70], none⟩])
               (.cond (.tmp 71)
                (.seq (.run [6] [⟨some 6, .mv, [.const (.bool false)], none⟩])
                 .ret)
                .skip))
              (.seq (.run [0, 1, 2, 7, 87] [⟨some 72, (.faddr 6), [.tmp 8], none⟩,
                 ⟨some 73, (.ld false 1), [.tmp 72], none⟩,
                 ⟨some 74, (.faddr 6), [.tmp 9], none⟩,
                 ⟨some 75, (.ld false 1), [.tmp 74], none⟩,
                 ⟨some 76, .mv, [.tmp 2], none⟩,
                 ⟨some 77, (.call 9), [.tmp 73, .tmp 75, .tmp 76], none⟩,
                 ⟨some 78, (.un .not), [.tmp 77], none⟩,
                 ⟨some 79, .mv, [.tmp 78], none⟩,
                 ⟨some 80, (.faddr 7), [.tmp 8], some (79, false)⟩,
                 ⟨some 81, (.ld false 1), [.tmp 80], some (79, false)⟩,
                 ⟨some 82, (.faddr 7), [.tmp 9], some (79, false)⟩,
                 ⟨some 83, (.ld false 1), [.tmp 82], some (79, false)⟩,
                 ⟨some 84, .mv, [.tmp 2], some (79, false)⟩,
                 ⟨some 85, (.call 9), [.tmp 81, .tmp 83, .tmp 84], some (79, false)⟩,
                 ⟨some 86, (.un .not), [.tmp 85], some (79, false)⟩,
                 ⟨some 87, .pick, [.tmp 79, .const (.bool true), .tmp 86], none⟩])
               (.cond (.tmp 87)
                (.seq (.run [6] [⟨some 6, .mv, [.const (.bool false)], none⟩])
                 .ret)
                .skip))))))
          (.run [0, 1, 2, 7] [⟨some 19, .mv, [.tmp 7], none⟩,
            ⟨some 20, (.bin .add), [.tmp 19, .const (.int .i64 1)], none⟩,
            ⟨some 7, .mv, [.tmp 20], none⟩]))))))
     (.seq (.run [6] [⟨some 6, .mv, [.const (.bool true)], none⟩])
      .ret))))⟩

theorem f9_ok : compF Go.Proofs.Try.prog 9 f9.body.hints = some f9 := by kernel_rfl


def f10 : AFun := ⟨22, 1, [.slot 2],
  (.seq (.run [0] [⟨some 2, .mv, [.const (.slice none 0 0)], none⟩])
   (.seq (.run [0, 3] [⟨some 3, .mv, [.const (.slice none 0 0)], none⟩])
    (.seq (.seq (.run [3, 6, 7, 8] [⟨some 6, .mv, [.tmp 0], none⟩,
        ⟨some 7, (.len 1), [.tmp 6], none⟩,
        ⟨some 8, .mv, [.const (.int .i64 0)], none⟩])
      (.block 0 (.loop [3, 6, 7, 8] (.seq (.run [3, 6, 7, 8, 9] [⟨some 9, (.bin .lss), [.tmp 8, .tmp 7], none⟩])
         (.seq (.cond (.tmp 9)
           .skip
           (.exit 0))
          (.seq (.block 1 (.seq (.run [3, 5, 6, 7, 8] [⟨some 10, (.iaddr 8), [.tmp 6, .tmp 8], none⟩,
               ⟨some 11, (.ld true 8), [.tmp 10], none⟩,
               ⟨some 5, (.alloc [(.int .i64 0), (.int .i64 0), (.str []), (.str []), (.bool false), (.bool false), (.sl [] .nil), (.sl [] .nil)]), [], none⟩,
               ⟨none, (.st 8), [.tmp 5, .tmp 11], none⟩])
             (.seq (.run [3, 5, 6, 7, 8, 14] [⟨some 12, (.faddr 0), [.tmp 5], none⟩,
                ⟨some 13, (.ld false 1), [.tmp 12], none⟩,
                ⟨some 14, (.eqg false 6), [.tmp 13, .const (.int .i64 6)], none⟩])
              (.cond (.tmp 14)
               (.run [3, 6, 7, 8] [⟨some 15, .mv, [.tmp 3], none⟩,
                 ⟨some 16, (.faddr 2), [.tmp 5], none⟩,
                 ⟨some 17, (.ld false 1), [.tmp 16], none⟩,
                 ⟨some 18, (.bslice 1 1 [(.str [])] [(0, 1)]), [.tmp 17], none⟩,
                 ⟨some 19, (.app 1 16), [.tmp 15, .tmp 18], none⟩,
                 ⟨some 3, .mv, [.tmp 19], none⟩])
               .skip))))
           (.run [3, 6, 7, 8] [⟨some 20, (.bin .add), [.tmp 8, .const (.int .i64 1)], none⟩,
             ⟨some 8, .mv, [.tmp 20], none⟩])))))))
     (.seq (.run [2] [⟨some 21, .mv, [.tmp 3], none⟩,
        ⟨some 2, .mv, [.tmp 21], none⟩])
      .ret))))⟩

theorem f10_ok : compF Go.Proofs.Try.prog 10 f10.body.hints = some f10 := by kernel_rfl


def f11 : AFun := ⟨13, 1, [.slot 2],
  (.seq (.run [1] [⟨some 1, .box, [.tmp 0], none⟩,
     ⟨some 2, .mv, [.const (.slice none 0 0)], none⟩])
   (.seq (.run [1, 3] [⟨some 3, (.alloc [(.sl [] .nil)]), [], none⟩])
    (.seq (.run [1, 3, 4] [⟨some 4, (.alloc [.nilf]), [], none⟩])
     (.seq (.run [1, 3, 4] [⟨some 5, (.mkfn (.func 20) 0), [.tmp 1, .tmp 3, .tmp 4], none⟩,
        ⟨none, (.st 1), [.tmp 4, .tmp 5], none⟩])
      (.seq (.runD [3] [⟨0, ⟨some 6, (.ld false 1), [.tmp 1], none⟩, []⟩,
         ⟨2, ⟨some 8, (.ld false 1), [.tmp 4], none⟩, []⟩,
         ⟨1, ⟨some 7, (.call 19), [.tmp 6], none⟩, [2]⟩,
         ⟨3, ⟨some 9, (.call 21), [.tmp 7, .tmp 8], none⟩, []⟩])
       (.seq (.run [3] [⟨some 10, (.ld false 1), [.tmp 3], none⟩,
          ⟨some 11, (.call 22), [.tmp 10], none⟩])
        (.seq (.run [2] [⟨some 12, (.ld false 1), [.tmp 3], none⟩,
           ⟨some 2, .mv, [.tmp 12], none⟩])
         .ret)))))))⟩

theorem f11_ok : compF Go.Proofs.Try.prog 11 f11.body.hints = some f11 := by kernel_rfl


def f12 : AFun := ⟨9, 2, [.slot 4],
  (.seq (.run [0, 1] [⟨some 4, .mv, [.const (.bool false)], none⟩])
   (.seq (.run [4] [⟨some 5, .mv, [.tmp 0], none⟩,
      ⟨some 6, .mv, [.tmp 1], none⟩,
      ⟨some 7, (.call 23), [.tmp 5, .tmp 6], none⟩,
      ⟨some 8, (.bin .geq), [.tmp 7, .const (.int .i64 0)], none⟩,
      ⟨some 4, .mv, [.tmp 8], none⟩])
    .ret))⟩

theorem f12_ok : compF Go.Proofs.Try.prog 12 f12.body.hints = some f12 := by kernel_rfl


def f13 : AFun := ⟨42, 1, [.slot 2, .slot 3],
  (.seq (.run [0] [⟨some 2, .mv, [.const (.int .i64 0)], none⟩,
     ⟨some 3, .mv, [.const (.int .i64 0)], none⟩])
   (.seq (.run [0, 4] [⟨some 9, .mkmap, [], none⟩,
      ⟨some 4, (.alloc [.nilm]), [], none⟩,
      ⟨none, (.st 1), [.tmp 4, .tmp 9], none⟩])
    (.seq (.seq (.run [0, 4, 10, 11, 12] [⟨some 10, .mv, [.tmp 0], none⟩,
        ⟨some 11, (.len 1), [.tmp 10], none⟩,
        ⟨some 12, .mv, [.const (.int .i64 0)], none⟩])
      (.block 0 (.loop [0, 4, 10, 11, 12] (.seq (.run [0, 4, 10, 11, 12, 13] [⟨some 13, (.bin .lss), [.tmp 12, .tmp 11], none⟩])
         (.seq (.cond (.tmp 13)
           .skip
           (.exit 0))
          (.seq (.block 1 (.seq (.run [0, 4, 6, 10, 11, 12] [⟨some 14, (.iaddr 8), [.tmp 10, .tmp 12], none⟩,
               ⟨some 15, (.ld true 8), [.tmp 14], none⟩,
               ⟨some 6, (.alloc [(.int .i64 0), (.int .i64 0), (.str []), (.str []), (.bool false), (.bool false), (.sl [] .nil), (.sl [] .nil)]), [], none⟩,
               ⟨none, (.st 8), [.tmp 6, .tmp 15], none⟩])
             (.seq (.block 2 (.seq (.run [0, 4, 6, 10, 11, 12, 16] [⟨some 17, (.faddr 0), [.tmp 6], none⟩,
                  ⟨some 18, (.ld false 1), [.tmp 17], none⟩,
                  ⟨some 19, (.eqg true 6), [.tmp 18, .const (.int .i64 6)], none⟩,
                  ⟨some 16, .mv, [.tmp 19], none⟩])
                (.cond (.tmp 16)
                 (.exit 1)
                 (.seq (.run [0, 4, 6, 10, 11, 12, 20] [⟨some 21, (.ld false 1), [.tmp 4], none⟩,
                    ⟨some 22, (.faddr 2), [.tmp 6], none⟩,
                    ⟨some 23, (.ld false 1), [.tmp 22], none⟩,
                    ⟨some 24, (.lkp 2 (.bool false) false), [.tmp 21, .tmp 23], none⟩,
                    ⟨some 20, .mv, [.tmp 24], none⟩])
                  (.cond (.tmp 20)
                   (.seq (.run [2, 3] [⟨some 25, (.faddr 1), [.tmp 6], none⟩,
                      ⟨some 26, (.ld false 1), [.tmp 25], none⟩,
                      ⟨some 2, .mv, [.tmp 26], none⟩,
                      ⟨some 3, .mv, [.const (.int .i64 12)], none⟩])
                    .ret)
                   (.seq (.run [0, 4, 6, 10, 11, 12, 27] [⟨some 28, (.ld false 1), [.tmp 4], none⟩,
                      ⟨some 29, (.len 2), [.tmp 28], none⟩,
                      ⟨some 30, (.eqg false 6), [.tmp 29, .const (.int .i64 64)], none⟩,
                      ⟨some 27, .mv, [.tmp 30], none⟩])
                    (.cond (.tmp 27)
                     (.seq (.run [2, 3] [⟨some 31, (.faddr 1), [.tmp 6], none⟩,
                        ⟨some 32, (.ld false 1), [.tmp 31], none⟩,
                        ⟨some 2, .mv, [.tmp 32], none⟩,
                        ⟨some 3, .mv, [.const (.int .i64 14)], none⟩])
                      .ret)
                     .skip)))))))
              (.run [0, 4, 10, 11, 12] [⟨some 33, (.ld false 1), [.tmp 4], none⟩,
                ⟨some 34, (.faddr 2), [.tmp 6], none⟩,
                ⟨some 35, (.ld false 1), [.tmp 34], none⟩,
                ⟨none, (.mup 2), [.tmp 33, .tmp 35, .const (.bool true)], none⟩]))))
           (.run [0, 4, 10, 11, 12] [⟨some 36, (.bin .add), [.tmp 12, .const (.int .i64 1)], none⟩,
             ⟨some 12, .mv, [.tmp 36], none⟩])))))))
     (.seq (.run [0, 4, 7, 8] [⟨some 7, (.alloc [(.int .i64 0)]), [], none⟩,
        ⟨some 8, (.alloc [(.int .i64 0)]), [], none⟩,
        ⟨none, (.st 1), [.tmp 7, .const (.int .i64 0)], none⟩,
        ⟨none, (.st 1), [.tmp 8, .const (.int .i64 0)], none⟩])
      (.seq (.run [7, 8] [⟨some 37, .mv, [.tmp 0], none⟩,
         ⟨some 38, (.mkfn (.func 24) 0), [.tmp 4, .tmp 7, .tmp 8], none⟩,
         ⟨some 39, (.call 21), [.tmp 37, .tmp 38], none⟩])
       (.seq (.runD [2, 3] [⟨0, ⟨some 40, (.ld false 1), [.tmp 7], none⟩, []⟩,
          ⟨1, ⟨some 41, (.ld false 1), [.tmp 8], none⟩, []⟩,
          ⟨2, ⟨some 2, .mv, [.tmp 40], none⟩, []⟩,
          ⟨3, ⟨some 3, .mv, [.tmp 41], none⟩, []⟩])
        .ret))))))⟩

theorem f13_ok : compF Go.Proofs.Try.prog 13 f13.body.hints = some f13 := by kernel_rfl


def f14 : AFun := ⟨41, 1, [.slot 2],
  (.seq (.run [0] [⟨some 2, .mv, [.const (.slice none 0 0)], none⟩])
   (.seq (.run [0, 3] [⟨some 3, .mv, [.const (.slice none 0 0)], none⟩])
    (.seq (.seq (.run [0, 3, 4] [⟨some 4, .mv, [.const (.int .i64 0)], none⟩])
      (.block 0 (.loop [0, 3, 4] (.seq (.seq (.run [0, 3, 4, 8] [⟨some 5, .mv, [.tmp 4], none⟩,
            ⟨some 6, .mv, [.tmp 0], none⟩,
            ⟨some 7, (.len 1), [.tmp 6], none⟩,
            ⟨some 8, (.bin .lss), [.tmp 5, .tmp 7], none⟩])
          (.cond (.tmp 8)
           .skip
           (.exit 0)))
         (.seq (.block 1 (.seq (.seq (.run [0, 3, 4, 16] [⟨some 11, .mv, [.tmp 0], none⟩,
               ⟨some 12, .mv, [.tmp 4], none⟩,
               ⟨some 13, (.iaddr 8), [.tmp 11, .tmp 12], none⟩,
               ⟨some 14, (.faddr 0), [.tmp 13], none⟩,
               ⟨some 15, (.ld false 1), [.tmp 14], none⟩,
               ⟨some 16, (.eqg false 6), [.tmp 15, .const (.int .i64 4)], none⟩])
             (.cond (.tmp 16)
              (.run [0, 3, 4] [⟨some 17, .mv, [.tmp 3], none⟩,
                ⟨some 18, .mv, [.tmp 0], none⟩,
                ⟨some 19, .mv, [.tmp 4], none⟩,
                ⟨some 20, (.iaddr 8), [.tmp 18, .tmp 19], none⟩,
                ⟨some 21, (.ld true 8), [.tmp 20], none⟩,
                ⟨some 22, (.bslice 8 1 [(.int .i64 0), (.int .i64 0), (.str []), (.str []), (.bool false), (.bool false), (.sl [] .nil), (.sl [] .nil)] [(0, 8)]), [.tmp 21], none⟩,
                ⟨some 23, (.app 8 104), [.tmp 17, .tmp 22], none⟩,
                ⟨some 3, .mv, [.tmp 23], none⟩])
              .skip))
            (.seq (.run [0, 3, 4] [⟨some 24, .mv, [.tmp 3], none⟩,
               ⟨some 25, .mv, [.tmp 0], none⟩,
               ⟨some 26, .mv, [.tmp 4], none⟩,
               ⟨some 27, (.iaddr 8), [.tmp 25, .tmp 26], none⟩,
               ⟨some 28, (.faddr 6), [.tmp 27], none⟩,
               ⟨some 29, (.ld false 1), [.tmp 28], none⟩,
               ⟨some 30, (.call 14), [.tmp 29], none⟩,
               ⟨some 31, (.app 8 104), [.tmp 24, .tmp 30], none⟩,
               ⟨some 3, .mv, [.tmp 31], none⟩])
             (.run [0, 3, 4] [⟨some 32, .mv, [.tmp 3], none⟩,
               ⟨some 33, .mv, [.tmp 0], none⟩,
               ⟨some 34, .mv, [.tmp 4], none⟩,
               ⟨some 35, (.iaddr 8), [.tmp 33, .tmp 34], none⟩,
               ⟨some 36, (.faddr 7), [.tmp 35], none⟩,
               ⟨some 37, (.ld false 1), [.tmp 36], none⟩,
               ⟨some 38, (.call 14), [.tmp 37], none⟩,
               ⟨some 39, (.app 8 104), [.tmp 32, .tmp 38], none⟩,
               ⟨some 3, .mv, [.tmp 39], none⟩]))))
          (.run [0, 3, 4] [⟨some 9, .mv, [.tmp 4], none⟩,
            ⟨some 10, (.bin .add), [.tmp 9, .const (.int .i64 1)], none⟩,
            ⟨some 4, .mv, [.tmp 10], none⟩]))))))
     (.seq (.run [2] [⟨some 40, .mv, [.tmp 3], none⟩,
        ⟨some 2, .mv, [.tmp 40], none⟩])
      .ret))))⟩

theorem f14_ok : compF Go.Proofs.Try.prog 14 f14.body.hints = some f14 := by kernel_rfl


def f15 : AFun := ⟨36, 1, [.slot 2, .slot 3, .slot 4],
  (.seq (.run [0] [⟨some 2, .mv, [.const (.slice none 0 0)], none⟩,
     ⟨some 3, .mv, [.const (.int .i64 0)], none⟩,
     ⟨some 4, .mv, [.const (.int .i64 0)], none⟩])
   (.seq (.run [0, 5, 6, 7] [⟨some 11, .mv, [.tmp 0], none⟩,
      ⟨some 12, (.call 25), [.tmp 11], none⟩,
      ⟨some 10, .mv, [.tmp 12], none⟩,
      ⟨some 13, (.ext 0), [.tmp 10], none⟩,
      ⟨some 14, (.ext 1), [.tmp 10], none⟩,
      ⟨some 15, (.ext 2), [.tmp 10], none⟩,
      ⟨some 5, .mv, [.tmp 13], none⟩,
      ⟨some 6, .mv, [.tmp 14], none⟩,
      ⟨some 7, .mv, [.tmp 15], none⟩])
    (.seq (.seq (.run [0, 5, 6, 7, 17] [⟨some 16, .mv, [.tmp 7], none⟩,
        ⟨some 17, (.eqg true 6), [.tmp 16, .const (.int .i64 0)], none⟩])
      (.cond (.tmp 17)
       (.seq (.run [2, 3, 4] [⟨some 18, .mv, [.tmp 6], none⟩,
          ⟨some 19, .mv, [.tmp 7], none⟩,
          ⟨some 2, .mv, [.const (.slice none 0 0)], none⟩,
          ⟨some 3, .mv, [.tmp 18], none⟩,
          ⟨some 4, .mv, [.tmp 19], none⟩])
        .ret)
       .skip))
     (.seq (.run [0, 8] [⟨some 20, .mv, [.tmp 5], none⟩,
        ⟨some 21, (.build [(.sl [] .nil), (.int .i64 0), (.int .i64 0)] [(0, 1)]), [.tmp 20], none⟩,
        ⟨some 22, .box, [.tmp 21], none⟩,
        ⟨some 8, .mv, [.tmp 22], none⟩])
      (.seq (.run [0, 6, 7, 9] [⟨some 24, .mv, [.tmp 8], none⟩,
         ⟨some 25, (.call 26), [.tmp 24, .const (.int .i64 (-1)), .const (.bool false), .const (.int .i64 0)], none⟩,
         ⟨some 23, .mv, [.tmp 25], none⟩,
         ⟨some 26, (.ext 0), [.tmp 23], none⟩,
         ⟨some 27, (.ext 1), [.tmp 23], none⟩,
         ⟨some 28, (.ext 2), [.tmp 23], none⟩,
         ⟨some 9, .mv, [.tmp 26], none⟩,
         ⟨some 6, .mv, [.tmp 27], none⟩,
         ⟨some 7, .mv, [.tmp 28], none⟩])
       (.seq (.seq (.run [0, 6, 7, 9, 30] [⟨some 29, .mv, [.tmp 7], none⟩,
           ⟨some 30, (.eqg true 6), [.tmp 29, .const (.int .i64 0)], none⟩])
         (.cond (.tmp 30)
          (.seq (.run [2, 3, 4] [⟨some 31, .mv, [.tmp 6], none⟩,
             ⟨some 32, .mv, [.tmp 7], none⟩,
             ⟨some 2, .mv, [.const (.slice none 0 0)], none⟩,
             ⟨some 3, .mv, [.tmp 31], none⟩,
             ⟨some 4, .mv, [.tmp 32], none⟩])
           .ret)
          .skip))
        (.seq (.run [2, 3, 4] [⟨some 33, .mv, [.tmp 9], none⟩,
           ⟨some 34, .mv, [.tmp 0], none⟩,
           ⟨some 35, (.len 0), [.tmp 34], none⟩,
           ⟨some 2, .mv, [.tmp 33], none⟩,
           ⟨some 3, .mv, [.tmp 35], none⟩,
           ⟨some 4, .mv, [.const (.int .i64 0)], none⟩])
         .ret)))))))⟩

theorem f15_ok : compF Go.Proofs.Try.prog 15 f15.body.hints = some f15 := by kernel_rfl


def f16 : AFun := ⟨19, 2, [.slot 4],
  (.seq (.run [0, 1] [⟨some 4, .mv, [.const (.int .i64 0)], none⟩])
   (.seq (.seq (.run [0, 1, 7, 8] [⟨some 6, .mv, [.tmp 0], none⟩,
       ⟨some 7, (.len 1), [.tmp 6], none⟩,
       ⟨some 8, .mv, [.const (.int .i64 0)], none⟩])
     (.block 0 (.loop [0, 1, 7, 8] (.seq (.run [0, 1, 7, 8, 9] [⟨some 9, (.bin .lss), [.tmp 8, .tmp 7], none⟩])
        (.seq (.cond (.tmp 9)
          .skip
          (.exit 0))
         (.seq (.block 1 (.seq (.run [0, 1, 5, 7, 8] [⟨some 10, .mv, [.tmp 8], none⟩,
              ⟨some 5, .mv, [.tmp 10], none⟩])
            (.seq (.run [0, 1, 5, 7, 8, 16] [⟨some 11, .mv, [.tmp 1], none⟩,
               ⟨some 12, .mv, [.tmp 0], none⟩,
               ⟨some 13, .mv, [.tmp 5], none⟩,
               ⟨some 14, (.iaddr 8), [.tmp 12, .tmp 13], none⟩,
               ⟨some 15, (.ld true 8), [.tmp 14], none⟩,
               ⟨some 16, .callv, [.tmp 11, .tmp 15], none⟩])
             (.cond (.tmp 16)
              (.seq (.run [4] [⟨some 17, .mv, [.tmp 5], none⟩,
                 ⟨some 4, .mv, [.tmp 17], none⟩])
               .ret)
              .skip))))
          (.run [0, 1, 7, 8] [⟨some 18, (.bin .add), [.tmp 8, .const (.int .i64 1)], none⟩,
            ⟨some 8, .mv, [.tmp 18], none⟩])))))))
    (.seq (.run [4] [⟨some 4, .mv, [.const (.int .i64 (-1))], none⟩])
     .ret)))⟩

theorem f16_ok : compF Go.Proofs.Try.prog 16 f16.body.hints = some f16 := by kernel_rfl


def f17 : AFun := ⟨13, 2, [.slot 3],
  (.seq (.run [1, 2] [⟨some 2, .box, [.tmp 0], none⟩,
     ⟨some 3, .mv, [.const (.bool false)], none⟩])
   (.seq (.run [3] [⟨some 4, (.faddr 0), [.tmp 2], none⟩,
      ⟨some 5, (.ld false 1), [.tmp 4], none⟩,
      ⟨some 6, (.eqg false 6), [.tmp 5, .const (.int .i64 6)], none⟩,
      ⟨some 7, .mv, [.tmp 6], none⟩,
      ⟨some 8, (.faddr 2), [.tmp 2], some (7, true)⟩,
      ⟨some 9, (.ld false 1), [.tmp 8], some (7, true)⟩,
      ⟨some 10, (.ld false 1), [.tmp 1], some (7, true)⟩,
      ⟨some 11, (.eqg false 6), [.tmp 9, .tmp 10], some (7, true)⟩,
      ⟨some 12, .pick, [.tmp 7, .tmp 11, .const (.bool false)], none⟩,
      ⟨some 3, .mv, [.tmp 12], none⟩])
    .ret))⟩

theorem f17_ok : compF Go.Proofs.Try.prog 17 f17.body.hints = some f17 := by kernel_rfl


def f18 : AFun := ⟨26, 2, [.slot 4],
  (.seq (.run [0, 1] [⟨some 4, .mv, [.const (.bool false)], none⟩])
   (.seq (.seq (.run [0, 1, 10] [⟨some 6, .mv, [.tmp 0], none⟩,
       ⟨some 7, (.len 1), [.tmp 6], none⟩,
       ⟨some 8, .mv, [.tmp 1], none⟩,
       ⟨some 9, (.len 1), [.tmp 8], none⟩,
       ⟨some 10, (.eqg true 6), [.tmp 7, .tmp 9], none⟩])
     (.cond (.tmp 10)
      (.seq (.run [4] [⟨some 4, .mv, [.const (.bool false)], none⟩])
       .ret)
      .skip))
    (.seq (.seq (.run [0, 1, 12, 13] [⟨some 11, .mv, [.tmp 0], none⟩,
        ⟨some 12, (.len 1), [.tmp 11], none⟩,
        ⟨some 13, .mv, [.const (.int .i64 0)], none⟩])
      (.block 0 (.loop [0, 1, 12, 13] (.seq (.run [0, 1, 12, 13, 14] [⟨some 14, (.bin .lss), [.tmp 13, .tmp 12], none⟩])
         (.seq (.cond (.tmp 14)
           .skip
           (.exit 0))
          (.seq (.block 1 (.seq (.run [0, 1, 5, 12, 13] [⟨some 15, .mv, [.tmp 13], none⟩,
               ⟨some 5, .mv, [.tmp 15], none⟩])
             (.seq (.runD [0, 1, 12, 13, 24] [⟨0, ⟨some 16, .mv, [.tmp 0], none⟩, []⟩,
                ⟨1, ⟨some 17, .mv, [.tmp 5], none⟩, []⟩,
                ⟨2, ⟨some 18, (.iaddr 1), [.tmp 16, .tmp 17], none⟩, []⟩,
                ⟨3, ⟨some 19, (.ld false 1), [.tmp 18], none⟩, []⟩,
                ⟨4, ⟨some 20, .mv, [.tmp 1], none⟩, []⟩,
                ⟨5, ⟨some 21, .mv, [.tmp 5], none⟩, []⟩,
                ⟨6, ⟨some 22, (.iaddr 1), [.tmp 20, .tmp 21], none⟩, []⟩,
                ⟨7, ⟨some 23, (.ld false 1), [.tmp 22], none⟩, []⟩,
                ⟨8, ⟨some 24, (.eqg true 6), [.tmp 19, .tmp 23], none⟩, []⟩])
              (.cond (.tmp 24)
               (.seq (.run [4] [⟨some 4, .mv, [.const (.bool false)], none⟩])
                .ret)
               .skip))))
           (.run [0, 1, 12, 13] [⟨some 25, (.bin .add), [.tmp 13, .const (.int .i64 1)], none⟩,
             ⟨some 13, .mv, [.tmp 25], none⟩])))))))
     (.seq (.run [4] [⟨some 4, .mv, [.const (.bool true)], none⟩])
      .ret))))⟩

theorem f18_ok : compF Go.Proofs.Try.prog 18 f18.body.hints = some f18 := by kernel_rfl


def f19 : AFun := ⟨6, 1, [.slot 2],
  (.seq (.run [0] [⟨some 2, .mv, [.const (.slice none 0 0)], none⟩])
   (.seq (.run [2] [⟨some 3, .mv, [.tmp 0], none⟩,
      ⟨some 4, (.call 28), [.tmp 3], none⟩,
      ⟨some 5, (.call 27), [.tmp 4, .func 29], none⟩,
      ⟨some 2, .mv, [.tmp 5], none⟩])
    .ret))⟩

theorem f19_ok : compF Go.Proofs.Try.prog 19 f19.body.hints = some f19 := by kernel_rfl


def f20 : AFun := ⟨32, 4, [.slot 5],
  (.seq (.run [1, 2, 3, 4] [⟨some 4, .box, [.tmp 0], none⟩,
     ⟨some 5, .mv, [.const (.bool false)], none⟩])
   (.seq (.seq (.run [2, 3, 6, 7] [⟨some 9, (.ld false 1), [.tmp 1], none⟩,
       ⟨some 10, (.faddr 2), [.tmp 4], none⟩,
       ⟨some 11, (.ld false 1), [.tmp 10], none⟩,
       ⟨some 12, (.call 6), [.tmp 9, .tmp 11], none⟩,
       ⟨some 8, .mv, [.tmp 12], none⟩,
       ⟨some 13, (.ext 0), [.tmp 8], none⟩,
       ⟨some 14, (.ext 1), [.tmp 8], none⟩,
       ⟨some 6, (.alloc [(.int .i64 0), (.int .i64 0), (.str []), (.str []), (.bool false), (.bool false), (.sl [] .nil), (.sl [] .nil)]), [], none⟩,
       ⟨none, (.st 8), [.tmp 6, .tmp 13], none⟩,
       ⟨some 7, .mv, [.tmp 14], none⟩])
     (.seq (.run [2, 3, 6, 22] [⟨some 15, .mv, [.tmp 7], none⟩,
        ⟨some 16, .mv, [.tmp 15], none⟩,
        ⟨some 17, (.ld false 1), [.tmp 2], some (16, true)⟩,
        ⟨some 18, (.faddr 2), [.tmp 6], some (16, true)⟩,
        ⟨some 19, (.ld false 1), [.tmp 18], some (16, true)⟩,
        ⟨some 20, (.call 12), [.tmp 17, .tmp 19], some (16, true)⟩,
        ⟨some 21, (.un .not), [.tmp 20], some (16, true)⟩,
        ⟨some 22, .pick, [.tmp 16, .tmp 21, .const (.bool false)], none⟩])
      (.cond (.tmp 22)
       (.seq (.run [3, 6] [⟨some 23, (.ld false 1), [.tmp 2], none⟩,
          ⟨some 24, (.faddr 2), [.tmp 6], none⟩,
          ⟨some 25, (.ld false 1), [.tmp 24], none⟩,
          ⟨some 26, (.bslice 1 1 [(.str [])] [(0, 1)]), [.tmp 25], none⟩,
          ⟨some 27, (.app 1 16), [.tmp 23, .tmp 26], none⟩,
          ⟨none, (.st 1), [.tmp 2, .tmp 27], none⟩])
        (.run [] [⟨some 28, (.faddr 6), [.tmp 6], none⟩,
          ⟨some 29, (.ld false 1), [.tmp 28], none⟩,
          ⟨some 30, (.ld false 1), [.tmp 3], none⟩,
          ⟨some 31, (.call 21), [.tmp 29, .tmp 30], none⟩]))
       .skip)))
    (.seq (.run [5] [⟨some 5, .mv, [.const (.bool true)], none⟩])
     .ret)))⟩

theorem f20_ok : compF Go.Proofs.Try.prog 20 f20.body.hints = some f20 := by kernel_rfl


def f21 : AFun := ⟨37, 2, [.slot 4],
  (.seq (.run [0, 1] [⟨some 4, .mv, [.const (.bool false)], none⟩])
   (.seq (.seq (.run [1, 7, 8, 9] [⟨some 7, .mv, [.tmp 0], none⟩,
       ⟨some 8, (.len 1), [.tmp 7], none⟩,
       ⟨some 9, .mv, [.const (.int .i64 0)], none⟩])
     (.block 0 (.loop [1, 7, 8, 9] (.seq (.run [1, 7, 8, 9, 10] [⟨some 10, (.bin .lss), [.tmp 9, .tmp 8], none⟩])
        (.seq (.cond (.tmp 10)
          .skip
          (.exit 0))
         (.seq (.block 1 (.seq (.run [1, 6, 7, 8, 9] [⟨some 11, (.iaddr 8), [.tmp 7, .tmp 9], none⟩,
              ⟨some 12, (.ld true 8), [.tmp 11], none⟩,
              ⟨some 6, (.alloc [(.int .i64 0), (.int .i64 0), (.str []), (.str []), (.bool false), (.bool false), (.sl [] .nil), (.sl [] .nil)]), [], none⟩,
              ⟨none, (.st 8), [.tmp 6, .tmp 12], none⟩])
            (.seq (.run [1, 7, 8, 9, 35] [⟨some 13, (.faddr 0), [.tmp 6], none⟩,
               ⟨some 14, (.ld false 1), [.tmp 13], none⟩,
               ⟨some 15, (.eqg false 6), [.tmp 14, .const (.int .i64 4)], none⟩,
               ⟨some 16, .mv, [.tmp 15], none⟩,
               ⟨some 17, .mv, [.tmp 1], some (16, true)⟩,
               ⟨some 18, (.ld true 8), [.tmp 6], some (16, true)⟩,
               ⟨some 19, .callv, [.tmp 17, .tmp 18], some (16, true)⟩,
               ⟨some 20, (.un .not), [.tmp 19], some (16, true)⟩,
               ⟨some 21, .pick, [.tmp 16, .tmp 20, .const (.bool false)], none⟩,
               ⟨some 22, .mv, [.tmp 21], none⟩,
               ⟨some 23, (.faddr 6), [.tmp 6], some (22, false)⟩,
               ⟨some 24, (.ld false 1), [.tmp 23], some (22, false)⟩,
               ⟨some 25, .mv, [.tmp 1], some (22, false)⟩,
               ⟨some 26, (.call 21), [.tmp 24, .tmp 25], some (22, false)⟩,
               ⟨some 27, (.un .not), [.tmp 26], some (22, false)⟩,
               ⟨some 28, .pick, [.tmp 22, .const (.bool true), .tmp 27], none⟩,
               ⟨some 29, .mv, [.tmp 28], none⟩,
               ⟨some 30, (.faddr 7), [.tmp 6], some (29, false)⟩,
               ⟨some 31, (.ld false 1), [.tmp 30], some (29, false)⟩,
               ⟨some 32, .mv, [.tmp 1], some (29, false)⟩,
               ⟨some 33, (.call 21), [.tmp 31, .tmp 32], some (29, false)⟩,
               ⟨some 34, (.un .not), [.tmp 33], some (29, false)⟩,
               ⟨some 35, .pick, [.tmp 29, .const (.bool true), .tmp 34], none⟩])
             (.cond (.tmp 35)
              (.seq (.run [4] [⟨some 4, .mv, [.const (.bool false)], none⟩])
               .ret)
              .skip))))
          (.run [1, 7, 8, 9] [⟨some 36, (.bin .add), [.tmp 9, .const (.int .i64 1)], none⟩,
            ⟨some 9, .mv, [.tmp 36], none⟩])))))))
    (.seq (.run [4] [⟨some 4, .mv, [.const (.bool true)], none⟩])
     .ret)))⟩

theorem f21_ok : compF Go.Proofs.Try.prog 21 f21.body.hints = some f21 := by kernel_rfl


def f22 : AFun := ⟨11, 1, [],
  (.seq (.run [0, 2] [⟨some 3, .mv, [.tmp 0], none⟩,
     ⟨some 4, (.len 1), [.tmp 3], none⟩,
     ⟨some 2, .mv, [.tmp 4], none⟩])
   (.run [] [⟨some 5, .mv, [.tmp 0], none⟩,
     ⟨some 6, .mv, [.tmp 2], none⟩,
     ⟨some 7, .mv, [.tmp 2], none⟩,
     ⟨some 8, (.cvi .u64), [.tmp 7], none⟩,
     ⟨some 9, (.call 31), [.tmp 8], none⟩,
     ⟨some 10, (.call 30), [.tmp 5, .const (.int .i64 0), .tmp 6, .tmp 9], none⟩]))⟩

theorem f22_ok : compF Go.Proofs.Try.prog 22 f22.body.hints = some f22 := by kernel_rfl


def f23 : AFun := ⟨19, 2, [.slot 4],
  (.seq (.run [0, 1] [⟨some 4, .mv, [.const (.int .i64 0)], none⟩])
   (.seq (.seq (.run [0, 1, 7, 8] [⟨some 6, .mv, [.tmp 0], none⟩,
       ⟨some 7, (.len 1), [.tmp 6], none⟩,
       ⟨some 8, .mv, [.const (.int .i64 0)], none⟩])
     (.block 0 (.loop [0, 1, 7, 8] (.seq (.run [0, 1, 7, 8, 9] [⟨some 9, (.bin .lss), [.tmp 8, .tmp 7], none⟩])
        (.seq (.cond (.tmp 9)
          .skip
          (.exit 0))
         (.seq (.block 1 (.seq (.run [0, 1, 5, 7, 8] [⟨some 10, .mv, [.tmp 8], none⟩,
              ⟨some 5, .mv, [.tmp 10], none⟩])
            (.seq (.run [0, 1, 5, 7, 8, 16] [⟨some 11, .mv, [.tmp 1], none⟩,
               ⟨some 12, .mv, [.tmp 0], none⟩,
               ⟨some 13, .mv, [.tmp 5], none⟩,
               ⟨some 14, (.iaddr 1), [.tmp 12, .tmp 13], none⟩,
               ⟨some 15, (.ld false 1), [.tmp 14], none⟩,
               ⟨some 16, (.eqg false 6), [.tmp 11, .tmp 15], none⟩])
             (.cond (.tmp 16)
              (.seq (.run [4] [⟨some 17, .mv, [.tmp 5], none⟩,
                 ⟨some 4, .mv, [.tmp 17], none⟩])
               .ret)
              .skip))))
          (.run [0, 1, 7, 8] [⟨some 18, (.bin .add), [.tmp 8, .const (.int .i64 1)], none⟩,
            ⟨some 8, .mv, [.tmp 18], none⟩])))))))
    (.seq (.run [4] [⟨some 4, .mv, [.const (.int .i64 (-1))], none⟩])
     .ret)))⟩

theorem f23_ok : compF Go.Proofs.Try.prog 23 f23.body.hints = some f23 := by kernel_rfl


def f24 : AFun := ⟨15, 4, [.slot 5],
  (.seq (.run [1, 2, 3, 4] [⟨some 4, .box, [.tmp 0], none⟩,
     ⟨some 5, .mv, [.const (.bool false)], none⟩])
   (.seq (.seq (.run [2, 3, 4, 10] [⟨some 6, (.ld false 1), [.tmp 1], none⟩,
       ⟨some 7, (.faddr 2), [.tmp 4], none⟩,
       ⟨some 8, (.ld false 1), [.tmp 7], none⟩,
       ⟨some 9, (.lkp 2 (.bool false) false), [.tmp 6, .tmp 8], none⟩,
       ⟨some 10, (.un .not), [.tmp 9], none⟩])
     (.cond (.tmp 10)
      (.run [3] [⟨some 11, (.faddr 1), [.tmp 4], none⟩,
        ⟨some 12, (.ld false 1), [.tmp 11], none⟩,
        ⟨none, (.st 1), [.tmp 2, .tmp 12], none⟩,
        ⟨none, (.st 1), [.tmp 3, .const (.int .i64 11)], none⟩])
      .skip))
    (.seq (.run [5] [⟨some 13, (.ld false 1), [.tmp 3], none⟩,
       ⟨some 14, (.eqg false 6), [.tmp 13, .const (.int .i64 0)], none⟩,
       ⟨some 5, .mv, [.tmp 14], none⟩])
     .ret)))⟩

theorem f24_ok : compF Go.Proofs.Try.prog 24 f24.body.hints = some f24 := by kernel_rfl


def f25 : AFun := ⟨74, 1, [.slot 2, .slot 3, .slot 4],
  (.seq (.run [0] [⟨some 2, .mv, [.const (.slice none 0 0)], none⟩,
     ⟨some 3, .mv, [.const (.int .i64 0)], none⟩,
     ⟨some 4, .mv, [.const (.int .i64 0)], none⟩])
   (.seq (.seq (.run [0, 14] [⟨some 12, .mv, [.tmp 0], none⟩,
       ⟨some 13, (.len 0), [.tmp 12], none⟩,
       ⟨some 14, (.bin .gtr), [.tmp 13, .const (.int .i64 65536)], none⟩])
     (.cond (.tmp 14)
      (.seq (.run [2, 3, 4] [⟨some 2, .mv, [.const (.slice none 0 0)], none⟩,
         ⟨some 3, .mv, [.const (.int .i64 0)], none⟩,
         ⟨some 4, .mv, [.const (.int .i64 6)], none⟩])
       .ret)
      .skip))
    (.seq (.run [0, 5] [⟨some 5, .mv, [.const (.slice none 0 0)], none⟩])
     (.seq (.run [0, 5, 6] [⟨some 6, .mv, [.const (.int .i64 0)], none⟩])
      (.seq (.block 0 (.loop [0, 5, 6] (.seq (.seq (.run [0, 5, 6, 18] [⟨some 15, .mv, [.tmp 6], none⟩,
             ⟨some 16, .mv, [.tmp 0], none⟩,
             ⟨some 17, (.len 0), [.tmp 16], none⟩,
             ⟨some 18, (.bin .lss), [.tmp 15, .tmp 17], none⟩])
           (.cond (.tmp 18)
            .skip
            (.exit 0)))
          (.block 1 (.seq (.run [0, 5, 6, 7] [⟨some 19, .mv, [.tmp 0], none⟩,
              ⟨some 20, .mv, [.tmp 6], none⟩,
              ⟨some 21, (.call 32), [.tmp 19, .const (.int .u8 123), .tmp 20], none⟩,
              ⟨some 7, .mv, [.tmp 21], none⟩])
            (.seq (.seq (.run [0, 5, 6, 7, 24] [⟨some 22, .mv, [.tmp 7], none⟩,
                ⟨some 23, .mv, [.tmp 6], none⟩,
                ⟨some 24, (.eqg true 6), [.tmp 22, .tmp 23], none⟩])
              (.cond (.tmp 24)
               (.seq (.seq (.run [0, 5, 6, 7, 26] [⟨some 25, .mv, [.tmp 7], none⟩,
                   ⟨some 26, (.bin .lss), [.tmp 25, .const (.int .i64 0)], none⟩])
                 (.cond (.tmp 26)
                  (.run [0, 5, 6, 7] [⟨some 27, .mv, [.tmp 0], none⟩,
                    ⟨some 28, (.len 0), [.tmp 27], none⟩,
                    ⟨some 7, .mv, [.tmp 28], none⟩])
                  .skip))
                (.seq (.run [0, 5, 7] [⟨some 29, .mv, [.tmp 5], none⟩,
                   ⟨some 30, .mv, [.tmp 6], none⟩,
                   ⟨some 31, .mv, [.tmp 0], none⟩,
                   ⟨some 32, .mv, [.tmp 6], none⟩,
                   ⟨some 33, .mv, [.tmp 7], none⟩,
                   ⟨some 34, (.slc 0 true true), [.tmp 31, .tmp 32, .tmp 33], none⟩,
                   ⟨some 35, (.build [(.int .i64 0), (.int .i64 0), (.str []), (.str []), (.bool false)] [(1, 1), (2, 1)]), [.tmp 30, .tmp 34], none⟩,
                   ⟨some 36, (.bslice 5 1 [(.int .i64 0), (.int .i64 0), (.str []), (.str []), (.bool false)] [(0, 5)]), [.tmp 35], none⟩,
                   ⟨some 37, (.app 5 56), [.tmp 29, .tmp 36], none⟩,
                   ⟨some 5, .mv, [.tmp 37], none⟩])
                 (.seq (.run [0, 5, 6] [⟨some 38, .mv, [.tmp 7], none⟩,
                    ⟨some 6, .mv, [.tmp 38], none⟩])
                  (.exit 1))))
               .skip))
             (.seq (.run [0, 5, 6, 8] [⟨some 39, .mv, [.tmp 0], none⟩,
                ⟨some 40, .mv, [.tmp 6], none⟩,
                ⟨some 41, (.bin .add), [.tmp 40, .const (.int .i64 2)], none⟩,
                ⟨some 42, (.call 32), [.tmp 39, .const (.int .u8 125), .tmp 41], none⟩,
                ⟨some 8, .mv, [.tmp 42], none⟩])
              (.seq (.seq (.run [0, 5, 6, 8, 44] [⟨some 43, .mv, [.tmp 8], none⟩,
                  ⟨some 44, (.bin .lss), [.tmp 43, .const (.int .i64 0)], none⟩])
                (.cond (.tmp 44)
                 (.seq (.run [2, 3, 4] [⟨some 45, .mv, [.tmp 6], none⟩,
                    ⟨some 2, .mv, [.const (.slice none 0 0)], none⟩,
                    ⟨some 3, .mv, [.tmp 45], none⟩,
                    ⟨some 4, .mv, [.const (.int .i64 7)], none⟩])
                  .ret)
                 .skip))
               (.seq (.run [0, 5, 6, 8, 9, 10, 11] [⟨some 47, .mv, [.tmp 0], none⟩,
                  ⟨some 48, .mv, [.tmp 6], none⟩,
                  ⟨some 49, (.bin .add), [.tmp 48, .const (.int .i64 2)], none⟩,
                  ⟨some 50, .mv, [.tmp 8], none⟩,
                  ⟨some 51, (.slc 0 true true), [.tmp 47, .tmp 49, .tmp 50], none⟩,
                  ⟨some 52, (.call 34), [.tmp 51], none⟩,
                  ⟨some 53, (.call 33), [.tmp 52], none⟩,
                  ⟨some 46, .mv, [.tmp 53], none⟩,
                  ⟨some 54, (.ext 0), [.tmp 46], none⟩,
                  ⟨some 55, (.ext 1), [.tmp 46], none⟩,
                  ⟨some 56, (.ext 2), [.tmp 46], none⟩,
                  ⟨some 9, (.alloc [(.int .i64 0), (.int .i64 0), (.str []), (.str []), (.bool false)]), [], none⟩,
                  ⟨none, (.st 5), [.tmp 9, .tmp 54], none⟩,
                  ⟨some 10, .mv, [.tmp 55], none⟩,
                  ⟨some 11, .mv, [.tmp 56], none⟩])
                (.seq (.seq (.run [0, 5, 6, 8, 9, 11, 58] [⟨some 57, .mv, [.tmp 10], none⟩,
                    ⟨some 58, (.un .not), [.tmp 57], none⟩])
                  (.cond (.tmp 58)
                   (.seq (.run [2, 3, 4] [⟨some 59, .mv, [.tmp 6], none⟩,
                      ⟨some 2, .mv, [.const (.slice none 0 0)], none⟩,
                      ⟨some 3, .mv, [.tmp 59], none⟩,
                      ⟨some 4, .mv, [.const (.int .i64 5)], none⟩])
                    .ret)
                   .skip))
                 (.seq (.seq (.run [0, 5, 6, 8, 9, 61] [⟨some 60, .mv, [.tmp 11], none⟩,
                     ⟨some 61, (.un .not), [.tmp 60], none⟩])
                   (.cond (.tmp 61)
                    (.seq (.run [2, 3, 4] [⟨some 62, .mv, [.tmp 6], none⟩,
                       ⟨some 2, .mv, [.const (.slice none 0 0)], none⟩,
                       ⟨some 3, .mv, [.tmp 62], none⟩,
                       ⟨some 4, .mv, [.const (.int .i64 11)], none⟩])
                     .ret)
                    .skip))
                  (.seq (.run [0, 5, 8, 9] [⟨some 63, .mv, [.tmp 6], none⟩,
                     ⟨some 64, (.faddr 1), [.tmp 9], none⟩,
                     ⟨none, (.st 1), [.tmp 64, .tmp 63], none⟩])
                   (.seq (.run [0, 5, 8] [⟨some 65, .mv, [.tmp 5], none⟩,
                      ⟨some 66, (.ld true 5), [.tmp 9], none⟩,
                      ⟨some 67, (.bslice 5 1 [(.int .i64 0), (.int .i64 0), (.str []), (.str []), (.bool false)] [(0, 5)]), [.tmp 66], none⟩,
                      ⟨some 68, (.app 5 56), [.tmp 65, .tmp 67], none⟩,
                      ⟨some 5, .mv, [.tmp 68], none⟩])
                    (.run [0, 5, 6] [⟨some 69, .mv, [.tmp 8], none⟩,
                      ⟨some 70, (.bin .add), [.tmp 69, .const (.int .i64 2)], none⟩,
                      ⟨some 6, .mv, [.tmp 70], none⟩]))))))))))))))
       (.seq (.run [2, 3, 4] [⟨some 71, .mv, [.tmp 5], none⟩,
          ⟨some 72, .mv, [.tmp 0], none⟩,
          ⟨some 73, (.len 0), [.tmp 72], none⟩,
          ⟨some 2, .mv, [.tmp 71], none⟩,
          ⟨some 3, .mv, [.tmp 73], none⟩,
          ⟨some 4, .mv, [.const (.int .i64 0)], none⟩])
        .ret))))))⟩

theorem f25_ok : compF Go.Proofs.Try.prog 25 f25.body.hints = some f25 := by kernel_rfl


def f26 : AFun := ⟨73, 4, [.slot 8, .slot 9, .slot 10],
  (.seq (.run [0, 1, 2, 3] [⟨some 8, .mv, [.const (.slice none 0 0)], none⟩,
     ⟨some 9, .mv, [.const (.int .i64 0)], none⟩,
     ⟨some 10, .mv, [.const (.int .i64 0)], none⟩])
   (.seq (.run [0, 1, 2, 3, 11] [⟨some 11, .mv, [.const (.slice none 0 0)], none⟩])
    (.seq (.block 0 (.loop [0, 1, 2, 3, 11] (.seq (.seq (.runD [0, 1, 2, 3, 11, 25] [⟨0, ⟨some 16, .mv, [.tmp 0], none⟩, []⟩,
           ⟨1, ⟨some 17, .nilck, [.tmp 16], none⟩, []⟩,
           ⟨2, ⟨some 18, (.faddr 1), [.tmp 17], none⟩, []⟩,
           ⟨3, ⟨some 19, (.ld false 1), [.tmp 18], none⟩, []⟩,
           ⟨4, ⟨some 20, .mv, [.tmp 0], none⟩, []⟩,
           ⟨5, ⟨some 21, .nilck, [.tmp 20], none⟩, []⟩,
           ⟨6, ⟨some 22, (.faddr 0), [.tmp 21], none⟩, []⟩,
           ⟨7, ⟨some 23, (.ld false 1), [.tmp 22], none⟩, []⟩,
           ⟨8, ⟨some 24, (.len 1), [.tmp 23], none⟩, []⟩,
           ⟨9, ⟨some 25, (.bin .lss), [.tmp 19, .tmp 24], none⟩, []⟩])
         (.cond (.tmp 25)
          .skip
          (.exit 0)))
        (.block 1 (.seq (.runD [0, 1, 2, 3, 11, 12] [⟨0, ⟨some 26, .mv, [.tmp 0], none⟩, []⟩,
            ⟨1, ⟨some 27, .nilck, [.tmp 26], none⟩, []⟩,
            ⟨2, ⟨some 28, (.faddr 0), [.tmp 27], none⟩, []⟩,
            ⟨3, ⟨some 29, (.ld false 1), [.tmp 28], none⟩, []⟩,
            ⟨4, ⟨some 30, .mv, [.tmp 0], none⟩, []⟩,
            ⟨5, ⟨some 31, .nilck, [.tmp 30], none⟩, []⟩,
            ⟨6, ⟨some 32, (.faddr 1), [.tmp 31], none⟩, []⟩,
            ⟨7, ⟨some 33, (.ld false 1), [.tmp 32], none⟩, []⟩,
            ⟨8, ⟨some 34, (.iaddr 5), [.tmp 29, .tmp 33], none⟩, []⟩,
            ⟨9, ⟨some 35, (.ld true 5), [.tmp 34], none⟩, []⟩,
            ⟨10, ⟨some 12, (.alloc [(.int .i64 0), (.int .i64 0), (.str []), (.str []), (.bool false)]), [], none⟩, [3, 7, 9]⟩,
            ⟨11, ⟨none, (.st 5), [.tmp 12, .tmp 35], none⟩, []⟩])
          (.seq (.block 2 (.seq (.run [0, 1, 2, 3, 11, 12, 36] [⟨some 37, (.faddr 0), [.tmp 12], none⟩,
               ⟨some 38, (.ld false 1), [.tmp 37], none⟩,
               ⟨some 39, (.eqg false 6), [.tmp 38, .const (.int .i64 7)], none⟩,
               ⟨some 36, .mv, [.tmp 39], none⟩])
             (.cond (.tmp 36)
              (.seq (.seq (.run [11, 12, 44] [⟨some 40, .mv, [.tmp 1], none⟩,
                  ⟨some 41, (.eqg true 6), [.tmp 40, .const (.int .i64 2)], none⟩,
                  ⟨some 42, .mv, [.tmp 41], none⟩,
                  ⟨some 43, .mv, [.tmp 2], some (42, false)⟩,
                  ⟨some 44, .pick, [.tmp 42, .const (.bool true), .tmp 43], none⟩])
                (.cond (.tmp 44)
                 (.seq (.runD [8, 9, 10] [⟨0, ⟨some 45, (.faddr 1), [.tmp 12], none⟩, []⟩,
                    ⟨1, ⟨some 46, (.ld false 1), [.tmp 45], none⟩, []⟩,
                    ⟨2, ⟨some 8, .mv, [.const (.slice none 0 0)], none⟩, []⟩,
                    ⟨3, ⟨some 9, .mv, [.tmp 46], none⟩, []⟩,
                    ⟨4, ⟨some 10, .mv, [.const (.int .i64 13)], none⟩, []⟩])
                  .ret)
                 .skip))
               (.seq (.run [8, 9, 10] [⟨some 47, .mv, [.tmp 11], none⟩,
                  ⟨some 8, .mv, [.tmp 47], none⟩,
                  ⟨some 9, .mv, [.const (.int .i64 0)], none⟩,
                  ⟨some 10, .mv, [.const (.int .i64 0)], none⟩])
                .ret))
              (.seq (.run [0, 1, 2, 3, 11, 12, 48] [⟨some 49, (.faddr 0), [.tmp 12], none⟩,
                 ⟨some 50, (.ld false 1), [.tmp 49], none⟩,
                 ⟨some 51, (.eqg false 6), [.tmp 50, .const (.int .i64 8)], none⟩,
                 ⟨some 48, .mv, [.tmp 51], none⟩])
               (.cond (.tmp 48)
                (.seq (.seq (.run [11, 12, 53] [⟨some 52, .mv, [.tmp 1], none⟩,
                    ⟨some 53, (.bin .lss), [.tmp 52, .const (.int .i64 0)], none⟩])
                  (.cond (.tmp 53)
                   (.seq (.runD [8, 9, 10] [⟨0, ⟨some 54, (.faddr 1), [.tmp 12], none⟩, []⟩,
                      ⟨1, ⟨some 55, (.ld false 1), [.tmp 54], none⟩, []⟩,
                      ⟨2, ⟨some 8, .mv, [.const (.slice none 0 0)], none⟩, []⟩,
                      ⟨3, ⟨some 9, .mv, [.tmp 55], none⟩, []⟩,
                      ⟨4, ⟨some 10, .mv, [.const (.int .i64 13)], none⟩, []⟩])
                    .ret)
                   .skip))
                 (.seq (.run [8, 9, 10] [⟨some 56, .mv, [.tmp 11], none⟩,
                    ⟨some 8, .mv, [.tmp 56], none⟩,
                    ⟨some 9, .mv, [.const (.int .i64 0)], none⟩,
                    ⟨some 10, .mv, [.const (.int .i64 0)], none⟩])
                  .ret))
                .skip)))))
           (.seq (.run [0, 1, 2, 3, 11, 13, 14, 15] [⟨some 58, .mv, [.tmp 0], none⟩,
              ⟨some 59, .mv, [.tmp 3], none⟩,
              ⟨some 60, (.call 35), [.tmp 58, .tmp 59], none⟩,
              ⟨some 57, .mv, [.tmp 60], none⟩,
              ⟨some 61, (.ext 0), [.tmp 57], none⟩,
              ⟨some 62, (.ext 1), [.tmp 57], none⟩,
              ⟨some 63, (.ext 2), [.tmp 57], none⟩,
              ⟨some 13, (.alloc [(.int .i64 0), (.int .i64 0), (.str []), (.str []), (.bool false), (.bool false), (.sl [] .nil), (.sl [] .nil)]), [], none⟩,
              ⟨none, (.st 8), [.tmp 13, .tmp 61], none⟩,
              ⟨some 14, .mv, [.tmp 62], none⟩,
              ⟨some 15, .mv, [.tmp 63], none⟩])
            (.seq (.seq (.run [0, 1, 2, 3, 11, 13, 14, 15, 65] [⟨some 64, .mv, [.tmp 15], none⟩,
                ⟨some 65, (.eqg true 6), [.tmp 64, .const (.int .i64 0)], none⟩])
              (.cond (.tmp 65)
               (.seq (.run [8, 9, 10] [⟨some 66, .mv, [.tmp 14], none⟩,
                  ⟨some 67, .mv, [.tmp 15], none⟩,
                  ⟨some 8, .mv, [.const (.slice none 0 0)], none⟩,
                  ⟨some 9, .mv, [.tmp 66], none⟩,
                  ⟨some 10, .mv, [.tmp 67], none⟩])
                .ret)
               .skip))
             (.run [0, 1, 2, 3, 11] [⟨some 68, .mv, [.tmp 11], none⟩,
               ⟨some 69, (.ld true 8), [.tmp 13], none⟩,
               ⟨some 70, (.bslice 8 1 [(.int .i64 0), (.int .i64 0), (.str []), (.str []), (.bool false), (.bool false), (.sl [] .nil), (.sl [] .nil)] [(0, 8)]), [.tmp 69], none⟩,
               ⟨some 71, (.app 8 104), [.tmp 68, .tmp 70], none⟩,
               ⟨some 11, .mv, [.tmp 71], none⟩])))))))))
     (.seq (.run [8, 9, 10] [⟨some 72, .mv, [.tmp 11], none⟩,
        ⟨some 8, .mv, [.tmp 72], none⟩,
        ⟨some 9, .mv, [.const (.int .i64 0)], none⟩,
        ⟨some 10, .mv, [.const (.int .i64 0)], none⟩])
      .ret))))⟩

theorem f26_ok : compF Go.Proofs.Try.prog 26 f26.body.hints = some f26 := by kernel_rfl


def f27 : AFun := ⟨42, 2, [.slot 4],
  (.seq (.run [0, 1] [⟨some 4, .mv, [.const (.slice none 0 0)], none⟩])
   (.seq (.run [0, 1, 5] [⟨some 8, .mv, [.tmp 0], none⟩,
      ⟨some 9, .mv, [.tmp 1], none⟩,
      ⟨some 10, (.call 16), [.tmp 8, .tmp 9], none⟩,
      ⟨some 5, .mv, [.tmp 10], none⟩])
    (.seq (.seq (.run [0, 1, 5, 12] [⟨some 11, .mv, [.tmp 5], none⟩,
        ⟨some 12, (.eqg false 6), [.tmp 11, .const (.int .i64 (-1))], none⟩])
      (.cond (.tmp 12)
       (.seq (.run [4] [⟨some 13, .mv, [.tmp 0], none⟩,
          ⟨some 4, .mv, [.tmp 13], none⟩])
        .ret)
       .skip))
     (.seq (.seq (.run [0, 1, 5, 6] [⟨some 14, .mv, [.tmp 5], none⟩,
         ⟨some 15, (.bin .add), [.tmp 14, .const (.int .i64 1)], none⟩,
         ⟨some 6, .mv, [.tmp 15], none⟩])
       (.block 0 (.loop [0, 1, 5, 6] (.seq (.seq (.run [0, 1, 5, 6, 19] [⟨some 16, .mv, [.tmp 6], none⟩,
             ⟨some 17, .mv, [.tmp 0], none⟩,
             ⟨some 18, (.len 1), [.tmp 17], none⟩,
             ⟨some 19, (.bin .lss), [.tmp 16, .tmp 18], none⟩])
           (.cond (.tmp 19)
            .skip
            (.exit 0)))
          (.seq (.block 1 (.seq (.run [0, 1, 5, 6, 7] [⟨some 22, .mv, [.tmp 0], none⟩,
               ⟨some 23, .mv, [.tmp 6], none⟩,
               ⟨some 24, (.iaddr 8), [.tmp 22, .tmp 23], none⟩,
               ⟨some 25, (.ld true 8), [.tmp 24], none⟩,
               ⟨some 7, (.alloc [(.int .i64 0), (.int .i64 0), (.str []), (.str []), (.bool false), (.bool false), (.sl [] .nil), (.sl [] .nil)]), [], none⟩,
               ⟨none, (.st 8), [.tmp 7, .tmp 25], none⟩])
             (.seq (.run [0, 1, 5, 6, 7, 29] [⟨some 26, .mv, [.tmp 1], none⟩,
                ⟨some 27, (.ld true 8), [.tmp 7], none⟩,
                ⟨some 28, .callv, [.tmp 26, .tmp 27], none⟩,
                ⟨some 29, (.un .not), [.tmp 28], none⟩])
              (.cond (.tmp 29)
               (.seq (.run [0, 1, 5, 6] [⟨some 30, .mv, [.tmp 0], none⟩,
                  ⟨some 31, .mv, [.tmp 5], none⟩,
                  ⟨some 32, (.ld true 8), [.tmp 7], none⟩,
                  ⟨some 33, (.iaddr 8), [.tmp 30, .tmp 31], none⟩,
                  ⟨none, (.st 8), [.tmp 33, .tmp 32], none⟩])
                (.run [0, 1, 5, 6] [⟨some 34, .mv, [.tmp 5], none⟩,
                  ⟨some 35, (.bin .add), [.tmp 34, .const (.int .i64 1)], none⟩,
                  ⟨some 5, .mv, [.tmp 35], none⟩]))
               .skip))))
           (.run [0, 1, 5, 6] [⟨some 20, .mv, [.tmp 6], none⟩,
             ⟨some 21, (.bin .add), [.tmp 20, .const (.int .i64 1)], none⟩,
             ⟨some 6, .mv, [.tmp 21], none⟩]))))))
      (.seq (.run [0, 5] [⟨some 36, .mv, [.tmp 0], none⟩,
         ⟨some 37, .mv, [.tmp 5], none⟩,
         ⟨some 38, (.slc 8 true false), [.tmp 36, .tmp 37], none⟩,
         ⟨none, (.clr 8 [(.int .i64 0), (.int .i64 0), (.str []), (.str []), (.bool false), (.bool false), (.sl [] .nil), (.sl [] .nil)]), [.tmp 38], none⟩])
       (.seq (.run [4] [⟨some 39, .mv, [.tmp 0], none⟩,
          ⟨some 40, .mv, [.tmp 5], none⟩,
          ⟨some 41, (.slc 8 false true), [.tmp 39, .tmp 40], none⟩,
          ⟨some 4, .mv, [.tmp 41], none⟩])
        .ret))))))⟩

theorem f27_ok : compF Go.Proofs.Try.prog 27 f27.body.hints = some f27 := by kernel_rfl


def f28 : AFun := ⟨8, 1, [.slot 2],
  (.seq (.run [0] [⟨some 2, .mv, [.const (.slice none 0 0)], none⟩])
   (.seq (.seq (.run [0, 4] [⟨some 3, .mv, [.tmp 0], none⟩,
       ⟨some 4, (.eqg false 2), [.tmp 3, .const (.slice none 0 0)], none⟩])
     (.cond (.tmp 4)
      (.seq (.run [2] [⟨some 2, .mv, [.const (.slice none 0 0)], none⟩])
       .ret)
      .skip))
    (.seq (.run [2] [⟨some 5, (.bslice 8 0 [(.int .i64 0), (.int .i64 0), (.str []), (.str []), (.bool false), (.bool false), (.sl [] .nil), (.sl [] .nil)] []), [], none⟩,
       ⟨some 6, .mv, [.tmp 0], none⟩,
       ⟨some 7, (.app 8 104), [.tmp 5, .tmp 6], none⟩,
       ⟨some 2, .mv, [.tmp 7], none⟩])
     .ret)))⟩

theorem f28_ok : compF Go.Proofs.Try.prog 28 f28.body.hints = some f28 := by kernel_rfl


def f29 : AFun := ⟨6, 1, [.slot 2],
  (.seq (.run [1] [⟨some 1, .box, [.tmp 0], none⟩,
     ⟨some 2, .mv, [.const (.bool false)], none⟩])
   (.seq (.run [2] [⟨some 3, (.faddr 0), [.tmp 1], none⟩,
      ⟨some 4, (.ld false 1), [.tmp 3], none⟩,
      ⟨some 5, (.eqg false 6), [.tmp 4, .const (.int .i64 6)], none⟩,
      ⟨some 2, .mv, [.tmp 5], none⟩])
    .ret))⟩

theorem f29_ok : compF Go.Proofs.Try.prog 29 f29.body.hints = some f29 := by kernel_rfl


def f32 : AFun := ⟨30, 3, [.slot 6],
  (.seq (.run [0, 1, 2] [⟨some 6, .mv, [.const (.int .i64 0)], none⟩])
   (.seq (.seq (.run [0, 1, 7] [⟨some 8, .mv, [.tmp 2], none⟩,
       ⟨some 7, .mv, [.tmp 8], none⟩])
     (.block 0 (.loop [0, 1, 7] (.seq (.seq (.run [0, 1, 7, 13] [⟨some 9, .mv, [.tmp 7], none⟩,
           ⟨some 10, (.bin .add), [.tmp 9, .const (.int .i64 1)], none⟩,
           ⟨some 11, .mv, [.tmp 0], none⟩,
           ⟨some 12, (.len 0), [.tmp 11], none⟩,
           ⟨some 13, (.bin .lss), [.tmp 10, .tmp 12], none⟩])
         (.cond (.tmp 13)
          .skip
          (.exit 0)))
        (.seq (.block 1 (.seq (.run [0, 1, 7, 28] [⟨some 16, .mv, [.tmp 0], none⟩,
             ⟨some 17, .mv, [.tmp 7], none⟩,
             ⟨some 18, .ixs, [.tmp 16, .tmp 17], none⟩,
             ⟨some 19, .mv, [.tmp 1], none⟩,
             ⟨some 20, (.eqg false 6), [.tmp 18, .tmp 19], none⟩,
             ⟨some 21, .mv, [.tmp 20], none⟩,
             ⟨some 22, .mv, [.tmp 0], some (21, true)⟩,
             ⟨some 23, .mv, [.tmp 7], some (21, true)⟩,
             ⟨some 24, (.bin .add), [.tmp 23, .const (.int .i64 1)], some (21, true)⟩,
             ⟨some 25, .ixs, [.tmp 22, .tmp 24], some (21, true)⟩,
             ⟨some 26, .mv, [.tmp 1], some (21, true)⟩,
             ⟨some 27, (.eqg false 6), [.tmp 25, .tmp 26], some (21, true)⟩,
             ⟨some 28, .pick, [.tmp 21, .tmp 27, .const (.bool false)], none⟩])
           (.cond (.tmp 28)
            (.seq (.run [6] [⟨some 29, .mv, [.tmp 7], none⟩,
               ⟨some 6, .mv, [.tmp 29], none⟩])
             .ret)
            .skip)))
         (.run [0, 1, 7] [⟨some 14, .mv, [.tmp 7], none⟩,
           ⟨some 15, (.bin .add), [.tmp 14, .const (.int .i64 1)], none⟩,
           ⟨some 7, .mv, [.tmp 15], none⟩]))))))
    (.seq (.run [6] [⟨some 6, .mv, [.const (.int .i64 (-1))], none⟩])
     .ret)))⟩

theorem f32_ok : compF Go.Proofs.Try.prog 32 f32.body.hints = some f32 := by kernel_rfl


def f33 : AFun := ⟨132, 1, [.cell 2 (.ld true 5), .slot 3, .slot 4],
  (.seq (.run [0, 2] [⟨some 2, (.alloc [(.int .i64 0), (.int .i64 0), (.str []), (.str []), (.bool false)]), [], none⟩,
     ⟨some 3, .mv, [.const (.bool false)], none⟩,
     ⟨some 4, .mv, [.const (.bool false)], none⟩])
   (.seq (.run [0, 2, 5] [⟨some 10, (.build [(.int .i64 0), (.int .i64 0), (.str []), (.str []), (.bool false)] [(0, 1)]), [.const (.int .i64 (-1))], none⟩,
      ⟨some 5, (.alloc [(.int .i64 0), (.int .i64 0), (.str []), (.str []), (.bool false)]), [], none⟩,
      ⟨none, (.st 5), [.tmp 5, .tmp 10], none⟩])
    (.seq (.seq (.run [0, 2, 5, 13] [⟨some 11, .mv, [.tmp 0], none⟩,
        ⟨some 12, (.len 1), [.tmp 11], none⟩,
        ⟨some 13, (.eqg false 6), [.tmp 12, .const (.int .i64 0)], none⟩])
      (.cond (.tmp 13)
       (.seq (.run [2, 3, 4] [⟨some 14, (.ld true 5), [.tmp 5], none⟩,
          ⟨none, (.st 5), [.tmp 2, .tmp 14], none⟩,
          ⟨some 3, .mv, [.const (.bool false)], none⟩,
          ⟨some 4, .mv, [.const (.bool false)], none⟩])
        .ret)
       .skip))
     (.seq (.run [0, 2, 5, 6] [⟨some 15, .mv, [.tmp 0], none⟩,
        ⟨some 16, (.slc 1 true false), [.tmp 15, .const (.int .i64 1)], none⟩,
        ⟨some 6, .mv, [.tmp 16], none⟩])
      (.seq (.seq (.run [0, 2, 5, 6, 19] [⟨some 17, .mv, [.tmp 0], none⟩,
          ⟨some 18, (.iaddr 1), [.tmp 17, .const (.int .i64 0)], none⟩,
          ⟨some 19, (.ld false 1), [.tmp 18], none⟩])
        (.block 0 (.seq (.run [0, 2, 5, 6, 19, 26] [⟨some 27, (.eqg false 6), [.tmp 19, .const (.string ⟨#[105, 102]⟩)], none⟩,
            ⟨some 26, .mv, [.tmp 27], none⟩])
          (.cond (.tmp 26)
           (.run [2, 5, 6] [⟨some 28, (.faddr 0), [.tmp 5], none⟩,
             ⟨none, (.st 1), [.tmp 28, .const (.int .i64 2)], none⟩])
           (.seq (.run [0, 2, 5, 6, 19, 29] [⟨some 30, (.eqg false 6), [.tmp 19, .const (.string ⟨#[114, 97, 110, 103, 101]⟩)], none⟩,
              ⟨some 29, .mv, [.tmp 30], none⟩])
            (.cond (.tmp 29)
             (.run [2, 5, 6] [⟨some 31, (.faddr 0), [.tmp 5], none⟩,
               ⟨none, (.st 1), [.tmp 31, .const (.int .i64 3)], none⟩])
             (.seq (.run [0, 2, 5, 6, 19, 32] [⟨some 33, (.eqg false 6), [.tmp 19, .const (.string ⟨#[99, 97, 108, 108]⟩)], none⟩,
                ⟨some 32, .mv, [.tmp 33], none⟩])
              (.cond (.tmp 32)
               (.run [2, 5, 6] [⟨some 34, (.faddr 0), [.tmp 5], none⟩,
                 ⟨none, (.st 1), [.tmp 34, .const (.int .i64 4)], none⟩])
               (.seq (.run [0, 2, 5, 6, 19, 35] [⟨some 36, (.eqg false 6), [.tmp 19, .const (.string ⟨#[102, 108, 117, 115, 104]⟩)], none⟩,
                  ⟨some 35, .mv, [.tmp 36], none⟩])
                (.cond (.tmp 35)
                 (.run [2, 5, 6] [⟨some 37, (.faddr 0), [.tmp 5], none⟩,
                   ⟨none, (.st 1), [.tmp 37, .const (.int .i64 5)], none⟩])
                 (.seq (.run [0, 2, 5, 6, 19, 38] [⟨some 39, (.eqg false 6), [.tmp 19, .const (.string ⟨#[100, 101, 102, 105, 110, 101]⟩)], none⟩,
                    ⟨some 38, .mv, [.tmp 39], none⟩])
                  (.cond (.tmp 38)
                   (.run [2, 5, 6] [⟨some 40, (.faddr 0), [.tmp 5], none⟩,
                     ⟨none, (.st 1), [.tmp 40, .const (.int .i64 6)], none⟩])
                   (.seq (.run [0, 2, 5, 6, 19, 41] [⟨some 42, (.eqg false 6), [.tmp 19, .const (.string ⟨#[101, 108, 115, 101]⟩)], none⟩,
                      ⟨some 41, .mv, [.tmp 42], none⟩])
                    (.cond (.tmp 41)
                     (.run [2, 5, 6] [⟨some 43, (.faddr 0), [.tmp 5], none⟩,
                       ⟨none, (.st 1), [.tmp 43, .const (.int .i64 7)], none⟩])
                     (.seq (.run [0, 2, 5, 6, 44] [⟨some 45, (.eqg false 6), [.tmp 19, .const (.string ⟨#[101, 110, 100]⟩)], none⟩,
                        ⟨some 44, .mv, [.tmp 45], none⟩])
                      (.cond (.tmp 44)
                       (.run [2, 5, 6] [⟨some 46, (.faddr 0), [.tmp 5], none⟩,
                         ⟨none, (.st 1), [.tmp 46, .const (.int .i64 8)], none⟩])
                       (.seq (.run [0, 2, 5, 6, 23] [⟨some 20, .mv, [.tmp 0], none⟩,
                          ⟨some 21, (.iaddr 1), [.tmp 20, .const (.int .i64 0)], none⟩,
                          ⟨some 22, (.ld false 1), [.tmp 21], none⟩,
                          ⟨some 23, (.call 47), [.tmp 22], none⟩])
                        (.cond (.tmp 23)
                         (.seq (.run [0, 2, 5] [⟨some 24, (.faddr 0), [.tmp 5], none⟩,
                            ⟨none, (.st 1), [.tmp 24, .const (.int .i64 1)], none⟩])
                          (.run [2, 5, 6] [⟨some 25, .mv, [.tmp 0], none⟩,
                            ⟨some 6, .mv, [.tmp 25], none⟩]))
                         .skip))))))))))))))))))
       (.seq (.run [2, 5, 6, 7] [⟨some 7, .mv, [.const (.bool true)], none⟩])
        (.seq (.seq (.run [2, 5, 6, 7, 54] [⟨some 47, (.faddr 0), [.tmp 5], none⟩,
            ⟨some 48, (.ld false 1), [.tmp 47], none⟩,
            ⟨some 49, (.eqg false 6), [.tmp 48, .const (.int .i64 4)], none⟩,
            ⟨some 50, .mv, [.tmp 49], none⟩,
            ⟨some 51, (.faddr 0), [.tmp 5], some (50, false)⟩,
            ⟨some 52, (.ld false 1), [.tmp 51], some (50, false)⟩,
            ⟨some 53, (.eqg false 6), [.tmp 52, .const (.int .i64 6)], some (50, false)⟩,
            ⟨some 54, .pick, [.tmp 50, .const (.bool true), .tmp 53], none⟩])
          (.cond (.tmp 54)
           (.seq (.seq (.run [2, 5, 6, 63] [⟨some 55, .mv, [.tmp 6], none⟩,
               ⟨some 56, (.len 1), [.tmp 55], none⟩,
               ⟨some 57, (.eqg false 6), [.tmp 56, .const (.int .i64 0)], none⟩,
               ⟨some 58, .mv, [.tmp 57], none⟩,
               ⟨some 59, .mv, [.tmp 6], some (58, false)⟩,
               ⟨some 60, (.iaddr 1), [.tmp 59, .const (.int .i64 0)], some (58, false)⟩,
               ⟨some 61, (.ld false 1), [.tmp 60], some (58, false)⟩,
               ⟨some 62, (.call 47), [.tmp 61], some (58, false)⟩,
               ⟨some 63, .pick, [.tmp 58, .const (.bool true), .tmp 62], none⟩])
             (.cond (.tmp 63)
              (.seq (.run [2, 3, 4] [⟨some 64, (.ld true 5), [.tmp 5], none⟩,
                 ⟨none, (.st 5), [.tmp 2, .tmp 64], none⟩,
                 ⟨some 3, .mv, [.const (.bool false)], none⟩,
                 ⟨some 4, .mv, [.const (.bool false)], none⟩])
               .ret)
              .skip))
            (.seq (.run [2, 5, 6] [⟨some 65, .mv, [.tmp 6], none⟩,
               ⟨some 66, (.iaddr 1), [.tmp 65, .const (.int .i64 0)], none⟩,
               ⟨some 67, (.ld false 1), [.tmp 66], none⟩,
               ⟨some 68, (.faddr 2), [.tmp 5], none⟩,
               ⟨none, (.st 1), [.tmp 68, .tmp 67], none⟩])
             (.seq (.run [2, 5, 6, 7] [⟨some 69, (.faddr 2), [.tmp 5], none⟩,
                ⟨some 70, (.ld false 1), [.tmp 69], none⟩,
                ⟨some 71, (.call 48), [.tmp 70], none⟩,
                ⟨some 7, .mv, [.tmp 71], none⟩])
              (.run [2, 5, 6, 7] [⟨some 72, .mv, [.tmp 6], none⟩,
                ⟨some 73, (.slc 1 true false), [.tmp 72, .const (.int .i64 1)], none⟩,
                ⟨some 6, .mv, [.tmp 73], none⟩]))))
           .skip))
         (.seq (.seq (.run [2, 5, 6, 7, 91] [⟨some 74, (.faddr 0), [.tmp 5], none⟩,
             ⟨some 75, (.ld false 1), [.tmp 74], none⟩,
             ⟨some 76, (.bin .geq), [.tmp 75, .const (.int .i64 1)], none⟩,
             ⟨some 77, .mv, [.tmp 76], none⟩,
             ⟨some 78, (.faddr 0), [.tmp 5], some (77, true)⟩,
             ⟨some 79, (.ld false 1), [.tmp 78], some (77, true)⟩,
             ⟨some 80, (.bin .leq), [.tmp 79, .const (.int .i64 3)], some (77, true)⟩,
             ⟨some 81, .pick, [.tmp 77, .tmp 80, .const (.bool false)], none⟩,
             ⟨some 82, .mv, [.tmp 81], none⟩,
             ⟨some 83, (.faddr 0), [.tmp 5], some (82, false)⟩,
             ⟨some 84, (.ld false 1), [.tmp 83], some (82, false)⟩,
             ⟨some 85, (.eqg false 6), [.tmp 84, .const (.int .i64 4)], some (82, false)⟩,
             ⟨some 86, .mv, [.tmp 85], some (82, false)⟩,
             ⟨some 87, .mv, [.tmp 6], some (86, true)⟩,
             ⟨some 88, (.len 1), [.tmp 87], some (86, true)⟩,
             ⟨some 89, (.bin .gtr), [.tmp 88, .const (.int .i64 0)], some (86, true)⟩,
             ⟨some 90, .pick, [.tmp 86, .tmp 89, .const (.bool false)], some (82, false)⟩,
             ⟨some 91, .pick, [.tmp 82, .const (.bool true), .tmp 90], none⟩])
           (.cond (.tmp 91)
            (.seq (.seq (.run [2, 5, 6, 7, 101] [⟨some 92, .mv, [.tmp 6], none⟩,
                ⟨some 93, (.len 1), [.tmp 92], none⟩,
                ⟨some 94, (.eqg false 6), [.tmp 93, .const (.int .i64 0)], none⟩,
                ⟨some 95, .mv, [.tmp 94], none⟩,
                ⟨some 96, .mv, [.tmp 6], some (95, false)⟩,
                ⟨some 97, (.iaddr 1), [.tmp 96, .const (.int .i64 0)], some (95, false)⟩,
                ⟨some 98, (.ld false 1), [.tmp 97], some (95, false)⟩,
                ⟨some 99, (.call 47), [.tmp 98], some (95, false)⟩,
                ⟨some 100, (.un .not), [.tmp 99], some (95, false)⟩,
                ⟨some 101, .pick, [.tmp 95, .const (.bool true), .tmp 100], none⟩])
              (.cond (.tmp 101)
               (.seq (.run [2, 3, 4] [⟨some 102, (.ld true 5), [.tmp 5], none⟩,
                  ⟨none, (.st 5), [.tmp 2, .tmp 102], none⟩,
                  ⟨some 3, .mv, [.const (.bool false)], none⟩,
                  ⟨some 4, .mv, [.const (.bool false)], none⟩])
                .ret)
               .skip))
             (.seq (.run [2, 5, 6, 7] [⟨some 103, .mv, [.tmp 6], none⟩,
                ⟨some 104, (.iaddr 1), [.tmp 103, .const (.int .i64 0)], none⟩,
                ⟨some 105, (.ld false 1), [.tmp 104], none⟩,
                ⟨some 106, (.slc 0 true false), [.tmp 105, .const (.int .i64 1)], none⟩,
                ⟨some 107, (.faddr 3), [.tmp 5], none⟩,
                ⟨none, (.st 1), [.tmp 107, .tmp 106], none⟩])
              (.seq (.run [2, 5, 6, 7] [⟨some 108, (.faddr 4), [.tmp 5], none⟩,
                 ⟨none, (.st 1), [.tmp 108, .const (.bool true)], none⟩])
               (.seq (.run [2, 5, 6, 7, 9] [⟨some 110, (.faddr 3), [.tmp 5], none⟩,
                  ⟨some 111, (.ld false 1), [.tmp 110], none⟩,
                  ⟨some 112, (.call 49), [.tmp 111], none⟩,
                  ⟨some 109, .mv, [.tmp 112], none⟩,
                  ⟨some 113, (.ext 0), [.tmp 109], none⟩,
                  ⟨some 114, (.ext 1), [.tmp 109], none⟩,
                  ⟨some 8, .mv, [.tmp 113], none⟩,
                  ⟨some 9, .mv, [.tmp 114], none⟩])
                (.seq (.run [2, 5, 6, 7] [⟨some 115, .mv, [.tmp 7], none⟩,
                   ⟨some 116, .mv, [.tmp 115], none⟩,
                   ⟨some 117, .mv, [.tmp 9], some (116, true)⟩,
                   ⟨some 118, (.eqg false 6), [.tmp 117, .const (.int .i64 0)], some (116, true)⟩,
                   ⟨some 119, .pick, [.tmp 116, .tmp 118, .const (.bool false)], none⟩,
                   ⟨some 7, .mv, [.tmp 119], none⟩])
                 (.run [2, 5, 6, 7] [⟨some 120, .mv, [.tmp 6], none⟩,
                   ⟨some 121, (.slc 1 true false), [.tmp 120, .const (.int .i64 1)], none⟩,
                   ⟨some 6, .mv, [.tmp 121], none⟩]))))))
            .skip))
          (.seq (.run [2, 3, 4] [⟨some 122, (.ld true 5), [.tmp 5], none⟩,
             ⟨some 123, (.faddr 0), [.tmp 5], none⟩,
             ⟨some 124, (.ld false 1), [.tmp 123], none⟩,
             ⟨some 125, (.bin .geq), [.tmp 124, .const (.int .i64 0)], none⟩,
             ⟨some 126, .mv, [.tmp 125], none⟩,
             ⟨some 127, .mv, [.tmp 6], some (126, true)⟩,
             ⟨some 128, (.len 1), [.tmp 127], some (126, true)⟩,
             ⟨some 129, (.eqg false 6), [.tmp 128, .const (.int .i64 0)], some (126, true)⟩,
             ⟨some 130, .pick, [.tmp 126, .tmp 129, .const (.bool false)], none⟩,
             ⟨some 131, .mv, [.tmp 7], none⟩,
             ⟨none, (.st 5), [.tmp 2, .tmp 122], none⟩,
             ⟨some 3, .mv, [.tmp 130], none⟩,
             ⟨some 4, .mv, [.tmp 131], none⟩])
           .ret)))))))))⟩

theorem f33_ok : compF Go.Proofs.Try.prog 33 f33.body.hints = some f33 := by kernel_rfl


def f34 : AFun := ⟨35, 1, [.slot 2],
  (.seq (.run [0] [⟨some 2, .mv, [.const (.slice none 0 0)], none⟩])
   (.seq (.run [0, 3] [⟨some 3, .mv, [.const (.slice none 0 0)], none⟩])
    (.seq (.run [0, 3, 4] [⟨some 4, .mv, [.const (.int .i64 0)], none⟩])
     (.seq (.seq (.run [0, 3, 4, 5] [⟨some 5, .mv, [.const (.int .i64 0)], none⟩])
       (.block 0 (.loop [0, 3, 4, 5] (.seq (.seq (.run [0, 3, 4, 5, 9] [⟨some 6, .mv, [.tmp 5], none⟩,
             ⟨some 7, .mv, [.tmp 0], none⟩,
             ⟨some 8, (.len 0), [.tmp 7], none⟩,
             ⟨some 9, (.bin .leq), [.tmp 6, .tmp 8], none⟩])
           (.cond (.tmp 9)
            .skip
            (.exit 0)))
          (.seq (.block 1 (.seq (.run [0, 3, 4, 5, 21] [⟨some 12, .mv, [.tmp 5], none⟩,
               ⟨some 13, .mv, [.tmp 0], none⟩,
               ⟨some 14, (.len 0), [.tmp 13], none⟩,
               ⟨some 15, (.eqg false 6), [.tmp 12, .tmp 14], none⟩,
               ⟨some 16, .mv, [.tmp 15], none⟩,
               ⟨some 17, .mv, [.tmp 0], some (16, false)⟩,
               ⟨some 18, .mv, [.tmp 5], some (16, false)⟩,
               ⟨some 19, .ixs, [.tmp 17, .tmp 18], some (16, false)⟩,
               ⟨some 20, (.eqg false 6), [.tmp 19, .const (.int .u8 32)], some (16, false)⟩,
               ⟨some 21, .pick, [.tmp 16, .const (.bool true), .tmp 20], none⟩])
             (.cond (.tmp 21)
              (.seq (.seq (.run [0, 3, 4, 5, 24] [⟨some 22, .mv, [.tmp 5], none⟩,
                  ⟨some 23, .mv, [.tmp 4], none⟩,
                  ⟨some 24, (.bin .gtr), [.tmp 22, .tmp 23], none⟩])
                (.cond (.tmp 24)
                 (.run [0, 3, 5] [⟨some 25, .mv, [.tmp 3], none⟩,
                   ⟨some 26, .mv, [.tmp 0], none⟩,
                   ⟨some 27, .mv, [.tmp 4], none⟩,
                   ⟨some 28, .mv, [.tmp 5], none⟩,
                   ⟨some 29, (.slc 0 true true), [.tmp 26, .tmp 27, .tmp 28], none⟩,
                   ⟨some 30, (.bslice 1 1 [(.str [])] [(0, 1)]), [.tmp 29], none⟩,
                   ⟨some 31, (.app 1 16), [.tmp 25, .tmp 30], none⟩,
                   ⟨some 3, .mv, [.tmp 31], none⟩])
                 .skip))
               (.run [0, 3, 4, 5] [⟨some 32, .mv, [.tmp 5], none⟩,
                 ⟨some 33, (.bin .add), [.tmp 32, .const (.int .i64 1)], none⟩,
                 ⟨some 4, .mv, [.tmp 33], none⟩]))
              .skip)))
           (.run [0, 3, 4, 5] [⟨some 10, .mv, [.tmp 5], none⟩,
             ⟨some 11, (.bin .add), [.tmp 10, .const (.int .i64 1)], none⟩,
             ⟨some 5, .mv, [.tmp 11], none⟩]))))))
      (.seq (.run [2] [⟨some 34, .mv, [.tmp 3], none⟩,
         ⟨some 2, .mv, [.tmp 34], none⟩])
       .ret)))))⟩

theorem f34_ok : compF Go.Proofs.Try.prog 34 f34.body.hints = some f34 := by kernel_rfl


def f35 : AFun := ⟨165, 2, [.cell 4 (.ld true 8), .slot 5, .slot 6],
  (.seq (.run [0, 1, 4] [⟨some 4, (.alloc [(.int .i64 0), (.int .i64 0), (.str []), (.str []), (.bool false), (.bool false), (.sl [] .nil), (.sl [] .nil)]), [], none⟩,
     ⟨some 5, .mv, [.const (.int .i64 0)], none⟩,
     ⟨some 6, .mv, [.const (.int .i64 0)], none⟩])
   (.seq (.runD [0, 1, 4, 7] [⟨0, ⟨some 12, .mv, [.tmp 0], none⟩, []⟩,
      ⟨1, ⟨some 13, .nilck, [.tmp 12], none⟩, []⟩,
      ⟨2, ⟨some 14, (.faddr 0), [.tmp 13], none⟩, []⟩,
      ⟨3, ⟨some 15, (.ld false 1), [.tmp 14], none⟩, []⟩,
      ⟨4, ⟨some 16, .mv, [.tmp 0], none⟩, []⟩,
      ⟨5, ⟨some 17, .nilck, [.tmp 16], none⟩, []⟩,
      ⟨6, ⟨some 18, (.faddr 1), [.tmp 17], none⟩, []⟩,
      ⟨7, ⟨some 19, (.ld false 1), [.tmp 18], none⟩, []⟩,
      ⟨8, ⟨some 20, (.iaddr 5), [.tmp 15, .tmp 19], none⟩, []⟩,
      ⟨9, ⟨some 21, (.ld true 5), [.tmp 20], none⟩, []⟩,
      ⟨10, ⟨some 7, (.alloc [(.int .i64 0), (.int .i64 0), (.str []), (.str []), (.bool false)]), [], none⟩, [3, 7, 9]⟩,
      ⟨11, ⟨none, (.st 5), [.tmp 7, .tmp 21], none⟩, []⟩])
    (.seq (.seq (.run [0, 1, 4, 7, 37] [⟨some 22, (.faddr 0), [.tmp 7], none⟩,
        ⟨some 23, (.ld false 1), [.tmp 22], none⟩,
        ⟨some 24, (.eqg false 6), [.tmp 23, .const (.int .i64 6)], none⟩,
        ⟨some 25, .mv, [.tmp 24], none⟩,
        ⟨some 26, .mv, [.tmp 1], some (25, true)⟩,
        ⟨some 27, (.bin .gtr), [.tmp 26, .const (.int .i64 0)], some (25, true)⟩,
        ⟨some 28, .pick, [.tmp 25, .tmp 27, .const (.bool false)], none⟩,
        ⟨some 29, .mv, [.tmp 28], none⟩,
        ⟨some 30, (.faddr 0), [.tmp 7], some (29, false)⟩,
        ⟨some 31, (.ld false 1), [.tmp 30], some (29, false)⟩,
        ⟨some 32, (.call 50), [.tmp 31], some (29, false)⟩,
        ⟨some 33, .mv, [.tmp 32], some (29, false)⟩,
        ⟨some 34, .mv, [.tmp 1], some (33, true)⟩,
        ⟨some 35, (.bin .geq), [.tmp 34, .const (.int .i64 32)], some (33, true)⟩,
        ⟨some 36, .pick, [.tmp 33, .tmp 35, .const (.bool false)], some (29, false)⟩,
        ⟨some 37, .pick, [.tmp 29, .const (.bool true), .tmp 36], none⟩])
      (.cond (.tmp 37)
       (.seq (.runD [4, 5, 6] [⟨0, ⟨some 38, (.build [(.int .i64 0), (.int .i64 0), (.str []), (.str []), (.bool false), (.bool false), (.sl [] .nil), (.sl [] .nil)] []), [], none⟩, []⟩,
          ⟨1, ⟨some 39, (.faddr 1), [.tmp 7], none⟩, []⟩,
          ⟨2, ⟨some 40, (.ld false 1), [.tmp 39], none⟩, []⟩,
          ⟨3, ⟨none, (.st 8), [.tmp 4, .tmp 38], none⟩, [2]⟩,
          ⟨4, ⟨some 5, .mv, [.tmp 40], none⟩, []⟩,
          ⟨5, ⟨some 6, .mv, [.const (.int .i64 13)], none⟩, []⟩])
        .ret)
       .skip))
     (.seq (.seq (.run [0, 1, 4, 7, 45] [⟨some 41, .mv, [.tmp 0], none⟩,
         ⟨some 42, .nilck, [.tmp 41], none⟩,
         ⟨some 43, (.faddr 2), [.tmp 42], none⟩,
         ⟨some 44, (.ld false 1), [.tmp 43], none⟩,
         ⟨some 45, (.bin .geq), [.tmp 44, .const (.int .i64 4096)], none⟩])
       (.cond (.tmp 45)
        (.seq (.runD [4, 5, 6] [⟨0, ⟨some 46, (.build [(.int .i64 0), (.int .i64 0), (.str []), (.str []), (.bool false), (.bool false), (.sl [] .nil), (.sl [] .nil)] []), [], none⟩, []⟩,
           ⟨1, ⟨some 47, (.faddr 1), [.tmp 7], none⟩, []⟩,
           ⟨2, ⟨some 48, (.ld false 1), [.tmp 47], none⟩, []⟩,
           ⟨3, ⟨none, (.st 8), [.tmp 4, .tmp 46], none⟩, [2]⟩,
           ⟨4, ⟨some 5, .mv, [.tmp 48], none⟩, []⟩,
           ⟨5, ⟨some 6, .mv, [.const (.int .i64 14)], none⟩, []⟩])
         .ret)
        .skip))
      (.seq (.run [0, 1, 4, 7] [⟨some 49, .mv, [.tmp 0], none⟩,
         ⟨some 50, .nilck, [.tmp 49], none⟩,
         ⟨some 51, (.faddr 2), [.tmp 50], none⟩,
         ⟨some 52, (.ld false 1), [.tmp 51], none⟩,
         ⟨some 53, (.bin .add), [.tmp 52, .const (.int .i64 1)], none⟩,
         ⟨some 54, .nilck, [.tmp 49], none⟩,
         ⟨some 55, (.faddr 2), [.tmp 54], none⟩,
         ⟨none, (.st 1), [.tmp 55, .tmp 53], none⟩])
       (.seq (.run [0, 1, 4, 7] [⟨some 56, .mv, [.tmp 0], none⟩,
          ⟨some 57, .nilck, [.tmp 56], none⟩,
          ⟨some 58, (.faddr 1), [.tmp 57], none⟩,
          ⟨some 59, (.ld false 1), [.tmp 58], none⟩,
          ⟨some 60, (.bin .add), [.tmp 59, .const (.int .i64 1)], none⟩,
          ⟨some 61, .nilck, [.tmp 56], none⟩,
          ⟨some 62, (.faddr 1), [.tmp 61], none⟩,
          ⟨none, (.st 1), [.tmp 62, .tmp 60], none⟩])
        (.seq (.run [0, 1, 4, 7, 8] [⟨some 63, (.faddr 0), [.tmp 7], none⟩,
           ⟨some 64, (.ld false 1), [.tmp 63], none⟩,
           ⟨some 65, (.faddr 1), [.tmp 7], none⟩,
           ⟨some 66, (.ld false 1), [.tmp 65], none⟩,
           ⟨some 67, (.faddr 2), [.tmp 7], none⟩,
           ⟨some 68, (.ld false 1), [.tmp 67], none⟩,
           ⟨some 69, (.faddr 3), [.tmp 7], none⟩,
           ⟨some 70, (.ld false 1), [.tmp 69], none⟩,
           ⟨some 71, (.faddr 4), [.tmp 7], none⟩,
           ⟨some 72, (.ld false 1), [.tmp 71], none⟩,
           ⟨some 73, (.build [(.int .i64 0), (.int .i64 0), (.str []), (.str []), (.bool false), (.bool false), (.sl [] .nil), (.sl [] .nil)] [(0, 1), (1, 1), (2, 1), (3, 1), (4, 1)]), [.tmp 64, .tmp 66, .tmp 68, .tmp 70, .tmp 72], none⟩,
           ⟨some 8, (.alloc [(.int .i64 0), (.int .i64 0), (.str []), (.str []), (.bool false), (.bool false), (.sl [] .nil), (.sl [] .nil)]), [], none⟩,
           ⟨none, (.st 8), [.tmp 8, .tmp 73], none⟩])
         (.seq (.seq (.run [0, 1, 4, 7, 8, 77] [⟨some 74, (.faddr 0), [.tmp 7], none⟩,
             ⟨some 75, (.ld false 1), [.tmp 74], none⟩,
             ⟨some 76, (.call 50), [.tmp 75], none⟩,
             ⟨some 77, (.un .not), [.tmp 76], none⟩])
           (.cond (.tmp 77)
            (.seq (.run [4, 5, 6] [⟨some 78, (.ld true 8), [.tmp 8], none⟩,
               ⟨none, (.st 8), [.tmp 4, .tmp 78], none⟩,
               ⟨some 5, .mv, [.const (.int .i64 0)], none⟩,
               ⟨some 6, .mv, [.const (.int .i64 0)], none⟩])
             .ret)
            .skip))
          (.seq (.run [0, 1, 4, 7, 8, 9, 10, 11] [⟨some 80, .mv, [.tmp 0], none⟩,
             ⟨some 81, (.faddr 0), [.tmp 7], none⟩,
             ⟨some 82, (.ld false 1), [.tmp 81], none⟩,
             ⟨some 83, .mv, [.tmp 1], none⟩,
             ⟨some 84, (.bin .add), [.tmp 83, .const (.int .i64 1)], none⟩,
             ⟨some 85, (.call 26), [.tmp 80, .tmp 82, .const (.bool false), .tmp 84], none⟩,
             ⟨some 79, .mv, [.tmp 85], none⟩,
             ⟨some 86, (.ext 0), [.tmp 79], none⟩,
             ⟨some 87, (.ext 1), [.tmp 79], none⟩,
             ⟨some 88, (.ext 2), [.tmp 79], none⟩,
             ⟨some 9, .mv, [.tmp 86], none⟩,
             ⟨some 10, .mv, [.tmp 87], none⟩,
             ⟨some 11, .mv, [.tmp 88], none⟩])
           (.seq (.seq (.run [0, 1, 4, 7, 8, 9, 10, 11, 90] [⟨some 89, .mv, [.tmp 11], none⟩,
               ⟨some 90, (.eqg true 6), [.tmp 89, .const (.int .i64 0)], none⟩])
             (.cond (.tmp 90)
              (.seq (.run [4, 5, 6] [⟨some 91, (.build [(.int .i64 0), (.int .i64 0), (.str []), (.str []), (.bool false), (.bool false), (.sl [] .nil), (.sl [] .nil)] []), [], none⟩,
                 ⟨some 92, .mv, [.tmp 10], none⟩,
                 ⟨some 93, .mv, [.tmp 11], none⟩,
                 ⟨none, (.st 8), [.tmp 4, .tmp 91], none⟩,
                 ⟨some 5, .mv, [.tmp 92], none⟩,
                 ⟨some 6, .mv, [.tmp 93], none⟩])
               .ret)
              .skip))
            (.seq (.run [0, 1, 4, 7, 8] [⟨some 94, .mv, [.tmp 9], none⟩,
               ⟨some 95, (.faddr 6), [.tmp 8], none⟩,
               ⟨none, (.st 1), [.tmp 95, .tmp 94], none⟩])
             (.seq (.seq (.runD [0, 1, 4, 7, 8, 119] [⟨0, ⟨some 96, .mv, [.tmp 0], none⟩, []⟩,
                 ⟨1, ⟨some 97, .nilck, [.tmp 96], none⟩, []⟩,
                 ⟨2, ⟨some 98, (.faddr 1), [.tmp 97], none⟩, []⟩,
                 ⟨3, ⟨some 99, (.ld false 1), [.tmp 98], none⟩, []⟩,
                 ⟨4, ⟨some 100, .mv, [.tmp 0], none⟩, []⟩,
                 ⟨5, ⟨some 101, .nilck, [.tmp 100], none⟩, []⟩,
                 ⟨6, ⟨some 102, (.faddr 0), [.tmp 101], none⟩, []⟩,
                 ⟨7, ⟨some 103, (.ld false 1), [.tmp 102], none⟩, []⟩,
                 ⟨8, ⟨some 104, (.len 1), [.tmp 103], none⟩, []⟩,
                 ⟨9, ⟨some 105, (.bin .lss), [.tmp 99, .tmp 104], none⟩, []⟩,
                 ⟨10, ⟨some 106, .mv, [.tmp 105], none⟩, []⟩,
                 ⟨11, ⟨some 107, .mv, [.tmp 0], some (106, true)⟩, []⟩,
                 ⟨12, ⟨some 108, .nilck, [.tmp 107], some (106, true)⟩, []⟩,
                 ⟨13, ⟨some 109, (.faddr 0), [.tmp 108], some (106, true)⟩, []⟩,
                 ⟨14, ⟨some 110, (.ld false 1), [.tmp 109], some (106, true)⟩, []⟩,
                 ⟨15, ⟨some 111, .mv, [.tmp 0], some (106, true)⟩, []⟩,
                 ⟨16, ⟨some 112, .nilck, [.tmp 111], some (106, true)⟩, []⟩,
                 ⟨17, ⟨some 113, (.faddr 1), [.tmp 112], some (106, true)⟩, []⟩,
                 ⟨18, ⟨some 114, (.ld false 1), [.tmp 113], some (106, true)⟩, []⟩,
                 ⟨19, ⟨some 115, (.iaddr 5), [.tmp 110, .tmp 114], some (106, true)⟩, []⟩,
                 ⟨20, ⟨some 116, (.faddr 0), [.tmp 115], some (106, true)⟩, []⟩,
                 ⟨21, ⟨some 117, (.ld false 1), [.tmp 116], some (106, true)⟩, []⟩,
                 ⟨22, ⟨some 118, (.eqg false 6), [.tmp 117, .const (.int .i64 7)], some (106, true)⟩, []⟩,
                 ⟨23, ⟨some 119, .pick, [.tmp 106, .tmp 118, .const (.bool false)], none⟩, []⟩])
               (.cond (.tmp 119)
                (.seq (.run [0, 1, 4, 7, 8] [⟨some 120, .mv, [.tmp 0], none⟩,
                   ⟨some 121, .nilck, [.tmp 120], none⟩,
                   ⟨some 122, (.faddr 1), [.tmp 121], none⟩,
                   ⟨some 123, (.ld false 1), [.tmp 122], none⟩,
                   ⟨some 124, (.bin .add), [.tmp 123, .const (.int .i64 1)], none⟩,
                   ⟨some 125, .nilck, [.tmp 120], none⟩,
                   ⟨some 126, (.faddr 1), [.tmp 125], none⟩,
                   ⟨none, (.st 1), [.tmp 126, .tmp 124], none⟩])
                 (.seq (.run [0, 1, 4, 7, 8] [⟨some 127, (.faddr 5), [.tmp 8], none⟩,
                    ⟨none, (.st 1), [.tmp 127, .const (.bool true)], none⟩])
                  (.seq (.run [0, 4, 7, 8, 10, 11] [⟨some 129, .mv, [.tmp 0], none⟩,
                     ⟨some 130, (.faddr 0), [.tmp 7], none⟩,
                     ⟨some 131, (.ld false 1), [.tmp 130], none⟩,
                     ⟨some 132, .mv, [.tmp 1], none⟩,
                     ⟨some 133, (.bin .add), [.tmp 132, .const (.int .i64 1)], none⟩,
                     ⟨some 134, (.call 26), [.tmp 129, .tmp 131, .const (.bool true), .tmp 133], none⟩,
                     ⟨some 128, .mv, [.tmp 134], none⟩,
                     ⟨some 135, (.ext 0), [.tmp 128], none⟩,
                     ⟨some 136, (.ext 1), [.tmp 128], none⟩,
                     ⟨some 137, (.ext 2), [.tmp 128], none⟩,
                     ⟨some 138, (.faddr 7), [.tmp 8], none⟩,
                     ⟨none, (.st 1), [.tmp 138, .tmp 135], none⟩,
                     ⟨some 10, .mv, [.tmp 136], none⟩,
                     ⟨some 11, .mv, [.tmp 137], none⟩])
                   (.seq (.run [0, 4, 7, 8, 10, 11, 140] [⟨some 139, .mv, [.tmp 11], none⟩,
                      ⟨some 140, (.eqg true 6), [.tmp 139, .const (.int .i64 0)], none⟩])
                    (.cond (.tmp 140)
                     (.seq (.run [4, 5, 6] [⟨some 141, (.build [(.int .i64 0), (.int .i64 0), (.str []), (.str []), (.bool false), (.bool false), (.sl [] .nil), (.sl [] .nil)] []), [], none⟩,
                        ⟨some 142, .mv, [.tmp 10], none⟩,
                        ⟨some 143, .mv, [.tmp 11], none⟩,
                        ⟨none, (.st 8), [.tmp 4, .tmp 141], none⟩,
                        ⟨some 5, .mv, [.tmp 142], none⟩,
                        ⟨some 6, .mv, [.tmp 143], none⟩])
                      .ret)
                     .skip)))))
                .skip))
              (.seq (.seq (.runD [0, 4, 7, 8, 153] [⟨0, ⟨some 144, .mv, [.tmp 0], none⟩, []⟩,
                  ⟨1, ⟨some 145, .nilck, [.tmp 144], none⟩, []⟩,
                  ⟨2, ⟨some 146, (.faddr 1), [.tmp 145], none⟩, []⟩,
                  ⟨3, ⟨some 147, (.ld false 1), [.tmp 146], none⟩, []⟩,
                  ⟨4, ⟨some 148, .mv, [.tmp 0], none⟩, []⟩,
                  ⟨5, ⟨some 149, .nilck, [.tmp 148], none⟩, []⟩,
                  ⟨6, ⟨some 150, (.faddr 0), [.tmp 149], none⟩, []⟩,
                  ⟨7, ⟨some 151, (.ld false 1), [.tmp 150], none⟩, []⟩,
                  ⟨8, ⟨some 152, (.len 1), [.tmp 151], none⟩, []⟩,
                  ⟨9, ⟨some 153, (.bin .geq), [.tmp 147, .tmp 152], none⟩, []⟩])
                (.cond (.tmp 153)
                 (.seq (.runD [4, 5, 6] [⟨0, ⟨some 154, (.build [(.int .i64 0), (.int .i64 0), (.str []), (.str []), (.bool false), (.bool false), (.sl [] .nil), (.sl [] .nil)] []), [], none⟩, []⟩,
                    ⟨1, ⟨some 155, (.faddr 1), [.tmp 7], none⟩, []⟩,
                    ⟨2, ⟨some 156, (.ld false 1), [.tmp 155], none⟩, []⟩,
                    ⟨3, ⟨none, (.st 8), [.tmp 4, .tmp 154], none⟩, [2]⟩,
                    ⟨4, ⟨some 5, .mv, [.tmp 156], none⟩, []⟩,
                    ⟨5, ⟨some 6, .mv, [.const (.int .i64 7)], none⟩, []⟩])
                  .ret)
                 .skip))
               (.seq (.run [4, 8] [⟨some 157, .mv, [.tmp 0], none⟩,
                  ⟨some 158, .nilck, [.tmp 157], none⟩,
                  ⟨some 159, (.faddr 1), [.tmp 158], none⟩,
                  ⟨some 160, (.ld false 1), [.tmp 159], none⟩,
                  ⟨some 161, (.bin .add), [.tmp 160, .const (.int .i64 1)], none⟩,
                  ⟨some 162, .nilck, [.tmp 157], none⟩,
                  ⟨some 163, (.faddr 1), [.tmp 162], none⟩,
                  ⟨none, (.st 1), [.tmp 163, .tmp 161], none⟩])
                (.seq (.run [4, 5, 6] [⟨some 164, (.ld true 8), [.tmp 8], none⟩,
                   ⟨none, (.st 8), [.tmp 4, .tmp 164], none⟩,
                   ⟨some 5, .mv, [.const (.int .i64 0)], none⟩,
                   ⟨some 6, .mv, [.const (.int .i64 0)], none⟩])
                 .ret)))))))))))))))⟩

theorem f35_ok : compF Go.Proofs.Try.prog 35 f35.body.hints = some f35 := by kernel_rfl


def f47 : AFun := ⟨6, 1, [.slot 2],
  (.seq (.run [0] [⟨some 2, .mv, [.const (.bool false)], none⟩])
   (.seq (.run [2] [⟨some 3, .mv, [.tmp 0], none⟩,
      ⟨some 4, .ixs, [.tmp 3, .const (.int .i64 0)], none⟩,
      ⟨some 5, (.eqg false 6), [.tmp 4, .const (.int .u8 46)], none⟩,
      ⟨some 2, .mv, [.tmp 5], none⟩])
    .ret))⟩

theorem f47_ok : compF Go.Proofs.Try.prog 47 f47.body.hints = some f47 := by kernel_rfl


def f48 : AFun := ⟨47, 1, [.slot 2],
  (.seq (.run [0] [⟨some 2, .mv, [.const (.bool false)], none⟩])
   (.seq (.seq (.run [0, 17] [⟨some 4, .mv, [.tmp 0], none⟩,
       ⟨some 5, (.len 0), [.tmp 4], none⟩,
       ⟨some 6, (.bin .lss), [.tmp 5, .const (.int .i64 1)], none⟩,
       ⟨some 7, .mv, [.tmp 6], none⟩,
       ⟨some 8, .mv, [.tmp 0], some (7, false)⟩,
       ⟨some 9, (.len 0), [.tmp 8], some (7, false)⟩,
       ⟨some 10, (.bin .gtr), [.tmp 9, .const (.int .i64 32)], some (7, false)⟩,
       ⟨some 11, .pick, [.tmp 7, .const (.bool true), .tmp 10], none⟩,
       ⟨some 12, .mv, [.tmp 11], none⟩,
       ⟨some 13, .mv, [.tmp 0], some (12, false)⟩,
       ⟨some 14, .ixs, [.tmp 13, .const (.int .i64 0)], some (12, false)⟩,
       ⟨some 15, (.call 57), [.tmp 14], some (12, false)⟩,
       ⟨some 16, (.un .not), [.tmp 15], some (12, false)⟩,
       ⟨some 17, .pick, [.tmp 12, .const (.bool true), .tmp 16], none⟩])
     (.cond (.tmp 17)
      (.seq (.run [2] [⟨some 2, .mv, [.const (.bool false)], none⟩])
       .ret)
      .skip))
    (.seq (.seq (.run [0, 3] [⟨some 3, .mv, [.const (.int .i64 0)], none⟩])
      (.block 0 (.loop [0, 3] (.seq (.seq (.run [0, 3, 21] [⟨some 18, .mv, [.tmp 3], none⟩,
            ⟨some 19, .mv, [.tmp 0], none⟩,
            ⟨some 20, (.len 0), [.tmp 19], none⟩,
            ⟨some 21, (.bin .lss), [.tmp 18, .tmp 20], none⟩])
          (.cond (.tmp 21)
           .skip
           (.exit 0)))
         (.seq (.block 1 (.seq (.run [0, 3, 46] [⟨some 24, .mv, [.tmp 0], none⟩,
              ⟨some 25, .mv, [.tmp 3], none⟩,
              ⟨some 26, .ixs, [.tmp 24, .tmp 25], none⟩,
              ⟨some 27, (.call 57), [.tmp 26], none⟩,
              ⟨some 28, (.un .not), [.tmp 27], none⟩,
              ⟨some 29, .mv, [.tmp 28], none⟩,
              ⟨some 30, .mv, [.tmp 0], some (29, true)⟩,
              ⟨some 31, .mv, [.tmp 3], some (29, true)⟩,
              ⟨some 32, .ixs, [.tmp 30, .tmp 31], some (29, true)⟩,
              ⟨some 33, (.bin .lss), [.tmp 32, .const (.int .u8 48)], some (29, true)⟩,
              ⟨some 34, .mv, [.tmp 33], some (29, true)⟩,
              ⟨some 35, .mv, [.tmp 0], some (34, false)⟩,
              ⟨some 36, .mv, [.tmp 3], some (34, false)⟩,
              ⟨some 37, .ixs, [.tmp 35, .tmp 36], some (34, false)⟩,
              ⟨some 38, (.bin .gtr), [.tmp 37, .const (.int .u8 57)], some (34, false)⟩,
              ⟨some 39, .pick, [.tmp 34, .const (.bool true), .tmp 38], some (29, true)⟩,
              ⟨some 40, .pick, [.tmp 29, .tmp 39, .const (.bool false)], none⟩,
              ⟨some 41, .mv, [.tmp 40], none⟩,
              ⟨some 42, .mv, [.tmp 0], some (41, true)⟩,
              ⟨some 43, .mv, [.tmp 3], some (41, true)⟩,
              ⟨some 44, .ixs, [.tmp 42, .tmp 43], some (41, true)⟩,
              ⟨some 45, (.eqg true 6), [.tmp 44, .const (.int .u8 95)], some (41, true)⟩,
              ⟨some 46, .pick, [.tmp 41, .tmp 45, .const (.bool false)], none⟩])
            (.cond (.tmp 46)
             (.seq (.run [2] [⟨some 2, .mv, [.const (.bool false)], none⟩])
              .ret)
             .skip)))
          (.run [0, 3] [⟨some 22, .mv, [.tmp 3], none⟩,
            ⟨some 23, (.bin .add), [.tmp 22, .const (.int .i64 1)], none⟩,
            ⟨some 3, .mv, [.tmp 23], none⟩]))))))
     (.seq (.run [2] [⟨some 2, .mv, [.const (.bool true)], none⟩])
      .ret))))⟩

theorem f48_ok : compF Go.Proofs.Try.prog 48 f48.body.hints = some f48 := by kernel_rfl


def f49 : AFun := ⟨46, 1, [.slot 2, .slot 3],
  (.seq (.run [0] [⟨some 2, .mv, [.const (.slice none 0 0)], none⟩,
     ⟨some 3, .mv, [.const (.int .i64 0)], none⟩])
   (.seq (.seq (.run [0, 8] [⟨some 7, .mv, [.tmp 0], none⟩,
       ⟨some 8, (.eqg false 6), [.tmp 7, .const (.string ⟨#[]⟩)], none⟩])
     (.cond (.tmp 8)
      (.seq (.run [2, 3] [⟨some 2, .mv, [.const (.slice none 0 0)], none⟩,
         ⟨some 3, .mv, [.const (.int .i64 0)], none⟩])
       .ret)
      .skip))
    (.seq (.run [0, 4] [⟨some 4, .mv, [.const (.slice none 0 0)], none⟩])
     (.seq (.run [0, 4, 5] [⟨some 5, .mv, [.const (.int .i64 0)], none⟩])
      (.seq (.seq (.run [0, 4, 5, 6] [⟨some 6, .mv, [.const (.int .i64 0)], none⟩])
        (.block 0 (.loop [0, 4, 5, 6] (.seq (.seq (.run [0, 4, 5, 6, 12] [⟨some 9, .mv, [.tmp 6], none⟩,
              ⟨some 10, .mv, [.tmp 0], none⟩,
              ⟨some 11, (.len 0), [.tmp 10], none⟩,
              ⟨some 12, (.bin .leq), [.tmp 9, .tmp 11], none⟩])
            (.cond (.tmp 12)
             .skip
             (.exit 0)))
           (.seq (.block 1 (.seq (.run [0, 4, 5, 6, 24] [⟨some 15, .mv, [.tmp 6], none⟩,
                ⟨some 16, .mv, [.tmp 0], none⟩,
                ⟨some 17, (.len 0), [.tmp 16], none⟩,
                ⟨some 18, (.eqg false 6), [.tmp 15, .tmp 17], none⟩,
                ⟨some 19, .mv, [.tmp 18], none⟩,
                ⟨some 20, .mv, [.tmp 0], some (19, false)⟩,
                ⟨some 21, .mv, [.tmp 6], some (19, false)⟩,
                ⟨some 22, .ixs, [.tmp 20, .tmp 21], some (19, false)⟩,
                ⟨some 23, (.eqg false 6), [.tmp 22, .const (.int .u8 46)], some (19, false)⟩,
                ⟨some 24, .pick, [.tmp 19, .const (.bool true), .tmp 23], none⟩])
              (.cond (.tmp 24)
               (.seq (.seq (.run [0, 4, 5, 6, 35] [⟨some 25, .mv, [.tmp 0], none⟩,
                   ⟨some 26, .mv, [.tmp 5], none⟩,
                   ⟨some 27, .mv, [.tmp 6], none⟩,
                   ⟨some 28, (.slc 0 true true), [.tmp 25, .tmp 26, .tmp 27], none⟩,
                   ⟨some 29, (.call 48), [.tmp 28], none⟩,
                   ⟨some 30, (.un .not), [.tmp 29], none⟩,
                   ⟨some 31, .mv, [.tmp 30], none⟩,
                   ⟨some 32, .mv, [.tmp 4], some (31, false)⟩,
                   ⟨some 33, (.len 1), [.tmp 32], some (31, false)⟩,
                   ⟨some 34, (.eqg false 6), [.tmp 33, .const (.int .i64 8)], some (31, false)⟩,
                   ⟨some 35, .pick, [.tmp 31, .const (.bool true), .tmp 34], none⟩])
                 (.cond (.tmp 35)
                  (.seq (.run [2, 3] [⟨some 2, .mv, [.const (.slice none 0 0)], none⟩,
                     ⟨some 3, .mv, [.const (.int .i64 11)], none⟩])
                   .ret)
                  .skip))
                (.seq (.run [0, 4, 6] [⟨some 36, .mv, [.tmp 4], none⟩,
                   ⟨some 37, .mv, [.tmp 0], none⟩,
                   ⟨some 38, .mv, [.tmp 5], none⟩,
                   ⟨some 39, .mv, [.tmp 6], none⟩,
                   ⟨some 40, (.slc 0 true true), [.tmp 37, .tmp 38, .tmp 39], none⟩,
                   ⟨some 41, (.bslice 1 1 [(.str [])] [(0, 1)]), [.tmp 40], none⟩,
                   ⟨some 42, (.app 1 16), [.tmp 36, .tmp 41], none⟩,
                   ⟨some 4, .mv, [.tmp 42], none⟩])
                 (.run [0, 4, 5, 6] [⟨some 43, .mv, [.tmp 6], none⟩,
                   ⟨some 44, (.bin .add), [.tmp 43, .const (.int .i64 1)], none⟩,
                   ⟨some 5, .mv, [.tmp 44], none⟩])))
               .skip)))
            (.run [0, 4, 5, 6] [⟨some 13, .mv, [.tmp 6], none⟩,
              ⟨some 14, (.bin .add), [.tmp 13, .const (.int .i64 1)], none⟩,
              ⟨some 6, .mv, [.tmp 14], none⟩]))))))
       (.seq (.run [2, 3] [⟨some 45, .mv, [.tmp 4], none⟩,
          ⟨some 2, .mv, [.tmp 45], none⟩,
          ⟨some 3, .mv, [.const (.int .i64 0)], none⟩])
        .ret))))))⟩

theorem f49_ok : compF Go.Proofs.Try.prog 49 f49.body.hints = some f49 := by kernel_rfl


def f50 : AFun := ⟨13, 1, [.slot 2],
  (.seq (.run [0] [⟨some 2, .mv, [.const (.bool false)], none⟩])
   (.seq (.run [2] [⟨some 3, .mv, [.tmp 0], none⟩,
      ⟨some 4, (.eqg false 6), [.tmp 3, .const (.int .i64 2)], none⟩,
      ⟨some 5, .mv, [.tmp 4], none⟩,
      ⟨some 6, .mv, [.tmp 0], some (5, false)⟩,
      ⟨some 7, (.eqg false 6), [.tmp 6, .const (.int .i64 3)], some (5, false)⟩,
      ⟨some 8, .pick, [.tmp 5, .const (.bool true), .tmp 7], none⟩,
      ⟨some 9, .mv, [.tmp 8], none⟩,
      ⟨some 10, .mv, [.tmp 0], some (9, false)⟩,
      ⟨some 11, (.eqg false 6), [.tmp 10, .const (.int .i64 6)], some (9, false)⟩,
      ⟨some 12, .pick, [.tmp 9, .const (.bool true), .tmp 11], none⟩,
      ⟨some 2, .mv, [.tmp 12], none⟩])
    .ret))⟩

theorem f50_ok : compF Go.Proofs.Try.prog 50 f50.body.hints = some f50 := by kernel_rfl


def f57 : AFun := ⟨17, 1, [.slot 2],
  (.seq (.run [0] [⟨some 2, .mv, [.const (.bool false)], none⟩])
   (.seq (.run [2] [⟨some 3, .mv, [.tmp 0], none⟩,
      ⟨some 4, (.bin .geq), [.tmp 3, .const (.int .u8 65)], none⟩,
      ⟨some 5, .mv, [.tmp 4], none⟩,
      ⟨some 6, .mv, [.tmp 0], some (5, true)⟩,
      ⟨some 7, (.bin .leq), [.tmp 6, .const (.int .u8 90)], some (5, true)⟩,
      ⟨some 8, .pick, [.tmp 5, .tmp 7, .const (.bool false)], none⟩,
      ⟨some 9, .mv, [.tmp 8], none⟩,
      ⟨some 10, .mv, [.tmp 0], some (9, false)⟩,
      ⟨some 11, (.bin .geq), [.tmp 10, .const (.int .u8 97)], some (9, false)⟩,
      ⟨some 12, .mv, [.tmp 11], some (9, false)⟩,
      ⟨some 13, .mv, [.tmp 0], some (12, true)⟩,
      ⟨some 14, (.bin .leq), [.tmp 13, .const (.int .u8 122)], some (12, true)⟩,
      ⟨some 15, .pick, [.tmp 12, .tmp 14, .const (.bool false)], some (9, false)⟩,
      ⟨some 16, .pick, [.tmp 9, .const (.bool true), .tmp 15], none⟩,
      ⟨some 2, .mv, [.tmp 16], none⟩])
    .ret))⟩

theorem f57_ok : compF Go.Proofs.Try.prog 57 f57.body.hints = some f57 := by kernel_rfl

end Go.AL.Fun
