/- The functions of this seat's program, turned. Printed by a program; each is checked against the program. -/
import Derived.Test.YtjlmonghelbihaaB3
import Derived.Test.YtjlmonghelbihaaProg
import Derived.KernelRfl
namespace Go.AL.Fun
open Go.AL


def f3 : AFun := ⟨62, 1, [.slot 2],
  (.seq (.run [0] [⟨some 2, .mv, [.const (.bool false)], none⟩])
   (.seq (.seq (.run [0, 12] [⟨some 10, .mv, [.tmp 0], none⟩,
       ⟨some 11, (.len 0), [.tmp 10], none⟩,
       ⟨some 12, (.bin .gtr), [.tmp 11, .const (.int .i64 3000)], none⟩])
     (.cond (.tmp 12)
      (.seq (.run [2] [⟨some 13, (.call 11), [], none⟩,
         ⟨some 2, .mv, [.tmp 13], none⟩])
       .ret)
      .skip))
    (.seq (.run [0, 3] [⟨some 3, (.alloc [(.int .i64 0), (.str []), (.str []), (.str [])]), [], none⟩])
     (.seq (.run [0, 3, 4] [⟨some 4, (.alloc [(.int .i64 0), (.str []), (.str []), (.str [])]), [], none⟩])
      (.seq (.seq (.run [0, 3, 4, 15, 16] [⟨some 14, .mv, [.tmp 0], none⟩,
          ⟨some 15, (.len 0), [.tmp 14], none⟩,
          ⟨some 16, .mv, [.const (.int .i64 0)], none⟩])
        (.block 0 (.loop [0, 3, 4, 15, 16] (.seq (.run [0, 3, 4, 15, 16, 17] [⟨some 17, (.bin .lss), [.tmp 16, .tmp 15], none⟩])
           (.seq (.cond (.tmp 17)
             .skip
             (.exit 0))
            (.seq (.block 1 (.seq (.run [0, 3, 4, 5, 15, 16] [⟨some 18, .mv, [.tmp 16], none⟩,
                 ⟨some 5, .mv, [.tmp 18], none⟩])
               (.seq (.runD [0, 3, 4, 15, 16] [⟨0, ⟨some 19, (.ld true 4), [.tmp 3], none⟩, []⟩,
                  ⟨1, ⟨some 20, .mv, [.tmp 0], none⟩, []⟩,
                  ⟨2, ⟨some 21, .mv, [.tmp 5], none⟩, []⟩,
                  ⟨3, ⟨some 22, .ixs, [.tmp 20, .tmp 21], none⟩, []⟩,
                  ⟨5, ⟨some 24, (.ld true 4), [.tmp 4], none⟩, []⟩,
                  ⟨6, ⟨some 25, .mv, [.tmp 0], none⟩, []⟩,
                  ⟨7, ⟨some 26, .mv, [.tmp 5], none⟩, []⟩,
                  ⟨8, ⟨some 27, .ixs, [.tmp 25, .tmp 26], none⟩, []⟩,
                  ⟨4, ⟨some 23, (.call 12), [.tmp 19, .tmp 22], none⟩, [5]⟩,
                  ⟨9, ⟨some 28, (.call 13), [.tmp 24, .tmp 27], none⟩, []⟩,
                  ⟨10, ⟨none, (.st 4), [.tmp 3, .tmp 23], none⟩, []⟩,
                  ⟨11, ⟨none, (.st 4), [.tmp 4, .tmp 28], none⟩, []⟩])
                (.seq (.run [0, 3, 4, 6, 7, 15, 16] [⟨some 30, (.ld true 4), [.tmp 3], none⟩,
                   ⟨some 31, (.call 14), [.tmp 30], none⟩,
                   ⟨some 29, .mv, [.tmp 31], none⟩,
                   ⟨some 32, (.ext 0), [.tmp 29], none⟩,
                   ⟨some 33, (.ext 1), [.tmp 29], none⟩,
                   ⟨some 6, .mv, [.tmp 32], none⟩,
                   ⟨some 7, .mv, [.tmp 33], none⟩])
                 (.seq (.run [0, 3, 4, 6, 7, 8, 9, 15, 16] [⟨some 35, (.ld true 4), [.tmp 4], none⟩,
                    ⟨some 36, (.call 15), [.tmp 35], none⟩,
                    ⟨some 34, .mv, [.tmp 36], none⟩,
                    ⟨some 37, (.ext 0), [.tmp 34], none⟩,
                    ⟨some 38, (.ext 1), [.tmp 34], none⟩,
                    ⟨some 8, .mv, [.tmp 37], none⟩,
                    ⟨some 9, .mv, [.tmp 38], none⟩])
                  (.seq (.runD [0, 3, 4, 15, 16, 52] [⟨0, ⟨some 39, (.ld true 4), [.tmp 3], none⟩, []⟩,
                     ⟨2, ⟨some 41, (.ld true 4), [.tmp 4], none⟩, []⟩,
                     ⟨1, ⟨some 40, (.call 16), [.tmp 39], none⟩, [2]⟩,
                     ⟨3, ⟨some 42, (.eqs true [1, 2, 2, 2]), [.tmp 40, .tmp 41], none⟩, []⟩,
                     ⟨4, ⟨some 43, .mv, [.tmp 42], none⟩, []⟩,
                     ⟨5, ⟨some 44, .mv, [.tmp 6], some (43, false)⟩, []⟩,
                     ⟨6, ⟨some 45, .mv, [.tmp 8], some (43, false)⟩, []⟩,
                     ⟨7, ⟨some 46, (.eqg true 6), [.tmp 44, .tmp 45], some (43, false)⟩, []⟩,
                     ⟨8, ⟨some 47, .pick, [.tmp 43, .const (.bool true), .tmp 46], none⟩, []⟩,
                     ⟨9, ⟨some 48, .mv, [.tmp 47], none⟩, []⟩,
                     ⟨10, ⟨some 49, .mv, [.tmp 7], some (48, false)⟩, []⟩,
                     ⟨11, ⟨some 50, .mv, [.tmp 9], some (48, false)⟩, []⟩,
                     ⟨12, ⟨some 51, (.eqg true 0), [.tmp 49, .tmp 50], some (48, false)⟩, []⟩,
                     ⟨13, ⟨some 52, .pick, [.tmp 48, .const (.bool true), .tmp 51], none⟩, []⟩])
                   (.cond (.tmp 52)
                    (.seq (.run [2] [⟨some 2, .mv, [.const (.bool false)], none⟩])
                     .ret)
                    .skip)))))))
             (.run [0, 3, 4, 15, 16] [⟨some 53, (.bin .add), [.tmp 16, .const (.int .i64 1)], none⟩,
               ⟨some 16, .mv, [.tmp 53], none⟩])))))))
       (.seq (.runD [2] [⟨0, ⟨some 54, (.call 11), [], none⟩, []⟩,
          ⟨1, ⟨some 55, .mv, [.tmp 54], none⟩, []⟩,
          ⟨2, ⟨some 56, (.build [(.int .i64 0), (.str []), (.str []), (.str [])] []), [], some (55, true)⟩, []⟩,
          ⟨3, ⟨some 57, .mv, [.tmp 0], some (55, true)⟩, []⟩,
          ⟨5, ⟨some 59, (.ld true 4), [.tmp 3], some (55, true)⟩, []⟩,
          ⟨4, ⟨some 58, (.call 17), [.tmp 56, .tmp 57], some (55, true)⟩, [5]⟩,
          ⟨6, ⟨some 60, (.eqs false [1, 2, 2, 2]), [.tmp 58, .tmp 59], some (55, true)⟩, []⟩,
          ⟨7, ⟨some 61, .pick, [.tmp 55, .tmp 60, .const (.bool false)], none⟩, []⟩,
          ⟨8, ⟨some 2, .mv, [.tmp 61], none⟩, []⟩])
        .ret))))))⟩

theorem f3_ok : compF Go.Proofs.Try.prog 3 f3.body.hints = some f3 := by kernel_rfl


def f4 : AFun := ⟨27, 2, [.slot 4],
  (.seq (.run [0, 1] [⟨some 4, .mv, [.const (.bool false)], none⟩])
   (.seq (.seq (.run [0, 1, 11] [⟨some 6, .mv, [.tmp 0], none⟩,
       ⟨some 7, (.len 0), [.tmp 6], none⟩,
       ⟨some 8, .mv, [.tmp 1], none⟩,
       ⟨some 9, (.len 0), [.tmp 8], none⟩,
       ⟨some 10, (.bin .add), [.tmp 7, .tmp 9], none⟩,
       ⟨some 11, (.bin .gtr), [.tmp 10, .const (.int .i64 3000)], none⟩])
     (.cond (.tmp 11)
      (.seq (.run [4] [⟨some 12, (.call 11), [], none⟩,
         ⟨some 4, .mv, [.tmp 12], none⟩])
       .ret)
      .skip))
    (.seq (.run [0, 1, 5] [⟨some 5, (.alloc [(.int .i64 0), (.str []), (.str []), (.str [])]), [], none⟩])
     (.seq (.runD [4] [⟨0, ⟨some 13, (.call 11), [], none⟩, []⟩,
        ⟨1, ⟨some 14, .mv, [.tmp 13], none⟩, []⟩,
        ⟨2, ⟨some 15, (.ld true 4), [.tmp 5], some (14, true)⟩, []⟩,
        ⟨3, ⟨some 16, .mv, [.tmp 0], some (14, true)⟩, []⟩,
        ⟨5, ⟨some 18, .mv, [.tmp 1], some (14, true)⟩, []⟩,
        ⟨7, ⟨some 20, (.ld true 4), [.tmp 5], some (14, true)⟩, []⟩,
        ⟨8, ⟨some 21, .mv, [.tmp 0], some (14, true)⟩, []⟩,
        ⟨9, ⟨some 22, .mv, [.tmp 1], some (14, true)⟩, []⟩,
        ⟨10, ⟨some 23, (.bin .add), [.tmp 21, .tmp 22], some (14, true)⟩, []⟩,
        ⟨4, ⟨some 17, (.call 17), [.tmp 15, .tmp 16], some (14, true)⟩, [7]⟩,
        ⟨6, ⟨some 19, (.call 17), [.tmp 17, .tmp 18], some (14, true)⟩, [7]⟩,
        ⟨11, ⟨some 24, (.call 17), [.tmp 20, .tmp 23], some (14, true)⟩, []⟩,
        ⟨12, ⟨some 25, (.eqs false [1, 2, 2, 2]), [.tmp 19, .tmp 24], some (14, true)⟩, []⟩,
        ⟨13, ⟨some 26, .pick, [.tmp 14, .tmp 25, .const (.bool false)], none⟩, []⟩,
        ⟨14, ⟨some 4, .mv, [.tmp 26], none⟩, []⟩])
      .ret))))⟩

theorem f4_ok : compF Go.Proofs.Try.prog 4 f4.body.hints = some f4 := by kernel_rfl


def f5 : AFun := ⟨104, 2, [.slot 4],
  (.seq (.run [0, 1] [⟨some 4, .mv, [.const (.bool false)], none⟩])
   (.seq (.seq (.run [0, 1, 21] [⟨some 10, .mv, [.tmp 0], none⟩,
       ⟨some 11, (.len 0), [.tmp 10], none⟩,
       ⟨some 12, (.bin .gtr), [.tmp 11, .const (.int .i64 30)], none⟩,
       ⟨some 13, .mv, [.tmp 12], none⟩,
       ⟨some 14, .mv, [.tmp 1], some (13, false)⟩,
       ⟨some 15, (.len 0), [.tmp 14], some (13, false)⟩,
       ⟨some 16, (.bin .gtr), [.tmp 15, .const (.int .i64 1000)], some (13, false)⟩,
       ⟨some 17, .pick, [.tmp 13, .const (.bool true), .tmp 16], none⟩,
       ⟨some 18, .mv, [.tmp 17], none⟩,
       ⟨some 19, .mv, [.tmp 0], some (18, false)⟩,
       ⟨some 20, (.eqg false 6), [.tmp 19, .const (.string ⟨#[]⟩)], some (18, false)⟩,
       ⟨some 21, .pick, [.tmp 18, .const (.bool true), .tmp 20], none⟩])
     (.cond (.tmp 21)
      (.seq (.run [4] [⟨some 22, (.call 11), [], none⟩,
         ⟨some 4, .mv, [.tmp 22], none⟩])
       .ret)
      .skip))
    (.seq (.seq (.run [0, 1, 24, 25] [⟨some 23, .mv, [.tmp 0], none⟩,
        ⟨some 24, (.len 0), [.tmp 23], none⟩,
        ⟨some 25, .mv, [.const (.int .i64 0)], none⟩])
      (.block 0 (.loop [0, 1, 24, 25] (.seq (.run [0, 1, 24, 25, 26] [⟨some 26, (.bin .lss), [.tmp 25, .tmp 24], none⟩])
         (.seq (.cond (.tmp 26)
           .skip
           (.exit 0))
          (.seq (.block 1 (.seq (.run [0, 1, 5, 24, 25] [⟨some 27, .mv, [.tmp 25], none⟩,
               ⟨some 5, .mv, [.tmp 27], none⟩])
             (.seq (.run [0, 1, 24, 25, 37] [⟨some 28, .mv, [.tmp 0], none⟩,
                ⟨some 29, .mv, [.tmp 5], none⟩,
                ⟨some 30, .ixs, [.tmp 28, .tmp 29], none⟩,
                ⟨some 31, (.bin .lss), [.tmp 30, .const (.int .u8 97)], none⟩,
                ⟨some 32, .mv, [.tmp 31], none⟩,
                ⟨some 33, .mv, [.tmp 0], some (32, false)⟩,
                ⟨some 34, .mv, [.tmp 5], some (32, false)⟩,
                ⟨some 35, .ixs, [.tmp 33, .tmp 34], some (32, false)⟩,
                ⟨some 36, (.bin .gtr), [.tmp 35, .const (.int .u8 122)], some (32, false)⟩,
                ⟨some 37, .pick, [.tmp 32, .const (.bool true), .tmp 36], none⟩])
              (.cond (.tmp 37)
               (.seq (.run [4] [⟨some 38, (.call 11), [], none⟩,
                  ⟨some 4, .mv, [.tmp 38], none⟩])
                .ret)
               .skip))))
           (.run [0, 1, 24, 25] [⟨some 39, (.bin .add), [.tmp 25, .const (.int .i64 1)], none⟩,
             ⟨some 25, .mv, [.tmp 39], none⟩])))))))
     (.seq (.run [0, 1, 6] [⟨some 40, (.build [(.int .i64 0), (.str []), (.str []), (.str [])] []), [], none⟩,
        ⟨some 41, .mv, [.tmp 0], none⟩,
        ⟨some 42, (.bin .add), [.const (.string ⟨#[60]⟩), .tmp 41], none⟩,
        ⟨some 43, (.bin .add), [.tmp 42, .const (.string ⟨#[32, 105, 100, 61, 34, 120, 34, 62]⟩)], none⟩,
        ⟨some 44, (.call 17), [.tmp 40, .tmp 43], none⟩,
        ⟨some 6, (.alloc [(.int .i64 0), (.str []), (.str []), (.str [])]), [], none⟩,
        ⟨none, (.st 4), [.tmp 6, .tmp 44], none⟩])
      (.seq (.run [0, 1, 6, 7] [⟨some 45, (.build [(.int .i64 0), (.str []), (.str []), (.str [])] []), [], none⟩,
         ⟨some 7, (.alloc [(.int .i64 0), (.str []), (.str []), (.str [])]), [], none⟩,
         ⟨none, (.st 4), [.tmp 7, .tmp 45], none⟩])
       (.seq (.seq (.run [0, 1, 6, 7, 46] [⟨some 46, .mv, [.tmp 0], none⟩])
         (.block 2 (.seq (.run [0, 1, 6, 7, 46, 47] [⟨some 48, (.eqg false 6), [.tmp 46, .const (.string ⟨#[115, 99, 114, 105, 112, 116]⟩)], none⟩,
             ⟨some 47, .mv, [.tmp 48], none⟩])
           (.cond (.tmp 47)
            (.run [0, 1, 6, 7] [⟨some 49, (.faddr 0), [.tmp 7], none⟩,
              ⟨none, (.st 1), [.tmp 49, .const (.int .i64 16)], none⟩])
            (.seq (.run [0, 1, 6, 7, 50] [⟨some 51, (.eqg false 6), [.tmp 46, .const (.string ⟨#[115, 116, 121, 108, 101]⟩)], none⟩,
               ⟨some 50, .mv, [.tmp 51], none⟩])
             (.cond (.tmp 50)
              (.run [0, 1, 6, 7] [⟨some 52, (.faddr 0), [.tmp 7], none⟩,
                ⟨none, (.st 1), [.tmp 52, .const (.int .i64 19)], none⟩])
              .skip))))))
        (.seq (.seq (.run [0, 1, 6, 7, 55] [⟨some 53, (.ld true 4), [.tmp 6], none⟩,
            ⟨some 54, (.ld true 4), [.tmp 7], none⟩,
            ⟨some 55, (.eqs true [1, 2, 2, 2]), [.tmp 53, .tmp 54], none⟩])
          (.cond (.tmp 55)
           (.seq (.run [4] [⟨some 4, .mv, [.const (.bool false)], none⟩])
            .ret)
           .skip))
         (.seq (.seq (.run [0, 1, 6, 7, 57, 58] [⟨some 56, .mv, [.tmp 1], none⟩,
             ⟨some 57, (.len 0), [.tmp 56], none⟩,
             ⟨some 58, .mv, [.const (.int .i64 0)], none⟩])
           (.block 3 (.loop [0, 1, 6, 7, 57, 58] (.seq (.run [0, 1, 6, 7, 57, 58, 59] [⟨some 59, (.bin .lss), [.tmp 58, .tmp 57], none⟩])
              (.seq (.cond (.tmp 59)
                .skip
                (.exit 3))
               (.seq (.block 4 (.seq (.run [0, 1, 6, 7, 8, 57, 58] [⟨some 60, .mv, [.tmp 58], none⟩,
                    ⟨some 8, .mv, [.tmp 60], none⟩])
                  (.seq (.run [0, 1, 6, 7, 57, 58, 64] [⟨some 61, .mv, [.tmp 1], none⟩,
                     ⟨some 62, .mv, [.tmp 8], none⟩,
                     ⟨some 63, .ixs, [.tmp 61, .tmp 62], none⟩,
                     ⟨some 64, (.eqg false 6), [.tmp 63, .const (.int .u8 60)], none⟩])
                   (.cond (.tmp 64)
                    (.seq (.run [4] [⟨some 65, (.call 11), [], none⟩,
                       ⟨some 4, .mv, [.tmp 65], none⟩])
                     .ret)
                    .skip))))
                (.run [0, 1, 6, 7, 57, 58] [⟨some 66, (.bin .add), [.tmp 58, .const (.int .i64 1)], none⟩,
                  ⟨some 58, .mv, [.tmp 66], none⟩])))))))
          (.seq (.run [0, 6, 7, 9] [⟨some 67, (.ld true 4), [.tmp 6], none⟩,
             ⟨some 68, .mv, [.tmp 1], none⟩,
             ⟨some 69, (.call 17), [.tmp 67, .tmp 68], none⟩,
             ⟨some 9, (.alloc [(.int .i64 0), (.str []), (.str []), (.str [])]), [], none⟩,
             ⟨none, (.st 4), [.tmp 9, .tmp 69], none⟩])
           (.seq (.seq (.run [0, 6, 7, 9, 72] [⟨some 70, (.faddr 0), [.tmp 7], none⟩,
               ⟨some 71, (.ld false 1), [.tmp 70], none⟩,
               ⟨some 72, (.eqg false 6), [.tmp 71, .const (.int .i64 0)], none⟩])
             (.cond (.tmp 72)
              (.seq (.run [4] [⟨some 73, (.call 11), [], none⟩,
                 ⟨some 74, .mv, [.tmp 73], none⟩,
                 ⟨some 75, (.ld true 4), [.tmp 9], some (74, true)⟩,
                 ⟨some 76, (.ld true 4), [.tmp 6], some (74, true)⟩,
                 ⟨some 77, (.eqs false [1, 2, 2, 2]), [.tmp 75, .tmp 76], some (74, true)⟩,
                 ⟨some 78, .pick, [.tmp 74, .tmp 77, .const (.bool false)], none⟩,
                 ⟨some 4, .mv, [.tmp 78], none⟩])
               .ret)
              .skip))
            (.seq (.run [4] [⟨some 79, (.call 11), [], none⟩,
               ⟨some 80, .mv, [.tmp 79], none⟩,
               ⟨some 81, (.faddr 0), [.tmp 9], some (80, true)⟩,
               ⟨some 82, (.ld false 1), [.tmp 81], some (80, true)⟩,
               ⟨some 83, (.faddr 0), [.tmp 7], some (80, true)⟩,
               ⟨some 84, (.ld false 1), [.tmp 83], some (80, true)⟩,
               ⟨some 85, (.bin .geq), [.tmp 82, .tmp 84], some (80, true)⟩,
               ⟨some 86, .pick, [.tmp 80, .tmp 85, .const (.bool false)], none⟩,
               ⟨some 87, .mv, [.tmp 86], none⟩,
               ⟨some 88, (.faddr 0), [.tmp 9], some (87, true)⟩,
               ⟨some 89, (.ld false 1), [.tmp 88], some (87, true)⟩,
               ⟨some 90, (.faddr 0), [.tmp 7], some (87, true)⟩,
               ⟨some 91, (.ld false 1), [.tmp 90], some (87, true)⟩,
               ⟨some 92, (.bin .add), [.tmp 91, .const (.int .i64 2)], some (87, true)⟩,
               ⟨some 93, (.bin .leq), [.tmp 89, .tmp 92], some (87, true)⟩,
               ⟨some 94, .pick, [.tmp 87, .tmp 93, .const (.bool false)], none⟩,
               ⟨some 95, .mv, [.tmp 94], none⟩,
               ⟨some 96, (.ld true 4), [.tmp 9], some (95, true)⟩,
               ⟨some 97, .mv, [.tmp 0], some (95, true)⟩,
               ⟨some 98, (.bin .add), [.const (.string ⟨#[60, 47]⟩), .tmp 97], some (95, true)⟩,
               ⟨some 99, (.bin .add), [.tmp 98, .const (.string ⟨#[62]⟩)], some (95, true)⟩,
               ⟨some 100, (.call 17), [.tmp 96, .tmp 99], some (95, true)⟩,
               ⟨some 101, (.build [(.int .i64 0), (.str []), (.str []), (.str [])] []), [], some (95, true)⟩,
               ⟨some 102, (.eqs false [1, 2, 2, 2]), [.tmp 100, .tmp 101], some (95, true)⟩,
               ⟨some 103, .pick, [.tmp 95, .tmp 102, .const (.bool false)], none⟩,
               ⟨some 4, .mv, [.tmp 103], none⟩])
             .ret)))))))))))⟩

theorem f5_ok : compF Go.Proofs.Try.prog 5 f5.body.hints = some f5 := by kernel_rfl


def f6 : AFun := ⟨63, 1, [.slot 2],
  (.seq (.run [0] [⟨some 2, .mv, [.const (.bool false)], none⟩])
   (.seq (.seq (.run [0, 9] [⟨some 7, .mv, [.tmp 0], none⟩,
       ⟨some 8, (.len 0), [.tmp 7], none⟩,
       ⟨some 9, (.bin .gtr), [.tmp 8, .const (.int .i64 3000)], none⟩])
     (.cond (.tmp 9)
      (.seq (.run [2] [⟨some 10, (.call 11), [], none⟩,
         ⟨some 2, .mv, [.tmp 10], none⟩])
       .ret)
      .skip))
    (.seq (.run [3] [⟨some 11, (.build [(.int .i64 0), (.str []), (.str []), (.str [])] []), [], none⟩,
       ⟨some 12, .mv, [.tmp 0], none⟩,
       ⟨some 13, (.call 17), [.tmp 11, .tmp 12], none⟩,
       ⟨some 3, (.alloc [(.int .i64 0), (.str []), (.str []), (.str [])]), [], none⟩,
       ⟨none, (.st 4), [.tmp 3, .tmp 13], none⟩])
     (.seq (.seq (.run [3, 20, 21, 22] [⟨some 14, (.faddr 1), [.tmp 3], none⟩,
         ⟨some 15, (.ld false 1), [.tmp 14], none⟩,
         ⟨some 16, (.faddr 2), [.tmp 3], none⟩,
         ⟨some 17, (.ld false 1), [.tmp 16], none⟩,
         ⟨some 18, (.faddr 3), [.tmp 3], none⟩,
         ⟨some 19, (.ld false 1), [.tmp 18], none⟩,
         ⟨some 20, (.bslice 1 3 [(.str [])] [(0, 1), (1, 1), (2, 1)]), [.tmp 15, .tmp 17, .tmp 19], none⟩,
         ⟨some 21, (.len 1), [.tmp 20], none⟩,
         ⟨some 22, .mv, [.const (.int .i64 0)], none⟩])
       (.block 0 (.loop [3, 20, 21, 22] (.seq (.run [3, 20, 21, 22, 23] [⟨some 23, (.bin .lss), [.tmp 22, .tmp 21], none⟩])
          (.seq (.cond (.tmp 23)
            .skip
            (.exit 0))
           (.seq (.block 1 (.seq (.run [3, 5, 20, 21, 22] [⟨some 24, (.iaddr 1), [.tmp 20, .tmp 22], none⟩,
                ⟨some 25, (.ld false 1), [.tmp 24], none⟩,
                ⟨some 5, .mv, [.tmp 25], none⟩])
              (.seq (.seq (.run [3, 5, 20, 21, 22, 28] [⟨some 26, .mv, [.tmp 5], none⟩,
                  ⟨some 27, (.len 0), [.tmp 26], none⟩,
                  ⟨some 28, (.bin .gtr), [.tmp 27, .const (.int .i64 16)], none⟩])
                (.cond (.tmp 28)
                 (.seq (.run [2] [⟨some 2, .mv, [.const (.bool false)], none⟩])
                  .ret)
                 .skip))
               (.seq (.run [3, 5, 20, 21, 22, 30, 31] [⟨some 29, .mv, [.tmp 5], none⟩,
                  ⟨some 30, (.len 0), [.tmp 29], none⟩,
                  ⟨some 31, .mv, [.const (.int .i64 0)], none⟩])
                (.block 2 (.loop [3, 5, 20, 21, 22, 30, 31] (.seq (.run [3, 5, 20, 21, 22, 30, 31, 32] [⟨some 32, (.bin .lss), [.tmp 31, .tmp 30], none⟩])
                   (.seq (.cond (.tmp 32)
                     .skip
                     (.exit 2))
                    (.seq (.block 3 (.seq (.run [3, 5, 6, 20, 21, 22, 30, 31] [⟨some 33, .mv, [.tmp 31], none⟩,
                         ⟨some 6, .mv, [.tmp 33], none⟩])
                       (.seq (.run [3, 5, 20, 21, 22, 30, 31, 43] [⟨some 34, .mv, [.tmp 5], none⟩,
                          ⟨some 35, .mv, [.tmp 6], none⟩,
                          ⟨some 36, .ixs, [.tmp 34, .tmp 35], none⟩,
                          ⟨some 37, (.bin .geq), [.tmp 36, .const (.int .u8 65)], none⟩,
                          ⟨some 38, .mv, [.tmp 37], none⟩,
                          ⟨some 39, .mv, [.tmp 5], some (38, true)⟩,
                          ⟨some 40, .mv, [.tmp 6], some (38, true)⟩,
                          ⟨some 41, .ixs, [.tmp 39, .tmp 40], some (38, true)⟩,
                          ⟨some 42, (.bin .leq), [.tmp 41, .const (.int .u8 90)], some (38, true)⟩,
                          ⟨some 43, .pick, [.tmp 38, .tmp 42, .const (.bool false)], none⟩])
                        (.cond (.tmp 43)
                         (.seq (.run [2] [⟨some 2, .mv, [.const (.bool false)], none⟩])
                          .ret)
                         .skip))))
                     (.run [3, 5, 20, 21, 22, 30, 31] [⟨some 44, (.bin .add), [.tmp 31, .const (.int .i64 1)], none⟩,
                       ⟨some 31, .mv, [.tmp 44], none⟩]))))))))))
            (.run [3, 20, 21, 22] [⟨some 45, (.bin .add), [.tmp 22, .const (.int .i64 1)], none⟩,
              ⟨some 22, .mv, [.tmp 45], none⟩])))))))
      (.seq (.run [2] [⟨some 46, (.call 11), [], none⟩,
         ⟨some 47, .mv, [.tmp 46], none⟩,
         ⟨some 48, (.faddr 3), [.tmp 3], some (47, true)⟩,
         ⟨some 49, (.ld false 1), [.tmp 48], some (47, true)⟩,
         ⟨some 50, (.len 0), [.tmp 49], some (47, true)⟩,
         ⟨some 51, (.bin .leq), [.tmp 50, .const (.int .i64 7)], some (47, true)⟩,
         ⟨some 52, .pick, [.tmp 47, .tmp 51, .const (.bool false)], none⟩,
         ⟨some 53, .mv, [.tmp 52], none⟩,
         ⟨some 54, (.faddr 0), [.tmp 3], some (53, true)⟩,
         ⟨some 55, (.ld false 1), [.tmp 54], some (53, true)⟩,
         ⟨some 56, (.bin .geq), [.tmp 55, .const (.int .i64 0)], some (53, true)⟩,
         ⟨some 57, .pick, [.tmp 53, .tmp 56, .const (.bool false)], none⟩,
         ⟨some 58, .mv, [.tmp 57], none⟩,
         ⟨some 59, (.faddr 0), [.tmp 3], some (58, true)⟩,
         ⟨some 60, (.ld false 1), [.tmp 59], some (58, true)⟩,
         ⟨some 61, (.bin .leq), [.tmp 60, .const (.int .i64 21)], some (58, true)⟩,
         ⟨some 62, .pick, [.tmp 58, .tmp 61, .const (.bool false)], none⟩,
         ⟨some 2, .mv, [.tmp 62], none⟩])
       .ret)))))⟩

theorem f6_ok : compF Go.Proofs.Try.prog 6 f6.body.hints = some f6 := by kernel_rfl


def f7 : AFun := ⟨40, 1, [.slot 2],
  (.seq (.run [0] [⟨some 2, .mv, [.const (.bool false)], none⟩])
   (.seq (.run [3] [⟨some 10, .mv, [.tmp 0], none⟩,
      ⟨some 11, (.call 18), [.tmp 10], none⟩,
      ⟨some 3, .mv, [.tmp 11], none⟩])
    (.seq (.run [3, 4, 5, 6] [⟨some 13, .mv, [.tmp 3], none⟩,
       ⟨some 14, (.call 19), [.tmp 13], none⟩,
       ⟨some 12, .mv, [.tmp 14], none⟩,
       ⟨some 15, (.ext 0), [.tmp 12], none⟩,
       ⟨some 16, (.ext 1), [.tmp 12], none⟩,
       ⟨some 17, (.ext 2), [.tmp 12], none⟩,
       ⟨some 4, .mv, [.tmp 15], none⟩,
       ⟨some 5, .mv, [.tmp 16], none⟩,
       ⟨some 6, .mv, [.tmp 17], none⟩])
     (.seq (.run [4, 5, 6, 7, 8, 9] [⟨some 19, .mv, [.tmp 3], none⟩,
        ⟨some 20, (.call 20), [.tmp 19], none⟩,
        ⟨some 18, .mv, [.tmp 20], none⟩,
        ⟨some 21, (.ext 0), [.tmp 18], none⟩,
        ⟨some 22, (.ext 1), [.tmp 18], none⟩,
        ⟨some 23, (.ext 2), [.tmp 18], none⟩,
        ⟨some 7, .mv, [.tmp 21], none⟩,
        ⟨some 8, .mv, [.tmp 22], none⟩,
        ⟨some 9, .mv, [.tmp 23], none⟩])
      (.seq (.run [2] [⟨some 24, (.call 21), [], none⟩,
         ⟨some 25, .mv, [.tmp 24], none⟩,
         ⟨some 26, .mv, [.tmp 4], some (25, true)⟩,
         ⟨some 27, .mv, [.tmp 7], some (25, true)⟩,
         ⟨some 28, (.call 22), [.tmp 26, .tmp 27], some (25, true)⟩,
         ⟨some 29, .pick, [.tmp 25, .tmp 28, .const (.bool false)], none⟩,
         ⟨some 30, .mv, [.tmp 29], none⟩,
         ⟨some 31, .mv, [.tmp 5], some (30, true)⟩,
         ⟨some 32, .mv, [.tmp 8], some (30, true)⟩,
         ⟨some 33, (.eqg false 6), [.tmp 31, .tmp 32], some (30, true)⟩,
         ⟨some 34, .pick, [.tmp 30, .tmp 33, .const (.bool false)], none⟩,
         ⟨some 35, .mv, [.tmp 34], none⟩,
         ⟨some 36, .mv, [.tmp 6], some (35, true)⟩,
         ⟨some 37, .mv, [.tmp 9], some (35, true)⟩,
         ⟨some 38, (.eqg false 6), [.tmp 36, .tmp 37], some (35, true)⟩,
         ⟨some 39, .pick, [.tmp 35, .tmp 38, .const (.bool false)], none⟩,
         ⟨some 2, .mv, [.tmp 39], none⟩])
       .ret)))))⟩

theorem f7_ok : compF Go.Proofs.Try.prog 7 f7.body.hints = some f7 := by kernel_rfl


def f8 : AFun := ⟨67, 2, [.slot 4],
  (.seq (.run [0, 1] [⟨some 4, .mv, [.const (.bool false)], none⟩])
   (.seq (.seq (.run [0, 1, 12] [⟨some 10, .mv, [.tmp 0], none⟩,
       ⟨some 11, (.len 0), [.tmp 10], none⟩,
       ⟨some 12, (.bin .gtr), [.tmp 11, .const (.int .i64 2000)], none⟩])
     (.cond (.tmp 12)
      (.seq (.run [4] [⟨some 13, (.call 21), [], none⟩,
         ⟨some 4, .mv, [.tmp 13], none⟩])
       .ret)
      .skip))
    (.seq (.run [0, 5] [⟨some 14, .mv, [.tmp 1], none⟩,
       ⟨some 15, (.call 18), [.tmp 14], none⟩,
       ⟨some 5, .mv, [.tmp 15], none⟩])
     (.seq (.run [0, 5, 6, 7, 8] [⟨some 17, (.build [(.int .i64 0), (.str []), (.str []), (.str [])] []), [], none⟩,
        ⟨some 18, .mv, [.tmp 0], none⟩,
        ⟨some 19, (.call 17), [.tmp 17, .tmp 18], none⟩,
        ⟨some 20, .mv, [.tmp 5], none⟩,
        ⟨some 21, (.call 23), [.tmp 19, .tmp 20], none⟩,
        ⟨some 16, .mv, [.tmp 21], none⟩,
        ⟨some 22, (.ext 0), [.tmp 16], none⟩,
        ⟨some 23, (.ext 1), [.tmp 16], none⟩,
        ⟨some 24, (.ext 2), [.tmp 16], none⟩,
        ⟨some 6, (.alloc [(.int .i64 0), (.str []), (.str []), (.str [])]), [], none⟩,
        ⟨none, (.st 4), [.tmp 6, .tmp 22], none⟩,
        ⟨some 7, .mv, [.tmp 23], none⟩,
        ⟨some 8, .mv, [.tmp 24], none⟩])
      (.seq (.run [6, 7, 8, 9] [⟨some 25, (.build [(.int .i64 0), (.str []), (.str []), (.str [])] []), [], none⟩,
         ⟨some 26, .mv, [.tmp 0], none⟩,
         ⟨some 27, (.call 25), [.tmp 25, .tmp 26], none⟩,
         ⟨some 28, .mv, [.tmp 5], none⟩,
         ⟨some 29, (.call 24), [.tmp 27, .tmp 28], none⟩,
         ⟨some 9, (.alloc [(.int .i64 0), (.str []), (.str []), (.str []), (.sl [] .nil), (.int .i64 0), (.int .i64 0)]), [], none⟩,
         ⟨none, (.st 7), [.tmp 9, .tmp 29], none⟩])
       (.seq (.seq (.run [6, 7, 8, 9, 32] [⟨some 30, (.faddr 6), [.tmp 9], none⟩,
           ⟨some 31, (.ld false 1), [.tmp 30], none⟩,
           ⟨some 32, (.eqg true 6), [.tmp 31, .const (.int .i64 0)], none⟩])
         (.cond (.tmp 32)
          (.seq (.run [4] [⟨some 33, (.call 21), [], none⟩,
             ⟨some 34, .mv, [.tmp 33], none⟩,
             ⟨some 35, (.ld true 4), [.tmp 6], some (34, true)⟩,
             ⟨some 36, (.build [(.int .i64 0), (.str []), (.str []), (.str [])] []), [], some (34, true)⟩,
             ⟨some 37, (.eqs false [1, 2, 2, 2]), [.tmp 35, .tmp 36], some (34, true)⟩,
             ⟨some 38, .pick, [.tmp 34, .tmp 37, .const (.bool false)], none⟩,
             ⟨some 39, .mv, [.tmp 38], none⟩,
             ⟨some 40, .mv, [.tmp 7], some (39, true)⟩,
             ⟨some 41, (.faddr 5), [.tmp 9], some (39, true)⟩,
             ⟨some 42, (.ld false 1), [.tmp 41], some (39, true)⟩,
             ⟨some 43, (.eqg false 6), [.tmp 40, .tmp 42], some (39, true)⟩,
             ⟨some 44, .pick, [.tmp 39, .tmp 43, .const (.bool false)], none⟩,
             ⟨some 45, .mv, [.tmp 44], none⟩,
             ⟨some 46, .mv, [.tmp 8], some (45, true)⟩,
             ⟨some 47, (.faddr 6), [.tmp 9], some (45, true)⟩,
             ⟨some 48, (.ld false 1), [.tmp 47], some (45, true)⟩,
             ⟨some 49, (.eqg false 6), [.tmp 46, .tmp 48], some (45, true)⟩,
             ⟨some 50, .pick, [.tmp 45, .tmp 49, .const (.bool false)], none⟩,
             ⟨some 4, .mv, [.tmp 50], none⟩])
           .ret)
          .skip))
        (.seq (.runD [4] [⟨0, ⟨some 51, (.call 21), [], none⟩, []⟩,
           ⟨1, ⟨some 52, .mv, [.tmp 51], none⟩, []⟩,
           ⟨2, ⟨some 53, .mv, [.tmp 8], some (52, true)⟩, []⟩,
           ⟨3, ⟨some 54, (.eqg false 6), [.tmp 53, .const (.int .i64 0)], some (52, true)⟩, []⟩,
           ⟨4, ⟨some 55, .pick, [.tmp 52, .tmp 54, .const (.bool false)], none⟩, []⟩,
           ⟨5, ⟨some 56, .mv, [.tmp 55], none⟩, []⟩,
           ⟨6, ⟨some 57, .mv, [.tmp 7], some (56, true)⟩, []⟩,
           ⟨7, ⟨some 58, (.eqg false 6), [.tmp 57, .const (.int .i64 0)], some (56, true)⟩, []⟩,
           ⟨8, ⟨some 59, .pick, [.tmp 56, .tmp 58, .const (.bool false)], none⟩, []⟩,
           ⟨9, ⟨some 60, .mv, [.tmp 59], none⟩, []⟩,
           ⟨10, ⟨some 61, (.ld true 4), [.tmp 6], some (60, true)⟩, []⟩,
           ⟨12, ⟨some 63, (.faddr 0), [.tmp 9], some (60, true)⟩, []⟩,
           ⟨13, ⟨some 64, (.ld true 4), [.tmp 63], some (60, true)⟩, []⟩,
           ⟨11, ⟨some 62, (.call 16), [.tmp 61], some (60, true)⟩, [13]⟩,
           ⟨14, ⟨some 65, (.eqs false [1, 2, 2, 2]), [.tmp 62, .tmp 64], some (60, true)⟩, []⟩,
           ⟨15, ⟨some 66, .pick, [.tmp 60, .tmp 65, .const (.bool false)], none⟩, []⟩,
           ⟨16, ⟨some 4, .mv, [.tmp 66], none⟩, []⟩])
         .ret)))))))⟩

theorem f8_ok : compF Go.Proofs.Try.prog 8 f8.body.hints = some f8 := by kernel_rfl


def f9 : AFun := ⟨73, 2, [.slot 4],
  (.seq (.run [0, 1] [⟨some 4, .mv, [.const (.bool false)], none⟩])
   (.seq (.run [1, 5] [⟨some 16, .mv, [.tmp 0], none⟩,
      ⟨some 17, (.call 18), [.tmp 16], none⟩,
      ⟨some 5, .mv, [.tmp 17], none⟩])
    (.seq (.run [5, 6] [⟨some 18, .mv, [.tmp 1], none⟩,
       ⟨some 19, (.cvi .i64), [.tmp 18], none⟩,
       ⟨some 20, .mv, [.tmp 5], none⟩,
       ⟨some 21, (.len 1), [.tmp 20], none⟩,
       ⟨some 22, (.bin .add), [.tmp 21, .const (.int .i64 1)], none⟩,
       ⟨some 23, (.bin .rem), [.tmp 19, .tmp 22], none⟩,
       ⟨some 6, .mv, [.tmp 23], none⟩])
     (.seq (.run [5, 6, 7, 9] [⟨some 25, (.build [(.int .i64 0), (.str []), (.str []), (.str [])] []), [], none⟩,
        ⟨some 26, .mv, [.tmp 5], none⟩,
        ⟨some 27, .mv, [.tmp 6], none⟩,
        ⟨some 28, (.slc 8 false true), [.tmp 26, .tmp 27], none⟩,
        ⟨some 29, (.call 23), [.tmp 25, .tmp 28], none⟩,
        ⟨some 24, .mv, [.tmp 29], none⟩,
        ⟨some 30, (.ext 0), [.tmp 24], none⟩,
        ⟨some 31, (.ext 1), [.tmp 24], none⟩,
        ⟨some 32, (.ext 2), [.tmp 24], none⟩,
        ⟨some 7, (.alloc [(.int .i64 0), (.str []), (.str []), (.str [])]), [], none⟩,
        ⟨none, (.st 4), [.tmp 7, .tmp 30], none⟩,
        ⟨some 8, .mv, [.tmp 31], none⟩,
        ⟨some 9, .mv, [.tmp 32], none⟩])
      (.seq (.run [5, 6, 7, 9, 10, 11, 12] [⟨some 34, (.build [(.int .i64 0), (.str []), (.str []), (.str [])] []), [], none⟩,
         ⟨some 35, .mv, [.tmp 5], none⟩,
         ⟨some 36, (.call 23), [.tmp 34, .tmp 35], none⟩,
         ⟨some 33, .mv, [.tmp 36], none⟩,
         ⟨some 37, (.ext 0), [.tmp 33], none⟩,
         ⟨some 38, (.ext 1), [.tmp 33], none⟩,
         ⟨some 39, (.ext 2), [.tmp 33], none⟩,
         ⟨some 10, (.alloc [(.int .i64 0), (.str []), (.str []), (.str [])]), [], none⟩,
         ⟨none, (.st 4), [.tmp 10, .tmp 37], none⟩,
         ⟨some 11, .mv, [.tmp 38], none⟩,
         ⟨some 12, .mv, [.tmp 39], none⟩])
       (.seq (.seq (.run [5, 6, 7, 9, 10, 11, 12, 41] [⟨some 40, .mv, [.tmp 9], none⟩,
           ⟨some 41, (.eqg true 6), [.tmp 40, .const (.int .i64 0)], none⟩])
         (.cond (.tmp 41)
          (.seq (.run [4] [⟨some 42, (.call 21), [], none⟩,
             ⟨some 43, .mv, [.tmp 42], none⟩,
             ⟨some 44, .mv, [.tmp 12], some (43, true)⟩,
             ⟨some 45, .mv, [.tmp 9], some (43, true)⟩,
             ⟨some 46, (.eqg false 6), [.tmp 44, .tmp 45], some (43, true)⟩,
             ⟨some 47, .pick, [.tmp 43, .tmp 46, .const (.bool false)], none⟩,
             ⟨some 4, .mv, [.tmp 47], none⟩])
           .ret)
          .skip))
        (.seq (.runF [10, 11, 12, 13, 14, 15] [⟨0, ⟨some 49, (.ld true 4), [.tmp 7], none⟩, []⟩,
           ⟨1, ⟨some 50, .mv, [.tmp 5], none⟩, []⟩,
           ⟨2, ⟨some 51, .mv, [.tmp 6], none⟩, []⟩,
           ⟨3, ⟨some 52, (.slc 8 true false), [.tmp 50, .tmp 51], none⟩, []⟩]
          [⟨4, ⟨some 53, (.call 23), [.tmp 49, .tmp 52], none⟩, []⟩,
           ⟨5, ⟨some 48, .mv, [.tmp 53], none⟩, []⟩,
           ⟨6, ⟨some 54, (.ext 0), [.tmp 48], none⟩, []⟩,
           ⟨7, ⟨some 55, (.ext 1), [.tmp 48], none⟩, []⟩,
           ⟨8, ⟨some 56, (.ext 2), [.tmp 48], none⟩, []⟩,
           ⟨9, ⟨some 13, (.alloc [(.int .i64 0), (.str []), (.str []), (.str [])]), [], none⟩, [0]⟩,
           ⟨10, ⟨none, (.st 4), [.tmp 13, .tmp 54], none⟩, []⟩,
           ⟨11, ⟨some 14, .mv, [.tmp 55], none⟩, []⟩,
           ⟨12, ⟨some 15, .mv, [.tmp 56], none⟩, []⟩]
          [⟨9, ⟨some 13, (.alloc [(.int .i64 0), (.str []), (.str []), (.str [])]), [], none⟩, [0]⟩,
           ⟨4, ⟨some 53, (.call 23), [.tmp 49, .tmp 52], none⟩, []⟩,
           ⟨5, ⟨some 48, .mv, [.tmp 53], none⟩, []⟩,
           ⟨6, ⟨some 54, (.ext 0), [.tmp 48], none⟩, []⟩,
           ⟨7, ⟨some 55, (.ext 1), [.tmp 48], none⟩, []⟩,
           ⟨8, ⟨some 56, (.ext 2), [.tmp 48], none⟩, []⟩,
           ⟨10, ⟨none, (.st 4), [.tmp 13, .tmp 54], none⟩, []⟩,
           ⟨11, ⟨some 14, .mv, [.tmp 55], none⟩, []⟩,
           ⟨12, ⟨some 15, .mv, [.tmp 56], none⟩, []⟩])
         (.seq (.run [4] [⟨some 57, (.call 21), [], none⟩,
            ⟨some 58, .mv, [.tmp 57], none⟩,
            ⟨some 59, (.ld true 4), [.tmp 13], some (58, true)⟩,
            ⟨some 60, (.ld true 4), [.tmp 10], some (58, true)⟩,
            ⟨some 61, (.eqs false [1, 2, 2, 2]), [.tmp 59, .tmp 60], some (58, true)⟩,
            ⟨some 62, .pick, [.tmp 58, .tmp 61, .const (.bool false)], none⟩,
            ⟨some 63, .mv, [.tmp 62], none⟩,
            ⟨some 64, .mv, [.tmp 12], some (63, true)⟩,
            ⟨some 65, .mv, [.tmp 15], some (63, true)⟩,
            ⟨some 66, (.eqg false 6), [.tmp 64, .tmp 65], some (63, true)⟩,
            ⟨some 67, .pick, [.tmp 63, .tmp 66, .const (.bool false)], none⟩,
            ⟨some 68, .mv, [.tmp 67], none⟩,
            ⟨some 69, .mv, [.tmp 11], some (68, true)⟩,
            ⟨some 70, .mv, [.tmp 14], some (68, true)⟩,
            ⟨some 71, (.eqg false 6), [.tmp 69, .tmp 70], some (68, true)⟩,
            ⟨some 72, .pick, [.tmp 68, .tmp 71, .const (.bool false)], none⟩,
            ⟨some 4, .mv, [.tmp 72], none⟩])
          .ret))))))))⟩

theorem f9_ok : compF Go.Proofs.Try.prog 9 f9.body.hints = some f9 := by kernel_rfl


def f10 : AFun := ⟨77, 1, [.slot 2],
  (.seq (.run [0] [⟨some 2, .mv, [.const (.bool false)], none⟩])
   (.seq (.run [0, 3] [⟨some 11, .mv, [.tmp 0], none⟩,
      ⟨some 12, (.call 18), [.tmp 11], none⟩,
      ⟨some 3, .mv, [.tmp 12], none⟩])
    (.seq (.seq (.run [0, 3, 22] [⟨some 13, .mv, [.tmp 3], none⟩,
        ⟨some 14, (.len 1), [.tmp 13], none⟩,
        ⟨some 15, (.eqg true 6), [.tmp 14, .const (.int .i64 1)], none⟩,
        ⟨some 16, .mv, [.tmp 15], none⟩,
        ⟨some 17, .mv, [.tmp 3], some (16, false)⟩,
        ⟨some 18, (.iaddr 8), [.tmp 17, .const (.int .i64 0)], some (16, false)⟩,
        ⟨some 19, (.faddr 0), [.tmp 18], some (16, false)⟩,
        ⟨some 20, (.ld false 1), [.tmp 19], some (16, false)⟩,
        ⟨some 21, (.eqg true 6), [.tmp 20, .const (.int .i64 0)], some (16, false)⟩,
        ⟨some 22, .pick, [.tmp 16, .const (.bool true), .tmp 21], none⟩])
      (.cond (.tmp 22)
       (.seq (.run [2] [⟨some 23, (.call 21), [], none⟩,
          ⟨some 2, .mv, [.tmp 23], none⟩])
        .ret)
       .skip))
     (.seq (.run [0, 3, 4, 5, 6] [⟨some 25, (.build [(.int .i64 0), (.str []), (.str []), (.str [])] []), [], none⟩,
        ⟨some 26, .mv, [.tmp 3], none⟩,
        ⟨some 27, (.call 23), [.tmp 25, .tmp 26], none⟩,
        ⟨some 24, .mv, [.tmp 27], none⟩,
        ⟨some 28, (.ext 0), [.tmp 24], none⟩,
        ⟨some 29, (.ext 1), [.tmp 24], none⟩,
        ⟨some 30, (.ext 2), [.tmp 24], none⟩,
        ⟨some 4, (.alloc [(.int .i64 0), (.str []), (.str []), (.str [])]), [], none⟩,
        ⟨none, (.st 4), [.tmp 4, .tmp 28], none⟩,
        ⟨some 5, .mv, [.tmp 29], none⟩,
        ⟨some 6, .mv, [.tmp 30], none⟩])
      (.seq (.run [0, 4, 5, 6, 7, 8, 9] [⟨some 32, .mv, [.tmp 3], none⟩,
         ⟨some 33, (.call 19), [.tmp 32], none⟩,
         ⟨some 31, .mv, [.tmp 33], none⟩,
         ⟨some 34, (.ext 0), [.tmp 31], none⟩,
         ⟨some 35, (.ext 1), [.tmp 31], none⟩,
         ⟨some 36, (.ext 2), [.tmp 31], none⟩,
         ⟨some 7, .mv, [.tmp 34], none⟩,
         ⟨some 8, .mv, [.tmp 35], none⟩,
         ⟨some 9, .mv, [.tmp 36], none⟩])
       (.seq (.run [4, 5, 6, 7, 8, 9, 10] [⟨some 37, (.build [(.int .i64 0), (.str []), (.str []), (.str [])] []), [], none⟩,
          ⟨some 38, .mv, [.tmp 0], none⟩,
          ⟨some 39, (.call 17), [.tmp 37, .tmp 38], none⟩,
          ⟨some 10, (.alloc [(.int .i64 0), (.str []), (.str []), (.str [])]), [], none⟩,
          ⟨none, (.st 4), [.tmp 10, .tmp 39], none⟩])
        (.seq (.seq (.run [9, 10, 59] [⟨some 40, (.ld true 4), [.tmp 4], none⟩,
            ⟨some 41, (.ld true 4), [.tmp 10], none⟩,
            ⟨some 42, (.eqs true [1, 2, 2, 2]), [.tmp 40, .tmp 41], none⟩,
            ⟨some 43, .mv, [.tmp 42], none⟩,
            ⟨some 44, .mv, [.tmp 5], some (43, false)⟩,
            ⟨some 45, (.eqg true 6), [.tmp 44, .const (.int .i64 0)], some (43, false)⟩,
            ⟨some 46, .pick, [.tmp 43, .const (.bool true), .tmp 45], none⟩,
            ⟨some 47, .mv, [.tmp 46], none⟩,
            ⟨some 48, .mv, [.tmp 6], some (47, false)⟩,
            ⟨some 49, (.eqg true 6), [.tmp 48, .const (.int .i64 0)], some (47, false)⟩,
            ⟨some 50, .pick, [.tmp 47, .const (.bool true), .tmp 49], none⟩,
            ⟨some 51, .mv, [.tmp 50], none⟩,
            ⟨some 52, .mv, [.tmp 7], some (51, false)⟩,
            ⟨some 53, (.len 1), [.tmp 52], some (51, false)⟩,
            ⟨some 54, (.eqg true 6), [.tmp 53, .const (.int .i64 0)], some (51, false)⟩,
            ⟨some 55, .pick, [.tmp 51, .const (.bool true), .tmp 54], none⟩,
            ⟨some 56, .mv, [.tmp 55], none⟩,
            ⟨some 57, .mv, [.tmp 8], some (56, false)⟩,
            ⟨some 58, (.eqg true 6), [.tmp 57, .const (.int .i64 0)], some (56, false)⟩,
            ⟨some 59, .pick, [.tmp 56, .const (.bool true), .tmp 58], none⟩])
          (.cond (.tmp 59)
           (.seq (.run [2] [⟨some 2, .mv, [.const (.bool false)], none⟩])
            .ret)
           .skip))
         (.seq (.run [2] [⟨some 60, (.call 21), [], none⟩,
            ⟨some 61, .mv, [.tmp 60], none⟩,
            ⟨some 62, .mv, [.tmp 9], some (61, true)⟩,
            ⟨some 63, (.eqg false 6), [.tmp 62, .const (.int .i64 0)], some (61, true)⟩,
            ⟨some 64, (.ld true 4), [.tmp 10], some (61, true)⟩,
            ⟨some 65, (.build [(.int .i64 0), (.str []), (.str []), (.str [])] []), [], some (61, true)⟩,
            ⟨some 66, (.eqs false [1, 2, 2, 2]), [.tmp 64, .tmp 65], some (61, true)⟩,
            ⟨some 67, (.eqg false 0), [.tmp 63, .tmp 66], some (61, true)⟩,
            ⟨some 68, .pick, [.tmp 61, .tmp 67, .const (.bool false)], none⟩,
            ⟨some 69, .mv, [.tmp 68], none⟩,
            ⟨some 70, .mv, [.tmp 9], some (69, true)⟩,
            ⟨some 71, (.eqg false 6), [.tmp 70, .const (.int .i64 0)], some (69, true)⟩,
            ⟨some 72, .mv, [.tmp 71], some (69, true)⟩,
            ⟨some 73, .mv, [.tmp 9], some (72, false)⟩,
            ⟨some 74, (.eqg false 6), [.tmp 73, .const (.int .i64 16)], some (72, false)⟩,
            ⟨some 75, .pick, [.tmp 72, .const (.bool true), .tmp 74], some (69, true)⟩,
            ⟨some 76, .pick, [.tmp 69, .tmp 75, .const (.bool false)], none⟩,
            ⟨some 2, .mv, [.tmp 76], none⟩])
          .ret))))))))⟩

theorem f10_ok : compF Go.Proofs.Try.prog 10 f10.body.hints = some f10 := by kernel_rfl


def f11 : AFun := ⟨37, 0, [.slot 0],
  (.seq (.run [] [⟨some 0, .mv, [.const (.bool false)], none⟩])
   (.seq (.run [1] [⟨some 7, (.build [(.int .i64 0), (.str []), (.str []), (.str [])] []), [], none⟩,
      ⟨some 8, (.call 17), [.tmp 7, .const (.string ⟨#[60, 97, 32, 104, 114, 101, 102, 61, 34]⟩)], none⟩,
      ⟨some 1, (.alloc [(.int .i64 0), (.str []), (.str []), (.str [])]), [], none⟩,
      ⟨none, (.st 4), [.tmp 1, .tmp 8], none⟩])
    (.seq (.run [1, 2] [⟨some 9, (.build [(.int .i64 0), (.str []), (.str []), (.str [])] []), [], none⟩,
       ⟨some 10, (.call 17), [.tmp 9, .const (.string ⟨#[60, 115, 99, 114, 105, 112, 116, 62, 120, 32, 61, 32, 39, 121]⟩)], none⟩,
       ⟨some 2, (.alloc [(.int .i64 0), (.str []), (.str []), (.str [])]), [], none⟩,
       ⟨none, (.st 4), [.tmp 2, .tmp 10], none⟩])
     (.seq (.run [1, 2, 4] [⟨some 12, (.build [(.int .i64 0), (.str []), (.str []), (.str [])] []), [], none⟩,
        ⟨some 13, (.call 17), [.tmp 12, .const (.string ⟨#[97, 60]⟩)], none⟩,
        ⟨some 14, (.call 14), [.tmp 13], none⟩,
        ⟨some 11, .mv, [.tmp 14], none⟩,
        ⟨some 15, (.ext 0), [.tmp 11], none⟩,
        ⟨some 16, (.ext 1), [.tmp 11], none⟩,
        ⟨some 3, .mv, [.tmp 15], none⟩,
        ⟨some 4, .mv, [.tmp 16], none⟩])
      (.seq (.run [1, 2, 4, 6] [⟨some 18, (.ld true 4), [.tmp 2], none⟩,
         ⟨some 19, (.call 14), [.tmp 18], none⟩,
         ⟨some 17, .mv, [.tmp 19], none⟩,
         ⟨some 20, (.ext 0), [.tmp 17], none⟩,
         ⟨some 21, (.ext 1), [.tmp 17], none⟩,
         ⟨some 5, .mv, [.tmp 20], none⟩,
         ⟨some 6, .mv, [.tmp 21], none⟩])
       (.seq (.run [0] [⟨some 22, (.ld true 4), [.tmp 1], none⟩,
          ⟨some 23, (.build [(.int .i64 0), (.str []), (.str []), (.str [])] [(0, 1), (1, 1)]), [.const (.int .i64 9), .const (.string ⟨#[97]⟩)], none⟩,
          ⟨some 24, (.eqs false [1, 2, 2, 2]), [.tmp 22, .tmp 23], none⟩,
          ⟨some 25, .mv, [.tmp 24], none⟩,
          ⟨some 26, (.faddr 0), [.tmp 2], some (25, true)⟩,
          ⟨some 27, (.ld false 1), [.tmp 26], some (25, true)⟩,
          ⟨some 28, (.eqg false 6), [.tmp 27, .const (.int .i64 18)], some (25, true)⟩,
          ⟨some 29, .pick, [.tmp 25, .tmp 28, .const (.bool false)], none⟩,
          ⟨some 30, .mv, [.tmp 29], none⟩,
          ⟨some 31, .mv, [.tmp 4], some (30, true)⟩,
          ⟨some 32, (.un .not), [.tmp 31], some (30, true)⟩,
          ⟨some 33, .pick, [.tmp 30, .tmp 32, .const (.bool false)], none⟩,
          ⟨some 34, .mv, [.tmp 33], none⟩,
          ⟨some 35, .mv, [.tmp 6], some (34, true)⟩,
          ⟨some 36, .pick, [.tmp 34, .tmp 35, .const (.bool false)], none⟩,
          ⟨some 0, .mv, [.tmp 36], none⟩])
        .ret))))))⟩

theorem f11_ok : compF Go.Proofs.Try.prog 11 f11.body.hints = some f11 := by kernel_rfl


def f12 : AFun := ⟨41, 2, [.cell 4 (.ld true 4)],
  (.seq (.run [1, 2, 4] [⟨some 2, .box, [.tmp 0], none⟩,
     ⟨some 4, (.alloc [(.int .i64 0), (.str []), (.str []), (.str [])]), [], none⟩])
   (.seq (.seq (.run [1, 2, 4, 6] [⟨some 5, (.faddr 0), [.tmp 2], none⟩,
       ⟨some 6, (.ld false 1), [.tmp 5], none⟩])
     (.block 0 (.seq (.run [1, 2, 4, 6, 7] [⟨some 8, (.eqg false 6), [.tmp 6, .const (.int .i64 0)], none⟩,
         ⟨some 7, .mv, [.tmp 8], none⟩])
       (.cond (.tmp 7)
        (.seq (.run [4] [⟨some 9, (.ld true 4), [.tmp 2], none⟩,
           ⟨some 10, .mv, [.tmp 1], none⟩,
           ⟨some 11, (.call 26), [.tmp 9, .tmp 10], none⟩,
           ⟨none, (.st 4), [.tmp 4, .tmp 11], none⟩])
         .ret)
        (.seq (.run [1, 2, 4, 6, 12] [⟨some 13, (.eqg false 6), [.tmp 6, .const (.int .i64 13)], none⟩,
           ⟨some 12, .mv, [.tmp 13], none⟩])
         (.cond (.tmp 12)
          (.seq (.run [4] [⟨some 14, (.ld true 4), [.tmp 2], none⟩,
             ⟨some 15, .mv, [.tmp 1], none⟩,
             ⟨some 16, (.call 27), [.tmp 14, .tmp 15], none⟩,
             ⟨none, (.st 4), [.tmp 4, .tmp 16], none⟩])
           .ret)
          (.seq (.seq (.run [1, 2, 4, 6, 17] [⟨some 18, (.eqg false 6), [.tmp 6, .const (.int .i64 14)], none⟩,
              ⟨some 17, .mv, [.tmp 18], none⟩])
            (.cond (.tmp 17)
             .skip
             (.run [1, 2, 4, 6, 17] [⟨some 19, (.eqg false 6), [.tmp 6, .const (.int .i64 15)], none⟩,
               ⟨some 17, .mv, [.tmp 19], none⟩])))
           (.cond (.tmp 17)
            (.seq (.seq (.run [2, 4, 21] [⟨some 20, .mv, [.tmp 1], none⟩,
                ⟨some 21, (.eqg false 6), [.tmp 20, .const (.int .u8 62)], none⟩])
              (.cond (.tmp 21)
               (.seq (.run [4] [⟨some 22, (.build [(.int .i64 0), (.str []), (.str []), (.str [])] []), [], none⟩,
                  ⟨none, (.st 4), [.tmp 4, .tmp 22], none⟩])
                .ret)
               .skip))
             (.seq (.run [4] [⟨some 23, (.ld true 4), [.tmp 2], none⟩,
                ⟨none, (.st 4), [.tmp 4, .tmp 23], none⟩])
              .ret))
            (.seq (.seq (.run [1, 2, 4, 6, 24] [⟨some 25, (.eqg false 6), [.tmp 6, .const (.int .i64 16)], none⟩,
                ⟨some 24, .mv, [.tmp 25], none⟩])
              (.cond (.tmp 24)
               .skip
               (.seq (.run [1, 2, 4, 6, 24] [⟨some 26, (.eqg false 6), [.tmp 6, .const (.int .i64 17)], none⟩,
                  ⟨some 24, .mv, [.tmp 26], none⟩])
                (.cond (.tmp 24)
                 .skip
                 (.run [1, 2, 4, 6, 24] [⟨some 27, (.eqg false 6), [.tmp 6, .const (.int .i64 18)], none⟩,
                   ⟨some 24, .mv, [.tmp 27], none⟩])))))
             (.cond (.tmp 24)
              (.seq (.run [4] [⟨some 28, (.ld true 4), [.tmp 2], none⟩,
                 ⟨some 29, .mv, [.tmp 1], none⟩,
                 ⟨some 30, (.call 28), [.tmp 28, .const (.int .i64 16), .const (.string ⟨#[60, 47, 115, 99, 114, 105, 112, 116]⟩), .tmp 29], none⟩,
                 ⟨none, (.st 4), [.tmp 4, .tmp 30], none⟩])
               .ret)
              (.seq (.seq (.run [1, 2, 4, 6, 31] [⟨some 32, (.eqg false 6), [.tmp 6, .const (.int .i64 19)], none⟩,
                  ⟨some 31, .mv, [.tmp 32], none⟩])
                (.cond (.tmp 31)
                 .skip
                 (.seq (.run [1, 2, 4, 6, 31] [⟨some 33, (.eqg false 6), [.tmp 6, .const (.int .i64 20)], none⟩,
                    ⟨some 31, .mv, [.tmp 33], none⟩])
                  (.cond (.tmp 31)
                   .skip
                   (.run [1, 2, 4, 31] [⟨some 34, (.eqg false 6), [.tmp 6, .const (.int .i64 21)], none⟩,
                     ⟨some 31, .mv, [.tmp 34], none⟩])))))
               (.cond (.tmp 31)
                (.seq (.run [4] [⟨some 35, (.ld true 4), [.tmp 2], none⟩,
                   ⟨some 36, .mv, [.tmp 1], none⟩,
                   ⟨some 37, (.call 28), [.tmp 35, .const (.int .i64 19), .const (.string ⟨#[60, 47, 115, 116, 121, 108, 101]⟩), .tmp 36], none⟩,
                   ⟨none, (.st 4), [.tmp 4, .tmp 37], none⟩])
                 .ret)
                .skip))))))))))))
    (.seq (.run [4] [⟨some 38, (.ld true 4), [.tmp 2], none⟩,
       ⟨some 39, .mv, [.tmp 1], none⟩,
       ⟨some 40, (.call 29), [.tmp 38, .tmp 39], none⟩,
       ⟨none, (.st 4), [.tmp 4, .tmp 40], none⟩])
     .ret)))⟩

theorem f12_ok : compF Go.Proofs.Try.prog 12 f12.body.hints = some f12 := by kernel_rfl


def f13 : AFun := ⟨37, 2, [.cell 4 (.ld true 4)],
  (.seq (.run [1, 2, 4] [⟨some 2, .box, [.tmp 0], none⟩,
     ⟨some 4, (.alloc [(.int .i64 0), (.str []), (.str []), (.str [])]), [], none⟩])
   (.seq (.block 0 (.seq (.run [1, 2, 4, 5] [⟨some 6, (.faddr 0), [.tmp 2], none⟩,
        ⟨some 7, (.ld false 1), [.tmp 6], none⟩,
        ⟨some 8, (.eqg false 6), [.tmp 7, .const (.int .i64 0)], none⟩,
        ⟨some 5, .mv, [.tmp 8], none⟩])
      (.cond (.tmp 5)
       (.seq (.run [4] [⟨some 9, (.ld true 4), [.tmp 2], none⟩,
          ⟨some 10, .mv, [.tmp 1], none⟩,
          ⟨some 11, (.call 30), [.tmp 9, .tmp 10], none⟩,
          ⟨none, (.st 4), [.tmp 4, .tmp 11], none⟩])
        .ret)
       (.seq (.run [1, 2, 4, 12] [⟨some 13, (.faddr 0), [.tmp 2], none⟩,
          ⟨some 14, (.ld false 1), [.tmp 13], none⟩,
          ⟨some 15, (.bin .leq), [.tmp 14, .const (.int .i64 12)], none⟩,
          ⟨some 12, .mv, [.tmp 15], none⟩])
        (.cond (.tmp 12)
         (.seq (.run [4] [⟨some 16, (.ld true 4), [.tmp 2], none⟩,
            ⟨some 17, .mv, [.tmp 1], none⟩,
            ⟨some 18, (.call 31), [.tmp 16, .tmp 17], none⟩,
            ⟨none, (.st 4), [.tmp 4, .tmp 18], none⟩])
          .ret)
         (.seq (.run [1, 2, 4, 19] [⟨some 20, (.faddr 0), [.tmp 2], none⟩,
            ⟨some 21, (.ld false 1), [.tmp 20], none⟩,
            ⟨some 22, (.eqg false 6), [.tmp 21, .const (.int .i64 13)], none⟩,
            ⟨some 19, .mv, [.tmp 22], none⟩])
          (.cond (.tmp 19)
           (.seq (.run [4] [⟨some 23, (.ld true 4), [.tmp 2], none⟩,
              ⟨some 24, .mv, [.tmp 1], none⟩,
              ⟨some 25, (.call 32), [.tmp 23, .tmp 24], none⟩,
              ⟨none, (.st 4), [.tmp 4, .tmp 25], none⟩])
            .ret)
           (.seq (.run [1, 2, 4, 26] [⟨some 27, (.faddr 0), [.tmp 2], none⟩,
              ⟨some 28, (.ld false 1), [.tmp 27], none⟩,
              ⟨some 29, (.bin .leq), [.tmp 28, .const (.int .i64 15)], none⟩,
              ⟨some 26, .mv, [.tmp 29], none⟩])
            (.cond (.tmp 26)
             (.seq (.seq (.run [2, 4, 31] [⟨some 30, .mv, [.tmp 1], none⟩,
                 ⟨some 31, (.eqg false 6), [.tmp 30, .const (.int .u8 62)], none⟩])
               (.cond (.tmp 31)
                (.seq (.run [4] [⟨some 32, (.build [(.int .i64 0), (.str []), (.str []), (.str [])] []), [], none⟩,
                   ⟨none, (.st 4), [.tmp 4, .tmp 32], none⟩])
                 .ret)
                .skip))
              (.seq (.run [4] [⟨some 33, (.ld true 4), [.tmp 2], none⟩,
                 ⟨none, (.st 4), [.tmp 4, .tmp 33], none⟩])
               .ret))
             .skip)))))))))
    (.seq (.run [4] [⟨some 34, (.ld true 4), [.tmp 2], none⟩,
       ⟨some 35, .mv, [.tmp 1], none⟩,
       ⟨some 36, (.call 33), [.tmp 34, .tmp 35], none⟩,
       ⟨none, (.st 4), [.tmp 4, .tmp 36], none⟩])
     .ret)))⟩

theorem f13_ok : compF Go.Proofs.Try.prog 13 f13.body.hints = some f13 := by kernel_rfl


def f14 : AFun := ⟨23, 1, [.slot 2, .slot 3],
  (.seq (.run [1] [⟨some 1, .box, [.tmp 0], none⟩,
     ⟨some 2, .mv, [.const (.int .i64 0)], none⟩,
     ⟨some 3, .mv, [.const (.bool false)], none⟩])
   (.seq (.seq (.run [1, 6] [⟨some 4, (.faddr 3), [.tmp 1], none⟩,
       ⟨some 5, (.ld false 1), [.tmp 4], none⟩,
       ⟨some 6, (.eqg true 6), [.tmp 5, .const (.string ⟨#[]⟩)], none⟩])
     (.cond (.tmp 6)
      (.seq (.run [2, 3] [⟨some 2, .mv, [.const (.int .i64 0)], none⟩,
         ⟨some 3, .mv, [.const (.bool false)], none⟩])
       .ret)
      .skip))
    (.seq (.seq (.run [8] [⟨some 7, (.faddr 0), [.tmp 1], none⟩,
        ⟨some 8, (.ld false 1), [.tmp 7], none⟩])
      (.block 0 (.seq (.run [8, 9] [⟨some 10, (.eqg false 6), [.tmp 8, .const (.int .i64 0)], none⟩,
          ⟨some 9, .mv, [.tmp 10], none⟩])
        (.cond (.tmp 9)
         (.seq (.run [2, 3] [⟨some 2, .mv, [.const (.int .i64 0)], none⟩,
            ⟨some 3, .mv, [.const (.bool true)], none⟩])
          .ret)
         (.seq (.seq (.run [8, 11] [⟨some 12, (.eqg false 6), [.tmp 8, .const (.int .i64 7)], none⟩,
             ⟨some 11, .mv, [.tmp 12], none⟩])
           (.cond (.tmp 11)
            .skip
            (.run [8, 11] [⟨some 13, (.eqg false 6), [.tmp 8, .const (.int .i64 8)], none⟩,
              ⟨some 11, .mv, [.tmp 13], none⟩])))
          (.cond (.tmp 11)
           (.seq (.run [2, 3] [⟨some 2, .mv, [.const (.int .i64 1)], none⟩,
              ⟨some 3, .mv, [.const (.bool true)], none⟩])
            .ret)
           (.seq (.seq (.run [8, 14] [⟨some 15, (.eqg false 6), [.tmp 8, .const (.int .i64 9)], none⟩,
               ⟨some 14, .mv, [.tmp 15], none⟩])
             (.cond (.tmp 14)
              .skip
              (.run [8, 14] [⟨some 16, (.eqg false 6), [.tmp 8, .const (.int .i64 10)], none⟩,
                ⟨some 14, .mv, [.tmp 16], none⟩])))
            (.cond (.tmp 14)
             (.seq (.run [2, 3] [⟨some 2, .mv, [.const (.int .i64 2)], none⟩,
                ⟨some 3, .mv, [.const (.bool true)], none⟩])
              .ret)
             (.seq (.seq (.run [8, 17] [⟨some 18, (.eqg false 6), [.tmp 8, .const (.int .i64 17)], none⟩,
                 ⟨some 17, .mv, [.tmp 18], none⟩])
               (.cond (.tmp 17)
                .skip
                (.run [8, 17] [⟨some 19, (.eqg false 6), [.tmp 8, .const (.int .i64 18)], none⟩,
                  ⟨some 17, .mv, [.tmp 19], none⟩])))
              (.cond (.tmp 17)
               (.seq (.run [2, 3] [⟨some 2, .mv, [.const (.int .i64 3)], none⟩,
                  ⟨some 3, .mv, [.const (.bool true)], none⟩])
                .ret)
               (.seq (.seq (.run [8, 20] [⟨some 21, (.eqg false 6), [.tmp 8, .const (.int .i64 20)], none⟩,
                   ⟨some 20, .mv, [.tmp 21], none⟩])
                 (.cond (.tmp 20)
                  .skip
                  (.run [20] [⟨some 22, (.eqg false 6), [.tmp 8, .const (.int .i64 21)], none⟩,
                    ⟨some 20, .mv, [.tmp 22], none⟩])))
                (.cond (.tmp 20)
                 (.seq (.run [2, 3] [⟨some 2, .mv, [.const (.int .i64 4)], none⟩,
                    ⟨some 3, .mv, [.const (.bool true)], none⟩])
                  .ret)
                 .skip))))))))))))
     (.seq (.run [2, 3] [⟨some 2, .mv, [.const (.int .i64 0)], none⟩,
        ⟨some 3, .mv, [.const (.bool false)], none⟩])
      .ret))))⟩

theorem f14_ok : compF Go.Proofs.Try.prog 14 f14.body.hints = some f14 := by kernel_rfl


def f15 : AFun := ⟨23, 1, [.slot 2, .slot 3],
  (.seq (.run [1] [⟨some 1, .box, [.tmp 0], none⟩,
     ⟨some 2, .mv, [.const (.int .i64 0)], none⟩,
     ⟨some 3, .mv, [.const (.bool false)], none⟩])
   (.seq (.seq (.run [1, 6] [⟨some 4, (.faddr 3), [.tmp 1], none⟩,
       ⟨some 5, (.ld false 1), [.tmp 4], none⟩,
       ⟨some 6, (.eqg true 6), [.tmp 5, .const (.string ⟨#[]⟩)], none⟩])
     (.cond (.tmp 6)
      (.seq (.run [2, 3] [⟨some 2, .mv, [.const (.int .i64 0)], none⟩,
         ⟨some 3, .mv, [.const (.bool false)], none⟩])
       .ret)
      .skip))
    (.seq (.seq (.run [8] [⟨some 7, (.faddr 0), [.tmp 1], none⟩,
        ⟨some 8, (.ld false 1), [.tmp 7], none⟩])
      (.block 0 (.seq (.run [8, 9] [⟨some 10, (.eqg false 6), [.tmp 8, .const (.int .i64 0)], none⟩,
          ⟨some 9, .mv, [.tmp 10], none⟩])
        (.cond (.tmp 9)
         (.seq (.run [2, 3] [⟨some 2, .mv, [.const (.int .i64 0)], none⟩,
            ⟨some 3, .mv, [.const (.bool true)], none⟩])
          .ret)
         (.seq (.seq (.run [8, 11] [⟨some 12, (.eqg false 6), [.tmp 8, .const (.int .i64 7)], none⟩,
             ⟨some 11, .mv, [.tmp 12], none⟩])
           (.cond (.tmp 11)
            .skip
            (.run [8, 11] [⟨some 13, (.eqg false 6), [.tmp 8, .const (.int .i64 8)], none⟩,
              ⟨some 11, .mv, [.tmp 13], none⟩])))
          (.cond (.tmp 11)
           (.seq (.run [2, 3] [⟨some 2, .mv, [.const (.int .i64 1)], none⟩,
              ⟨some 3, .mv, [.const (.bool true)], none⟩])
            .ret)
           (.seq (.seq (.run [8, 14] [⟨some 15, (.eqg false 6), [.tmp 8, .const (.int .i64 9)], none⟩,
               ⟨some 14, .mv, [.tmp 15], none⟩])
             (.cond (.tmp 14)
              .skip
              (.run [8, 14] [⟨some 16, (.eqg false 6), [.tmp 8, .const (.int .i64 10)], none⟩,
                ⟨some 14, .mv, [.tmp 16], none⟩])))
            (.cond (.tmp 14)
             (.seq (.run [2, 3] [⟨some 2, .mv, [.const (.int .i64 2)], none⟩,
                ⟨some 3, .mv, [.const (.bool true)], none⟩])
              .ret)
             (.seq (.seq (.run [8, 17] [⟨some 18, (.eqg false 6), [.tmp 8, .const (.int .i64 17)], none⟩,
                 ⟨some 17, .mv, [.tmp 18], none⟩])
               (.cond (.tmp 17)
                .skip
                (.run [8, 17] [⟨some 19, (.eqg false 6), [.tmp 8, .const (.int .i64 18)], none⟩,
                  ⟨some 17, .mv, [.tmp 19], none⟩])))
              (.cond (.tmp 17)
               (.seq (.run [2, 3] [⟨some 2, .mv, [.const (.int .i64 3)], none⟩,
                  ⟨some 3, .mv, [.const (.bool true)], none⟩])
                .ret)
               (.seq (.seq (.run [8, 20] [⟨some 21, (.eqg false 6), [.tmp 8, .const (.int .i64 20)], none⟩,
                   ⟨some 20, .mv, [.tmp 21], none⟩])
                 (.cond (.tmp 20)
                  .skip
                  (.run [20] [⟨some 22, (.eqg false 6), [.tmp 8, .const (.int .i64 21)], none⟩,
                    ⟨some 20, .mv, [.tmp 22], none⟩])))
                (.cond (.tmp 20)
                 (.seq (.run [2, 3] [⟨some 2, .mv, [.const (.int .i64 4)], none⟩,
                    ⟨some 3, .mv, [.const (.bool true)], none⟩])
                  .ret)
                 .skip))))))))))))
     (.seq (.run [2, 3] [⟨some 2, .mv, [.const (.int .i64 0)], none⟩,
        ⟨some 3, .mv, [.const (.bool false)], none⟩])
      .ret))))⟩

theorem f15_ok : compF Go.Proofs.Try.prog 15 f15.body.hints = some f15 := by kernel_rfl


def f16 : AFun := ⟨12, 1, [.cell 2 (.ld true 4)],
  (.seq (.run [1, 2] [⟨some 1, .box, [.tmp 0], none⟩,
     ⟨some 2, (.alloc [(.int .i64 0), (.str []), (.str []), (.str [])]), [], none⟩])
   (.seq (.run [2] [⟨some 3, (.faddr 0), [.tmp 1], none⟩,
      ⟨some 4, (.ld false 1), [.tmp 3], none⟩,
      ⟨some 5, (.faddr 1), [.tmp 1], none⟩,
      ⟨some 6, (.ld false 1), [.tmp 5], none⟩,
      ⟨some 7, (.faddr 2), [.tmp 1], none⟩,
      ⟨some 8, (.ld false 1), [.tmp 7], none⟩,
      ⟨some 9, (.faddr 3), [.tmp 1], none⟩,
      ⟨some 10, (.ld false 1), [.tmp 9], none⟩,
      ⟨some 11, (.build [(.int .i64 0), (.str []), (.str []), (.str [])] [(0, 1), (1, 1), (2, 1), (3, 1)]), [.tmp 4, .tmp 6, .tmp 8, .tmp 10], none⟩,
      ⟨none, (.st 4), [.tmp 2, .tmp 11], none⟩])
    .ret))⟩

theorem f16_ok : compF Go.Proofs.Try.prog 16 f16.body.hints = some f16 := by kernel_rfl


def f17 : AFun := ⟨24, 2, [.cell 4 (.ld true 4)],
  (.seq (.run [1, 2, 4] [⟨some 2, .box, [.tmp 0], none⟩,
     ⟨some 4, (.alloc [(.int .i64 0), (.str []), (.str []), (.str [])]), [], none⟩])
   (.seq (.seq (.run [2, 4, 9, 10, 11] [⟨some 8, .mv, [.tmp 1], none⟩,
       ⟨some 9, .sb, [.tmp 8], none⟩,
       ⟨some 10, (.len 1), [.tmp 9], none⟩,
       ⟨some 11, .mv, [.const (.int .i64 0)], none⟩])
     (.block 0 (.loop [2, 4, 9, 10, 11] (.seq (.run [2, 4, 9, 10, 11, 12] [⟨some 12, (.bin .lss), [.tmp 11, .tmp 10], none⟩])
        (.seq (.cond (.tmp 12)
          .skip
          (.exit 0))
         (.seq (.block 1 (.seq (.run [2, 4, 6, 9, 10, 11] [⟨some 13, (.iaddr 1), [.tmp 9, .tmp 11], none⟩,
              ⟨some 14, (.ld false 1), [.tmp 13], none⟩,
              ⟨some 6, .mv, [.tmp 14], none⟩])
            (.seq (.run [2, 4, 7, 9, 10, 11] [⟨some 15, (.ld true 4), [.tmp 2], none⟩,
               ⟨some 16, .mv, [.tmp 6], none⟩,
               ⟨some 17, (.call 12), [.tmp 15, .tmp 16], none⟩,
               ⟨some 7, (.alloc [(.int .i64 0), (.str []), (.str []), (.str [])]), [], none⟩,
               ⟨none, (.st 4), [.tmp 7, .tmp 17], none⟩])
             (.seq (.run [2, 4, 7, 9, 10, 11, 20] [⟨some 18, (.ld true 4), [.tmp 7], none⟩,
                ⟨some 19, (.ld true 4), [.tmp 2], none⟩,
                ⟨some 20, (.eqs true [1, 2, 2, 2]), [.tmp 18, .tmp 19], none⟩])
              (.cond (.tmp 20)
               (.run [2, 4, 9, 10, 11] [⟨some 21, (.ld true 4), [.tmp 7], none⟩,
                 ⟨none, (.st 4), [.tmp 2, .tmp 21], none⟩])
               .skip)))))
          (.run [2, 4, 9, 10, 11] [⟨some 22, (.bin .add), [.tmp 11, .const (.int .i64 1)], none⟩,
            ⟨some 11, .mv, [.tmp 22], none⟩])))))))
    (.seq (.run [4] [⟨some 23, (.ld true 4), [.tmp 2], none⟩,
       ⟨none, (.st 4), [.tmp 4, .tmp 23], none⟩])
     .ret)))⟩

theorem f17_ok : compF Go.Proofs.Try.prog 17 f17.body.hints = some f17 := by kernel_rfl


def f18 : AFun := ⟨18, 1, [.slot 2],
  (.seq (.run [0] [⟨some 2, .mv, [.const (.slice none 0 0)], none⟩])
   (.seq (.seq (.run [0, 8] [⟨some 6, .mv, [.tmp 0], none⟩,
       ⟨some 7, (.len 0), [.tmp 6], none⟩,
       ⟨some 8, (.bin .gtr), [.tmp 7, .const (.int .i64 5000)], none⟩])
     (.cond (.tmp 8)
      (.seq (.run [2] [⟨some 2, .mv, [.const (.slice none 0 0)], none⟩])
       .ret)
      .skip))
    (.seq (.run [3, 5] [⟨some 10, .mv, [.tmp 0], none⟩,
       ⟨some 11, (.call 34), [.tmp 10], none⟩,
       ⟨some 9, .mv, [.tmp 11], none⟩,
       ⟨some 12, (.ext 0), [.tmp 9], none⟩,
       ⟨some 13, (.ext 1), [.tmp 9], none⟩,
       ⟨some 14, (.ext 2), [.tmp 9], none⟩,
       ⟨some 3, .mv, [.tmp 12], none⟩,
       ⟨some 4, .mv, [.tmp 13], none⟩,
       ⟨some 5, .mv, [.tmp 14], none⟩])
     (.seq (.seq (.run [3, 16] [⟨some 15, .mv, [.tmp 5], none⟩,
         ⟨some 16, (.eqg true 6), [.tmp 15, .const (.int .i64 0)], none⟩])
       (.cond (.tmp 16)
        (.seq (.run [2] [⟨some 2, .mv, [.const (.slice none 0 0)], none⟩])
         .ret)
        .skip))
      (.seq (.run [2] [⟨some 17, .mv, [.tmp 3], none⟩,
         ⟨some 2, .mv, [.tmp 17], none⟩])
       .ret)))))⟩

theorem f18_ok : compF Go.Proofs.Try.prog 18 f18.body.hints = some f18 := by kernel_rfl


def f19 : AFun := ⟨31, 1, [.slot 2, .slot 3, .slot 4],
  (.seq (.run [0] [⟨some 2, .mv, [.const (.slice none 0 0)], none⟩,
     ⟨some 3, .mv, [.const (.int .i64 0)], none⟩,
     ⟨some 4, .mv, [.const (.int .i64 0)], none⟩])
   (.seq (.run [0, 5] [⟨some 5, (.alloc [(.sl [] .nil), (.int .i64 0), (.int .i64 0)]), [], none⟩])
    (.seq (.run [0, 5, 6] [⟨some 7, (.build [(.int .i64 0), (.str []), (.str []), (.str [])] []), [], none⟩,
       ⟨some 8, .mv, [.tmp 0], none⟩,
       ⟨some 9, (.call 35), [.tmp 5, .tmp 7, .tmp 8], none⟩,
       ⟨some 6, (.alloc [(.int .i64 0), (.str []), (.str []), (.str [])]), [], none⟩,
       ⟨none, (.st 4), [.tmp 6, .tmp 9], none⟩])
     (.seq (.seq (.run [0, 5, 6, 12] [⟨some 10, .mv, [.tmp 0], none⟩,
         ⟨some 11, (.len 1), [.tmp 10], none⟩,
         ⟨some 12, (.bin .gtr), [.tmp 11, .const (.int .i64 0)], none⟩])
       (.cond (.tmp 12)
        (.runD [5] [⟨0, ⟨some 13, .mv, [.tmp 0], none⟩, []⟩,
          ⟨1, ⟨some 14, .mv, [.tmp 0], none⟩, []⟩,
          ⟨2, ⟨some 15, (.len 1), [.tmp 14], none⟩, []⟩,
          ⟨3, ⟨some 16, (.bin .sub), [.tmp 15, .const (.int .i64 1)], none⟩, []⟩,
          ⟨4, ⟨some 17, (.iaddr 8), [.tmp 13, .tmp 16], none⟩, []⟩,
          ⟨5, ⟨some 18, (.ld true 8), [.tmp 17], none⟩, []⟩,
          ⟨6, ⟨some 19, (.ld true 4), [.tmp 6], none⟩, []⟩,
          ⟨7, ⟨some 20, (.build [(.int .i64 0), (.str []), (.str []), (.str [])] []), [], none⟩, []⟩,
          ⟨8, ⟨some 21, (.call 36), [.tmp 5, .tmp 18, .tmp 19, .tmp 20, .const (.int .i64 16)], none⟩, []⟩])
        .skip))
      (.seq (.seq (.run [5, 24] [⟨some 22, (.faddr 2), [.tmp 5], none⟩,
          ⟨some 23, (.ld false 1), [.tmp 22], none⟩,
          ⟨some 24, (.eqg true 6), [.tmp 23, .const (.int .i64 0)], none⟩])
        (.cond (.tmp 24)
         (.seq (.runD [2, 3, 4] [⟨0, ⟨some 25, (.faddr 1), [.tmp 5], none⟩, []⟩,
            ⟨1, ⟨some 26, (.ld false 1), [.tmp 25], none⟩, []⟩,
            ⟨2, ⟨some 27, (.faddr 2), [.tmp 5], none⟩, []⟩,
            ⟨3, ⟨some 28, (.ld false 1), [.tmp 27], none⟩, []⟩,
            ⟨4, ⟨some 2, .mv, [.const (.slice none 0 0)], none⟩, []⟩,
            ⟨5, ⟨some 3, .mv, [.tmp 26], none⟩, []⟩,
            ⟨6, ⟨some 4, .mv, [.tmp 28], none⟩, []⟩])
          .ret)
         .skip))
       (.seq (.run [2, 3, 4] [⟨some 29, (.faddr 0), [.tmp 5], none⟩,
          ⟨some 30, (.ld false 1), [.tmp 29], none⟩,
          ⟨some 2, .mv, [.tmp 30], none⟩,
          ⟨some 3, .mv, [.const (.int .i64 0)], none⟩,
          ⟨some 4, .mv, [.const (.int .i64 0)], none⟩])
        .ret))))))⟩

theorem f19_ok : compF Go.Proofs.Try.prog 19 f19.body.hints = some f19 := by kernel_rfl


def f20 : AFun := ⟨29, 1, [.slot 2, .slot 3, .slot 4],
  (.seq (.run [0] [⟨some 2, .mv, [.const (.slice none 0 0)], none⟩,
     ⟨some 3, .mv, [.const (.int .i64 0)], none⟩,
     ⟨some 4, .mv, [.const (.int .i64 0)], none⟩])
   (.seq (.run [0, 5] [⟨some 6, (.build [(.int .i64 0), (.str []), (.str []), (.str [])] []), [], none⟩,
      ⟨some 7, .mv, [.tmp 0], none⟩,
      ⟨some 8, (.call 24), [.tmp 6, .tmp 7], none⟩,
      ⟨some 5, (.alloc [(.int .i64 0), (.str []), (.str []), (.str []), (.sl [] .nil), (.int .i64 0), (.int .i64 0)]), [], none⟩,
      ⟨none, (.st 7), [.tmp 5, .tmp 8], none⟩])
    (.seq (.seq (.run [0, 5, 11] [⟨some 9, (.faddr 6), [.tmp 5], none⟩,
        ⟨some 10, (.ld false 1), [.tmp 9], none⟩,
        ⟨some 11, (.eqg true 6), [.tmp 10, .const (.int .i64 0)], none⟩])
      (.cond (.tmp 11)
       (.seq (.runD [2, 3, 4] [⟨0, ⟨some 12, (.faddr 5), [.tmp 5], none⟩, []⟩,
          ⟨1, ⟨some 13, (.ld false 1), [.tmp 12], none⟩, []⟩,
          ⟨2, ⟨some 14, (.faddr 6), [.tmp 5], none⟩, []⟩,
          ⟨3, ⟨some 15, (.ld false 1), [.tmp 14], none⟩, []⟩,
          ⟨4, ⟨some 2, .mv, [.const (.slice none 0 0)], none⟩, []⟩,
          ⟨5, ⟨some 3, .mv, [.tmp 13], none⟩, []⟩,
          ⟨6, ⟨some 4, .mv, [.tmp 15], none⟩, []⟩])
        .ret)
       .skip))
     (.seq (.seq (.run [0, 5, 19] [⟨some 16, (.faddr 0), [.tmp 5], none⟩,
         ⟨some 17, (.ld true 4), [.tmp 16], none⟩,
         ⟨some 18, (.build [(.int .i64 0), (.str []), (.str []), (.str [])] []), [], none⟩,
         ⟨some 19, (.eqs true [1, 2, 2, 2]), [.tmp 17, .tmp 18], none⟩])
       (.cond (.tmp 19)
        (.seq (.runD [2, 3, 4] [⟨0, ⟨some 20, .mv, [.tmp 0], none⟩, []⟩,
           ⟨1, ⟨some 21, .mv, [.tmp 0], none⟩, []⟩,
           ⟨2, ⟨some 22, (.len 1), [.tmp 21], none⟩, []⟩,
           ⟨3, ⟨some 23, (.bin .sub), [.tmp 22, .const (.int .i64 1)], none⟩, []⟩,
           ⟨4, ⟨some 24, (.iaddr 8), [.tmp 20, .tmp 23], none⟩, []⟩,
           ⟨5, ⟨some 25, (.faddr 1), [.tmp 24], none⟩, []⟩,
           ⟨6, ⟨some 26, (.ld false 1), [.tmp 25], none⟩, []⟩,
           ⟨7, ⟨some 2, .mv, [.const (.slice none 0 0)], none⟩, []⟩,
           ⟨8, ⟨some 3, .mv, [.tmp 26], none⟩, []⟩,
           ⟨9, ⟨some 4, .mv, [.const (.int .i64 16)], none⟩, []⟩])
         .ret)
        .skip))
      (.seq (.run [2, 3, 4] [⟨some 27, (.faddr 4), [.tmp 5], none⟩,
         ⟨some 28, (.ld false 1), [.tmp 27], none⟩,
         ⟨some 2, .mv, [.tmp 28], none⟩,
         ⟨some 3, .mv, [.const (.int .i64 0)], none⟩,
         ⟨some 4, .mv, [.const (.int .i64 0)], none⟩])
       .ret)))))⟩

theorem f20_ok : compF Go.Proofs.Try.prog 20 f20.body.hints = some f20 := by kernel_rfl


def f21 : AFun := ⟨34, 0, [.slot 0],
  (.seq (.run [] [⟨some 0, .mv, [.const (.bool false)], none⟩])
   (.seq (.run [1, 3] [⟨some 8, (.call 18), [.const (.string ⟨#[60, 97, 32, 104, 114, 101, 102, 61, 34, 123, 123, 46, 117, 125, 125, 34, 62, 123, 123, 46, 116, 125, 125, 60, 47, 97, 62]⟩)], none⟩,
      ⟨some 9, (.call 19), [.tmp 8], none⟩,
      ⟨some 7, .mv, [.tmp 9], none⟩,
      ⟨some 10, (.ext 0), [.tmp 7], none⟩,
      ⟨some 11, (.ext 1), [.tmp 7], none⟩,
      ⟨some 12, (.ext 2), [.tmp 7], none⟩,
      ⟨some 1, .mv, [.tmp 10], none⟩,
      ⟨some 2, .mv, [.tmp 11], none⟩,
      ⟨some 3, .mv, [.tmp 12], none⟩])
    (.seq (.run [1, 3, 5, 6] [⟨some 14, (.call 18), [.const (.string ⟨#[123, 123, 105, 102, 32, 46, 97, 125, 125, 60, 98, 32, 123, 123, 101, 110, 100, 125, 125, 120]⟩)], none⟩,
       ⟨some 15, (.call 19), [.tmp 14], none⟩,
       ⟨some 13, .mv, [.tmp 15], none⟩,
       ⟨some 16, (.ext 0), [.tmp 13], none⟩,
       ⟨some 17, (.ext 1), [.tmp 13], none⟩,
       ⟨some 18, (.ext 2), [.tmp 13], none⟩,
       ⟨some 4, .mv, [.tmp 16], none⟩,
       ⟨some 5, .mv, [.tmp 17], none⟩,
       ⟨some 6, .mv, [.tmp 18], none⟩])
     (.seq (.run [0] [⟨some 19, .mv, [.tmp 3], none⟩,
        ⟨some 20, (.eqg false 6), [.tmp 19, .const (.int .i64 0)], none⟩,
        ⟨some 21, .mv, [.tmp 20], none⟩,
        ⟨some 22, .mv, [.tmp 1], some (21, true)⟩,
        ⟨some 23, (.bslice 1 2 [(.int .i64 0)] [(0, 1), (1, 1)]), [.const (.int .i64 2), .const (.int .i64 0)], some (21, true)⟩,
        ⟨some 24, (.call 22), [.tmp 22, .tmp 23], some (21, true)⟩,
        ⟨some 25, .pick, [.tmp 21, .tmp 24, .const (.bool false)], none⟩,
        ⟨some 26, .mv, [.tmp 25], none⟩,
        ⟨some 27, .mv, [.tmp 5], some (26, true)⟩,
        ⟨some 28, (.eqg false 6), [.tmp 27, .const (.int .i64 0)], some (26, true)⟩,
        ⟨some 29, .pick, [.tmp 26, .tmp 28, .const (.bool false)], none⟩,
        ⟨some 30, .mv, [.tmp 29], none⟩,
        ⟨some 31, .mv, [.tmp 6], some (30, true)⟩,
        ⟨some 32, (.eqg false 6), [.tmp 31, .const (.int .i64 16)], some (30, true)⟩,
        ⟨some 33, .pick, [.tmp 30, .tmp 32, .const (.bool false)], none⟩,
        ⟨some 0, .mv, [.tmp 33], none⟩])
      .ret))))⟩

theorem f21_ok : compF Go.Proofs.Try.prog 21 f21.body.hints = some f21 := by kernel_rfl


def f22 : AFun := ⟨26, 2, [.slot 4],
  (.seq (.run [0, 1] [⟨some 4, .mv, [.const (.bool false)], none⟩])
   (.seq (.seq (.run [0, 1, 10] [⟨some 6, .mv, [.tmp 0], none⟩,
       ⟨some 7, (.len 1), [.tmp 6], none⟩,
       ⟨some 8, .mv, [.tmp 1], none⟩,
       ⟨some 9, (.len 1), [.tmp 8], none⟩,
       ⟨some 10, (.eqg true 6), [.tmp 7, .tmp 9], none⟩])
     (.cond (.tmp 10)
      (.seq (.run [4] [⟨some 4, .mv, [.const (.bool false)], none⟩])
       .ret)
      .skip))
    (.seq (.seq (.run [0, 1, 12, 13] [⟨some 11, .mv, [.tmp 0], none⟩,
        ⟨some 12, (.len 1), [.tmp 11], none⟩,
        ⟨some 13, .mv, [.const (.int .i64 0)], none⟩])
      (.block 0 (.loop [0, 1, 12, 13] (.seq (.run [0, 1, 12, 13, 14] [⟨some 14, (.bin .lss), [.tmp 13, .tmp 12], none⟩])
         (.seq (.cond (.tmp 14)
           .skip
           (.exit 0))
          (.seq (.block 1 (.seq (.run [0, 1, 5, 12, 13] [⟨some 15, .mv, [.tmp 13], none⟩,
               ⟨some 5, .mv, [.tmp 15], none⟩])
             (.seq (.runD [0, 1, 12, 13, 24] [⟨0, ⟨some 16, .mv, [.tmp 0], none⟩, []⟩,
                ⟨1, ⟨some 17, .mv, [.tmp 5], none⟩, []⟩,
                ⟨2, ⟨some 18, (.iaddr 1), [.tmp 16, .tmp 17], none⟩, []⟩,
                ⟨3, ⟨some 19, (.ld false 1), [.tmp 18], none⟩, []⟩,
                ⟨4, ⟨some 20, .mv, [.tmp 1], none⟩, []⟩,
                ⟨5, ⟨some 21, .mv, [.tmp 5], none⟩, []⟩,
                ⟨6, ⟨some 22, (.iaddr 1), [.tmp 20, .tmp 21], none⟩, []⟩,
                ⟨7, ⟨some 23, (.ld false 1), [.tmp 22], none⟩, []⟩,
                ⟨8, ⟨some 24, (.eqg true 6), [.tmp 19, .tmp 23], none⟩, []⟩])
              (.cond (.tmp 24)
               (.seq (.run [4] [⟨some 4, .mv, [.const (.bool false)], none⟩])
                .ret)
               .skip))))
           (.run [0, 1, 12, 13] [⟨some 25, (.bin .add), [.tmp 13, .const (.int .i64 1)], none⟩,
             ⟨some 13, .mv, [.tmp 25], none⟩])))))))
     (.seq (.run [4] [⟨some 4, .mv, [.const (.bool true)], none⟩])
      .ret))))⟩

theorem f22_ok : compF Go.Proofs.Try.prog 22 f22.body.hints = some f22 := by kernel_rfl


def f23 : AFun := ⟨20, 2, [.cell 4 (.ld true 4), .slot 5, .slot 6],
  (.seq (.run [1, 2, 4] [⟨some 2, .box, [.tmp 0], none⟩,
     ⟨some 4, (.alloc [(.int .i64 0), (.str []), (.str []), (.str [])]), [], none⟩,
     ⟨some 5, .mv, [.const (.int .i64 0)], none⟩,
     ⟨some 6, .mv, [.const (.int .i64 0)], none⟩])
   (.seq (.run [1, 2, 4, 7] [⟨some 7, (.alloc [(.sl [] .nil), (.int .i64 0), (.int .i64 0)]), [], none⟩])
    (.seq (.run [2, 4, 7] [⟨some 8, (.ld true 4), [.tmp 2], none⟩,
       ⟨some 9, .mv, [.tmp 1], none⟩,
       ⟨some 10, (.call 35), [.tmp 7, .tmp 8, .tmp 9], none⟩,
       ⟨none, (.st 4), [.tmp 2, .tmp 10], none⟩])
     (.seq (.seq (.run [2, 4, 7, 13] [⟨some 11, (.faddr 2), [.tmp 7], none⟩,
         ⟨some 12, (.ld false 1), [.tmp 11], none⟩,
         ⟨some 13, (.eqg true 6), [.tmp 12, .const (.int .i64 0)], none⟩])
       (.cond (.tmp 13)
        (.seq (.runD [4, 5, 6] [⟨0, ⟨some 14, (.build [(.int .i64 0), (.str []), (.str []), (.str [])] []), [], none⟩, []⟩,
           ⟨1, ⟨some 15, (.faddr 1), [.tmp 7], none⟩, []⟩,
           ⟨2, ⟨some 16, (.ld false 1), [.tmp 15], none⟩, []⟩,
           ⟨3, ⟨some 17, (.faddr 2), [.tmp 7], none⟩, []⟩,
           ⟨4, ⟨some 18, (.ld false 1), [.tmp 17], none⟩, []⟩,
           ⟨5, ⟨none, (.st 4), [.tmp 4, .tmp 14], none⟩, [2, 4]⟩,
           ⟨6, ⟨some 5, .mv, [.tmp 16], none⟩, []⟩,
           ⟨7, ⟨some 6, .mv, [.tmp 18], none⟩, []⟩])
         .ret)
        .skip))
      (.seq (.run [4, 5, 6] [⟨some 19, (.ld true 4), [.tmp 2], none⟩,
         ⟨none, (.st 4), [.tmp 4, .tmp 19], none⟩,
         ⟨some 5, .mv, [.const (.int .i64 0)], none⟩,
         ⟨some 6, .mv, [.const (.int .i64 0)], none⟩])
       .ret)))))⟩

theorem f23_ok : compF Go.Proofs.Try.prog 23 f23.body.hints = some f23 := by kernel_rfl


def f24 : AFun := ⟨41, 2, [.cell 4 (.ld true 7)],
  (.seq (.run [1, 2, 4] [⟨some 2, .box, [.tmp 0], none⟩,
     ⟨some 4, (.alloc [(.int .i64 0), (.str []), (.str []), (.str []), (.sl [] .nil), (.int .i64 0), (.int .i64 0)]), [], none⟩])
   (.seq (.run [1, 4, 5] [⟨some 8, (.ld true 4), [.tmp 2], none⟩,
      ⟨some 9, (.build [(.int .i64 0), (.str []), (.str []), (.str []), (.sl [] .nil), (.int .i64 0), (.int .i64 0)] [(0, 4)]), [.tmp 8], none⟩,
      ⟨some 5, (.alloc [(.int .i64 0), (.str []), (.str []), (.str []), (.sl [] .nil), (.int .i64 0), (.int .i64 0)]), [], none⟩,
      ⟨none, (.st 7), [.tmp 5, .tmp 9], none⟩])
    (.seq (.seq (.run [1, 4, 5, 6] [⟨some 6, .mv, [.const (.int .i64 0)], none⟩])
      (.block 0 (.loop [1, 4, 5, 6] (.seq (.seq (.run [1, 4, 5, 6, 13] [⟨some 10, .mv, [.tmp 6], none⟩,
            ⟨some 11, .mv, [.tmp 1], none⟩,
            ⟨some 12, (.len 1), [.tmp 11], none⟩,
            ⟨some 13, (.bin .lss), [.tmp 10, .tmp 12], none⟩])
          (.cond (.tmp 13)
           .skip
           (.exit 0)))
         (.seq (.block 1 (.seq (.runF [1, 4, 5, 6, 7] [⟨0, ⟨some 16, (.faddr 0), [.tmp 5], none⟩, []⟩,
              ⟨1, ⟨some 17, (.ld true 4), [.tmp 16], none⟩, []⟩,
              ⟨2, ⟨some 18, .mv, [.tmp 1], none⟩, []⟩,
              ⟨3, ⟨some 19, .mv, [.tmp 6], none⟩, []⟩,
              ⟨4, ⟨some 20, (.iaddr 8), [.tmp 18, .tmp 19], none⟩, []⟩,
              ⟨5, ⟨some 21, (.ld true 8), [.tmp 20], none⟩, []⟩]
             [⟨6, ⟨some 22, (.call 37), [.tmp 17, .tmp 21], none⟩, []⟩,
              ⟨7, ⟨some 7, (.alloc [(.int .i64 0), (.str []), (.str []), (.str []), (.sl [] .nil), (.int .i64 0), (.int .i64 0)]), [], none⟩, [1, 5]⟩,
              ⟨8, ⟨none, (.st 7), [.tmp 7, .tmp 22], none⟩, []⟩]
             [⟨7, ⟨some 7, (.alloc [(.int .i64 0), (.str []), (.str []), (.str []), (.sl [] .nil), (.int .i64 0), (.int .i64 0)]), [], none⟩, [1, 5]⟩,
              ⟨6, ⟨some 22, (.call 37), [.tmp 17, .tmp 21], none⟩, []⟩,
              ⟨8, ⟨none, (.st 7), [.tmp 7, .tmp 22], none⟩, []⟩])
            (.seq (.seq (.run [1, 4, 5, 6, 7, 25] [⟨some 23, (.faddr 6), [.tmp 7], none⟩,
                ⟨some 24, (.ld false 1), [.tmp 23], none⟩,
                ⟨some 25, (.eqg true 6), [.tmp 24, .const (.int .i64 0)], none⟩])
              (.cond (.tmp 25)
               (.seq (.run [4] [⟨some 26, (.faddr 5), [.tmp 7], none⟩,
                  ⟨some 27, (.ld false 1), [.tmp 26], none⟩,
                  ⟨some 28, (.faddr 6), [.tmp 7], none⟩,
                  ⟨some 29, (.ld false 1), [.tmp 28], none⟩,
                  ⟨some 30, (.build [(.int .i64 0), (.str []), (.str []), (.str []), (.sl [] .nil), (.int .i64 0), (.int .i64 0)] [(5, 1), (6, 1)]), [.tmp 27, .tmp 29], none⟩,
                  ⟨none, (.st 7), [.tmp 4, .tmp 30], none⟩])
                .ret)
               .skip))
             (.seq (.run [1, 4, 5, 6, 7] [⟨some 31, (.faddr 0), [.tmp 7], none⟩,
                ⟨some 32, (.ld true 4), [.tmp 31], none⟩,
                ⟨some 33, (.faddr 0), [.tmp 5], none⟩,
                ⟨none, (.st 4), [.tmp 33, .tmp 32], none⟩])
              (.run [1, 4, 5, 6] [⟨some 34, (.faddr 4), [.tmp 5], none⟩,
                ⟨some 35, (.ld false 1), [.tmp 34], none⟩,
                ⟨some 36, (.faddr 4), [.tmp 7], none⟩,
                ⟨some 37, (.ld false 1), [.tmp 36], none⟩,
                ⟨some 38, (.app 1 8), [.tmp 35, .tmp 37], none⟩,
                ⟨some 39, (.faddr 4), [.tmp 5], none⟩,
                ⟨none, (.st 1), [.tmp 39, .tmp 38], none⟩])))))
          (.run [1, 4, 5, 6] [⟨some 14, .mv, [.tmp 6], none⟩,
            ⟨some 15, (.bin .add), [.tmp 14, .const (.int .i64 1)], none⟩,
            ⟨some 6, .mv, [.tmp 15], none⟩]))))))
     (.seq (.run [4] [⟨some 40, (.ld true 7), [.tmp 5], none⟩,
        ⟨none, (.st 7), [.tmp 4, .tmp 40], none⟩])
      .ret))))⟩

theorem f24_ok : compF Go.Proofs.Try.prog 24 f24.body.hints = some f24 := by kernel_rfl


def f25 : AFun := ⟨18, 2, [.cell 4 (.ld true 4)],
  (.seq (.run [1, 2, 4] [⟨some 2, .box, [.tmp 0], none⟩,
     ⟨some 4, (.alloc [(.int .i64 0), (.str []), (.str []), (.str [])]), [], none⟩])
   (.seq (.seq (.run [1, 2, 4, 5] [⟨some 5, .mv, [.const (.int .i64 0)], none⟩])
     (.block 0 (.loop [1, 2, 4, 5] (.seq (.seq (.run [1, 2, 4, 5, 9] [⟨some 6, .mv, [.tmp 5], none⟩,
           ⟨some 7, .mv, [.tmp 1], none⟩,
           ⟨some 8, (.len 0), [.tmp 7], none⟩,
           ⟨some 9, (.bin .lss), [.tmp 6, .tmp 8], none⟩])
         (.cond (.tmp 9)
          .skip
          (.exit 0)))
        (.seq (.block 1 (.runD [1, 2, 4, 5] [⟨0, ⟨some 12, (.ld true 4), [.tmp 2], none⟩, []⟩,
            ⟨1, ⟨some 13, .mv, [.tmp 1], none⟩, []⟩,
            ⟨2, ⟨some 14, .mv, [.tmp 5], none⟩, []⟩,
            ⟨3, ⟨some 15, .ixs, [.tmp 13, .tmp 14], none⟩, []⟩,
            ⟨4, ⟨some 16, (.call 13), [.tmp 12, .tmp 15], none⟩, []⟩,
            ⟨5, ⟨none, (.st 4), [.tmp 2, .tmp 16], none⟩, []⟩]))
         (.run [1, 2, 4, 5] [⟨some 10, .mv, [.tmp 5], none⟩,
           ⟨some 11, (.bin .add), [.tmp 10, .const (.int .i64 1)], none⟩,
           ⟨some 5, .mv, [.tmp 11], none⟩]))))))
    (.seq (.run [4] [⟨some 17, (.ld true 4), [.tmp 2], none⟩,
       ⟨none, (.st 4), [.tmp 4, .tmp 17], none⟩])
     .ret)))⟩

theorem f25_ok : compF Go.Proofs.Try.prog 25 f25.body.hints = some f25 := by kernel_rfl


def f26 : AFun := ⟨79, 2, [.cell 4 (.ld true 4)],
  (.seq (.run [1, 2, 4] [⟨some 2, .box, [.tmp 0], none⟩,
     ⟨some 4, (.alloc [(.int .i64 0), (.str []), (.str []), (.str [])]), [], none⟩])
   (.seq (.block 0 (.seq (.run [1, 2, 4, 5] [⟨some 6, (.faddr 3), [.tmp 2], none⟩,
        ⟨some 7, (.ld false 1), [.tmp 6], none⟩,
        ⟨some 8, (.eqg false 6), [.tmp 7, .const (.string ⟨#[60]⟩)], none⟩,
        ⟨some 9, .mv, [.tmp 8], none⟩,
        ⟨some 10, .mv, [.tmp 1], some (9, true)⟩,
        ⟨some 11, (.call 38), [.tmp 10], some (9, true)⟩,
        ⟨some 12, .pick, [.tmp 9, .tmp 11, .const (.bool false)], none⟩,
        ⟨some 5, .mv, [.tmp 12], none⟩])
      (.cond (.tmp 5)
       (.seq (.run [4] [⟨some 13, .mv, [.tmp 1], none⟩,
          ⟨some 14, (.call 39), [.tmp 13], none⟩,
          ⟨some 15, (.build [(.int .i64 0), (.str []), (.str []), (.str [])] [(0, 1), (1, 1)]), [.const (.int .i64 2), .tmp 14], none⟩,
          ⟨none, (.st 4), [.tmp 4, .tmp 15], none⟩])
        .ret)
       (.seq (.seq (.run [1, 2, 4, 16] [⟨some 17, (.faddr 3), [.tmp 2], none⟩,
           ⟨some 18, (.ld false 1), [.tmp 17], none⟩,
           ⟨some 19, (.eqg false 6), [.tmp 18, .const (.string ⟨#[60]⟩)], none⟩,
           ⟨some 20, .mv, [.tmp 19], none⟩,
           ⟨some 21, .mv, [.tmp 1], some (20, true)⟩,
           ⟨some 22, (.eqg false 6), [.tmp 21, .const (.int .u8 47)], some (20, true)⟩,
           ⟨some 23, .mv, [.tmp 22], some (20, true)⟩,
           ⟨some 24, .mv, [.tmp 1], some (23, false)⟩,
           ⟨some 25, (.eqg false 6), [.tmp 24, .const (.int .u8 33)], some (23, false)⟩,
           ⟨some 26, .pick, [.tmp 23, .const (.bool true), .tmp 25], some (20, true)⟩,
           ⟨some 27, .pick, [.tmp 20, .tmp 26, .const (.bool false)], none⟩,
           ⟨some 16, .mv, [.tmp 27], none⟩])
         (.cond (.tmp 16)
          .skip
          (.run [1, 2, 4, 16] [⟨some 28, (.faddr 3), [.tmp 2], none⟩,
            ⟨some 29, (.ld false 1), [.tmp 28], none⟩,
            ⟨some 30, (.eqg false 6), [.tmp 29, .const (.string ⟨#[60, 33]⟩)], none⟩,
            ⟨some 31, .mv, [.tmp 30], none⟩,
            ⟨some 32, .mv, [.tmp 1], some (31, true)⟩,
            ⟨some 33, (.eqg false 6), [.tmp 32, .const (.int .u8 45)], some (31, true)⟩,
            ⟨some 34, .pick, [.tmp 31, .tmp 33, .const (.bool false)], none⟩,
            ⟨some 16, .mv, [.tmp 34], none⟩])))
        (.cond (.tmp 16)
         (.seq (.run [4] [⟨some 35, (.faddr 3), [.tmp 2], none⟩,
            ⟨some 36, (.ld false 1), [.tmp 35], none⟩,
            ⟨some 37, .mv, [.tmp 1], none⟩,
            ⟨some 38, (.bslice 1 1 [(.int .u8 0)] [(0, 1)]), [.tmp 37], none⟩,
            ⟨some 39, .cvb, [.tmp 38], none⟩,
            ⟨some 40, (.bin .add), [.tmp 36, .tmp 39], none⟩,
            ⟨some 41, (.build [(.int .i64 0), (.str []), (.str []), (.str [])] [(3, 1)]), [.tmp 40], none⟩,
            ⟨none, (.st 4), [.tmp 4, .tmp 41], none⟩])
          .ret)
         (.seq (.run [1, 2, 4, 42] [⟨some 43, (.faddr 3), [.tmp 2], none⟩,
            ⟨some 44, (.ld false 1), [.tmp 43], none⟩,
            ⟨some 45, (.eqg false 6), [.tmp 44, .const (.string ⟨#[60, 47]⟩)], none⟩,
            ⟨some 46, .mv, [.tmp 45], none⟩,
            ⟨some 47, .mv, [.tmp 1], some (46, true)⟩,
            ⟨some 48, (.call 38), [.tmp 47], some (46, true)⟩,
            ⟨some 49, .pick, [.tmp 46, .tmp 48, .const (.bool false)], none⟩,
            ⟨some 42, .mv, [.tmp 49], none⟩])
          (.cond (.tmp 42)
           (.seq (.run [4] [⟨some 50, (.build [(.int .i64 0), (.str []), (.str []), (.str [])] [(0, 1)]), [.const (.int .i64 15)], none⟩,
              ⟨none, (.st 4), [.tmp 4, .tmp 50], none⟩])
            .ret)
           (.seq (.run [1, 2, 4, 51] [⟨some 52, (.faddr 3), [.tmp 2], none⟩,
              ⟨some 53, (.ld false 1), [.tmp 52], none⟩,
              ⟨some 54, (.eqg false 6), [.tmp 53, .const (.string ⟨#[60, 33, 45]⟩)], none⟩,
              ⟨some 55, .mv, [.tmp 54], none⟩,
              ⟨some 56, .mv, [.tmp 1], some (55, true)⟩,
              ⟨some 57, (.eqg false 6), [.tmp 56, .const (.int .u8 45)], some (55, true)⟩,
              ⟨some 58, .pick, [.tmp 55, .tmp 57, .const (.bool false)], none⟩,
              ⟨some 51, .mv, [.tmp 58], none⟩])
            (.cond (.tmp 51)
             (.seq (.run [4] [⟨some 59, (.build [(.int .i64 0), (.str []), (.str []), (.str [])] [(0, 1)]), [.const (.int .i64 13)], none⟩,
                ⟨none, (.st 4), [.tmp 4, .tmp 59], none⟩])
              .ret)
             (.seq (.run [1, 4, 60] [⟨some 61, (.faddr 3), [.tmp 2], none⟩,
                ⟨some 62, (.ld false 1), [.tmp 61], none⟩,
                ⟨some 63, (.eqg false 6), [.tmp 62, .const (.string ⟨#[60, 33]⟩)], none⟩,
                ⟨some 64, .mv, [.tmp 63], none⟩,
                ⟨some 65, (.faddr 3), [.tmp 2], some (64, false)⟩,
                ⟨some 66, (.ld false 1), [.tmp 65], some (64, false)⟩,
                ⟨some 67, (.eqg false 6), [.tmp 66, .const (.string ⟨#[60, 33, 45]⟩)], some (64, false)⟩,
                ⟨some 68, .pick, [.tmp 64, .const (.bool true), .tmp 67], none⟩,
                ⟨some 69, .mv, [.tmp 68], none⟩,
                ⟨some 70, .mv, [.tmp 1], some (69, true)⟩,
                ⟨some 71, (.eqg true 6), [.tmp 70, .const (.int .u8 62)], some (69, true)⟩,
                ⟨some 72, .pick, [.tmp 69, .tmp 71, .const (.bool false)], none⟩,
                ⟨some 60, .mv, [.tmp 72], none⟩])
              (.cond (.tmp 60)
               (.seq (.run [4] [⟨some 73, (.build [(.int .i64 0), (.str []), (.str []), (.str [])] [(0, 1)]), [.const (.int .i64 14)], none⟩,
                  ⟨none, (.st 4), [.tmp 4, .tmp 73], none⟩])
                .ret)
               (.seq (.run [4, 74] [⟨some 75, .mv, [.tmp 1], none⟩,
                  ⟨some 76, (.eqg false 6), [.tmp 75, .const (.int .u8 60)], none⟩,
                  ⟨some 74, .mv, [.tmp 76], none⟩])
                (.cond (.tmp 74)
                 (.seq (.run [4] [⟨some 77, (.build [(.int .i64 0), (.str []), (.str []), (.str [])] [(3, 1)]), [.const (.string ⟨#[60]⟩)], none⟩,
                    ⟨none, (.st 4), [.tmp 4, .tmp 77], none⟩])
                  .ret)
                 .skip)))))))))))))
    (.seq (.run [4] [⟨some 78, (.build [(.int .i64 0), (.str []), (.str []), (.str [])] []), [], none⟩,
       ⟨none, (.st 4), [.tmp 4, .tmp 78], none⟩])
     .ret)))⟩

theorem f26_ok : compF Go.Proofs.Try.prog 26 f26.body.hints = some f26 := by kernel_rfl


def f27 : AFun := ⟨30, 2, [.cell 4 (.ld true 4)],
  (.seq (.run [1, 2, 4] [⟨some 2, .box, [.tmp 0], none⟩,
     ⟨some 4, (.alloc [(.int .i64 0), (.str []), (.str []), (.str [])]), [], none⟩])
   (.seq (.block 0 (.seq (.run [1, 2, 4, 5] [⟨some 6, (.faddr 3), [.tmp 2], none⟩,
        ⟨some 7, (.ld false 1), [.tmp 6], none⟩,
        ⟨some 8, (.eqg false 6), [.tmp 7, .const (.string ⟨#[45, 45]⟩)], none⟩,
        ⟨some 9, .mv, [.tmp 8], none⟩,
        ⟨some 10, .mv, [.tmp 1], some (9, true)⟩,
        ⟨some 11, (.eqg false 6), [.tmp 10, .const (.int .u8 62)], some (9, true)⟩,
        ⟨some 12, .pick, [.tmp 9, .tmp 11, .const (.bool false)], none⟩,
        ⟨some 5, .mv, [.tmp 12], none⟩])
      (.cond (.tmp 5)
       (.seq (.run [4] [⟨some 13, (.build [(.int .i64 0), (.str []), (.str []), (.str [])] []), [], none⟩,
          ⟨none, (.st 4), [.tmp 4, .tmp 13], none⟩])
        .ret)
       (.seq (.run [2, 4, 14] [⟨some 15, .mv, [.tmp 1], none⟩,
          ⟨some 16, (.eqg true 6), [.tmp 15, .const (.int .u8 45)], none⟩,
          ⟨some 14, .mv, [.tmp 16], none⟩])
        (.cond (.tmp 14)
         (.seq (.run [4] [⟨some 17, (.ld true 4), [.tmp 2], none⟩,
            ⟨some 18, (.call 40), [.tmp 17, .const (.string ⟨#[]⟩)], none⟩,
            ⟨none, (.st 4), [.tmp 4, .tmp 18], none⟩])
          .ret)
         (.seq (.run [2, 4, 19] [⟨some 20, (.faddr 3), [.tmp 2], none⟩,
            ⟨some 21, (.ld false 1), [.tmp 20], none⟩,
            ⟨some 22, (.len 0), [.tmp 21], none⟩,
            ⟨some 23, (.bin .lss), [.tmp 22, .const (.int .i64 2)], none⟩,
            ⟨some 19, .mv, [.tmp 23], none⟩])
          (.cond (.tmp 19)
           (.seq (.run [4] [⟨some 24, (.ld true 4), [.tmp 2], none⟩,
              ⟨some 25, (.faddr 3), [.tmp 2], none⟩,
              ⟨some 26, (.ld false 1), [.tmp 25], none⟩,
              ⟨some 27, (.bin .add), [.tmp 26, .const (.string ⟨#[45]⟩)], none⟩,
              ⟨some 28, (.call 40), [.tmp 24, .tmp 27], none⟩,
              ⟨none, (.st 4), [.tmp 4, .tmp 28], none⟩])
            .ret)
           .skip)))))))
    (.seq (.run [4] [⟨some 29, (.ld true 4), [.tmp 2], none⟩,
       ⟨none, (.st 4), [.tmp 4, .tmp 29], none⟩])
     .ret)))⟩

theorem f27_ok : compF Go.Proofs.Try.prog 27 f27.body.hints = some f27 := by kernel_rfl


def f28 : AFun := ⟨93, 4, [.cell 8 (.ld true 4)],
  (.seq (.run [1, 2, 3, 4, 8] [⟨some 4, .box, [.tmp 0], none⟩,
     ⟨some 8, (.alloc [(.int .i64 0), (.str []), (.str []), (.str [])]), [], none⟩])
   (.seq (.seq (.runD [1, 2, 3, 4, 8, 9] [⟨0, ⟨some 13, (.faddr 3), [.tmp 4], none⟩, []⟩,
       ⟨1, ⟨some 14, (.ld false 1), [.tmp 13], none⟩, []⟩,
       ⟨2, ⟨some 15, .mv, [.tmp 3], none⟩, []⟩,
       ⟨3, ⟨some 16, (.call 39), [.tmp 15], none⟩, [1]⟩,
       ⟨4, ⟨some 17, (.bin .add), [.tmp 14, .tmp 16], none⟩, []⟩,
       ⟨5, ⟨some 9, .mv, [.tmp 17], none⟩, []⟩])
     (.seq (.run [1, 2, 3, 4, 8, 9, 25] [⟨some 18, (.faddr 3), [.tmp 4], none⟩,
        ⟨some 19, (.ld false 1), [.tmp 18], none⟩,
        ⟨some 20, (.call 41), [.tmp 19, .const (.string ⟨#[60]⟩)], none⟩,
        ⟨some 21, .mv, [.tmp 20], none⟩,
        ⟨some 22, .mv, [.tmp 2], some (21, true)⟩,
        ⟨some 23, .mv, [.tmp 9], some (21, true)⟩,
        ⟨some 24, (.call 41), [.tmp 22, .tmp 23], some (21, true)⟩,
        ⟨some 25, .pick, [.tmp 21, .tmp 24, .const (.bool false)], none⟩])
      (.cond (.tmp 25)
       (.seq (.seq (.run [4, 8, 9, 28] [⟨some 26, .mv, [.tmp 9], none⟩,
           ⟨some 27, .mv, [.tmp 2], none⟩,
           ⟨some 28, (.eqg false 6), [.tmp 26, .tmp 27], none⟩])
         (.cond (.tmp 28)
          (.seq (.run [8] [⟨some 29, (.build [(.int .i64 0), (.str []), (.str []), (.str [])] [(0, 1)]), [.const (.int .i64 15)], none⟩,
             ⟨none, (.st 4), [.tmp 8, .tmp 29], none⟩])
           .ret)
          .skip))
        (.seq (.run [8] [⟨some 30, (.ld true 4), [.tmp 4], none⟩,
           ⟨some 31, .mv, [.tmp 9], none⟩,
           ⟨some 32, (.call 40), [.tmp 30, .tmp 31], none⟩,
           ⟨none, (.st 4), [.tmp 8, .tmp 32], none⟩])
         .ret))
       .skip)))
    (.seq (.run [1, 3, 4, 8, 10] [⟨some 33, (.faddr 3), [.tmp 4], none⟩,
       ⟨some 34, (.ld false 1), [.tmp 33], none⟩,
       ⟨some 35, (.eqg false 6), [.tmp 34, .const (.string ⟨#[92]⟩)], none⟩,
       ⟨some 10, .mv, [.tmp 35], none⟩])
     (.seq (.run [1, 3, 4, 8, 10] [⟨some 36, (.faddr 3), [.tmp 4], none⟩,
        ⟨none, (.st 1), [.tmp 36, .const (.string ⟨#[]⟩)], none⟩])
      (.seq (.run [1, 3, 4, 8, 10, 11] [⟨some 37, (.build [(.int .u8 0), (.int .u8 0), (.int .u8 0)] [(0, 1), (1, 1), (2, 1)]), [.const (.int .u8 0), .const (.int .u8 34), .const (.int .u8 39)], none⟩,
         ⟨some 11, (.alloc [(.int .u8 0), (.int .u8 0), (.int .u8 0)]), [], none⟩,
         ⟨none, (.st 3), [.tmp 11, .tmp 37], none⟩])
       (.seq (.seq (.run [1, 3, 4, 8, 10, 11, 12] [⟨some 38, (.faddr 0), [.tmp 4], none⟩,
           ⟨some 39, (.ld false 1), [.tmp 38], none⟩,
           ⟨some 40, .mv, [.tmp 1], none⟩,
           ⟨some 41, (.bin .sub), [.tmp 39, .tmp 40], none⟩,
           ⟨some 12, .mv, [.tmp 41], none⟩])
         (.block 0 (.seq (.run [1, 3, 4, 8, 10, 11, 12, 42] [⟨some 43, .mv, [.tmp 3], none⟩,
             ⟨some 44, (.eqg false 6), [.tmp 43, .const (.int .u8 60)], none⟩,
             ⟨some 42, .mv, [.tmp 44], none⟩])
           (.cond (.tmp 42)
            (.run [4, 8] [⟨some 45, (.faddr 3), [.tmp 4], none⟩,
              ⟨none, (.st 1), [.tmp 45, .const (.string ⟨#[60]⟩)], none⟩])
            (.seq (.run [1, 3, 4, 8, 11, 12, 46] [⟨some 47, .mv, [.tmp 10], none⟩,
               ⟨some 46, .mv, [.tmp 47], none⟩])
             (.cond (.tmp 46)
              .skip
              (.seq (.run [1, 3, 4, 8, 11, 12, 48] [⟨some 49, .mv, [.tmp 12], none⟩,
                 ⟨some 50, (.eqg false 6), [.tmp 49, .const (.int .i64 0)], none⟩,
                 ⟨some 51, .mv, [.tmp 50], none⟩,
                 ⟨some 52, .mv, [.tmp 3], some (51, true)⟩,
                 ⟨some 53, (.eqg false 6), [.tmp 52, .const (.int .u8 34)], some (51, true)⟩,
                 ⟨some 54, .pick, [.tmp 51, .tmp 53, .const (.bool false)], none⟩,
                 ⟨some 48, .mv, [.tmp 54], none⟩])
               (.cond (.tmp 48)
                (.run [4, 8] [⟨some 55, .mv, [.tmp 1], none⟩,
                  ⟨some 56, (.bin .add), [.tmp 55, .const (.int .i64 1)], none⟩,
                  ⟨some 57, (.faddr 0), [.tmp 4], none⟩,
                  ⟨none, (.st 1), [.tmp 57, .tmp 56], none⟩])
                (.seq (.run [1, 3, 4, 8, 11, 12, 58] [⟨some 59, .mv, [.tmp 12], none⟩,
                   ⟨some 60, (.eqg false 6), [.tmp 59, .const (.int .i64 0)], none⟩,
                   ⟨some 61, .mv, [.tmp 60], none⟩,
                   ⟨some 62, .mv, [.tmp 3], some (61, true)⟩,
                   ⟨some 63, (.eqg false 6), [.tmp 62, .const (.int .u8 39)], some (61, true)⟩,
                   ⟨some 64, .pick, [.tmp 61, .tmp 63, .const (.bool false)], none⟩,
                   ⟨some 58, .mv, [.tmp 64], none⟩])
                 (.cond (.tmp 58)
                  (.run [4, 8] [⟨some 65, .mv, [.tmp 1], none⟩,
                    ⟨some 66, (.bin .add), [.tmp 65, .const (.int .i64 2)], none⟩,
                    ⟨some 67, (.faddr 0), [.tmp 4], none⟩,
                    ⟨none, (.st 1), [.tmp 67, .tmp 66], none⟩])
                  (.seq (.run [1, 3, 4, 8, 12, 68] [⟨some 69, .mv, [.tmp 12], none⟩,
                     ⟨some 70, (.eqg true 6), [.tmp 69, .const (.int .i64 0)], none⟩,
                     ⟨some 71, .mv, [.tmp 70], none⟩,
                     ⟨some 72, .mv, [.tmp 3], some (71, true)⟩,
                     ⟨some 73, .mv, [.tmp 12], some (71, true)⟩,
                     ⟨some 74, (.aaddr 1 3), [.tmp 11, .tmp 73], some (71, true)⟩,
                     ⟨some 75, (.ld false 1), [.tmp 74], some (71, true)⟩,
                     ⟨some 76, (.eqg false 6), [.tmp 72, .tmp 75], some (71, true)⟩,
                     ⟨some 77, .mv, [.tmp 76], some (71, true)⟩,
                     ⟨some 78, .mv, [.tmp 3], some (77, false)⟩,
                     ⟨some 79, (.eqg false 6), [.tmp 78, .const (.int .u8 10)], some (77, false)⟩,
                     ⟨some 80, .pick, [.tmp 77, .const (.bool true), .tmp 79], some (71, true)⟩,
                     ⟨some 81, .pick, [.tmp 71, .tmp 80, .const (.bool false)], none⟩,
                     ⟨some 68, .mv, [.tmp 81], none⟩])
                   (.cond (.tmp 68)
                    (.run [4, 8] [⟨some 82, .mv, [.tmp 1], none⟩,
                      ⟨some 83, (.faddr 0), [.tmp 4], none⟩,
                      ⟨none, (.st 1), [.tmp 83, .tmp 82], none⟩])
                    (.seq (.run [4, 8, 84] [⟨some 85, .mv, [.tmp 12], none⟩,
                       ⟨some 86, (.eqg true 6), [.tmp 85, .const (.int .i64 0)], none⟩,
                       ⟨some 87, .mv, [.tmp 86], none⟩,
                       ⟨some 88, .mv, [.tmp 3], some (87, true)⟩,
                       ⟨some 89, (.eqg false 6), [.tmp 88, .const (.int .u8 92)], some (87, true)⟩,
                       ⟨some 90, .pick, [.tmp 87, .tmp 89, .const (.bool false)], none⟩,
                       ⟨some 84, .mv, [.tmp 90], none⟩])
                     (.cond (.tmp 84)
                      (.run [4, 8] [⟨some 91, (.faddr 3), [.tmp 4], none⟩,
                        ⟨none, (.st 1), [.tmp 91, .const (.string ⟨#[92]⟩)], none⟩])
                      .skip))))))))))))))
        (.seq (.run [8] [⟨some 92, (.ld true 4), [.tmp 4], none⟩,
           ⟨none, (.st 4), [.tmp 8, .tmp 92], none⟩])
         .ret)))))))⟩

theorem f28_ok : compF Go.Proofs.Try.prog 28 f28.body.hints = some f28 := by kernel_rfl


def f29 : AFun := ⟨50, 2, [.cell 4 (.ld true 4)],
  (.seq (.run [1, 2, 4] [⟨some 2, .box, [.tmp 0], none⟩,
     ⟨some 4, (.alloc [(.int .i64 0), (.str []), (.str []), (.str [])]), [], none⟩])
   (.seq (.seq (.run [1, 2, 4, 6] [⟨some 5, (.faddr 0), [.tmp 2], none⟩,
       ⟨some 6, (.ld false 1), [.tmp 5], none⟩])
     (.block 0 (.seq (.seq (.run [1, 2, 4, 6, 7] [⟨some 8, (.eqg false 6), [.tmp 6, .const (.int .i64 7)], none⟩,
          ⟨some 7, .mv, [.tmp 8], none⟩])
        (.cond (.tmp 7)
         .skip
         (.seq (.run [1, 2, 4, 6, 7] [⟨some 9, (.eqg false 6), [.tmp 6, .const (.int .i64 9)], none⟩,
            ⟨some 7, .mv, [.tmp 9], none⟩])
          (.cond (.tmp 7)
           .skip
           (.run [1, 2, 4, 6, 7] [⟨some 10, (.eqg false 6), [.tmp 6, .const (.int .i64 11)], none⟩,
             ⟨some 7, .mv, [.tmp 10], none⟩])))))
       (.cond (.tmp 7)
        (.seq (.seq (.run [2, 4, 12] [⟨some 11, .mv, [.tmp 1], none⟩,
            ⟨some 12, (.eqg false 6), [.tmp 11, .const (.int .u8 34)], none⟩])
          (.cond (.tmp 12)
           (.seq (.run [4] [⟨some 13, (.ld true 4), [.tmp 2], none⟩,
              ⟨some 14, (.call 42), [.tmp 13, .const (.int .i64 1)], none⟩,
              ⟨none, (.st 4), [.tmp 4, .tmp 14], none⟩])
            .ret)
           .skip))
         (.seq (.run [4] [⟨some 15, (.ld true 4), [.tmp 2], none⟩,
            ⟨none, (.st 4), [.tmp 4, .tmp 15], none⟩])
          .ret))
        (.seq (.seq (.run [1, 2, 4, 6, 16] [⟨some 17, (.eqg false 6), [.tmp 6, .const (.int .i64 8)], none⟩,
            ⟨some 16, .mv, [.tmp 17], none⟩])
          (.cond (.tmp 16)
           .skip
           (.seq (.run [1, 2, 4, 6, 16] [⟨some 18, (.eqg false 6), [.tmp 6, .const (.int .i64 10)], none⟩,
              ⟨some 16, .mv, [.tmp 18], none⟩])
            (.cond (.tmp 16)
             .skip
             (.run [1, 2, 4, 16] [⟨some 19, (.eqg false 6), [.tmp 6, .const (.int .i64 12)], none⟩,
               ⟨some 16, .mv, [.tmp 19], none⟩])))))
         (.cond (.tmp 16)
          (.seq (.seq (.run [2, 4, 21] [⟨some 20, .mv, [.tmp 1], none⟩,
              ⟨some 21, (.eqg false 6), [.tmp 20, .const (.int .u8 39)], none⟩])
            (.cond (.tmp 21)
             (.seq (.run [4] [⟨some 22, (.ld true 4), [.tmp 2], none⟩,
                ⟨some 23, (.call 42), [.tmp 22, .const (.int .i64 1)], none⟩,
                ⟨none, (.st 4), [.tmp 4, .tmp 23], none⟩])
              .ret)
             .skip))
           (.seq (.run [4] [⟨some 24, (.ld true 4), [.tmp 2], none⟩,
              ⟨none, (.st 4), [.tmp 4, .tmp 24], none⟩])
            .ret))
          .skip))))))
    (.seq (.block 1 (.seq (.run [1, 2, 4, 25] [⟨some 26, .mv, [.tmp 1], none⟩,
         ⟨some 27, (.eqg false 6), [.tmp 26, .const (.int .u8 62)], none⟩,
         ⟨some 25, .mv, [.tmp 27], none⟩])
       (.cond (.tmp 25)
        (.seq (.run [4] [⟨some 28, (.ld true 4), [.tmp 2], none⟩,
           ⟨some 29, (.call 43), [.tmp 28], none⟩,
           ⟨none, (.st 4), [.tmp 4, .tmp 29], none⟩])
         .ret)
        (.seq (.run [1, 2, 4, 30] [⟨some 31, (.faddr 0), [.tmp 2], none⟩,
           ⟨some 32, (.ld false 1), [.tmp 31], none⟩,
           ⟨some 33, (.eqg false 6), [.tmp 32, .const (.int .i64 5)], none⟩,
           ⟨some 30, .mv, [.tmp 33], none⟩])
         (.cond (.tmp 30)
          (.seq (.run [4] [⟨some 34, (.ld true 4), [.tmp 2], none⟩,
             ⟨some 35, .mv, [.tmp 1], none⟩,
             ⟨some 36, (.call 44), [.tmp 34, .tmp 35], none⟩,
             ⟨none, (.st 4), [.tmp 4, .tmp 36], none⟩])
           .ret)
          (.seq (.run [1, 2, 4, 37] [⟨some 38, (.faddr 0), [.tmp 2], none⟩,
             ⟨some 39, (.ld false 1), [.tmp 38], none⟩,
             ⟨some 40, (.eqg true 6), [.tmp 39, .const (.int .i64 6)], none⟩,
             ⟨some 37, .mv, [.tmp 40], none⟩])
           (.cond (.tmp 37)
            (.seq (.run [4] [⟨some 41, (.ld true 4), [.tmp 2], none⟩,
               ⟨some 42, .mv, [.tmp 1], none⟩,
               ⟨some 43, (.call 45), [.tmp 41, .tmp 42], none⟩,
               ⟨none, (.st 4), [.tmp 4, .tmp 43], none⟩])
             .ret)
            (.seq (.run [2, 4, 44] [⟨some 45, .mv, [.tmp 1], none⟩,
               ⟨some 46, (.call 46), [.tmp 45], none⟩,
               ⟨some 44, .mv, [.tmp 46], none⟩])
             (.cond (.tmp 44)
              (.seq (.run [4] [⟨some 47, (.ld true 4), [.tmp 2], none⟩,
                 ⟨some 48, (.call 42), [.tmp 47, .const (.int .i64 1)], none⟩,
                 ⟨none, (.st 4), [.tmp 4, .tmp 48], none⟩])
               .ret)
              .skip)))))))))
     (.seq (.run [4] [⟨some 49, (.ld true 4), [.tmp 2], none⟩,
        ⟨none, (.st 4), [.tmp 4, .tmp 49], none⟩])
      .ret))))⟩

theorem f29_ok : compF Go.Proofs.Try.prog 29 f29.body.hints = some f29 := by kernel_rfl


def f30 : AFun := ⟨52, 2, [.cell 4 (.ld true 4)],
  (.seq (.run [1, 2, 4] [⟨some 2, .box, [.tmp 0], none⟩,
     ⟨some 4, (.alloc [(.int .i64 0), (.str []), (.str []), (.str [])]), [], none⟩])
   (.seq (.seq (.run [1, 4, 6] [⟨some 5, (.faddr 3), [.tmp 2], none⟩,
       ⟨some 6, (.ld false 1), [.tmp 5], none⟩])
     (.block 0 (.seq (.run [1, 4, 6, 7] [⟨some 8, (.eqg false 6), [.tmp 6, .const (.string ⟨#[60]⟩)], none⟩,
         ⟨some 7, .mv, [.tmp 8], none⟩])
       (.cond (.tmp 7)
        (.seq (.seq (.run [1, 4, 10] [⟨some 9, .mv, [.tmp 1], none⟩,
            ⟨some 10, (.call 47), [.tmp 9], none⟩])
          (.cond (.tmp 10)
           (.seq (.run [4] [⟨some 11, .mv, [.tmp 1], none⟩,
              ⟨some 12, (.call 48), [.const (.string ⟨#[]⟩), .tmp 11], none⟩,
              ⟨some 13, (.build [(.int .i64 0), (.str []), (.str []), (.str [])] [(0, 1), (1, 1)]), [.const (.int .i64 2), .tmp 12], none⟩,
              ⟨none, (.st 4), [.tmp 4, .tmp 13], none⟩])
            .ret)
           .skip))
         (.seq (.run [1, 4, 19] [⟨some 14, .mv, [.tmp 1], none⟩,
            ⟨some 15, (.eqg false 6), [.tmp 14, .const (.int .u8 47)], none⟩,
            ⟨some 16, .mv, [.tmp 15], none⟩,
            ⟨some 17, .mv, [.tmp 1], some (16, false)⟩,
            ⟨some 18, (.eqg false 6), [.tmp 17, .const (.int .u8 33)], some (16, false)⟩,
            ⟨some 19, .pick, [.tmp 16, .const (.bool true), .tmp 18], none⟩])
          (.cond (.tmp 19)
           (.seq (.run [4] [⟨some 20, .mv, [.tmp 1], none⟩,
              ⟨some 21, (.bslice 1 1 [(.int .u8 0)] [(0, 1)]), [.tmp 20], none⟩,
              ⟨some 22, .cvb, [.tmp 21], none⟩,
              ⟨some 23, (.bin .add), [.const (.string ⟨#[60]⟩), .tmp 22], none⟩,
              ⟨some 24, (.build [(.int .i64 0), (.str []), (.str []), (.str [])] [(3, 1)]), [.tmp 23], none⟩,
              ⟨none, (.st 4), [.tmp 4, .tmp 24], none⟩])
            .ret)
           .skip)))
        (.seq (.run [1, 4, 6, 25] [⟨some 26, (.eqg false 6), [.tmp 6, .const (.string ⟨#[60, 47]⟩)], none⟩,
           ⟨some 25, .mv, [.tmp 26], none⟩])
         (.cond (.tmp 25)
          (.seq (.run [1, 4, 28] [⟨some 27, .mv, [.tmp 1], none⟩,
             ⟨some 28, (.call 47), [.tmp 27], none⟩])
           (.cond (.tmp 28)
            (.seq (.run [4] [⟨some 29, (.build [(.int .i64 0), (.str []), (.str []), (.str [])] [(0, 1)]), [.const (.int .i64 15)], none⟩,
               ⟨none, (.st 4), [.tmp 4, .tmp 29], none⟩])
             .ret)
            .skip))
          (.seq (.run [1, 4, 6, 30] [⟨some 31, (.eqg false 6), [.tmp 6, .const (.string ⟨#[60, 33]⟩)], none⟩,
             ⟨some 30, .mv, [.tmp 31], none⟩])
           (.cond (.tmp 30)
            (.seq (.seq (.run [1, 4, 33] [⟨some 32, .mv, [.tmp 1], none⟩,
                ⟨some 33, (.eqg false 6), [.tmp 32, .const (.int .u8 45)], none⟩])
              (.cond (.tmp 33)
               (.seq (.run [4] [⟨some 34, (.build [(.int .i64 0), (.str []), (.str []), (.str [])] [(3, 1)]), [.const (.string ⟨#[60, 33, 45]⟩)], none⟩,
                  ⟨none, (.st 4), [.tmp 4, .tmp 34], none⟩])
                .ret)
               .skip))
             (.seq (.seq (.run [4, 36] [⟨some 35, .mv, [.tmp 1], none⟩,
                 ⟨some 36, (.eqg false 6), [.tmp 35, .const (.int .u8 62)], none⟩])
               (.cond (.tmp 36)
                (.seq (.run [4] [⟨some 37, (.build [(.int .i64 0), (.str []), (.str []), (.str [])] []), [], none⟩,
                   ⟨none, (.st 4), [.tmp 4, .tmp 37], none⟩])
                 .ret)
                .skip))
              (.seq (.run [4] [⟨some 38, (.build [(.int .i64 0), (.str []), (.str []), (.str [])] [(0, 1)]), [.const (.int .i64 14)], none⟩,
                 ⟨none, (.st 4), [.tmp 4, .tmp 38], none⟩])
               .ret)))
            (.seq (.run [1, 4, 39] [⟨some 40, (.eqg false 6), [.tmp 6, .const (.string ⟨#[60, 33, 45]⟩)], none⟩,
               ⟨some 39, .mv, [.tmp 40], none⟩])
             (.cond (.tmp 39)
              (.seq (.seq (.run [1, 4, 42] [⟨some 41, .mv, [.tmp 1], none⟩,
                  ⟨some 42, (.eqg false 6), [.tmp 41, .const (.int .u8 45)], none⟩])
                (.cond (.tmp 42)
                 (.seq (.run [4] [⟨some 43, (.build [(.int .i64 0), (.str []), (.str []), (.str [])] [(0, 1)]), [.const (.int .i64 13)], none⟩,
                    ⟨none, (.st 4), [.tmp 4, .tmp 43], none⟩])
                  .ret)
                 .skip))
               (.seq (.seq (.run [4, 45] [⟨some 44, .mv, [.tmp 1], none⟩,
                   ⟨some 45, (.eqg false 6), [.tmp 44, .const (.int .u8 62)], none⟩])
                 (.cond (.tmp 45)
                  (.seq (.run [4] [⟨some 46, (.build [(.int .i64 0), (.str []), (.str []), (.str [])] []), [], none⟩,
                     ⟨none, (.st 4), [.tmp 4, .tmp 46], none⟩])
                   .ret)
                  .skip))
                (.seq (.run [4] [⟨some 47, (.build [(.int .i64 0), (.str []), (.str []), (.str [])] [(0, 1)]), [.const (.int .i64 14)], none⟩,
                   ⟨none, (.st 4), [.tmp 4, .tmp 47], none⟩])
                 .ret)))
              .skip))))))))))
    (.seq (.seq (.run [4, 49] [⟨some 48, .mv, [.tmp 1], none⟩,
        ⟨some 49, (.eqg false 6), [.tmp 48, .const (.int .u8 60)], none⟩])
      (.cond (.tmp 49)
       (.seq (.run [4] [⟨some 50, (.build [(.int .i64 0), (.str []), (.str []), (.str [])] [(3, 1)]), [.const (.string ⟨#[60]⟩)], none⟩,
          ⟨none, (.st 4), [.tmp 4, .tmp 50], none⟩])
        .ret)
       .skip))
     (.seq (.run [4] [⟨some 51, (.build [(.int .i64 0), (.str []), (.str []), (.str [])] []), [], none⟩,
        ⟨none, (.st 4), [.tmp 4, .tmp 51], none⟩])
      .ret))))⟩

theorem f30_ok : compF Go.Proofs.Try.prog 30 f30.body.hints = some f30 := by kernel_rfl


def f31 : AFun := ⟨117, 2, [.cell 4 (.ld true 4)],
  (.seq (.run [1, 2, 4] [⟨some 2, .box, [.tmp 0], none⟩,
     ⟨some 4, (.alloc [(.int .i64 0), (.str []), (.str []), (.str [])]), [], none⟩])
   (.seq (.seq (.run [1, 2, 4, 13] [⟨some 7, .mv, [.tmp 1], none⟩,
       ⟨some 8, (.eqg false 6), [.tmp 7, .const (.int .u8 62)], none⟩,
       ⟨some 9, .mv, [.tmp 8], none⟩,
       ⟨some 10, (.faddr 0), [.tmp 2], some (9, true)⟩,
       ⟨some 11, (.ld false 1), [.tmp 10], some (9, true)⟩,
       ⟨some 12, (.bin .leq), [.tmp 11, .const (.int .i64 6)], some (9, true)⟩,
       ⟨some 13, .pick, [.tmp 9, .tmp 12, .const (.bool false)], none⟩])
     (.cond (.tmp 13)
      (.seq (.run [4] [⟨some 14, (.faddr 1), [.tmp 2], none⟩,
         ⟨some 15, (.ld false 1), [.tmp 14], none⟩,
         ⟨some 16, (.call 49), [.tmp 15], none⟩,
         ⟨none, (.st 4), [.tmp 4, .tmp 16], none⟩])
       .ret)
      .skip))
    (.seq (.run [1, 2, 4, 5] [⟨some 17, (.faddr 1), [.tmp 2], none⟩,
       ⟨some 18, (.ld false 1), [.tmp 17], none⟩,
       ⟨some 19, (.build [(.int .i64 0), (.str []), (.str []), (.str [])] [(0, 1), (1, 1)]), [.const (.int .i64 1), .tmp 18], none⟩,
       ⟨some 5, (.alloc [(.int .i64 0), (.str []), (.str []), (.str [])]), [], none⟩,
       ⟨none, (.st 4), [.tmp 5, .tmp 19], none⟩])
     (.seq (.runF [1, 2, 4, 5, 6] [⟨0, ⟨some 20, (.faddr 1), [.tmp 2], none⟩, []⟩,
        ⟨1, ⟨some 21, (.ld false 1), [.tmp 20], none⟩, []⟩,
        ⟨2, ⟨some 22, .mv, [.tmp 1], none⟩, []⟩]
       [⟨3, ⟨some 23, (.call 48), [.const (.string ⟨#[]⟩), .tmp 22], none⟩, [1]⟩,
        ⟨4, ⟨some 24, (.build [(.int .i64 0), (.str []), (.str []), (.str [])] [(0, 1), (1, 1), (2, 1)]), [.const (.int .i64 3), .tmp 21, .tmp 23], none⟩, []⟩,
        ⟨5, ⟨some 6, (.alloc [(.int .i64 0), (.str []), (.str []), (.str [])]), [], none⟩, [1]⟩,
        ⟨6, ⟨none, (.st 4), [.tmp 6, .tmp 24], none⟩, []⟩]
       [⟨5, ⟨some 6, (.alloc [(.int .i64 0), (.str []), (.str []), (.str [])]), [], none⟩, [1]⟩,
        ⟨3, ⟨some 23, (.call 48), [.const (.string ⟨#[]⟩), .tmp 22], none⟩, [1]⟩,
        ⟨4, ⟨some 24, (.build [(.int .i64 0), (.str []), (.str []), (.str [])] [(0, 1), (1, 1), (2, 1)]), [.const (.int .i64 3), .tmp 21, .tmp 23], none⟩, []⟩,
        ⟨6, ⟨none, (.st 4), [.tmp 6, .tmp 24], none⟩, []⟩])
      (.seq (.seq (.run [1, 2, 4, 5, 6, 26] [⟨some 25, (.faddr 0), [.tmp 2], none⟩,
          ⟨some 26, (.ld false 1), [.tmp 25], none⟩])
        (.block 0 (.seq (.run [1, 2, 4, 5, 6, 26, 27] [⟨some 28, (.eqg false 6), [.tmp 26, .const (.int .i64 2)], none⟩,
            ⟨some 27, .mv, [.tmp 28], none⟩])
          (.cond (.tmp 27)
           (.seq (.seq (.run [1, 2, 4, 5, 34] [⟨some 29, .mv, [.tmp 1], none⟩,
               ⟨some 30, (.call 50), [.tmp 29], none⟩,
               ⟨some 31, .mv, [.tmp 30], none⟩,
               ⟨some 32, .mv, [.tmp 1], some (31, false)⟩,
               ⟨some 33, (.eqg false 6), [.tmp 32, .const (.int .u8 47)], some (31, false)⟩,
               ⟨some 34, .pick, [.tmp 31, .const (.bool true), .tmp 33], none⟩])
             (.cond (.tmp 34)
              (.seq (.run [4] [⟨some 35, (.ld true 4), [.tmp 5], none⟩,
                 ⟨none, (.st 4), [.tmp 4, .tmp 35], none⟩])
               .ret)
              .skip))
            (.run [2, 4] [⟨some 36, (.faddr 1), [.tmp 2], none⟩,
              ⟨some 37, (.ld false 1), [.tmp 36], none⟩,
              ⟨some 38, .mv, [.tmp 1], none⟩,
              ⟨some 39, (.call 48), [.tmp 37, .tmp 38], none⟩,
              ⟨some 40, (.faddr 1), [.tmp 2], none⟩,
              ⟨none, (.st 1), [.tmp 40, .tmp 39], none⟩]))
           (.seq (.run [1, 2, 4, 5, 6, 26, 41] [⟨some 42, (.eqg false 6), [.tmp 26, .const (.int .i64 1)], none⟩,
              ⟨some 41, .mv, [.tmp 42], none⟩])
            (.cond (.tmp 41)
             (.seq (.run [2, 4, 6, 49] [⟨some 43, .mv, [.tmp 1], none⟩,
                ⟨some 44, (.call 50), [.tmp 43], none⟩,
                ⟨some 45, (.un .not), [.tmp 44], none⟩,
                ⟨some 46, .mv, [.tmp 45], none⟩,
                ⟨some 47, .mv, [.tmp 1], some (46, true)⟩,
                ⟨some 48, (.eqg true 6), [.tmp 47, .const (.int .u8 47)], some (46, true)⟩,
                ⟨some 49, .pick, [.tmp 46, .tmp 48, .const (.bool false)], none⟩])
              (.cond (.tmp 49)
               (.seq (.run [4] [⟨some 50, (.ld true 4), [.tmp 6], none⟩,
                  ⟨none, (.st 4), [.tmp 4, .tmp 50], none⟩])
                .ret)
               .skip))
             (.seq (.seq (.run [1, 2, 4, 5, 6, 26, 51] [⟨some 52, (.eqg false 6), [.tmp 26, .const (.int .i64 3)], none⟩,
                 ⟨some 51, .mv, [.tmp 52], none⟩])
               (.cond (.tmp 51)
                .skip
                (.run [1, 2, 4, 5, 6, 26, 51] [⟨some 53, (.eqg false 6), [.tmp 26, .const (.int .i64 4)], none⟩,
                  ⟨some 51, .mv, [.tmp 53], none⟩])))
              (.cond (.tmp 51)
               (.block 1 (.seq (.run [1, 2, 4, 5, 6, 59] [⟨some 60, .mv, [.tmp 1], none⟩,
                   ⟨some 61, (.call 50), [.tmp 60], none⟩,
                   ⟨some 59, .mv, [.tmp 61], none⟩])
                 (.cond (.tmp 59)
                  (.run [2, 4] [⟨some 62, (.faddr 0), [.tmp 2], none⟩,
                    ⟨none, (.st 1), [.tmp 62, .const (.int .i64 4)], none⟩])
                  (.seq (.run [1, 2, 4, 5, 6, 63] [⟨some 64, .mv, [.tmp 1], none⟩,
                     ⟨some 65, (.eqg false 6), [.tmp 64, .const (.int .u8 47)], none⟩,
                     ⟨some 63, .mv, [.tmp 65], none⟩])
                   (.cond (.tmp 63)
                    (.seq (.run [4] [⟨some 66, (.ld true 4), [.tmp 5], none⟩,
                       ⟨none, (.st 4), [.tmp 4, .tmp 66], none⟩])
                     .ret)
                    (.seq (.run [1, 2, 4, 6, 67] [⟨some 68, .mv, [.tmp 1], none⟩,
                       ⟨some 69, (.eqg false 6), [.tmp 68, .const (.int .u8 61)], none⟩,
                       ⟨some 67, .mv, [.tmp 69], none⟩])
                     (.cond (.tmp 67)
                      (.run [2, 4] [⟨some 70, (.faddr 0), [.tmp 2], none⟩,
                        ⟨none, (.st 1), [.tmp 70, .const (.int .i64 5)], none⟩])
                      (.seq (.run [1, 2, 4, 6, 71] [⟨some 72, (.faddr 0), [.tmp 2], none⟩,
                         ⟨some 73, (.ld false 1), [.tmp 72], none⟩,
                         ⟨some 74, (.eqg false 6), [.tmp 73, .const (.int .i64 4)], none⟩,
                         ⟨some 71, .mv, [.tmp 74], none⟩])
                       (.cond (.tmp 71)
                        (.seq (.run [4] [⟨some 75, (.ld true 4), [.tmp 6], none⟩,
                           ⟨none, (.st 4), [.tmp 4, .tmp 75], none⟩])
                         .ret)
                        (.run [2, 4] [⟨some 54, (.faddr 2), [.tmp 2], none⟩,
                          ⟨some 55, (.ld false 1), [.tmp 54], none⟩,
                          ⟨some 56, .mv, [.tmp 1], none⟩,
                          ⟨some 57, (.call 48), [.tmp 55, .tmp 56], none⟩,
                          ⟨some 58, (.faddr 2), [.tmp 2], none⟩,
                          ⟨none, (.st 1), [.tmp 58, .tmp 57], none⟩]))))))))))
               (.seq (.run [1, 2, 4, 5, 26, 76] [⟨some 77, (.eqg false 6), [.tmp 26, .const (.int .i64 5)], none⟩,
                  ⟨some 76, .mv, [.tmp 77], none⟩])
                (.cond (.tmp 76)
                 (.seq (.seq (.run [1, 2, 4, 83] [⟨some 78, .mv, [.tmp 1], none⟩,
                     ⟨some 79, (.eqg false 6), [.tmp 78, .const (.int .u8 34)], none⟩,
                     ⟨some 80, .mv, [.tmp 79], none⟩,
                     ⟨some 81, .mv, [.tmp 1], some (80, false)⟩,
                     ⟨some 82, (.eqg false 6), [.tmp 81, .const (.int .u8 39)], some (80, false)⟩,
                     ⟨some 83, .pick, [.tmp 80, .const (.bool true), .tmp 82], none⟩])
                   (.cond (.tmp 83)
                    (.seq (.runD [4] [⟨0, ⟨some 84, (.faddr 2), [.tmp 2], none⟩, []⟩,
                       ⟨1, ⟨some 85, (.ld false 1), [.tmp 84], none⟩, []⟩,
                       ⟨2, ⟨some 86, .mv, [.tmp 1], none⟩, []⟩,
                       ⟨4, ⟨some 88, (.faddr 1), [.tmp 2], none⟩, []⟩,
                       ⟨5, ⟨some 89, (.ld false 1), [.tmp 88], none⟩, []⟩,
                       ⟨3, ⟨some 87, (.call 51), [.tmp 85, .tmp 86], none⟩, [5]⟩,
                       ⟨6, ⟨some 90, (.build [(.int .i64 0), (.str []), (.str []), (.str [])] [(0, 1), (1, 1)]), [.tmp 87, .tmp 89], none⟩, []⟩,
                       ⟨7, ⟨none, (.st 4), [.tmp 4, .tmp 90], none⟩, []⟩])
                     .ret)
                    .skip))
                  (.seq (.run [2, 4, 93] [⟨some 91, .mv, [.tmp 1], none⟩,
                     ⟨some 92, (.call 50), [.tmp 91], none⟩,
                     ⟨some 93, (.un .not), [.tmp 92], none⟩])
                   (.cond (.tmp 93)
                    (.seq (.run [4] [⟨some 94, (.faddr 1), [.tmp 2], none⟩,
                       ⟨some 95, (.ld false 1), [.tmp 94], none⟩,
                       ⟨some 96, (.build [(.int .i64 0), (.str []), (.str []), (.str [])] [(0, 1), (1, 1)]), [.const (.int .i64 6), .tmp 95], none⟩,
                       ⟨none, (.st 4), [.tmp 4, .tmp 96], none⟩])
                     .ret)
                    .skip)))
                 (.seq (.run [1, 2, 4, 5, 26, 97] [⟨some 98, (.eqg false 6), [.tmp 26, .const (.int .i64 6)], none⟩,
                    ⟨some 97, .mv, [.tmp 98], none⟩])
                  (.cond (.tmp 97)
                   (.seq (.run [2, 4, 5, 100] [⟨some 99, .mv, [.tmp 1], none⟩,
                      ⟨some 100, (.call 50), [.tmp 99], none⟩])
                    (.cond (.tmp 100)
                     (.seq (.run [4] [⟨some 101, (.ld true 4), [.tmp 5], none⟩,
                        ⟨none, (.st 4), [.tmp 4, .tmp 101], none⟩])
                      .ret)
                     .skip))
                   (.seq (.seq (.run [1, 2, 4, 5, 26, 102] [⟨some 103, (.eqg false 6), [.tmp 26, .const (.int .i64 7)], none⟩,
                       ⟨some 102, .mv, [.tmp 103], none⟩])
                     (.cond (.tmp 102)
                      .skip
                      (.seq (.run [1, 2, 4, 5, 26, 102] [⟨some 104, (.eqg false 6), [.tmp 26, .const (.int .i64 9)], none⟩,
                         ⟨some 102, .mv, [.tmp 104], none⟩])
                       (.cond (.tmp 102)
                        .skip
                        (.run [1, 2, 4, 5, 26, 102] [⟨some 105, (.eqg false 6), [.tmp 26, .const (.int .i64 11)], none⟩,
                          ⟨some 102, .mv, [.tmp 105], none⟩])))))
                    (.cond (.tmp 102)
                     (.seq (.run [2, 4, 5, 107] [⟨some 106, .mv, [.tmp 1], none⟩,
                        ⟨some 107, (.eqg false 6), [.tmp 106, .const (.int .u8 34)], none⟩])
                      (.cond (.tmp 107)
                       (.seq (.run [4] [⟨some 108, (.ld true 4), [.tmp 5], none⟩,
                          ⟨none, (.st 4), [.tmp 4, .tmp 108], none⟩])
                        .ret)
                       .skip))
                     (.seq (.seq (.run [1, 2, 4, 5, 26, 109] [⟨some 110, (.eqg false 6), [.tmp 26, .const (.int .i64 8)], none⟩,
                         ⟨some 109, .mv, [.tmp 110], none⟩])
                       (.cond (.tmp 109)
                        .skip
                        (.seq (.run [1, 2, 4, 5, 26, 109] [⟨some 111, (.eqg false 6), [.tmp 26, .const (.int .i64 10)], none⟩,
                           ⟨some 109, .mv, [.tmp 111], none⟩])
                         (.cond (.tmp 109)
                          .skip
                          (.run [1, 2, 4, 5, 109] [⟨some 112, (.eqg false 6), [.tmp 26, .const (.int .i64 12)], none⟩,
                            ⟨some 109, .mv, [.tmp 112], none⟩])))))
                      (.cond (.tmp 109)
                       (.seq (.run [2, 4, 5, 114] [⟨some 113, .mv, [.tmp 1], none⟩,
                          ⟨some 114, (.eqg false 6), [.tmp 113, .const (.int .u8 39)], none⟩])
                        (.cond (.tmp 114)
                         (.seq (.run [4] [⟨some 115, (.ld true 4), [.tmp 5], none⟩,
                            ⟨none, (.st 4), [.tmp 4, .tmp 115], none⟩])
                          .ret)
                         .skip))
                       .skip))))))))))))))))
       (.seq (.run [4] [⟨some 116, (.ld true 4), [.tmp 2], none⟩,
          ⟨none, (.st 4), [.tmp 4, .tmp 116], none⟩])
        .ret))))))⟩

theorem f31_ok : compF Go.Proofs.Try.prog 31 f31.body.hints = some f31 := by kernel_rfl


def f32 : AFun := ⟨21, 2, [.cell 4 (.ld true 4)],
  (.seq (.run [1, 2, 4] [⟨some 2, .box, [.tmp 0], none⟩,
     ⟨some 4, (.alloc [(.int .i64 0), (.str []), (.str []), (.str [])]), [], none⟩])
   (.seq (.seq (.run [1, 2, 4, 11] [⟨some 5, (.faddr 3), [.tmp 2], none⟩,
       ⟨some 6, (.ld false 1), [.tmp 5], none⟩,
       ⟨some 7, (.eqg false 6), [.tmp 6, .const (.string ⟨#[45, 45]⟩)], none⟩,
       ⟨some 8, .mv, [.tmp 7], none⟩,
       ⟨some 9, .mv, [.tmp 1], some (8, true)⟩,
       ⟨some 10, (.eqg false 6), [.tmp 9, .const (.int .u8 62)], some (8, true)⟩,
       ⟨some 11, .pick, [.tmp 8, .tmp 10, .const (.bool false)], none⟩])
     (.cond (.tmp 11)
      (.seq (.run [4] [⟨some 12, (.build [(.int .i64 0), (.str []), (.str []), (.str [])] []), [], none⟩,
         ⟨none, (.st 4), [.tmp 4, .tmp 12], none⟩])
       .ret)
      .skip))
    (.seq (.seq (.run [2, 4, 14] [⟨some 13, .mv, [.tmp 1], none⟩,
        ⟨some 14, (.eqg true 6), [.tmp 13, .const (.int .u8 45)], none⟩])
      (.cond (.tmp 14)
       (.seq (.run [4] [⟨some 15, (.build [(.int .i64 0), (.str []), (.str []), (.str [])] [(0, 1)]), [.const (.int .i64 13)], none⟩,
          ⟨none, (.st 4), [.tmp 4, .tmp 15], none⟩])
        .ret)
       .skip))
     (.seq (.seq (.run [4, 18] [⟨some 16, (.faddr 3), [.tmp 2], none⟩,
         ⟨some 17, (.ld false 1), [.tmp 16], none⟩,
         ⟨some 18, (.eqg false 6), [.tmp 17, .const (.string ⟨#[]⟩)], none⟩])
       (.cond (.tmp 18)
        (.seq (.run [4] [⟨some 19, (.build [(.int .i64 0), (.str []), (.str []), (.str [])] [(0, 1), (3, 1)]), [.const (.int .i64 13), .const (.string ⟨#[45]⟩)], none⟩,
           ⟨none, (.st 4), [.tmp 4, .tmp 19], none⟩])
         .ret)
        .skip))
      (.seq (.run [4] [⟨some 20, (.build [(.int .i64 0), (.str []), (.str []), (.str [])] [(0, 1), (3, 1)]), [.const (.int .i64 13), .const (.string ⟨#[45, 45]⟩)], none⟩,
         ⟨none, (.st 4), [.tmp 4, .tmp 20], none⟩])
       .ret)))))⟩

theorem f32_ok : compF Go.Proofs.Try.prog 32 f32.body.hints = some f32 := by kernel_rfl


def f33 : AFun := ⟨96, 2, [.cell 4 (.ld true 4)],
  (.seq (.run [1, 2, 4] [⟨some 2, .box, [.tmp 0], none⟩,
     ⟨some 4, (.alloc [(.int .i64 0), (.str []), (.str []), (.str [])]), [], none⟩])
   (.seq (.run [1, 2, 4, 5] [⟨some 5, .mv, [.const (.int .i64 16)], none⟩])
    (.seq (.run [1, 2, 4, 5, 6] [⟨some 6, .mv, [.const (.string ⟨#[60, 47, 115, 99, 114, 105, 112, 116]⟩)], none⟩])
     (.seq (.seq (.run [1, 2, 4, 5, 6, 11] [⟨some 9, (.faddr 0), [.tmp 2], none⟩,
         ⟨some 10, (.ld false 1), [.tmp 9], none⟩,
         ⟨some 11, (.bin .geq), [.tmp 10, .const (.int .i64 19)], none⟩])
       (.cond (.tmp 11)
        (.seq (.run [1, 2, 4, 5] [⟨some 5, .mv, [.const (.int .i64 19)], none⟩])
         (.run [1, 2, 4, 5, 6] [⟨some 6, .mv, [.const (.string ⟨#[60, 47, 115, 116, 121, 108, 101]⟩)], none⟩]))
        .skip))
      (.seq (.seq (.runD [1, 2, 4, 5, 6, 38] [⟨0, ⟨some 12, (.faddr 3), [.tmp 2], none⟩, []⟩,
          ⟨1, ⟨some 13, (.ld false 1), [.tmp 12], none⟩, []⟩,
          ⟨2, ⟨some 14, (.eqg true 6), [.tmp 13, .const (.string ⟨#[]⟩)], none⟩, []⟩,
          ⟨3, ⟨some 15, .mv, [.tmp 14], none⟩, []⟩,
          ⟨4, ⟨some 16, (.faddr 3), [.tmp 2], some (15, true)⟩, []⟩,
          ⟨5, ⟨some 17, (.ld false 1), [.tmp 16], some (15, true)⟩, []⟩,
          ⟨6, ⟨some 18, .ixs, [.tmp 17, .const (.int .i64 0)], some (15, true)⟩, []⟩,
          ⟨7, ⟨some 19, (.eqg false 6), [.tmp 18, .const (.int .u8 60)], some (15, true)⟩, []⟩,
          ⟨8, ⟨some 20, .pick, [.tmp 15, .tmp 19, .const (.bool false)], none⟩, []⟩,
          ⟨9, ⟨some 21, .mv, [.tmp 20], none⟩, []⟩,
          ⟨10, ⟨some 22, (.faddr 3), [.tmp 2], some (21, true)⟩, []⟩,
          ⟨11, ⟨some 23, (.ld false 1), [.tmp 22], some (21, true)⟩, []⟩,
          ⟨12, ⟨some 24, (.len 0), [.tmp 23], some (21, true)⟩, []⟩,
          ⟨13, ⟨some 25, .mv, [.tmp 6], some (21, true)⟩, []⟩,
          ⟨14, ⟨some 26, (.len 0), [.tmp 25], some (21, true)⟩, []⟩,
          ⟨15, ⟨some 27, (.bin .lss), [.tmp 24, .tmp 26], some (21, true)⟩, []⟩,
          ⟨16, ⟨some 28, .pick, [.tmp 21, .tmp 27, .const (.bool false)], none⟩, []⟩,
          ⟨17, ⟨some 29, .mv, [.tmp 28], none⟩, []⟩,
          ⟨18, ⟨some 30, .mv, [.tmp 6], some (29, true)⟩, []⟩,
          ⟨19, ⟨some 31, (.faddr 3), [.tmp 2], some (29, true)⟩, []⟩,
          ⟨20, ⟨some 32, (.ld false 1), [.tmp 31], some (29, true)⟩, []⟩,
          ⟨21, ⟨some 33, (.len 0), [.tmp 32], some (29, true)⟩, []⟩,
          ⟨22, ⟨some 34, .ixs, [.tmp 30, .tmp 33], some (29, true)⟩, []⟩,
          ⟨23, ⟨some 35, .mv, [.tmp 1], some (29, true)⟩, []⟩,
          ⟨24, ⟨some 36, (.call 52), [.tmp 35], some (29, true)⟩, [20]⟩,
          ⟨25, ⟨some 37, (.eqg false 6), [.tmp 34, .tmp 36], some (29, true)⟩, []⟩,
          ⟨26, ⟨some 38, .pick, [.tmp 29, .tmp 37, .const (.bool false)], none⟩, []⟩])
        (.cond (.tmp 38)
         (.seq (.runD [2, 4, 6] [⟨0, ⟨some 39, (.faddr 3), [.tmp 2], none⟩, []⟩,
            ⟨1, ⟨some 40, (.ld false 1), [.tmp 39], none⟩, []⟩,
            ⟨2, ⟨some 41, .mv, [.tmp 1], none⟩, []⟩,
            ⟨3, ⟨some 42, (.call 52), [.tmp 41], none⟩, [1]⟩,
            ⟨4, ⟨some 43, (.bslice 1 1 [(.int .u8 0)] [(0, 1)]), [.tmp 42], none⟩, [1]⟩,
            ⟨5, ⟨some 44, .cvb, [.tmp 43], none⟩, []⟩,
            ⟨6, ⟨some 45, (.bin .add), [.tmp 40, .tmp 44], none⟩, []⟩,
            ⟨7, ⟨some 46, (.faddr 3), [.tmp 2], none⟩, []⟩,
            ⟨8, ⟨none, (.st 1), [.tmp 46, .tmp 45], none⟩, []⟩])
          (.seq (.seq (.run [2, 4, 50] [⟨some 47, (.faddr 3), [.tmp 2], none⟩,
              ⟨some 48, (.ld false 1), [.tmp 47], none⟩,
              ⟨some 49, .mv, [.tmp 6], none⟩,
              ⟨some 50, (.eqg false 6), [.tmp 48, .tmp 49], none⟩])
            (.cond (.tmp 50)
             (.seq (.run [4] [⟨some 51, (.build [(.int .i64 0), (.str []), (.str []), (.str [])] [(0, 1)]), [.const (.int .i64 15)], none⟩,
                ⟨none, (.st 4), [.tmp 4, .tmp 51], none⟩])
              .ret)
             .skip))
           (.seq (.run [4] [⟨some 52, (.ld true 4), [.tmp 2], none⟩,
              ⟨none, (.st 4), [.tmp 4, .tmp 52], none⟩])
            .ret)))
         .skip))
       (.seq (.run [1, 2, 4, 5, 7] [⟨some 53, (.faddr 3), [.tmp 2], none⟩,
          ⟨some 54, (.ld false 1), [.tmp 53], none⟩,
          ⟨some 55, (.eqg false 6), [.tmp 54, .const (.string ⟨#[92]⟩)], none⟩,
          ⟨some 7, .mv, [.tmp 55], none⟩])
        (.seq (.run [1, 2, 4, 5, 7] [⟨some 56, (.faddr 3), [.tmp 2], none⟩,
           ⟨none, (.st 1), [.tmp 56, .const (.string ⟨#[]⟩)], none⟩])
         (.seq (.seq (.run [1, 2, 4, 5, 7, 58] [⟨some 57, .mv, [.tmp 1], none⟩,
             ⟨some 58, (.eqg false 6), [.tmp 57, .const (.int .u8 60)], none⟩])
           (.cond (.tmp 58)
            (.seq (.run [2, 4] [⟨some 59, (.faddr 3), [.tmp 2], none⟩,
               ⟨none, (.st 1), [.tmp 59, .const (.string ⟨#[60]⟩)], none⟩])
             (.seq (.run [4] [⟨some 60, (.ld true 4), [.tmp 2], none⟩,
                ⟨none, (.st 4), [.tmp 4, .tmp 60], none⟩])
              .ret))
            .skip))
          (.seq (.seq (.run [1, 2, 4, 5, 61] [⟨some 61, .mv, [.tmp 7], none⟩])
            (.cond (.tmp 61)
             (.seq (.run [4] [⟨some 62, (.ld true 4), [.tmp 2], none⟩,
                ⟨none, (.st 4), [.tmp 4, .tmp 62], none⟩])
              .ret)
             .skip))
           (.seq (.seq (.run [1, 2, 4, 5, 66] [⟨some 63, (.faddr 0), [.tmp 2], none⟩,
               ⟨some 64, (.ld false 1), [.tmp 63], none⟩,
               ⟨some 65, .mv, [.tmp 5], none⟩,
               ⟨some 66, (.eqg false 6), [.tmp 64, .tmp 65], none⟩])
             (.cond (.tmp 66)
              (.seq (.seq (.run [1, 2, 4, 5, 68] [⟨some 67, .mv, [.tmp 1], none⟩,
                  ⟨some 68, (.eqg false 6), [.tmp 67, .const (.int .u8 34)], none⟩])
                (.cond (.tmp 68)
                 (.run [1, 2, 4, 5] [⟨some 69, .mv, [.tmp 5], none⟩,
                   ⟨some 70, (.bin .add), [.tmp 69, .const (.int .i64 1)], none⟩,
                   ⟨some 71, (.faddr 0), [.tmp 2], none⟩,
                   ⟨none, (.st 1), [.tmp 71, .tmp 70], none⟩])
                 .skip))
               (.seq (.seq (.run [2, 4, 5, 73] [⟨some 72, .mv, [.tmp 1], none⟩,
                   ⟨some 73, (.eqg false 6), [.tmp 72, .const (.int .u8 39)], none⟩])
                 (.cond (.tmp 73)
                  (.run [2, 4] [⟨some 74, .mv, [.tmp 5], none⟩,
                    ⟨some 75, (.bin .add), [.tmp 74, .const (.int .i64 2)], none⟩,
                    ⟨some 76, (.faddr 0), [.tmp 2], none⟩,
                    ⟨none, (.st 1), [.tmp 76, .tmp 75], none⟩])
                  .skip))
                (.seq (.run [4] [⟨some 77, (.ld true 4), [.tmp 2], none⟩,
                   ⟨none, (.st 4), [.tmp 4, .tmp 77], none⟩])
                 .ret)))
              .skip))
            (.seq (.run [1, 2, 4, 5, 8] [⟨some 8, .mv, [.const (.int .u8 34)], none⟩])
             (.seq (.seq (.run [1, 2, 4, 5, 8, 82] [⟨some 78, (.faddr 0), [.tmp 2], none⟩,
                 ⟨some 79, (.ld false 1), [.tmp 78], none⟩,
                 ⟨some 80, .mv, [.tmp 5], none⟩,
                 ⟨some 81, (.bin .add), [.tmp 80, .const (.int .i64 2)], none⟩,
                 ⟨some 82, (.eqg false 6), [.tmp 79, .tmp 81], none⟩])
               (.cond (.tmp 82)
                (.run [1, 2, 4, 5, 8] [⟨some 8, .mv, [.const (.int .u8 39)], none⟩])
                .skip))
              (.seq (.seq (.run [1, 2, 4, 5, 89] [⟨some 83, .mv, [.tmp 1], none⟩,
                  ⟨some 84, .mv, [.tmp 8], none⟩,
                  ⟨some 85, (.eqg false 6), [.tmp 83, .tmp 84], none⟩,
                  ⟨some 86, .mv, [.tmp 85], none⟩,
                  ⟨some 87, .mv, [.tmp 1], some (86, false)⟩,
                  ⟨some 88, (.eqg false 6), [.tmp 87, .const (.int .u8 10)], some (86, false)⟩,
                  ⟨some 89, .pick, [.tmp 86, .const (.bool true), .tmp 88], none⟩])
                (.cond (.tmp 89)
                 (.run [1, 2, 4] [⟨some 90, .mv, [.tmp 5], none⟩,
                   ⟨some 91, (.faddr 0), [.tmp 2], none⟩,
                   ⟨none, (.st 1), [.tmp 91, .tmp 90], none⟩])
                 .skip))
               (.seq (.seq (.run [2, 4, 93] [⟨some 92, .mv, [.tmp 1], none⟩,
                   ⟨some 93, (.eqg false 6), [.tmp 92, .const (.int .u8 92)], none⟩])
                 (.cond (.tmp 93)
                  (.run [2, 4] [⟨some 94, (.faddr 3), [.tmp 2], none⟩,
                    ⟨none, (.st 1), [.tmp 94, .const (.string ⟨#[92]⟩)], none⟩])
                  .skip))
                (.seq (.run [4] [⟨some 95, (.ld true 4), [.tmp 2], none⟩,
                   ⟨none, (.st 4), [.tmp 4, .tmp 95], none⟩])
                 .ret)))))))))))))))⟩

theorem f33_ok : compF Go.Proofs.Try.prog 33 f33.body.hints = some f33 := by kernel_rfl


def f34 : AFun := ⟨36, 1, [.slot 2, .slot 3, .slot 4],
  (.seq (.run [0] [⟨some 2, .mv, [.const (.slice none 0 0)], none⟩,
     ⟨some 3, .mv, [.const (.int .i64 0)], none⟩,
     ⟨some 4, .mv, [.const (.int .i64 0)], none⟩])
   (.seq (.run [0, 5, 6, 7] [⟨some 11, .mv, [.tmp 0], none⟩,
      ⟨some 12, (.call 53), [.tmp 11], none⟩,
      ⟨some 10, .mv, [.tmp 12], none⟩,
      ⟨some 13, (.ext 0), [.tmp 10], none⟩,
      ⟨some 14, (.ext 1), [.tmp 10], none⟩,
      ⟨some 15, (.ext 2), [.tmp 10], none⟩,
      ⟨some 5, .mv, [.tmp 13], none⟩,
      ⟨some 6, .mv, [.tmp 14], none⟩,
      ⟨some 7, .mv, [.tmp 15], none⟩])
    (.seq (.seq (.run [0, 5, 6, 7, 17] [⟨some 16, .mv, [.tmp 7], none⟩,
        ⟨some 17, (.eqg true 6), [.tmp 16, .const (.int .i64 0)], none⟩])
      (.cond (.tmp 17)
       (.seq (.run [2, 3, 4] [⟨some 18, .mv, [.tmp 6], none⟩,
          ⟨some 19, .mv, [.tmp 7], none⟩,
          ⟨some 2, .mv, [.const (.slice none 0 0)], none⟩,
          ⟨some 3, .mv, [.tmp 18], none⟩,
          ⟨some 4, .mv, [.tmp 19], none⟩])
        .ret)
       .skip))
     (.seq (.run [0, 8] [⟨some 20, .mv, [.tmp 5], none⟩,
        ⟨some 21, (.build [(.sl [] .nil), (.int .i64 0), (.int .i64 0)] [(0, 1)]), [.tmp 20], none⟩,
        ⟨some 22, .box, [.tmp 21], none⟩,
        ⟨some 8, .mv, [.tmp 22], none⟩])
      (.seq (.run [0, 6, 7, 9] [⟨some 24, .mv, [.tmp 8], none⟩,
         ⟨some 25, (.call 54), [.tmp 24, .const (.int .i64 (-1)), .const (.bool false), .const (.int .i64 0)], none⟩,
         ⟨some 23, .mv, [.tmp 25], none⟩,
         ⟨some 26, (.ext 0), [.tmp 23], none⟩,
         ⟨some 27, (.ext 1), [.tmp 23], none⟩,
         ⟨some 28, (.ext 2), [.tmp 23], none⟩,
         ⟨some 9, .mv, [.tmp 26], none⟩,
         ⟨some 6, .mv, [.tmp 27], none⟩,
         ⟨some 7, .mv, [.tmp 28], none⟩])
       (.seq (.seq (.run [0, 6, 7, 9, 30] [⟨some 29, .mv, [.tmp 7], none⟩,
           ⟨some 30, (.eqg true 6), [.tmp 29, .const (.int .i64 0)], none⟩])
         (.cond (.tmp 30)
          (.seq (.run [2, 3, 4] [⟨some 31, .mv, [.tmp 6], none⟩,
             ⟨some 32, .mv, [.tmp 7], none⟩,
             ⟨some 2, .mv, [.const (.slice none 0 0)], none⟩,
             ⟨some 3, .mv, [.tmp 31], none⟩,
             ⟨some 4, .mv, [.tmp 32], none⟩])
           .ret)
          .skip))
        (.seq (.run [2, 3, 4] [⟨some 33, .mv, [.tmp 9], none⟩,
           ⟨some 34, .mv, [.tmp 0], none⟩,
           ⟨some 35, (.len 0), [.tmp 34], none⟩,
           ⟨some 2, .mv, [.tmp 33], none⟩,
           ⟨some 3, .mv, [.tmp 35], none⟩,
           ⟨some 4, .mv, [.const (.int .i64 0)], none⟩])
         .ret)))))))⟩

theorem f34_ok : compF Go.Proofs.Try.prog 34 f34.body.hints = some f34 := by kernel_rfl


def f35 : AFun := ⟨26, 3, [.cell 6 (.ld true 4)],
  (.seq (.run [0, 2, 4, 6] [⟨some 4, .box, [.tmp 1], none⟩,
     ⟨some 6, (.alloc [(.int .i64 0), (.str []), (.str []), (.str [])]), [], none⟩])
   (.seq (.seq (.run [0, 4, 6, 9, 10, 11] [⟨some 9, .mv, [.tmp 2], none⟩,
       ⟨some 10, (.len 1), [.tmp 9], none⟩,
       ⟨some 11, .mv, [.const (.int .i64 0)], none⟩])
     (.block 0 (.loop [0, 4, 6, 9, 10, 11] (.seq (.run [0, 4, 6, 9, 10, 11, 12] [⟨some 12, (.bin .lss), [.tmp 11, .tmp 10], none⟩])
        (.seq (.cond (.tmp 12)
          .skip
          (.exit 0))
         (.seq (.block 1 (.seq (.run [0, 4, 6, 8, 9, 10, 11] [⟨some 13, (.iaddr 8), [.tmp 9, .tmp 11], none⟩,
              ⟨some 14, (.ld true 8), [.tmp 13], none⟩,
              ⟨some 8, (.alloc [(.int .i64 0), (.int .i64 0), (.str []), (.str []), (.bool false), (.bool false), (.sl [] .nil), (.sl [] .nil)]), [], none⟩,
              ⟨none, (.st 8), [.tmp 8, .tmp 14], none⟩])
            (.seq (.seq (.run [0, 4, 6, 8, 9, 10, 11, 19] [⟨some 15, .mv, [.tmp 0], none⟩,
                ⟨some 16, .nilck, [.tmp 15], none⟩,
                ⟨some 17, (.faddr 2), [.tmp 16], none⟩,
                ⟨some 18, (.ld false 1), [.tmp 17], none⟩,
                ⟨some 19, (.eqg true 6), [.tmp 18, .const (.int .i64 0)], none⟩])
              (.cond (.tmp 19)
               (.exit 0)
               .skip))
             (.run [0, 4, 6, 9, 10, 11] [⟨some 20, .mv, [.tmp 0], none⟩,
               ⟨some 21, (.ld true 4), [.tmp 4], none⟩,
               ⟨some 22, (.ld true 8), [.tmp 8], none⟩,
               ⟨some 23, (.call 55), [.tmp 20, .tmp 21, .tmp 22], none⟩,
               ⟨none, (.st 4), [.tmp 4, .tmp 23], none⟩]))))
          (.run [0, 4, 6, 9, 10, 11] [⟨some 24, (.bin .add), [.tmp 11, .const (.int .i64 1)], none⟩,
            ⟨some 11, .mv, [.tmp 24], none⟩])))))))
    (.seq (.run [6] [⟨some 25, (.ld true 4), [.tmp 4], none⟩,
       ⟨none, (.st 4), [.tmp 6, .tmp 25], none⟩])
     .ret)))⟩

theorem f35_ok : compF Go.Proofs.Try.prog 35 f35.body.hints = some f35 := by kernel_rfl


def f36 : AFun := ⟨17, 5, [],
  (.seq (.run [0, 4, 6, 7, 8] [⟨some 6, .box, [.tmp 1], none⟩,
     ⟨some 7, .box, [.tmp 2], none⟩,
     ⟨some 8, .box, [.tmp 3], none⟩])
   (.seq (.run [0, 4, 6, 12] [⟨some 10, (.ld true 4), [.tmp 7], none⟩,
      ⟨some 11, (.ld true 4), [.tmp 8], none⟩,
      ⟨some 12, (.eqs true [1, 2, 2, 2]), [.tmp 10, .tmp 11], none⟩])
    (.cond (.tmp 12)
     (.run [] [⟨some 13, .mv, [.tmp 0], none⟩,
       ⟨some 14, (.ld true 8), [.tmp 6], none⟩,
       ⟨some 15, .mv, [.tmp 4], none⟩,
       ⟨some 16, (.call 56), [.tmp 13, .tmp 14, .tmp 15], none⟩])
     .skip)))⟩

theorem f36_ok : compF Go.Proofs.Try.prog 36 f36.body.hints = some f36 := by kernel_rfl


def f37 : AFun := ⟨116, 2, [.cell 4 (.ld true 7)],
  (.seq (.run [2, 3, 4] [⟨some 2, .box, [.tmp 0], none⟩,
     ⟨some 3, .box, [.tmp 1], none⟩,
     ⟨some 4, (.alloc [(.int .i64 0), (.str []), (.str []), (.str []), (.sl [] .nil), (.int .i64 0), (.int .i64 0)]), [], none⟩])
   (.seq (.run [2, 3, 4, 5] [⟨some 12, (.ld true 4), [.tmp 2], none⟩,
      ⟨some 13, (.faddr 1), [.tmp 3], none⟩,
      ⟨some 14, (.ld false 1), [.tmp 13], none⟩,
      ⟨some 15, (.build [(.int .i64 0), (.str []), (.str []), (.str []), (.sl [] .nil), (.int .i64 0), (.int .i64 0)] [(0, 4), (5, 1)]), [.tmp 12, .tmp 14], none⟩,
      ⟨some 5, (.alloc [(.int .i64 0), (.str []), (.str []), (.str []), (.sl [] .nil), (.int .i64 0), (.int .i64 0)]), [], none⟩,
      ⟨none, (.st 7), [.tmp 5, .tmp 15], none⟩])
    (.seq (.seq (.run [2, 3, 4, 5, 17] [⟨some 16, (.faddr 0), [.tmp 3], none⟩,
        ⟨some 17, (.ld false 1), [.tmp 16], none⟩])
      (.block 0 (.seq (.run [2, 3, 4, 5, 17, 18] [⟨some 19, (.eqg false 6), [.tmp 17, .const (.int .i64 0)], none⟩,
          ⟨some 18, .mv, [.tmp 19], none⟩])
        (.cond (.tmp 18)
         (.run [4, 5] [⟨some 20, (.ld true 4), [.tmp 2], none⟩,
           ⟨some 21, (.faddr 2), [.tmp 3], none⟩,
           ⟨some 22, (.ld false 1), [.tmp 21], none⟩,
           ⟨some 23, (.call 25), [.tmp 20, .tmp 22], none⟩,
           ⟨some 24, (.faddr 0), [.tmp 5], none⟩,
           ⟨none, (.st 4), [.tmp 24, .tmp 23], none⟩])
         (.seq (.run [2, 3, 4, 5, 17, 25] [⟨some 26, (.eqg false 6), [.tmp 17, .const (.int .i64 1)], none⟩,
            ⟨some 25, .mv, [.tmp 26], none⟩])
          (.cond (.tmp 25)
           (.seq (.run [4, 5, 6, 7] [⟨some 28, (.ld true 4), [.tmp 2], none⟩,
              ⟨some 29, (.call 15), [.tmp 28], none⟩,
              ⟨some 27, .mv, [.tmp 29], none⟩,
              ⟨some 30, (.ext 0), [.tmp 27], none⟩,
              ⟨some 31, (.ext 1), [.tmp 27], none⟩,
              ⟨some 6, .mv, [.tmp 30], none⟩,
              ⟨some 7, .mv, [.tmp 31], none⟩])
            (.seq (.seq (.run [4, 5, 6, 33] [⟨some 32, .mv, [.tmp 7], none⟩,
                ⟨some 33, (.un .not), [.tmp 32], none⟩])
              (.cond (.tmp 33)
               (.run [4, 5, 6] [⟨some 34, (.faddr 6), [.tmp 5], none⟩,
                 ⟨none, (.st 1), [.tmp 34, .const (.int .i64 15)], none⟩])
               .skip))
             (.run [4, 5] [⟨some 35, .mv, [.tmp 6], none⟩,
               ⟨some 36, (.bslice 1 1 [(.int .i64 0)] [(0, 1)]), [.tmp 35], none⟩,
               ⟨some 37, (.faddr 4), [.tmp 5], none⟩,
               ⟨none, (.st 1), [.tmp 37, .tmp 36], none⟩])))
           (.seq (.run [2, 3, 4, 5, 17, 38] [⟨some 39, (.eqg false 6), [.tmp 17, .const (.int .i64 2)], none⟩,
              ⟨some 38, .mv, [.tmp 39], none⟩])
            (.cond (.tmp 38)
             (.seq (.run [2, 3, 4, 5, 8] [⟨some 40, (.ld true 4), [.tmp 2], none⟩,
                ⟨some 41, (.faddr 6), [.tmp 3], none⟩,
                ⟨some 42, (.ld false 1), [.tmp 41], none⟩,
                ⟨some 43, (.call 24), [.tmp 40, .tmp 42], none⟩,
                ⟨some 8, (.alloc [(.int .i64 0), (.str []), (.str []), (.str []), (.sl [] .nil), (.int .i64 0), (.int .i64 0)]), [], none⟩,
                ⟨none, (.st 7), [.tmp 8, .tmp 43], none⟩])
              (.seq (.seq (.run [2, 3, 4, 5, 8, 46] [⟨some 44, (.faddr 6), [.tmp 8], none⟩,
                  ⟨some 45, (.ld false 1), [.tmp 44], none⟩,
                  ⟨some 46, (.eqg true 6), [.tmp 45, .const (.int .i64 0)], none⟩])
                (.cond (.tmp 46)
                 (.seq (.run [4] [⟨some 47, (.ld true 7), [.tmp 8], none⟩,
                    ⟨none, (.st 7), [.tmp 4, .tmp 47], none⟩])
                  .ret)
                 .skip))
               (.seq (.run [4, 5, 8, 9] [⟨some 48, (.ld true 4), [.tmp 2], none⟩,
                  ⟨some 49, (.faddr 7), [.tmp 3], none⟩,
                  ⟨some 50, (.ld false 1), [.tmp 49], none⟩,
                  ⟨some 51, (.call 24), [.tmp 48, .tmp 50], none⟩,
                  ⟨some 9, (.alloc [(.int .i64 0), (.str []), (.str []), (.str []), (.sl [] .nil), (.int .i64 0), (.int .i64 0)]), [], none⟩,
                  ⟨none, (.st 7), [.tmp 9, .tmp 51], none⟩])
                (.seq (.seq (.run [4, 5, 8, 9, 54] [⟨some 52, (.faddr 6), [.tmp 9], none⟩,
                    ⟨some 53, (.ld false 1), [.tmp 52], none⟩,
                    ⟨some 54, (.eqg true 6), [.tmp 53, .const (.int .i64 0)], none⟩])
                  (.cond (.tmp 54)
                   (.seq (.run [4] [⟨some 55, (.ld true 7), [.tmp 9], none⟩,
                      ⟨none, (.st 7), [.tmp 4, .tmp 55], none⟩])
                    .ret)
                   .skip))
                 (.seq (.seq (.run [4, 5, 8, 9, 60] [⟨some 56, (.faddr 0), [.tmp 8], none⟩,
                     ⟨some 57, (.ld true 4), [.tmp 56], none⟩,
                     ⟨some 58, (.faddr 0), [.tmp 9], none⟩,
                     ⟨some 59, (.ld true 4), [.tmp 58], none⟩,
                     ⟨some 60, (.eqs true [1, 2, 2, 2]), [.tmp 57, .tmp 59], none⟩])
                   (.cond (.tmp 60)
                    (.run [4, 5, 8, 9] [⟨some 61, (.faddr 6), [.tmp 5], none⟩,
                      ⟨none, (.st 1), [.tmp 61, .const (.int .i64 16)], none⟩])
                    .skip))
                  (.seq (.run [4, 5, 8, 9] [⟨some 62, (.faddr 0), [.tmp 8], none⟩,
                     ⟨some 63, (.ld true 4), [.tmp 62], none⟩,
                     ⟨some 64, (.faddr 0), [.tmp 5], none⟩,
                     ⟨none, (.st 4), [.tmp 64, .tmp 63], none⟩])
                   (.runD [4, 5] [⟨1, ⟨some 66, (.faddr 4), [.tmp 8], none⟩, []⟩,
                     ⟨2, ⟨some 67, (.ld false 1), [.tmp 66], none⟩, []⟩,
                     ⟨4, ⟨some 69, (.faddr 4), [.tmp 9], none⟩, []⟩,
                     ⟨5, ⟨some 70, (.ld false 1), [.tmp 69], none⟩, []⟩,
                     ⟨0, ⟨some 65, (.bslice 1 0 [(.int .i64 0)] []), [], none⟩, [2, 5]⟩,
                     ⟨3, ⟨some 68, (.app 1 8), [.tmp 65, .tmp 67], none⟩, [5]⟩,
                     ⟨6, ⟨some 71, (.app 1 8), [.tmp 68, .tmp 70], none⟩, []⟩,
                     ⟨7, ⟨some 72, (.faddr 4), [.tmp 5], none⟩, []⟩,
                     ⟨8, ⟨none, (.st 1), [.tmp 72, .tmp 71], none⟩, []⟩])))))))
             (.seq (.run [2, 3, 4, 5, 17, 73] [⟨some 74, (.eqg false 6), [.tmp 17, .const (.int .i64 3)], none⟩,
                ⟨some 73, .mv, [.tmp 74], none⟩])
              (.cond (.tmp 73)
               (.seq (.run [2, 4, 5, 10] [⟨some 75, (.ld true 4), [.tmp 2], none⟩,
                  ⟨some 76, (.faddr 6), [.tmp 3], none⟩,
                  ⟨some 77, (.ld false 1), [.tmp 76], none⟩,
                  ⟨some 78, (.call 24), [.tmp 75, .tmp 77], none⟩,
                  ⟨some 10, (.alloc [(.int .i64 0), (.str []), (.str []), (.str []), (.sl [] .nil), (.int .i64 0), (.int .i64 0)]), [], none⟩,
                  ⟨none, (.st 7), [.tmp 10, .tmp 78], none⟩])
                (.seq (.seq (.run [2, 4, 5, 10, 81] [⟨some 79, (.faddr 6), [.tmp 10], none⟩,
                    ⟨some 80, (.ld false 1), [.tmp 79], none⟩,
                    ⟨some 81, (.eqg true 6), [.tmp 80, .const (.int .i64 0)], none⟩])
                  (.cond (.tmp 81)
                   (.seq (.run [4] [⟨some 82, (.ld true 7), [.tmp 10], none⟩,
                      ⟨none, (.st 7), [.tmp 4, .tmp 82], none⟩])
                    .ret)
                   .skip))
                 (.seq (.seq (.run [4, 5, 10, 86] [⟨some 83, (.faddr 0), [.tmp 10], none⟩,
                     ⟨some 84, (.ld true 4), [.tmp 83], none⟩,
                     ⟨some 85, (.ld true 4), [.tmp 2], none⟩,
                     ⟨some 86, (.eqs true [1, 2, 2, 2]), [.tmp 84, .tmp 85], none⟩])
                   (.cond (.tmp 86)
                    (.run [4, 5, 10] [⟨some 87, (.faddr 6), [.tmp 5], none⟩,
                      ⟨none, (.st 1), [.tmp 87, .const (.int .i64 16)], none⟩])
                    .skip))
                  (.run [4, 5] [⟨some 88, (.faddr 4), [.tmp 10], none⟩,
                    ⟨some 89, (.ld false 1), [.tmp 88], none⟩,
                    ⟨some 90, (.faddr 4), [.tmp 5], none⟩,
                    ⟨none, (.st 1), [.tmp 90, .tmp 89], none⟩]))))
               (.seq (.run [2, 3, 4, 5, 17, 91] [⟨some 92, (.eqg false 6), [.tmp 17, .const (.int .i64 4)], none⟩,
                  ⟨some 91, .mv, [.tmp 92], none⟩])
                (.cond (.tmp 91)
                 (.seq (.run [4, 5, 95] [⟨some 93, (.ld true 4), [.tmp 2], none⟩,
                    ⟨some 94, (.build [(.int .i64 0), (.str []), (.str []), (.str [])] []), [], none⟩,
                    ⟨some 95, (.eqs true [1, 2, 2, 2]), [.tmp 93, .tmp 94], none⟩])
                  (.cond (.tmp 95)
                   (.run [4, 5] [⟨some 96, (.faddr 6), [.tmp 5], none⟩,
                     ⟨none, (.st 1), [.tmp 96, .const (.int .i64 15)], none⟩])
                   .skip))
                 (.seq (.run [3, 4, 5, 97] [⟨some 98, (.eqg false 6), [.tmp 17, .const (.int .i64 6)], none⟩,
                    ⟨some 97, .mv, [.tmp 98], none⟩])
                  (.cond (.tmp 97)
                   (.seq (.run [4, 5, 11] [⟨some 99, (.build [(.int .i64 0), (.str []), (.str []), (.str [])] []), [], none⟩,
                      ⟨some 100, (.faddr 6), [.tmp 3], none⟩,
                      ⟨some 101, (.ld false 1), [.tmp 100], none⟩,
                      ⟨some 102, (.call 24), [.tmp 99, .tmp 101], none⟩,
                      ⟨some 11, (.alloc [(.int .i64 0), (.str []), (.str []), (.str []), (.sl [] .nil), (.int .i64 0), (.int .i64 0)]), [], none⟩,
                      ⟨none, (.st 7), [.tmp 11, .tmp 102], none⟩])
                    (.seq (.seq (.run [4, 5, 11, 105] [⟨some 103, (.faddr 6), [.tmp 11], none⟩,
                        ⟨some 104, (.ld false 1), [.tmp 103], none⟩,
                        ⟨some 105, (.eqg true 6), [.tmp 104, .const (.int .i64 0)], none⟩])
                      (.cond (.tmp 105)
                       (.seq (.run [4] [⟨some 106, (.ld true 7), [.tmp 11], none⟩,
                          ⟨none, (.st 7), [.tmp 4, .tmp 106], none⟩])
                        .ret)
                       .skip))
                     (.seq (.seq (.run [4, 5, 11, 110] [⟨some 107, (.faddr 0), [.tmp 11], none⟩,
                         ⟨some 108, (.ld true 4), [.tmp 107], none⟩,
                         ⟨some 109, (.build [(.int .i64 0), (.str []), (.str []), (.str [])] []), [], none⟩,
                         ⟨some 110, (.eqs true [1, 2, 2, 2]), [.tmp 108, .tmp 109], none⟩])
                       (.cond (.tmp 110)
                        (.run [4, 5, 11] [⟨some 111, (.faddr 6), [.tmp 5], none⟩,
                          ⟨none, (.st 1), [.tmp 111, .const (.int .i64 16)], none⟩])
                        .skip))
                      (.run [4, 5] [⟨some 112, (.faddr 4), [.tmp 11], none⟩,
                        ⟨some 113, (.ld false 1), [.tmp 112], none⟩,
                        ⟨some 114, (.faddr 4), [.tmp 5], none⟩,
                        ⟨none, (.st 1), [.tmp 114, .tmp 113], none⟩]))))
                   .skip))))))))))))))
     (.seq (.run [4] [⟨some 115, (.ld true 7), [.tmp 5], none⟩,
        ⟨none, (.st 7), [.tmp 4, .tmp 115], none⟩])
      .ret))))⟩

theorem f37_ok : compF Go.Proofs.Try.prog 37 f37.body.hints = some f37 := by kernel_rfl


def f38 : AFun := ⟨17, 1, [.slot 2],
  (.seq (.run [0] [⟨some 2, .mv, [.const (.bool false)], none⟩])
   (.seq (.run [2] [⟨some 3, .mv, [.tmp 0], none⟩,
      ⟨some 4, (.bin .geq), [.tmp 3, .const (.int .u8 97)], none⟩,
      ⟨some 5, .mv, [.tmp 4], none⟩,
      ⟨some 6, .mv, [.tmp 0], some (5, true)⟩,
      ⟨some 7, (.bin .leq), [.tmp 6, .const (.int .u8 122)], some (5, true)⟩,
      ⟨some 8, .pick, [.tmp 5, .tmp 7, .const (.bool false)], none⟩,
      ⟨some 9, .mv, [.tmp 8], none⟩,
      ⟨some 10, .mv, [.tmp 0], some (9, false)⟩,
      ⟨some 11, (.bin .geq), [.tmp 10, .const (.int .u8 65)], some (9, false)⟩,
      ⟨some 12, .mv, [.tmp 11], some (9, false)⟩,
      ⟨some 13, .mv, [.tmp 0], some (12, true)⟩,
      ⟨some 14, (.bin .leq), [.tmp 13, .const (.int .u8 90)], some (12, true)⟩,
      ⟨some 15, .pick, [.tmp 12, .tmp 14, .const (.bool false)], some (9, false)⟩,
      ⟨some 16, .pick, [.tmp 9, .const (.bool true), .tmp 15], none⟩,
      ⟨some 2, .mv, [.tmp 16], none⟩])
    .ret))⟩

theorem f38_ok : compF Go.Proofs.Try.prog 38 f38.body.hints = some f38 := by kernel_rfl


def f39 : AFun := ⟨14, 1, [.slot 2],
  (.seq (.run [0] [⟨some 2, .mv, [.const (.string ⟨#[]⟩)], none⟩])
   (.seq (.seq (.run [0, 8] [⟨some 3, .mv, [.tmp 0], none⟩,
       ⟨some 4, (.bin .geq), [.tmp 3, .const (.int .u8 65)], none⟩,
       ⟨some 5, .mv, [.tmp 4], none⟩,
       ⟨some 6, .mv, [.tmp 0], some (5, true)⟩,
       ⟨some 7, (.bin .leq), [.tmp 6, .const (.int .u8 90)], some (5, true)⟩,
       ⟨some 8, .pick, [.tmp 5, .tmp 7, .const (.bool false)], none⟩])
     (.cond (.tmp 8)
      (.run [0] [⟨some 9, .mv, [.tmp 0], none⟩,
        ⟨some 10, (.bin .add), [.tmp 9, .const (.int .u8 32)], none⟩,
        ⟨some 0, .mv, [.tmp 10], none⟩])
      .skip))
    (.seq (.run [2] [⟨some 11, .mv, [.tmp 0], none⟩,
       ⟨some 12, (.bslice 1 1 [(.int .u8 0)] [(0, 1)]), [.tmp 11], none⟩,
       ⟨some 13, .cvb, [.tmp 12], none⟩,
       ⟨some 2, .mv, [.tmp 13], none⟩])
     .ret)))⟩

theorem f39_ok : compF Go.Proofs.Try.prog 39 f39.body.hints = some f39 := by kernel_rfl


def f40 : AFun := ⟨8, 2, [.cell 4 (.ld true 4)],
  (.seq (.run [1, 2, 4] [⟨some 2, .box, [.tmp 0], none⟩,
     ⟨some 4, (.alloc [(.int .i64 0), (.str []), (.str []), (.str [])]), [], none⟩])
   (.seq (.run [2, 4] [⟨some 5, .mv, [.tmp 1], none⟩,
      ⟨some 6, (.faddr 3), [.tmp 2], none⟩,
      ⟨none, (.st 1), [.tmp 6, .tmp 5], none⟩])
    (.seq (.run [4] [⟨some 7, (.ld true 4), [.tmp 2], none⟩,
       ⟨none, (.st 4), [.tmp 4, .tmp 7], none⟩])
     .ret)))⟩

theorem f40_ok : compF Go.Proofs.Try.prog 40 f40.body.hints = some f40 := by kernel_rfl


def f41 : AFun := ⟨8, 2, [.slot 4],
  (.seq (.run [0, 1] [⟨some 4, .mv, [.const (.bool false)], none⟩])
   (.seq (.run [4] [⟨some 5, .mv, [.tmp 0], none⟩,
      ⟨some 6, .mv, [.tmp 1], none⟩,
      ⟨some 7, (.call 57), [.tmp 5, .tmp 6], none⟩,
      ⟨some 4, .mv, [.tmp 7], none⟩])
    .ret))⟩

theorem f41_ok : compF Go.Proofs.Try.prog 41 f41.body.hints = some f41 := by kernel_rfl


def f42 : AFun := ⟨9, 2, [.cell 4 (.ld true 4)],
  (.seq (.run [1, 2, 4] [⟨some 2, .box, [.tmp 0], none⟩,
     ⟨some 4, (.alloc [(.int .i64 0), (.str []), (.str []), (.str [])]), [], none⟩])
   (.seq (.run [4] [⟨some 5, .mv, [.tmp 1], none⟩,
      ⟨some 6, (.faddr 1), [.tmp 2], none⟩,
      ⟨some 7, (.ld false 1), [.tmp 6], none⟩,
      ⟨some 8, (.build [(.int .i64 0), (.str []), (.str []), (.str [])] [(0, 1), (1, 1)]), [.tmp 5, .tmp 7], none⟩,
      ⟨none, (.st 4), [.tmp 4, .tmp 8], none⟩])
    .ret))⟩

theorem f42_ok : compF Go.Proofs.Try.prog 42 f42.body.hints = some f42 := by kernel_rfl


def f43 : AFun := ⟨12, 1, [.cell 2 (.ld true 4)],
  (.seq (.run [1, 2] [⟨some 1, .box, [.tmp 0], none⟩,
     ⟨some 2, (.alloc [(.int .i64 0), (.str []), (.str []), (.str [])]), [], none⟩])
   (.seq (.seq (.run [2, 4] [⟨some 3, (.faddr 1), [.tmp 1], none⟩,
       ⟨some 4, (.ld false 1), [.tmp 3], none⟩])
     (.block 0 (.seq (.run [2, 4, 5] [⟨some 6, (.eqg false 6), [.tmp 4, .const (.string ⟨#[115, 99, 114, 105, 112, 116]⟩)], none⟩,
         ⟨some 5, .mv, [.tmp 6], none⟩])
       (.cond (.tmp 5)
        (.seq (.run [2] [⟨some 7, (.build [(.int .i64 0), (.str []), (.str []), (.str [])] [(0, 1)]), [.const (.int .i64 16)], none⟩,
           ⟨none, (.st 4), [.tmp 2, .tmp 7], none⟩])
         .ret)
        (.seq (.run [2, 8] [⟨some 9, (.eqg false 6), [.tmp 4, .const (.string ⟨#[115, 116, 121, 108, 101]⟩)], none⟩,
           ⟨some 8, .mv, [.tmp 9], none⟩])
         (.cond (.tmp 8)
          (.seq (.run [2] [⟨some 10, (.build [(.int .i64 0), (.str []), (.str []), (.str [])] [(0, 1)]), [.const (.int .i64 19)], none⟩,
             ⟨none, (.st 4), [.tmp 2, .tmp 10], none⟩])
           .ret)
          .skip))))))
    (.seq (.run [2] [⟨some 11, (.build [(.int .i64 0), (.str []), (.str []), (.str [])] []), [], none⟩,
       ⟨none, (.st 4), [.tmp 2, .tmp 11], none⟩])
     .ret)))⟩

theorem f43_ok : compF Go.Proofs.Try.prog 43 f43.body.hints = some f43 := by kernel_rfl


def f44 : AFun := ⟨55, 2, [.cell 4 (.ld true 4)],
  (.seq (.run [1, 2, 4] [⟨some 2, .box, [.tmp 0], none⟩,
     ⟨some 4, (.alloc [(.int .i64 0), (.str []), (.str []), (.str [])]), [], none⟩])
   (.seq (.block 0 (.seq (.run [1, 2, 4, 7] [⟨some 8, .mv, [.tmp 1], none⟩,
        ⟨some 9, (.call 46), [.tmp 8], none⟩,
        ⟨some 7, .mv, [.tmp 9], none⟩])
      (.cond (.tmp 7)
       (.seq (.run [4] [⟨some 10, (.ld true 4), [.tmp 2], none⟩,
          ⟨none, (.st 4), [.tmp 4, .tmp 10], none⟩])
        .ret)
       (.seq (.run [1, 2, 4, 11] [⟨some 12, .mv, [.tmp 1], none⟩,
          ⟨some 13, (.eqg true 6), [.tmp 12, .const (.int .u8 34)], none⟩,
          ⟨some 14, .mv, [.tmp 13], none⟩,
          ⟨some 15, .mv, [.tmp 1], some (14, true)⟩,
          ⟨some 16, (.eqg true 6), [.tmp 15, .const (.int .u8 39)], some (14, true)⟩,
          ⟨some 17, .pick, [.tmp 14, .tmp 16, .const (.bool false)], none⟩,
          ⟨some 11, .mv, [.tmp 17], none⟩])
        (.cond (.tmp 11)
         (.seq (.run [4] [⟨some 18, (.ld true 4), [.tmp 2], none⟩,
            ⟨some 19, (.call 42), [.tmp 18, .const (.int .i64 6)], none⟩,
            ⟨none, (.st 4), [.tmp 4, .tmp 19], none⟩])
          .ret)
         .skip)))))
    (.seq (.run [1, 2, 4, 5] [⟨some 5, .mv, [.const (.int .i64 7)], none⟩])
     (.seq (.seq (.run [1, 2, 4, 5, 6] [⟨some 20, (.faddr 2), [.tmp 2], none⟩,
         ⟨some 21, (.ld false 1), [.tmp 20], none⟩,
         ⟨some 6, .mv, [.tmp 21], none⟩])
       (.block 1 (.seq (.run [1, 2, 4, 5, 6, 22] [⟨some 23, .mv, [.tmp 6], none⟩,
           ⟨some 24, (.eqg false 6), [.tmp 23, .const (.string ⟨#[104, 114, 101, 102]⟩)], none⟩,
           ⟨some 25, .mv, [.tmp 24], none⟩,
           ⟨some 26, .mv, [.tmp 6], some (25, false)⟩,
           ⟨some 27, (.eqg false 6), [.tmp 26, .const (.string ⟨#[115, 114, 99]⟩)], some (25, false)⟩,
           ⟨some 28, .pick, [.tmp 25, .const (.bool true), .tmp 27], none⟩,
           ⟨some 29, .mv, [.tmp 28], none⟩,
           ⟨some 30, .mv, [.tmp 6], some (29, false)⟩,
           ⟨some 31, (.eqg false 6), [.tmp 30, .const (.string ⟨#[97, 99, 116, 105, 111, 110]⟩)], some (29, false)⟩,
           ⟨some 32, .pick, [.tmp 29, .const (.bool true), .tmp 31], none⟩,
           ⟨some 33, .mv, [.tmp 32], none⟩,
           ⟨some 34, .mv, [.tmp 6], some (33, false)⟩,
           ⟨some 35, (.eqg false 6), [.tmp 34, .const (.string ⟨#[102, 111, 114, 109, 97, 99, 116, 105, 111, 110]⟩)], some (33, false)⟩,
           ⟨some 36, .pick, [.tmp 33, .const (.bool true), .tmp 35], none⟩,
           ⟨some 22, .mv, [.tmp 36], none⟩])
         (.cond (.tmp 22)
          (.run [1, 2, 4, 5] [⟨some 5, .mv, [.const (.int .i64 9)], none⟩])
          (.seq (.run [1, 2, 4, 5, 37] [⟨some 38, .mv, [.tmp 6], none⟩,
             ⟨some 39, (.eqg false 6), [.tmp 38, .const (.string ⟨#[115, 116, 121, 108, 101]⟩)], none⟩,
             ⟨some 40, .mv, [.tmp 39], none⟩,
             ⟨some 41, .mv, [.tmp 6], some (40, false)⟩,
             ⟨some 42, (.eqg false 6), [.tmp 41, .const (.string ⟨#[115, 114, 99, 100, 111, 99]⟩)], some (40, false)⟩,
             ⟨some 43, .pick, [.tmp 40, .const (.bool true), .tmp 42], none⟩,
             ⟨some 44, .mv, [.tmp 43], none⟩,
             ⟨some 45, .mv, [.tmp 6], some (44, false)⟩,
             ⟨some 46, (.call 41), [.tmp 45, .const (.string ⟨#[111, 110]⟩)], some (44, false)⟩,
             ⟨some 47, .pick, [.tmp 44, .const (.bool true), .tmp 46], none⟩,
             ⟨some 37, .mv, [.tmp 47], none⟩])
           (.cond (.tmp 37)
            (.run [1, 2, 4, 5] [⟨some 5, .mv, [.const (.int .i64 11)], none⟩])
            .skip))))))
      (.seq (.seq (.run [2, 4, 5, 49] [⟨some 48, .mv, [.tmp 1], none⟩,
          ⟨some 49, (.eqg false 6), [.tmp 48, .const (.int .u8 39)], none⟩])
        (.cond (.tmp 49)
         (.run [2, 4, 5] [⟨some 50, .mv, [.tmp 5], none⟩,
           ⟨some 51, (.bin .add), [.tmp 50, .const (.int .i64 1)], none⟩,
           ⟨some 5, .mv, [.tmp 51], none⟩])
         .skip))
       (.seq (.run [4] [⟨some 52, (.ld true 4), [.tmp 2], none⟩,
          ⟨some 53, .mv, [.tmp 5], none⟩,
          ⟨some 54, (.call 42), [.tmp 52, .tmp 53], none⟩,
          ⟨none, (.st 4), [.tmp 4, .tmp 54], none⟩])
        .ret))))))⟩

theorem f44_ok : compF Go.Proofs.Try.prog 44 f44.body.hints = some f44 := by kernel_rfl


def f45 : AFun := ⟨63, 2, [.cell 4 (.ld true 4)],
  (.seq (.run [1, 2, 4] [⟨some 2, .box, [.tmp 0], none⟩,
     ⟨some 4, (.alloc [(.int .i64 0), (.str []), (.str []), (.str [])]), [], none⟩])
   (.seq (.block 0 (.seq (.seq (.run [1, 2, 4, 5] [⟨some 6, .mv, [.tmp 1], none⟩,
         ⟨some 7, (.eqg false 6), [.tmp 6, .const (.int .u8 47)], none⟩,
         ⟨some 5, .mv, [.tmp 7], none⟩])
       (.cond (.tmp 5)
        .skip
        (.run [1, 2, 4, 5] [⟨some 8, (.faddr 0), [.tmp 2], none⟩,
          ⟨some 9, (.ld false 1), [.tmp 8], none⟩,
          ⟨some 10, (.eqg false 6), [.tmp 9, .const (.int .i64 2)], none⟩,
          ⟨some 11, .mv, [.tmp 10], none⟩,
          ⟨some 12, .mv, [.tmp 1], some (11, true)⟩,
          ⟨some 13, (.call 46), [.tmp 12], some (11, true)⟩,
          ⟨some 14, .pick, [.tmp 11, .tmp 13, .const (.bool false)], none⟩,
          ⟨some 5, .mv, [.tmp 14], none⟩])))
      (.cond (.tmp 5)
       (.seq (.run [4] [⟨some 15, (.ld true 4), [.tmp 2], none⟩,
          ⟨some 16, (.call 42), [.tmp 15, .const (.int .i64 1)], none⟩,
          ⟨none, (.st 4), [.tmp 4, .tmp 16], none⟩])
        .ret)
       (.seq (.run [1, 2, 4, 17] [⟨some 18, (.faddr 0), [.tmp 2], none⟩,
          ⟨some 19, (.ld false 1), [.tmp 18], none⟩,
          ⟨some 20, (.eqg false 6), [.tmp 19, .const (.int .i64 2)], none⟩,
          ⟨some 17, .mv, [.tmp 20], none⟩])
        (.cond (.tmp 17)
         (.seq (.run [2, 4] [⟨some 21, (.faddr 1), [.tmp 2], none⟩,
            ⟨some 22, (.ld false 1), [.tmp 21], none⟩,
            ⟨some 23, .mv, [.tmp 1], none⟩,
            ⟨some 24, (.call 58), [.tmp 22, .tmp 23], none⟩,
            ⟨some 25, (.faddr 1), [.tmp 2], none⟩,
            ⟨none, (.st 1), [.tmp 25, .tmp 24], none⟩])
          (.seq (.run [4] [⟨some 26, (.ld true 4), [.tmp 2], none⟩,
             ⟨none, (.st 4), [.tmp 4, .tmp 26], none⟩])
           .ret))
         (.seq (.run [1, 2, 4, 27] [⟨some 28, (.faddr 0), [.tmp 2], none⟩,
            ⟨some 29, (.ld false 1), [.tmp 28], none⟩,
            ⟨some 30, (.eqg false 6), [.tmp 29, .const (.int .i64 1)], none⟩,
            ⟨some 31, .mv, [.tmp 30], none⟩,
            ⟨some 32, .mv, [.tmp 1], some (31, true)⟩,
            ⟨some 33, (.call 46), [.tmp 32], some (31, true)⟩,
            ⟨some 34, .pick, [.tmp 31, .tmp 33, .const (.bool false)], none⟩,
            ⟨some 27, .mv, [.tmp 34], none⟩])
          (.cond (.tmp 27)
           (.seq (.run [4] [⟨some 35, (.ld true 4), [.tmp 2], none⟩,
              ⟨none, (.st 4), [.tmp 4, .tmp 35], none⟩])
            .ret)
           (.seq (.run [1, 2, 4, 36] [⟨some 37, .mv, [.tmp 1], none⟩,
              ⟨some 38, (.call 46), [.tmp 37], none⟩,
              ⟨some 36, .mv, [.tmp 38], none⟩])
            (.cond (.tmp 36)
             (.seq (.run [2, 4] [⟨some 39, (.faddr 0), [.tmp 2], none⟩,
                ⟨none, (.st 1), [.tmp 39, .const (.int .i64 4)], none⟩])
              (.seq (.run [4] [⟨some 40, (.ld true 4), [.tmp 2], none⟩,
                 ⟨none, (.st 4), [.tmp 4, .tmp 40], none⟩])
               .ret))
             (.seq (.run [1, 2, 4, 41] [⟨some 42, (.faddr 0), [.tmp 2], none⟩,
                ⟨some 43, (.ld false 1), [.tmp 42], none⟩,
                ⟨some 44, (.eqg true 6), [.tmp 43, .const (.int .i64 1)], none⟩,
                ⟨some 45, .mv, [.tmp 44], none⟩,
                ⟨some 46, .mv, [.tmp 1], some (45, true)⟩,
                ⟨some 47, (.eqg false 6), [.tmp 46, .const (.int .u8 61)], some (45, true)⟩,
                ⟨some 48, .pick, [.tmp 45, .tmp 47, .const (.bool false)], none⟩,
                ⟨some 41, .mv, [.tmp 48], none⟩])
              (.cond (.tmp 41)
               (.seq (.run [2, 4] [⟨some 49, (.faddr 0), [.tmp 2], none⟩,
                  ⟨none, (.st 1), [.tmp 49, .const (.int .i64 5)], none⟩])
                (.seq (.run [4] [⟨some 50, (.ld true 4), [.tmp 2], none⟩,
                   ⟨none, (.st 4), [.tmp 4, .tmp 50], none⟩])
                 .ret))
               (.seq (.run [1, 2, 4, 51] [⟨some 52, (.faddr 0), [.tmp 2], none⟩,
                  ⟨some 53, (.ld false 1), [.tmp 52], none⟩,
                  ⟨some 54, (.eqg true 6), [.tmp 53, .const (.int .i64 3)], none⟩,
                  ⟨some 51, .mv, [.tmp 54], none⟩])
                (.cond (.tmp 51)
                 (.run [1, 2, 4] [⟨some 55, (.ld true 4), [.tmp 2], none⟩,
                   ⟨some 56, (.call 42), [.tmp 55, .const (.int .i64 3)], none⟩,
                   ⟨none, (.st 4), [.tmp 2, .tmp 56], none⟩])
                 .skip)))))))))))))
    (.seq (.run [2, 4] [⟨some 57, (.faddr 2), [.tmp 2], none⟩,
       ⟨some 58, (.ld false 1), [.tmp 57], none⟩,
       ⟨some 59, .mv, [.tmp 1], none⟩,
       ⟨some 60, (.call 58), [.tmp 58, .tmp 59], none⟩,
       ⟨some 61, (.faddr 2), [.tmp 2], none⟩,
       ⟨none, (.st 1), [.tmp 61, .tmp 60], none⟩])
     (.seq (.run [4] [⟨some 62, (.ld true 4), [.tmp 2], none⟩,
        ⟨none, (.st 4), [.tmp 4, .tmp 62], none⟩])
      .ret))))⟩

theorem f45_ok : compF Go.Proofs.Try.prog 45 f45.body.hints = some f45 := by kernel_rfl


def f46 : AFun := ⟨6, 1, [.slot 2],
  (.seq (.run [0] [⟨some 2, .mv, [.const (.bool false)], none⟩])
   (.seq (.run [2] [⟨some 3, .mv, [.tmp 0], none⟩,
      ⟨some 4, (.call 59), [.const (.string ⟨#[32, 9, 10, 12, 13]⟩), .tmp 3], none⟩,
      ⟨some 5, (.bin .geq), [.tmp 4, .const (.int .i64 0)], none⟩,
      ⟨some 2, .mv, [.tmp 5], none⟩])
    .ret))⟩

theorem f46_ok : compF Go.Proofs.Try.prog 46 f46.body.hints = some f46 := by kernel_rfl


def f47 : AFun := ⟨11, 1, [.slot 2],
  (.seq (.run [0] [⟨some 2, .mv, [.const (.bool false)], none⟩])
   (.seq (.run [2] [⟨some 3, .mv, [.tmp 0], none⟩,
      ⟨some 4, (.call 52), [.tmp 3], none⟩,
      ⟨some 5, (.bin .geq), [.tmp 4, .const (.int .u8 97)], none⟩,
      ⟨some 6, .mv, [.tmp 5], none⟩,
      ⟨some 7, .mv, [.tmp 0], some (6, true)⟩,
      ⟨some 8, (.call 52), [.tmp 7], some (6, true)⟩,
      ⟨some 9, (.bin .leq), [.tmp 8, .const (.int .u8 122)], some (6, true)⟩,
      ⟨some 10, .pick, [.tmp 6, .tmp 9, .const (.bool false)], none⟩,
      ⟨some 2, .mv, [.tmp 10], none⟩])
    .ret))⟩

theorem f47_ok : compF Go.Proofs.Try.prog 47 f47.body.hints = some f47 := by kernel_rfl


def f48 : AFun := ⟨15, 2, [.slot 4],
  (.seq (.run [0, 1] [⟨some 4, .mv, [.const (.string ⟨#[]⟩)], none⟩])
   (.seq (.seq (.run [0, 1, 7] [⟨some 5, .mv, [.tmp 0], none⟩,
       ⟨some 6, (.len 0), [.tmp 5], none⟩,
       ⟨some 7, (.bin .geq), [.tmp 6, .const (.int .i64 16)], none⟩])
     (.cond (.tmp 7)
      (.seq (.run [4] [⟨some 8, .mv, [.tmp 0], none⟩,
         ⟨some 4, .mv, [.tmp 8], none⟩])
       .ret)
      .skip))
    (.seq (.run [4] [⟨some 9, .mv, [.tmp 0], none⟩,
       ⟨some 10, .mv, [.tmp 1], none⟩,
       ⟨some 11, (.call 52), [.tmp 10], none⟩,
       ⟨some 12, (.bslice 1 1 [(.int .u8 0)] [(0, 1)]), [.tmp 11], none⟩,
       ⟨some 13, .cvb, [.tmp 12], none⟩,
       ⟨some 14, (.bin .add), [.tmp 9, .tmp 13], none⟩,
       ⟨some 4, .mv, [.tmp 14], none⟩])
     .ret)))⟩

theorem f48_ok : compF Go.Proofs.Try.prog 48 f48.body.hints = some f48 := by kernel_rfl


def f49 : AFun := ⟨11, 1, [.cell 2 (.ld true 4)],
  (.seq (.run [0, 2] [⟨some 2, (.alloc [(.int .i64 0), (.str []), (.str []), (.str [])]), [], none⟩])
   (.seq (.seq (.run [2, 3] [⟨some 3, .mv, [.tmp 0], none⟩])
     (.block 0 (.seq (.run [2, 3, 4] [⟨some 5, (.eqg false 6), [.tmp 3, .const (.string ⟨#[115, 99, 114, 105, 112, 116]⟩)], none⟩,
         ⟨some 4, .mv, [.tmp 5], none⟩])
       (.cond (.tmp 4)
        (.seq (.run [2] [⟨some 6, (.build [(.int .i64 0), (.str []), (.str []), (.str [])] [(0, 1)]), [.const (.int .i64 16)], none⟩,
           ⟨none, (.st 4), [.tmp 2, .tmp 6], none⟩])
         .ret)
        (.seq (.run [2, 7] [⟨some 8, (.eqg false 6), [.tmp 3, .const (.string ⟨#[115, 116, 121, 108, 101]⟩)], none⟩,
           ⟨some 7, .mv, [.tmp 8], none⟩])
         (.cond (.tmp 7)
          (.seq (.run [2] [⟨some 9, (.build [(.int .i64 0), (.str []), (.str []), (.str [])] [(0, 1)]), [.const (.int .i64 19)], none⟩,
             ⟨none, (.st 4), [.tmp 2, .tmp 9], none⟩])
           .ret)
          .skip))))))
    (.seq (.run [2] [⟨some 10, (.build [(.int .i64 0), (.str []), (.str []), (.str [])] []), [], none⟩,
       ⟨none, (.st 4), [.tmp 2, .tmp 10], none⟩])
     .ret)))⟩

theorem f49_ok : compF Go.Proofs.Try.prog 49 f49.body.hints = some f49 := by kernel_rfl


def f50 : AFun := ⟨21, 1, [.slot 2],
  (.seq (.run [0] [⟨some 2, .mv, [.const (.bool false)], none⟩])
   (.seq (.run [2] [⟨some 3, .mv, [.tmp 0], none⟩,
      ⟨some 4, (.eqg false 6), [.tmp 3, .const (.int .u8 32)], none⟩,
      ⟨some 5, .mv, [.tmp 4], none⟩,
      ⟨some 6, .mv, [.tmp 0], some (5, false)⟩,
      ⟨some 7, (.eqg false 6), [.tmp 6, .const (.int .u8 9)], some (5, false)⟩,
      ⟨some 8, .pick, [.tmp 5, .const (.bool true), .tmp 7], none⟩,
      ⟨some 9, .mv, [.tmp 8], none⟩,
      ⟨some 10, .mv, [.tmp 0], some (9, false)⟩,
      ⟨some 11, (.eqg false 6), [.tmp 10, .const (.int .u8 10)], some (9, false)⟩,
      ⟨some 12, .pick, [.tmp 9, .const (.bool true), .tmp 11], none⟩,
      ⟨some 13, .mv, [.tmp 12], none⟩,
      ⟨some 14, .mv, [.tmp 0], some (13, false)⟩,
      ⟨some 15, (.eqg false 6), [.tmp 14, .const (.int .u8 12)], some (13, false)⟩,
      ⟨some 16, .pick, [.tmp 13, .const (.bool true), .tmp 15], none⟩,
      ⟨some 17, .mv, [.tmp 16], none⟩,
      ⟨some 18, .mv, [.tmp 0], some (17, false)⟩,
      ⟨some 19, (.eqg false 6), [.tmp 18, .const (.int .u8 13)], some (17, false)⟩,
      ⟨some 20, .pick, [.tmp 17, .const (.bool true), .tmp 19], none⟩,
      ⟨some 2, .mv, [.tmp 20], none⟩])
    .ret))⟩

theorem f50_ok : compF Go.Proofs.Try.prog 50 f50.body.hints = some f50 := by kernel_rfl


def f51 : AFun := ⟨28, 2, [.slot 4],
  (.seq (.run [0, 1] [⟨some 4, .mv, [.const (.int .i64 0)], none⟩])
   (.seq (.run [0, 1, 5] [⟨some 5, .mv, [.const (.int .i64 7)], none⟩])
    (.seq (.seq (.run [0, 1, 5, 6] [⟨some 6, .mv, [.tmp 0], none⟩])
      (.block 0 (.seq (.seq (.run [0, 1, 5, 6, 7] [⟨some 8, (.eqg false 6), [.tmp 6, .const (.string ⟨#[104, 114, 101, 102]⟩)], none⟩,
           ⟨some 7, .mv, [.tmp 8], none⟩])
         (.cond (.tmp 7)
          .skip
          (.seq (.run [0, 1, 5, 6, 7] [⟨some 9, (.eqg false 6), [.tmp 6, .const (.string ⟨#[115, 114, 99]⟩)], none⟩,
             ⟨some 7, .mv, [.tmp 9], none⟩])
           (.cond (.tmp 7)
            .skip
            (.seq (.run [0, 1, 5, 6, 7] [⟨some 10, (.eqg false 6), [.tmp 6, .const (.string ⟨#[97, 99, 116, 105, 111, 110]⟩)], none⟩,
               ⟨some 7, .mv, [.tmp 10], none⟩])
             (.cond (.tmp 7)
              .skip
              (.run [0, 1, 5, 6, 7] [⟨some 11, (.eqg false 6), [.tmp 6, .const (.string ⟨#[102, 111, 114, 109, 97, 99, 116, 105, 111, 110]⟩)], none⟩,
                ⟨some 7, .mv, [.tmp 11], none⟩])))))))
        (.cond (.tmp 7)
         (.run [0, 1, 5] [⟨some 5, .mv, [.const (.int .i64 9)], none⟩])
         (.seq (.seq (.run [0, 1, 5, 6, 12] [⟨some 13, (.eqg false 6), [.tmp 6, .const (.string ⟨#[115, 116, 121, 108, 101]⟩)], none⟩,
             ⟨some 12, .mv, [.tmp 13], none⟩])
           (.cond (.tmp 12)
            .skip
            (.run [0, 1, 5, 12] [⟨some 14, (.eqg false 6), [.tmp 6, .const (.string ⟨#[115, 114, 99, 100, 111, 99]⟩)], none⟩,
              ⟨some 12, .mv, [.tmp 14], none⟩])))
          (.cond (.tmp 12)
           (.run [0, 1, 5] [⟨some 5, .mv, [.const (.int .i64 11)], none⟩])
           .skip))))))
     (.seq (.seq (.run [1, 5, 22] [⟨some 15, .mv, [.tmp 0], none⟩,
         ⟨some 16, (.len 0), [.tmp 15], none⟩,
         ⟨some 17, (.bin .geq), [.tmp 16, .const (.int .i64 2)], none⟩,
         ⟨some 18, .mv, [.tmp 17], none⟩,
         ⟨some 19, .mv, [.tmp 0], some (18, true)⟩,
         ⟨some 20, (.slc 0 false true), [.tmp 19, .const (.int .i64 2)], some (18, true)⟩,
         ⟨some 21, (.eqg false 6), [.tmp 20, .const (.string ⟨#[111, 110]⟩)], some (18, true)⟩,
         ⟨some 22, .pick, [.tmp 18, .tmp 21, .const (.bool false)], none⟩])
       (.cond (.tmp 22)
        (.run [1, 5] [⟨some 5, .mv, [.const (.int .i64 11)], none⟩])
        .skip))
      (.seq (.seq (.run [5, 24] [⟨some 23, .mv, [.tmp 1], none⟩,
          ⟨some 24, (.eqg false 6), [.tmp 23, .const (.int .u8 39)], none⟩])
        (.cond (.tmp 24)
         (.run [5] [⟨some 25, .mv, [.tmp 5], none⟩,
           ⟨some 26, (.bin .add), [.tmp 25, .const (.int .i64 1)], none⟩,
           ⟨some 5, .mv, [.tmp 26], none⟩])
         .skip))
       (.seq (.run [4] [⟨some 27, .mv, [.tmp 5], none⟩,
          ⟨some 4, .mv, [.tmp 27], none⟩])
        .ret))))))⟩

theorem f51_ok : compF Go.Proofs.Try.prog 51 f51.body.hints = some f51 := by kernel_rfl


def f52 : AFun := ⟨12, 1, [.slot 2],
  (.seq (.run [0] [⟨some 2, .mv, [.const (.int .u8 0)], none⟩])
   (.seq (.seq (.run [0, 8] [⟨some 3, .mv, [.tmp 0], none⟩,
       ⟨some 4, (.bin .geq), [.tmp 3, .const (.int .u8 65)], none⟩,
       ⟨some 5, .mv, [.tmp 4], none⟩,
       ⟨some 6, .mv, [.tmp 0], some (5, true)⟩,
       ⟨some 7, (.bin .leq), [.tmp 6, .const (.int .u8 90)], some (5, true)⟩,
       ⟨some 8, .pick, [.tmp 5, .tmp 7, .const (.bool false)], none⟩])
     (.cond (.tmp 8)
      (.seq (.run [2] [⟨some 9, .mv, [.tmp 0], none⟩,
         ⟨some 10, (.bin .add), [.tmp 9, .const (.int .u8 32)], none⟩,
         ⟨some 2, .mv, [.tmp 10], none⟩])
       .ret)
      .skip))
    (.seq (.run [2] [⟨some 11, .mv, [.tmp 0], none⟩,
       ⟨some 2, .mv, [.tmp 11], none⟩])
     .ret)))⟩

theorem f52_ok : compF Go.Proofs.Try.prog 52 f52.body.hints = some f52 := by kernel_rfl


def f53 : AFun := ⟨74, 1, [.slot 2, .slot 3, .slot 4],
  (.seq (.run [0] [⟨some 2, .mv, [.const (.slice none 0 0)], none⟩,
     ⟨some 3, .mv, [.const (.int .i64 0)], none⟩,
     ⟨some 4, .mv, [.const (.int .i64 0)], none⟩])
   (.seq (.seq (.run [0, 14] [⟨some 12, .mv, [.tmp 0], none⟩,
       ⟨some 13, (.len 0), [.tmp 12], none⟩,
       ⟨some 14, (.bin .gtr), [.tmp 13, .const (.int .i64 65536)], none⟩])
     (.cond (.tmp 14)
      (.seq (.run [2, 3, 4] [⟨some 2, .mv, [.const (.slice none 0 0)], none⟩,
         ⟨some 3, .mv, [.const (.int .i64 0)], none⟩,
         ⟨some 4, .mv, [.const (.int .i64 6)], none⟩])
       .ret)
      .skip))
    (.seq (.run [0, 5] [⟨some 5, .mv, [.const (.slice none 0 0)], none⟩])
     (.seq (.run [0, 5, 6] [⟨some 6, .mv, [.const (.int .i64 0)], none⟩])
      (.seq (.block 0 (.loop [0, 5, 6] (.seq (.seq (.run [0, 5, 6, 18] [⟨some 15, .mv, [.tmp 6], none⟩,
             ⟨some 16, .mv, [.tmp 0], none⟩,
             ⟨some 17, (.len 0), [.tmp 16], none⟩,
             ⟨some 18, (.bin .lss), [.tmp 15, .tmp 17], none⟩])
           (.cond (.tmp 18)
            .skip
            (.exit 0)))
          (.block 1 (.seq (.run [0, 5, 6, 7] [⟨some 19, .mv, [.tmp 0], none⟩,
              ⟨some 20, .mv, [.tmp 6], none⟩,
              ⟨some 21, (.call 60), [.tmp 19, .const (.int .u8 123), .tmp 20], none⟩,
              ⟨some 7, .mv, [.tmp 21], none⟩])
            (.seq (.seq (.run [0, 5, 6, 7, 24] [⟨some 22, .mv, [.tmp 7], none⟩,
                ⟨some 23, .mv, [.tmp 6], none⟩,
                ⟨some 24, (.eqg true 6), [.tmp 22, .tmp 23], none⟩])
              (.cond (.tmp 24)
               (.seq (.seq (.run [0, 5, 6, 7, 26] [⟨some 25, .mv, [.tmp 7], none⟩,
                   ⟨some 26, (.bin .lss), [.tmp 25, .const (.int .i64 0)], none⟩])
                 (.cond (.tmp 26)
                  (.run [0, 5, 6, 7] [⟨some 27, .mv, [.tmp 0], none⟩,
                    ⟨some 28, (.len 0), [.tmp 27], none⟩,
                    ⟨some 7, .mv, [.tmp 28], none⟩])
                  .skip))
                (.seq (.run [0, 5, 7] [⟨some 29, .mv, [.tmp 5], none⟩,
                   ⟨some 30, .mv, [.tmp 6], none⟩,
                   ⟨some 31, .mv, [.tmp 0], none⟩,
                   ⟨some 32, .mv, [.tmp 6], none⟩,
                   ⟨some 33, .mv, [.tmp 7], none⟩,
                   ⟨some 34, (.slc 0 true true), [.tmp 31, .tmp 32, .tmp 33], none⟩,
                   ⟨some 35, (.build [(.int .i64 0), (.int .i64 0), (.str []), (.str []), (.bool false)] [(1, 1), (2, 1)]), [.tmp 30, .tmp 34], none⟩,
                   ⟨some 36, (.bslice 5 1 [(.int .i64 0), (.int .i64 0), (.str []), (.str []), (.bool false)] [(0, 5)]), [.tmp 35], none⟩,
                   ⟨some 37, (.app 5 56), [.tmp 29, .tmp 36], none⟩,
                   ⟨some 5, .mv, [.tmp 37], none⟩])
                 (.seq (.run [0, 5, 6] [⟨some 38, .mv, [.tmp 7], none⟩,
                    ⟨some 6, .mv, [.tmp 38], none⟩])
                  (.exit 1))))
               .skip))
             (.seq (.run [0, 5, 6, 8] [⟨some 39, .mv, [.tmp 0], none⟩,
                ⟨some 40, .mv, [.tmp 6], none⟩,
                ⟨some 41, (.bin .add), [.tmp 40, .const (.int .i64 2)], none⟩,
                ⟨some 42, (.call 60), [.tmp 39, .const (.int .u8 125), .tmp 41], none⟩,
                ⟨some 8, .mv, [.tmp 42], none⟩])
              (.seq (.seq (.run [0, 5, 6, 8, 44] [⟨some 43, .mv, [.tmp 8], none⟩,
                  ⟨some 44, (.bin .lss), [.tmp 43, .const (.int .i64 0)], none⟩])
                (.cond (.tmp 44)
                 (.seq (.run [2, 3, 4] [⟨some 45, .mv, [.tmp 6], none⟩,
                    ⟨some 2, .mv, [.const (.slice none 0 0)], none⟩,
                    ⟨some 3, .mv, [.tmp 45], none⟩,
                    ⟨some 4, .mv, [.const (.int .i64 7)], none⟩])
                  .ret)
                 .skip))
               (.seq (.run [0, 5, 6, 8, 9, 10, 11] [⟨some 47, .mv, [.tmp 0], none⟩,
                  ⟨some 48, .mv, [.tmp 6], none⟩,
                  ⟨some 49, (.bin .add), [.tmp 48, .const (.int .i64 2)], none⟩,
                  ⟨some 50, .mv, [.tmp 8], none⟩,
                  ⟨some 51, (.slc 0 true true), [.tmp 47, .tmp 49, .tmp 50], none⟩,
                  ⟨some 52, (.call 62), [.tmp 51], none⟩,
                  ⟨some 53, (.call 61), [.tmp 52], none⟩,
                  ⟨some 46, .mv, [.tmp 53], none⟩,
                  ⟨some 54, (.ext 0), [.tmp 46], none⟩,
                  ⟨some 55, (.ext 1), [.tmp 46], none⟩,
                  ⟨some 56, (.ext 2), [.tmp 46], none⟩,
                  ⟨some 9, (.alloc [(.int .i64 0), (.int .i64 0), (.str []), (.str []), (.bool false)]), [], none⟩,
                  ⟨none, (.st 5), [.tmp 9, .tmp 54], none⟩,
                  ⟨some 10, .mv, [.tmp 55], none⟩,
                  ⟨some 11, .mv, [.tmp 56], none⟩])
                (.seq (.seq (.run [0, 5, 6, 8, 9, 11, 58] [⟨some 57, .mv, [.tmp 10], none⟩,
                    ⟨some 58, (.un .not), [.tmp 57], none⟩])
                  (.cond (.tmp 58)
                   (.seq (.run [2, 3, 4] [⟨some 59, .mv, [.tmp 6], none⟩,
                      ⟨some 2, .mv, [.const (.slice none 0 0)], none⟩,
                      ⟨some 3, .mv, [.tmp 59], none⟩,
                      ⟨some 4, .mv, [.const (.int .i64 5)], none⟩])
                    .ret)
                   .skip))
                 (.seq (.seq (.run [0, 5, 6, 8, 9, 61] [⟨some 60, .mv, [.tmp 11], none⟩,
                     ⟨some 61, (.un .not), [.tmp 60], none⟩])
                   (.cond (.tmp 61)
                    (.seq (.run [2, 3, 4] [⟨some 62, .mv, [.tmp 6], none⟩,
                       ⟨some 2, .mv, [.const (.slice none 0 0)], none⟩,
                       ⟨some 3, .mv, [.tmp 62], none⟩,
                       ⟨some 4, .mv, [.const (.int .i64 11)], none⟩])
                     .ret)
                    .skip))
                  (.seq (.run [0, 5, 8, 9] [⟨some 63, .mv, [.tmp 6], none⟩,
                     ⟨some 64, (.faddr 1), [.tmp 9], none⟩,
                     ⟨none, (.st 1), [.tmp 64, .tmp 63], none⟩])
                   (.seq (.run [0, 5, 8] [⟨some 65, .mv, [.tmp 5], none⟩,
                      ⟨some 66, (.ld true 5), [.tmp 9], none⟩,
                      ⟨some 67, (.bslice 5 1 [(.int .i64 0), (.int .i64 0), (.str []), (.str []), (.bool false)] [(0, 5)]), [.tmp 66], none⟩,
                      ⟨some 68, (.app 5 56), [.tmp 65, .tmp 67], none⟩,
                      ⟨some 5, .mv, [.tmp 68], none⟩])
                    (.run [0, 5, 6] [⟨some 69, .mv, [.tmp 8], none⟩,
                      ⟨some 70, (.bin .add), [.tmp 69, .const (.int .i64 2)], none⟩,
                      ⟨some 6, .mv, [.tmp 70], none⟩]))))))))))))))
       (.seq (.run [2, 3, 4] [⟨some 71, .mv, [.tmp 5], none⟩,
          ⟨some 72, .mv, [.tmp 0], none⟩,
          ⟨some 73, (.len 0), [.tmp 72], none⟩,
          ⟨some 2, .mv, [.tmp 71], none⟩,
          ⟨some 3, .mv, [.tmp 73], none⟩,
          ⟨some 4, .mv, [.const (.int .i64 0)], none⟩])
        .ret))))))⟩

theorem f53_ok : compF Go.Proofs.Try.prog 53 f53.body.hints = some f53 := by kernel_rfl


def f54 : AFun := ⟨73, 4, [.slot 8, .slot 9, .slot 10],
  (.seq (.run [0, 1, 2, 3] [⟨some 8, .mv, [.const (.slice none 0 0)], none⟩,
     ⟨some 9, .mv, [.const (.int .i64 0)], none⟩,
     ⟨some 10, .mv, [.const (.int .i64 0)], none⟩])
   (.seq (.run [0, 1, 2, 3, 11] [⟨some 11, .mv, [.const (.slice none 0 0)], none⟩])
    (.seq (.block 0 (.loop [0, 1, 2, 3, 11] (.seq (.seq (.runD [0, 1, 2, 3, 11, 25] [⟨0, ⟨some 16, .mv, [.tmp 0], none⟩, []⟩,
           ⟨1, ⟨some 17, .nilck, [.tmp 16], none⟩, []⟩,
           ⟨2, ⟨some 18, (.faddr 1), [.tmp 17], none⟩, []⟩,
           ⟨3, ⟨some 19, (.ld false 1), [.tmp 18], none⟩, []⟩,
           ⟨4, ⟨some 20, .mv, [.tmp 0], none⟩, []⟩,
           ⟨5, ⟨some 21, .nilck, [.tmp 20], none⟩, []⟩,
           ⟨6, ⟨some 22, (.faddr 0), [.tmp 21], none⟩, []⟩,
           ⟨7, ⟨some 23, (.ld false 1), [.tmp 22], none⟩, []⟩,
           ⟨8, ⟨some 24, (.len 1), [.tmp 23], none⟩, []⟩,
           ⟨9, ⟨some 25, (.bin .lss), [.tmp 19, .tmp 24], none⟩, []⟩])
         (.cond (.tmp 25)
          .skip
          (.exit 0)))
        (.block 1 (.seq (.runD [0, 1, 2, 3, 11, 12] [⟨0, ⟨some 26, .mv, [.tmp 0], none⟩, []⟩,
            ⟨1, ⟨some 27, .nilck, [.tmp 26], none⟩, []⟩,
            ⟨2, ⟨some 28, (.faddr 0), [.tmp 27], none⟩, []⟩,
            ⟨3, ⟨some 29, (.ld false 1), [.tmp 28], none⟩, []⟩,
            ⟨4, ⟨some 30, .mv, [.tmp 0], none⟩, []⟩,
            ⟨5, ⟨some 31, .nilck, [.tmp 30], none⟩, []⟩,
            ⟨6, ⟨some 32, (.faddr 1), [.tmp 31], none⟩, []⟩,
            ⟨7, ⟨some 33, (.ld false 1), [.tmp 32], none⟩, []⟩,
            ⟨8, ⟨some 34, (.iaddr 5), [.tmp 29, .tmp 33], none⟩, []⟩,
            ⟨9, ⟨some 35, (.ld true 5), [.tmp 34], none⟩, []⟩,
            ⟨10, ⟨some 12, (.alloc [(.int .i64 0), (.int .i64 0), (.str []), (.str []), (.bool false)]), [], none⟩, [3, 7, 9]⟩,
            ⟨11, ⟨none, (.st 5), [.tmp 12, .tmp 35], none⟩, []⟩])
          (.seq (.block 2 (.seq (.run [0, 1, 2, 3, 11, 12, 36] [⟨some 37, (.faddr 0), [.tmp 12], none⟩,
               ⟨some 38, (.ld false 1), [.tmp 37], none⟩,
               ⟨some 39, (.eqg false 6), [.tmp 38, .const (.int .i64 7)], none⟩,
               ⟨some 36, .mv, [.tmp 39], none⟩])
             (.cond (.tmp 36)
              (.seq (.seq (.run [11, 12, 44] [⟨some 40, .mv, [.tmp 1], none⟩,
                  ⟨some 41, (.eqg true 6), [.tmp 40, .const (.int .i64 2)], none⟩,
                  ⟨some 42, .mv, [.tmp 41], none⟩,
                  ⟨some 43, .mv, [.tmp 2], some (42, false)⟩,
                  ⟨some 44, .pick, [.tmp 42, .const (.bool true), .tmp 43], none⟩])
                (.cond (.tmp 44)
                 (.seq (.runD [8, 9, 10] [⟨0, ⟨some 45, (.faddr 1), [.tmp 12], none⟩, []⟩,
                    ⟨1, ⟨some 46, (.ld false 1), [.tmp 45], none⟩, []⟩,
                    ⟨2, ⟨some 8, .mv, [.const (.slice none 0 0)], none⟩, []⟩,
                    ⟨3, ⟨some 9, .mv, [.tmp 46], none⟩, []⟩,
                    ⟨4, ⟨some 10, .mv, [.const (.int .i64 13)], none⟩, []⟩])
                  .ret)
                 .skip))
               (.seq (.run [8, 9, 10] [⟨some 47, .mv, [.tmp 11], none⟩,
                  ⟨some 8, .mv, [.tmp 47], none⟩,
                  ⟨some 9, .mv, [.const (.int .i64 0)], none⟩,
                  ⟨some 10, .mv, [.const (.int .i64 0)], none⟩])
                .ret))
              (.seq (.run [0, 1, 2, 3, 11, 12, 48] [⟨some 49, (.faddr 0), [.tmp 12], none⟩,
                 ⟨some 50, (.ld false 1), [.tmp 49], none⟩,
                 ⟨some 51, (.eqg false 6), [.tmp 50, .const (.int .i64 8)], none⟩,
                 ⟨some 48, .mv, [.tmp 51], none⟩])
               (.cond (.tmp 48)
                (.seq (.seq (.run [11, 12, 53] [⟨some 52, .mv, [.tmp 1], none⟩,
                    ⟨some 53, (.bin .lss), [.tmp 52, .const (.int .i64 0)], none⟩])
                  (.cond (.tmp 53)
                   (.seq (.runD [8, 9, 10] [⟨0, ⟨some 54, (.faddr 1), [.tmp 12], none⟩, []⟩,
                      ⟨1, ⟨some 55, (.ld false 1), [.tmp 54], none⟩, []⟩,
                      ⟨2, ⟨some 8, .mv, [.const (.slice none 0 0)], none⟩, []⟩,
                      ⟨3, ⟨some 9, .mv, [.tmp 55], none⟩, []⟩,
                      ⟨4, ⟨some 10, .mv, [.const (.int .i64 13)], none⟩, []⟩])
                    .ret)
                   .skip))
                 (.seq (.run [8, 9, 10] [⟨some 56, .mv, [.tmp 11], none⟩,
                    ⟨some 8, .mv, [.tmp 56], none⟩,
                    ⟨some 9, .mv, [.const (.int .i64 0)], none⟩,
                    ⟨some 10, .mv, [.const (.int .i64 0)], none⟩])
                  .ret))
                .skip)))))
           (.seq (.run [0, 1, 2, 3, 11, 13, 14, 15] [⟨some 58, .mv, [.tmp 0], none⟩,
              ⟨some 59, .mv, [.tmp 3], none⟩,
              ⟨some 60, (.call 63), [.tmp 58, .tmp 59], none⟩,
              ⟨some 57, .mv, [.tmp 60], none⟩,
              ⟨some 61, (.ext 0), [.tmp 57], none⟩,
              ⟨some 62, (.ext 1), [.tmp 57], none⟩,
              ⟨some 63, (.ext 2), [.tmp 57], none⟩,
              ⟨some 13, (.alloc [(.int .i64 0), (.int .i64 0), (.str []), (.str []), (.bool false), (.bool false), (.sl [] .nil), (.sl [] .nil)]), [], none⟩,
              ⟨none, (.st 8), [.tmp 13, .tmp 61], none⟩,
              ⟨some 14, .mv, [.tmp 62], none⟩,
              ⟨some 15, .mv, [.tmp 63], none⟩])
            (.seq (.seq (.run [0, 1, 2, 3, 11, 13, 14, 15, 65] [⟨some 64, .mv, [.tmp 15], none⟩,
                ⟨some 65, (.eqg true 6), [.tmp 64, .const (.int .i64 0)], none⟩])
              (.cond (.tmp 65)
               (.seq (.run [8, 9, 10] [⟨some 66, .mv, [.tmp 14], none⟩,
                  ⟨some 67, .mv, [.tmp 15], none⟩,
                  ⟨some 8, .mv, [.const (.slice none 0 0)], none⟩,
                  ⟨some 9, .mv, [.tmp 66], none⟩,
                  ⟨some 10, .mv, [.tmp 67], none⟩])
                .ret)
               .skip))
             (.run [0, 1, 2, 3, 11] [⟨some 68, .mv, [.tmp 11], none⟩,
               ⟨some 69, (.ld true 8), [.tmp 13], none⟩,
               ⟨some 70, (.bslice 8 1 [(.int .i64 0), (.int .i64 0), (.str []), (.str []), (.bool false), (.bool false), (.sl [] .nil), (.sl [] .nil)] [(0, 8)]), [.tmp 69], none⟩,
               ⟨some 71, (.app 8 104), [.tmp 68, .tmp 70], none⟩,
               ⟨some 11, .mv, [.tmp 71], none⟩])))))))))
     (.seq (.run [8, 9, 10] [⟨some 72, .mv, [.tmp 11], none⟩,
        ⟨some 8, .mv, [.tmp 72], none⟩,
        ⟨some 9, .mv, [.const (.int .i64 0)], none⟩,
        ⟨some 10, .mv, [.const (.int .i64 0)], none⟩])
      .ret))))⟩

theorem f54_ok : compF Go.Proofs.Try.prog 54 f54.body.hints = some f54 := by kernel_rfl


def f55 : AFun := ⟨89, 3, [.cell 6 (.ld true 4)],
  (.seq (.run [0, 4, 5, 6] [⟨some 4, .box, [.tmp 1], none⟩,
     ⟨some 5, .box, [.tmp 2], none⟩,
     ⟨some 6, (.alloc [(.int .i64 0), (.str []), (.str []), (.str [])]), [], none⟩])
   (.seq (.run [0, 4, 5, 6, 7] [⟨some 11, (.build [(.int .i64 0), (.str []), (.str []), (.str [])] []), [], none⟩,
      ⟨some 7, (.alloc [(.int .i64 0), (.str []), (.str []), (.str [])]), [], none⟩,
      ⟨none, (.st 4), [.tmp 7, .tmp 11], none⟩])
    (.seq (.seq (.run [0, 4, 5, 6, 7, 13] [⟨some 12, (.faddr 0), [.tmp 5], none⟩,
        ⟨some 13, (.ld false 1), [.tmp 12], none⟩])
      (.block 0 (.seq (.run [0, 4, 5, 6, 7, 13, 14] [⟨some 15, (.eqg false 6), [.tmp 13, .const (.int .i64 0)], none⟩,
          ⟨some 14, .mv, [.tmp 15], none⟩])
        (.cond (.tmp 14)
         (.seq (.run [6] [⟨some 16, (.ld true 4), [.tmp 4], none⟩,
            ⟨some 17, (.faddr 2), [.tmp 5], none⟩,
            ⟨some 18, (.ld false 1), [.tmp 17], none⟩,
            ⟨some 19, (.call 17), [.tmp 16, .tmp 18], none⟩,
            ⟨none, (.st 4), [.tmp 6, .tmp 19], none⟩])
          .ret)
         (.seq (.run [0, 4, 5, 6, 7, 13, 20] [⟨some 21, (.eqg false 6), [.tmp 13, .const (.int .i64 1)], none⟩,
            ⟨some 20, .mv, [.tmp 21], none⟩])
          (.cond (.tmp 20)
           (.seq (.run [0, 4, 5, 6, 8, 9] [⟨some 23, (.ld true 4), [.tmp 4], none⟩,
              ⟨some 24, (.call 14), [.tmp 23], none⟩,
              ⟨some 22, .mv, [.tmp 24], none⟩,
              ⟨some 25, (.ext 0), [.tmp 22], none⟩,
              ⟨some 26, (.ext 1), [.tmp 22], none⟩,
              ⟨some 8, .mv, [.tmp 25], none⟩,
              ⟨some 9, .mv, [.tmp 26], none⟩])
            (.seq (.seq (.run [0, 4, 5, 6, 8, 28] [⟨some 27, .mv, [.tmp 9], none⟩,
                ⟨some 28, (.un .not), [.tmp 27], none⟩])
              (.cond (.tmp 28)
               (.run [0, 4, 6, 8] [⟨some 29, .mv, [.tmp 0], none⟩,
                 ⟨some 30, (.ld true 8), [.tmp 5], none⟩,
                 ⟨some 31, (.call 56), [.tmp 29, .tmp 30, .const (.int .i64 15)], none⟩])
               .skip))
             (.run [4, 6] [⟨some 32, .mv, [.tmp 0], none⟩,
               ⟨some 33, .mv, [.tmp 0], none⟩,
               ⟨some 34, .nilck, [.tmp 33], none⟩,
               ⟨some 35, (.faddr 0), [.tmp 34], none⟩,
               ⟨some 36, (.ld false 1), [.tmp 35], none⟩,
               ⟨some 37, .mv, [.tmp 8], none⟩,
               ⟨some 38, (.bslice 1 1 [(.int .i64 0)] [(0, 1)]), [.tmp 37], none⟩,
               ⟨some 39, (.app 1 8), [.tmp 36, .tmp 38], none⟩,
               ⟨some 40, .nilck, [.tmp 32], none⟩,
               ⟨some 41, (.faddr 0), [.tmp 40], none⟩,
               ⟨none, (.st 1), [.tmp 41, .tmp 39], none⟩])))
           (.seq (.run [0, 4, 5, 6, 7, 13, 42] [⟨some 43, (.eqg false 6), [.tmp 13, .const (.int .i64 4)], none⟩,
              ⟨some 42, .mv, [.tmp 43], none⟩])
            (.cond (.tmp 42)
             (.run [4, 6] [⟨some 44, .mv, [.tmp 0], none⟩,
               ⟨some 45, (.ld true 8), [.tmp 5], none⟩,
               ⟨some 46, (.ld true 4), [.tmp 4], none⟩,
               ⟨some 47, (.ld true 4), [.tmp 7], none⟩,
               ⟨some 48, (.call 36), [.tmp 44, .tmp 45, .tmp 46, .tmp 47, .const (.int .i64 15)], none⟩])
             (.seq (.run [0, 4, 5, 6, 7, 13, 49] [⟨some 50, (.eqg false 6), [.tmp 13, .const (.int .i64 2)], none⟩,
                ⟨some 49, .mv, [.tmp 50], none⟩])
              (.cond (.tmp 49)
               (.seq (.run [0, 4, 5, 6, 10] [⟨some 51, .mv, [.tmp 0], none⟩,
                  ⟨some 52, (.ld true 4), [.tmp 4], none⟩,
                  ⟨some 53, (.faddr 6), [.tmp 5], none⟩,
                  ⟨some 54, (.ld false 1), [.tmp 53], none⟩,
                  ⟨some 55, (.call 35), [.tmp 51, .tmp 52, .tmp 54], none⟩,
                  ⟨some 10, (.alloc [(.int .i64 0), (.str []), (.str []), (.str [])]), [], none⟩,
                  ⟨none, (.st 4), [.tmp 10, .tmp 55], none⟩])
                (.seq (.runD [6, 10] [⟨0, ⟨some 56, .mv, [.tmp 0], none⟩, []⟩,
                   ⟨1, ⟨some 57, (.ld true 8), [.tmp 5], none⟩, []⟩,
                   ⟨2, ⟨some 58, .mv, [.tmp 0], none⟩, []⟩,
                   ⟨3, ⟨some 59, (.ld true 4), [.tmp 4], none⟩, []⟩,
                   ⟨4, ⟨some 60, (.faddr 7), [.tmp 5], none⟩, []⟩,
                   ⟨5, ⟨some 61, (.ld false 1), [.tmp 60], none⟩, []⟩,
                   ⟨7, ⟨some 63, (.ld true 4), [.tmp 10], none⟩, []⟩,
                   ⟨6, ⟨some 62, (.call 35), [.tmp 58, .tmp 59, .tmp 61], none⟩, [1, 7]⟩,
                   ⟨8, ⟨some 64, (.call 36), [.tmp 56, .tmp 57, .tmp 62, .tmp 63, .const (.int .i64 16)], none⟩, []⟩])
                 (.seq (.run [6] [⟨some 65, (.ld true 4), [.tmp 10], none⟩,
                    ⟨none, (.st 4), [.tmp 6, .tmp 65], none⟩])
                  .ret)))
               (.seq (.run [0, 4, 5, 6, 7, 13, 66] [⟨some 67, (.eqg false 6), [.tmp 13, .const (.int .i64 3)], none⟩,
                  ⟨some 66, .mv, [.tmp 67], none⟩])
                (.cond (.tmp 66)
                 (.runD [4, 6] [⟨0, ⟨some 68, .mv, [.tmp 0], none⟩, []⟩,
                   ⟨1, ⟨some 69, (.ld true 8), [.tmp 5], none⟩, []⟩,
                   ⟨2, ⟨some 70, .mv, [.tmp 0], none⟩, []⟩,
                   ⟨3, ⟨some 71, (.ld true 4), [.tmp 4], none⟩, []⟩,
                   ⟨4, ⟨some 72, (.faddr 6), [.tmp 5], none⟩, []⟩,
                   ⟨5, ⟨some 73, (.ld false 1), [.tmp 72], none⟩, []⟩,
                   ⟨7, ⟨some 75, (.ld true 4), [.tmp 4], none⟩, []⟩,
                   ⟨6, ⟨some 74, (.call 35), [.tmp 70, .tmp 71, .tmp 73], none⟩, [1, 7]⟩,
                   ⟨8, ⟨some 76, (.call 36), [.tmp 68, .tmp 69, .tmp 74, .tmp 75, .const (.int .i64 16)], none⟩, []⟩])
                 (.seq (.run [0, 4, 5, 6, 7, 77] [⟨some 78, (.eqg false 6), [.tmp 13, .const (.int .i64 6)], none⟩,
                    ⟨some 77, .mv, [.tmp 78], none⟩])
                  (.cond (.tmp 77)
                   (.runD [4, 6] [⟨0, ⟨some 79, .mv, [.tmp 0], none⟩, []⟩,
                     ⟨1, ⟨some 80, (.ld true 8), [.tmp 5], none⟩, []⟩,
                     ⟨2, ⟨some 81, .mv, [.tmp 0], none⟩, []⟩,
                     ⟨3, ⟨some 82, (.ld true 4), [.tmp 7], none⟩, []⟩,
                     ⟨4, ⟨some 83, (.faddr 6), [.tmp 5], none⟩, []⟩,
                     ⟨5, ⟨some 84, (.ld false 1), [.tmp 83], none⟩, []⟩,
                     ⟨7, ⟨some 86, (.ld true 4), [.tmp 7], none⟩, []⟩,
                     ⟨6, ⟨some 85, (.call 35), [.tmp 81, .tmp 82, .tmp 84], none⟩, [1, 7]⟩,
                     ⟨8, ⟨some 87, (.call 36), [.tmp 79, .tmp 80, .tmp 85, .tmp 86, .const (.int .i64 16)], none⟩, []⟩])
                   .skip))))))))))))))
     (.seq (.run [6] [⟨some 88, (.ld true 4), [.tmp 4], none⟩,
        ⟨none, (.st 4), [.tmp 6, .tmp 88], none⟩])
      .ret))))⟩

theorem f55_ok : compF Go.Proofs.Try.prog 55 f55.body.hints = some f55 := by kernel_rfl


def f56 : AFun := ⟨20, 3, [],
  (.seq (.run [0, 2, 4] [⟨some 4, .box, [.tmp 1], none⟩])
   (.seq (.run [0, 2, 4, 10] [⟨some 6, .mv, [.tmp 0], none⟩,
      ⟨some 7, .nilck, [.tmp 6], none⟩,
      ⟨some 8, (.faddr 2), [.tmp 7], none⟩,
      ⟨some 9, (.ld false 1), [.tmp 8], none⟩,
      ⟨some 10, (.eqg false 6), [.tmp 9, .const (.int .i64 0)], none⟩])
    (.cond (.tmp 10)
     (.run [] [⟨some 11, .mv, [.tmp 0], none⟩,
       ⟨some 12, .mv, [.tmp 0], none⟩,
       ⟨some 13, (.faddr 1), [.tmp 4], none⟩,
       ⟨some 14, (.ld false 1), [.tmp 13], none⟩,
       ⟨some 15, .mv, [.tmp 2], none⟩,
       ⟨some 16, .nilck, [.tmp 11], none⟩,
       ⟨some 17, (.faddr 1), [.tmp 16], none⟩,
       ⟨none, (.st 1), [.tmp 17, .tmp 14], none⟩,
       ⟨some 18, .nilck, [.tmp 12], none⟩,
       ⟨some 19, (.faddr 2), [.tmp 18], none⟩,
       ⟨none, (.st 1), [.tmp 19, .tmp 15], none⟩])
     .skip)))⟩

theorem f56_ok : compF Go.Proofs.Try.prog 56 f56.body.hints = some f56 := by kernel_rfl


def f57 : AFun := ⟨18, 2, [.slot 4],
  (.seq (.run [0, 1] [⟨some 4, .mv, [.const (.bool false)], none⟩])
   (.seq (.run [4] [⟨some 5, .mv, [.tmp 0], none⟩,
      ⟨some 6, (.len 0), [.tmp 5], none⟩,
      ⟨some 7, .mv, [.tmp 1], none⟩,
      ⟨some 8, (.len 0), [.tmp 7], none⟩,
      ⟨some 9, (.bin .geq), [.tmp 6, .tmp 8], none⟩,
      ⟨some 10, .mv, [.tmp 9], none⟩,
      ⟨some 11, .mv, [.tmp 0], some (10, true)⟩,
      ⟨some 12, .mv, [.tmp 1], some (10, true)⟩,
      ⟨some 13, (.len 0), [.tmp 12], some (10, true)⟩,
      ⟨some 14, (.slc 0 false true), [.tmp 11, .tmp 13], some (10, true)⟩,
      ⟨some 15, .mv, [.tmp 1], some (10, true)⟩,
      ⟨some 16, (.eqg false 6), [.tmp 14, .tmp 15], some (10, true)⟩,
      ⟨some 17, .pick, [.tmp 10, .tmp 16, .const (.bool false)], none⟩,
      ⟨some 4, .mv, [.tmp 17], none⟩])
    .ret))⟩

theorem f57_ok : compF Go.Proofs.Try.prog 57 f57.body.hints = some f57 := by kernel_rfl


def f58 : AFun := ⟨13, 2, [.slot 4],
  (.seq (.run [0, 1] [⟨some 4, .mv, [.const (.string ⟨#[]⟩)], none⟩])
   (.seq (.seq (.run [0, 1, 7] [⟨some 5, .mv, [.tmp 0], none⟩,
       ⟨some 6, (.len 0), [.tmp 5], none⟩,
       ⟨some 7, (.eqg false 6), [.tmp 6, .const (.int .i64 16)], none⟩])
     (.cond (.tmp 7)
      (.seq (.run [4] [⟨some 8, .mv, [.tmp 0], none⟩,
         ⟨some 4, .mv, [.tmp 8], none⟩])
       .ret)
      .skip))
    (.seq (.run [4] [⟨some 9, .mv, [.tmp 0], none⟩,
       ⟨some 10, .mv, [.tmp 1], none⟩,
       ⟨some 11, (.call 39), [.tmp 10], none⟩,
       ⟨some 12, (.bin .add), [.tmp 9, .tmp 11], none⟩,
       ⟨some 4, .mv, [.tmp 12], none⟩])
     .ret)))⟩

theorem f58_ok : compF Go.Proofs.Try.prog 58 f58.body.hints = some f58 := by kernel_rfl


def f59 : AFun := ⟨8, 2, [.slot 4],
  (.seq (.run [0, 1] [⟨some 4, .mv, [.const (.int .i64 0)], none⟩])
   (.seq (.run [4] [⟨some 5, .mv, [.tmp 0], none⟩,
      ⟨some 6, .mv, [.tmp 1], none⟩,
      ⟨some 7, (.call 64), [.tmp 5, .tmp 6], none⟩,
      ⟨some 4, .mv, [.tmp 7], none⟩])
    .ret))⟩

theorem f59_ok : compF Go.Proofs.Try.prog 59 f59.body.hints = some f59 := by kernel_rfl


def f60 : AFun := ⟨30, 3, [.slot 6],
  (.seq (.run [0, 1, 2] [⟨some 6, .mv, [.const (.int .i64 0)], none⟩])
   (.seq (.seq (.run [0, 1, 7] [⟨some 8, .mv, [.tmp 2], none⟩,
       ⟨some 7, .mv, [.tmp 8], none⟩])
     (.block 0 (.loop [0, 1, 7] (.seq (.seq (.run [0, 1, 7, 13] [⟨some 9, .mv, [.tmp 7], none⟩,
           ⟨some 10, (.bin .add), [.tmp 9, .const (.int .i64 1)], none⟩,
           ⟨some 11, .mv, [.tmp 0], none⟩,
           ⟨some 12, (.len 0), [.tmp 11], none⟩,
           ⟨some 13, (.bin .lss), [.tmp 10, .tmp 12], none⟩])
         (.cond (.tmp 13)
          .skip
          (.exit 0)))
        (.seq (.block 1 (.seq (.run [0, 1, 7, 28] [⟨some 16, .mv, [.tmp 0], none⟩,
             ⟨some 17, .mv, [.tmp 7], none⟩,
             ⟨some 18, .ixs, [.tmp 16, .tmp 17], none⟩,
             ⟨some 19, .mv, [.tmp 1], none⟩,
             ⟨some 20, (.eqg false 6), [.tmp 18, .tmp 19], none⟩,
             ⟨some 21, .mv, [.tmp 20], none⟩,
             ⟨some 22, .mv, [.tmp 0], some (21, true)⟩,
             ⟨some 23, .mv, [.tmp 7], some (21, true)⟩,
             ⟨some 24, (.bin .add), [.tmp 23, .const (.int .i64 1)], some (21, true)⟩,
             ⟨some 25, .ixs, [.tmp 22, .tmp 24], some (21, true)⟩,
             ⟨some 26, .mv, [.tmp 1], some (21, true)⟩,
             ⟨some 27, (.eqg false 6), [.tmp 25, .tmp 26], some (21, true)⟩,
             ⟨some 28, .pick, [.tmp 21, .tmp 27, .const (.bool false)], none⟩])
           (.cond (.tmp 28)
            (.seq (.run [6] [⟨some 29, .mv, [.tmp 7], none⟩,
               ⟨some 6, .mv, [.tmp 29], none⟩])
             .ret)
            .skip)))
         (.run [0, 1, 7] [⟨some 14, .mv, [.tmp 7], none⟩,
           ⟨some 15, (.bin .add), [.tmp 14, .const (.int .i64 1)], none⟩,
           ⟨some 7, .mv, [.tmp 15], none⟩]))))))
    (.seq (.run [6] [⟨some 6, .mv, [.const (.int .i64 (-1))], none⟩])
     .ret)))⟩

theorem f60_ok : compF Go.Proofs.Try.prog 60 f60.body.hints = some f60 := by kernel_rfl


def f61 : AFun := ⟨132, 1, [.cell 2 (.ld true 5), .slot 3, .slot 4],
  (.seq (.run [0, 2] [⟨some 2, (.alloc [(.int .i64 0), (.int .i64 0), (.str []), (.str []), (.bool false)]), [], none⟩,
     ⟨some 3, .mv, [.const (.bool false)], none⟩,
     ⟨some 4, .mv, [.const (.bool false)], none⟩])
   (.seq (.run [0, 2, 5] [⟨some 10, (.build [(.int .i64 0), (.int .i64 0), (.str []), (.str []), (.bool false)] [(0, 1)]), [.const (.int .i64 (-1))], none⟩,
      ⟨some 5, (.alloc [(.int .i64 0), (.int .i64 0), (.str []), (.str []), (.bool false)]), [], none⟩,
      ⟨none, (.st 5), [.tmp 5, .tmp 10], none⟩])
    (.seq (.seq (.run [0, 2, 5, 13] [⟨some 11, .mv, [.tmp 0], none⟩,
        ⟨some 12, (.len 1), [.tmp 11], none⟩,
        ⟨some 13, (.eqg false 6), [.tmp 12, .const (.int .i64 0)], none⟩])
      (.cond (.tmp 13)
       (.seq (.run [2, 3, 4] [⟨some 14, (.ld true 5), [.tmp 5], none⟩,
          ⟨none, (.st 5), [.tmp 2, .tmp 14], none⟩,
          ⟨some 3, .mv, [.const (.bool false)], none⟩,
          ⟨some 4, .mv, [.const (.bool false)], none⟩])
        .ret)
       .skip))
     (.seq (.run [0, 2, 5, 6] [⟨some 15, .mv, [.tmp 0], none⟩,
        ⟨some 16, (.slc 1 true false), [.tmp 15, .const (.int .i64 1)], none⟩,
        ⟨some 6, .mv, [.tmp 16], none⟩])
      (.seq (.seq (.run [0, 2, 5, 6, 19] [⟨some 17, .mv, [.tmp 0], none⟩,
          ⟨some 18, (.iaddr 1), [.tmp 17, .const (.int .i64 0)], none⟩,
          ⟨some 19, (.ld false 1), [.tmp 18], none⟩])
        (.block 0 (.seq (.run [0, 2, 5, 6, 19, 26] [⟨some 27, (.eqg false 6), [.tmp 19, .const (.string ⟨#[105, 102]⟩)], none⟩,
            ⟨some 26, .mv, [.tmp 27], none⟩])
          (.cond (.tmp 26)
           (.run [2, 5, 6] [⟨some 28, (.faddr 0), [.tmp 5], none⟩,
             ⟨none, (.st 1), [.tmp 28, .const (.int .i64 2)], none⟩])
           (.seq (.run [0, 2, 5, 6, 19, 29] [⟨some 30, (.eqg false 6), [.tmp 19, .const (.string ⟨#[114, 97, 110, 103, 101]⟩)], none⟩,
              ⟨some 29, .mv, [.tmp 30], none⟩])
            (.cond (.tmp 29)
             (.run [2, 5, 6] [⟨some 31, (.faddr 0), [.tmp 5], none⟩,
               ⟨none, (.st 1), [.tmp 31, .const (.int .i64 3)], none⟩])
             (.seq (.run [0, 2, 5, 6, 19, 32] [⟨some 33, (.eqg false 6), [.tmp 19, .const (.string ⟨#[99, 97, 108, 108]⟩)], none⟩,
                ⟨some 32, .mv, [.tmp 33], none⟩])
              (.cond (.tmp 32)
               (.run [2, 5, 6] [⟨some 34, (.faddr 0), [.tmp 5], none⟩,
                 ⟨none, (.st 1), [.tmp 34, .const (.int .i64 4)], none⟩])
               (.seq (.run [0, 2, 5, 6, 19, 35] [⟨some 36, (.eqg false 6), [.tmp 19, .const (.string ⟨#[102, 108, 117, 115, 104]⟩)], none⟩,
                  ⟨some 35, .mv, [.tmp 36], none⟩])
                (.cond (.tmp 35)
                 (.run [2, 5, 6] [⟨some 37, (.faddr 0), [.tmp 5], none⟩,
                   ⟨none, (.st 1), [.tmp 37, .const (.int .i64 5)], none⟩])
                 (.seq (.run [0, 2, 5, 6, 19, 38] [⟨some 39, (.eqg false 6), [.tmp 19, .const (.string ⟨#[100, 101, 102, 105, 110, 101]⟩)], none⟩,
                    ⟨some 38, .mv, [.tmp 39], none⟩])
                  (.cond (.tmp 38)
                   (.run [2, 5, 6] [⟨some 40, (.faddr 0), [.tmp 5], none⟩,
                     ⟨none, (.st 1), [.tmp 40, .const (.int .i64 6)], none⟩])
                   (.seq (.run [0, 2, 5, 6, 19, 41] [⟨some 42, (.eqg false 6), [.tmp 19, .const (.string ⟨#[101, 108, 115, 101]⟩)], none⟩,
                      ⟨some 41, .mv, [.tmp 42], none⟩])
                    (.cond (.tmp 41)
                     (.run [2, 5, 6] [⟨some 43, (.faddr 0), [.tmp 5], none⟩,
                       ⟨none, (.st 1), [.tmp 43, .const (.int .i64 7)], none⟩])
                     (.seq (.run [0, 2, 5, 6, 44] [⟨some 45, (.eqg false 6), [.tmp 19, .const (.string ⟨#[101, 110, 100]⟩)], none⟩,
                        ⟨some 44, .mv, [.tmp 45], none⟩])
                      (.cond (.tmp 44)
                       (.run [2, 5, 6] [⟨some 46, (.faddr 0), [.tmp 5], none⟩,
                         ⟨none, (.st 1), [.tmp 46, .const (.int .i64 8)], none⟩])
                       (.seq (.run [0, 2, 5, 6, 23] [⟨some 20, .mv, [.tmp 0], none⟩,
                          ⟨some 21, (.iaddr 1), [.tmp 20, .const (.int .i64 0)], none⟩,
                          ⟨some 22, (.ld false 1), [.tmp 21], none⟩,
                          ⟨some 23, (.call 65), [.tmp 22], none⟩])
                        (.cond (.tmp 23)
                         (.seq (.run [0, 2, 5] [⟨some 24, (.faddr 0), [.tmp 5], none⟩,
                            ⟨none, (.st 1), [.tmp 24, .const (.int .i64 1)], none⟩])
                          (.run [2, 5, 6] [⟨some 25, .mv, [.tmp 0], none⟩,
                            ⟨some 6, .mv, [.tmp 25], none⟩]))
                         .skip))))))))))))))))))
       (.seq (.run [2, 5, 6, 7] [⟨some 7, .mv, [.const (.bool true)], none⟩])
        (.seq (.seq (.run [2, 5, 6, 7, 54] [⟨some 47, (.faddr 0), [.tmp 5], none⟩,
            ⟨some 48, (.ld false 1), [.tmp 47], none⟩,
            ⟨some 49, (.eqg false 6), [.tmp 48, .const (.int .i64 4)], none⟩,
            ⟨some 50, .mv, [.tmp 49], none⟩,
            ⟨some 51, (.faddr 0), [.tmp 5], some (50, false)⟩,
            ⟨some 52, (.ld false 1), [.tmp 51], some (50, false)⟩,
            ⟨some 53, (.eqg false 6), [.tmp 52, .const (.int .i64 6)], some (50, false)⟩,
            ⟨some 54, .pick, [.tmp 50, .const (.bool true), .tmp 53], none⟩])
          (.cond (.tmp 54)
           (.seq (.seq (.run [2, 5, 6, 63] [⟨some 55, .mv, [.tmp 6], none⟩,
               ⟨some 56, (.len 1), [.tmp 55], none⟩,
               ⟨some 57, (.eqg false 6), [.tmp 56, .const (.int .i64 0)], none⟩,
               ⟨some 58, .mv, [.tmp 57], none⟩,
               ⟨some 59, .mv, [.tmp 6], some (58, false)⟩,
               ⟨some 60, (.iaddr 1), [.tmp 59, .const (.int .i64 0)], some (58, false)⟩,
               ⟨some 61, (.ld false 1), [.tmp 60], some (58, false)⟩,
               ⟨some 62, (.call 65), [.tmp 61], some (58, false)⟩,
               ⟨some 63, .pick, [.tmp 58, .const (.bool true), .tmp 62], none⟩])
             (.cond (.tmp 63)
              (.seq (.run [2, 3, 4] [⟨some 64, (.ld true 5), [.tmp 5], none⟩,
                 ⟨none, (.st 5), [.tmp 2, .tmp 64], none⟩,
                 ⟨some 3, .mv, [.const (.bool false)], none⟩,
                 ⟨some 4, .mv, [.const (.bool false)], none⟩])
               .ret)
              .skip))
            (.seq (.run [2, 5, 6] [⟨some 65, .mv, [.tmp 6], none⟩,
               ⟨some 66, (.iaddr 1), [.tmp 65, .const (.int .i64 0)], none⟩,
               ⟨some 67, (.ld false 1), [.tmp 66], none⟩,
               ⟨some 68, (.faddr 2), [.tmp 5], none⟩,
               ⟨none, (.st 1), [.tmp 68, .tmp 67], none⟩])
             (.seq (.run [2, 5, 6, 7] [⟨some 69, (.faddr 2), [.tmp 5], none⟩,
                ⟨some 70, (.ld false 1), [.tmp 69], none⟩,
                ⟨some 71, (.call 66), [.tmp 70], none⟩,
                ⟨some 7, .mv, [.tmp 71], none⟩])
              (.run [2, 5, 6, 7] [⟨some 72, .mv, [.tmp 6], none⟩,
                ⟨some 73, (.slc 1 true false), [.tmp 72, .const (.int .i64 1)], none⟩,
                ⟨some 6, .mv, [.tmp 73], none⟩]))))
           .skip))
         (.seq (.seq (.run [2, 5, 6, 7, 91] [⟨some 74, (.faddr 0), [.tmp 5], none⟩,
             ⟨some 75, (.ld false 1), [.tmp 74], none⟩,
             ⟨some 76, (.bin .geq), [.tmp 75, .const (.int .i64 1)], none⟩,
             ⟨some 77, .mv, [.tmp 76], none⟩,
             ⟨some 78, (.faddr 0), [.tmp 5], some (77, true)⟩,
             ⟨some 79, (.ld false 1), [.tmp 78], some (77, true)⟩,
             ⟨some 80, (.bin .leq), [.tmp 79, .const (.int .i64 3)], some (77, true)⟩,
             ⟨some 81, .pick, [.tmp 77, .tmp 80, .const (.bool false)], none⟩,
             ⟨some 82, .mv, [.tmp 81], none⟩,
             ⟨some 83, (.faddr 0), [.tmp 5], some (82, false)⟩,
             ⟨some 84, (.ld false 1), [.tmp 83], some (82, false)⟩,
             ⟨some 85, (.eqg false 6), [.tmp 84, .const (.int .i64 4)], some (82, false)⟩,
             ⟨some 86, .mv, [.tmp 85], some (82, false)⟩,
             ⟨some 87, .mv, [.tmp 6], some (86, true)⟩,
             ⟨some 88, (.len 1), [.tmp 87], some (86, true)⟩,
             ⟨some 89, (.bin .gtr), [.tmp 88, .const (.int .i64 0)], some (86, true)⟩,
             ⟨some 90, .pick, [.tmp 86, .tmp 89, .const (.bool false)], some (82, false)⟩,
             ⟨some 91, .pick, [.tmp 82, .const (.bool true), .tmp 90], none⟩])
           (.cond (.tmp 91)
            (.seq (.seq (.run [2, 5, 6, 7, 101] [⟨some 92, .mv, [.tmp 6], none⟩,
                ⟨some 93, (.len 1), [.tmp 92], none⟩,
                ⟨some 94, (.eqg false 6), [.tmp 93, .const (.int .i64 0)], none⟩,
                ⟨some 95, .mv, [.tmp 94], none⟩,
                ⟨some 96, .mv, [.tmp 6], some (95, false)⟩,
                ⟨some 97, (.iaddr 1), [.tmp 96, .const (.int .i64 0)], some (95, false)⟩,
                ⟨some 98, (.ld false 1), [.tmp 97], some (95, false)⟩,
                ⟨some 99, (.call 65), [.tmp 98], some (95, false)⟩,
                ⟨some 100, (.un .not), [.tmp 99], some (95, false)⟩,
                ⟨some 101, .pick, [.tmp 95, .const (.bool true), .tmp 100], none⟩])
              (.cond (.tmp 101)
               (.seq (.run [2, 3, 4] [⟨some 102, (.ld true 5), [.tmp 5], none⟩,
                  ⟨none, (.st 5), [.tmp 2, .tmp 102], none⟩,
                  ⟨some 3, .mv, [.const (.bool false)], none⟩,
                  ⟨some 4, .mv, [.const (.bool false)], none⟩])
                .ret)
               .skip))
             (.seq (.run [2, 5, 6, 7] [⟨some 103, .mv, [.tmp 6], none⟩,
                ⟨some 104, (.iaddr 1), [.tmp 103, .const (.int .i64 0)], none⟩,
                ⟨some 105, (.ld false 1), [.tmp 104], none⟩,
                ⟨some 106, (.slc 0 true false), [.tmp 105, .const (.int .i64 1)], none⟩,
                ⟨some 107, (.faddr 3), [.tmp 5], none⟩,
                ⟨none, (.st 1), [.tmp 107, .tmp 106], none⟩])
              (.seq (.run [2, 5, 6, 7] [⟨some 108, (.faddr 4), [.tmp 5], none⟩,
                 ⟨none, (.st 1), [.tmp 108, .const (.bool true)], none⟩])
               (.seq (.run [2, 5, 6, 7, 9] [⟨some 110, (.faddr 3), [.tmp 5], none⟩,
                  ⟨some 111, (.ld false 1), [.tmp 110], none⟩,
                  ⟨some 112, (.call 67), [.tmp 111], none⟩,
                  ⟨some 109, .mv, [.tmp 112], none⟩,
                  ⟨some 113, (.ext 0), [.tmp 109], none⟩,
                  ⟨some 114, (.ext 1), [.tmp 109], none⟩,
                  ⟨some 8, .mv, [.tmp 113], none⟩,
                  ⟨some 9, .mv, [.tmp 114], none⟩])
                (.seq (.run [2, 5, 6, 7] [⟨some 115, .mv, [.tmp 7], none⟩,
                   ⟨some 116, .mv, [.tmp 115], none⟩,
                   ⟨some 117, .mv, [.tmp 9], some (116, true)⟩,
                   ⟨some 118, (.eqg false 6), [.tmp 117, .const (.int .i64 0)], some (116, true)⟩,
                   ⟨some 119, .pick, [.tmp 116, .tmp 118, .const (.bool false)], none⟩,
                   ⟨some 7, .mv, [.tmp 119], none⟩])
                 (.run [2, 5, 6, 7] [⟨some 120, .mv, [.tmp 6], none⟩,
                   ⟨some 121, (.slc 1 true false), [.tmp 120, .const (.int .i64 1)], none⟩,
                   ⟨some 6, .mv, [.tmp 121], none⟩]))))))
            .skip))
          (.seq (.run [2, 3, 4] [⟨some 122, (.ld true 5), [.tmp 5], none⟩,
             ⟨some 123, (.faddr 0), [.tmp 5], none⟩,
             ⟨some 124, (.ld false 1), [.tmp 123], none⟩,
             ⟨some 125, (.bin .geq), [.tmp 124, .const (.int .i64 0)], none⟩,
             ⟨some 126, .mv, [.tmp 125], none⟩,
             ⟨some 127, .mv, [.tmp 6], some (126, true)⟩,
             ⟨some 128, (.len 1), [.tmp 127], some (126, true)⟩,
             ⟨some 129, (.eqg false 6), [.tmp 128, .const (.int .i64 0)], some (126, true)⟩,
             ⟨some 130, .pick, [.tmp 126, .tmp 129, .const (.bool false)], none⟩,
             ⟨some 131, .mv, [.tmp 7], none⟩,
             ⟨none, (.st 5), [.tmp 2, .tmp 122], none⟩,
             ⟨some 3, .mv, [.tmp 130], none⟩,
             ⟨some 4, .mv, [.tmp 131], none⟩])
           .ret)))))))))⟩

theorem f61_ok : compF Go.Proofs.Try.prog 61 f61.body.hints = some f61 := by kernel_rfl


def f62 : AFun := ⟨35, 1, [.slot 2],
  (.seq (.run [0] [⟨some 2, .mv, [.const (.slice none 0 0)], none⟩])
   (.seq (.run [0, 3] [⟨some 3, .mv, [.const (.slice none 0 0)], none⟩])
    (.seq (.run [0, 3, 4] [⟨some 4, .mv, [.const (.int .i64 0)], none⟩])
     (.seq (.seq (.run [0, 3, 4, 5] [⟨some 5, .mv, [.const (.int .i64 0)], none⟩])
       (.block 0 (.loop [0, 3, 4, 5] (.seq (.seq (.run [0, 3, 4, 5, 9] [⟨some 6, .mv, [.tmp 5], none⟩,
             ⟨some 7, .mv, [.tmp 0], none⟩,
             ⟨some 8, (.len 0), [.tmp 7], none⟩,
             ⟨some 9, (.bin .leq), [.tmp 6, .tmp 8], none⟩])
           (.cond (.tmp 9)
            .skip
            (.exit 0)))
          (.seq (.block 1 (.seq (.run [0, 3, 4, 5, 21] [⟨some 12, .mv, [.tmp 5], none⟩,
               ⟨some 13, .mv, [.tmp 0], none⟩,
               ⟨some 14, (.len 0), [.tmp 13], none⟩,
               ⟨some 15, (.eqg false 6), [.tmp 12, .tmp 14], none⟩,
               ⟨some 16, .mv, [.tmp 15], none⟩,
               ⟨some 17, .mv, [.tmp 0], some (16, false)⟩,
               ⟨some 18, .mv, [.tmp 5], some (16, false)⟩,
               ⟨some 19, .ixs, [.tmp 17, .tmp 18], some (16, false)⟩,
               ⟨some 20, (.eqg false 6), [.tmp 19, .const (.int .u8 32)], some (16, false)⟩,
               ⟨some 21, .pick, [.tmp 16, .const (.bool true), .tmp 20], none⟩])
             (.cond (.tmp 21)
              (.seq (.seq (.run [0, 3, 4, 5, 24] [⟨some 22, .mv, [.tmp 5], none⟩,
                  ⟨some 23, .mv, [.tmp 4], none⟩,
                  ⟨some 24, (.bin .gtr), [.tmp 22, .tmp 23], none⟩])
                (.cond (.tmp 24)
                 (.run [0, 3, 5] [⟨some 25, .mv, [.tmp 3], none⟩,
                   ⟨some 26, .mv, [.tmp 0], none⟩,
                   ⟨some 27, .mv, [.tmp 4], none⟩,
                   ⟨some 28, .mv, [.tmp 5], none⟩,
                   ⟨some 29, (.slc 0 true true), [.tmp 26, .tmp 27, .tmp 28], none⟩,
                   ⟨some 30, (.bslice 1 1 [(.str [])] [(0, 1)]), [.tmp 29], none⟩,
                   ⟨some 31, (.app 1 16), [.tmp 25, .tmp 30], none⟩,
                   ⟨some 3, .mv, [.tmp 31], none⟩])
                 .skip))
               (.run [0, 3, 4, 5] [⟨some 32, .mv, [.tmp 5], none⟩,
                 ⟨some 33, (.bin .add), [.tmp 32, .const (.int .i64 1)], none⟩,
                 ⟨some 4, .mv, [.tmp 33], none⟩]))
              .skip)))
           (.run [0, 3, 4, 5] [⟨some 10, .mv, [.tmp 5], none⟩,
             ⟨some 11, (.bin .add), [.tmp 10, .const (.int .i64 1)], none⟩,
             ⟨some 5, .mv, [.tmp 11], none⟩]))))))
      (.seq (.run [2] [⟨some 34, .mv, [.tmp 3], none⟩,
         ⟨some 2, .mv, [.tmp 34], none⟩])
       .ret)))))⟩

theorem f62_ok : compF Go.Proofs.Try.prog 62 f62.body.hints = some f62 := by kernel_rfl


def f63 : AFun := ⟨165, 2, [.cell 4 (.ld true 8), .slot 5, .slot 6],
  (.seq (.run [0, 1, 4] [⟨some 4, (.alloc [(.int .i64 0), (.int .i64 0), (.str []), (.str []), (.bool false), (.bool false), (.sl [] .nil), (.sl [] .nil)]), [], none⟩,
     ⟨some 5, .mv, [.const (.int .i64 0)], none⟩,
     ⟨some 6, .mv, [.const (.int .i64 0)], none⟩])
   (.seq (.runD [0, 1, 4, 7] [⟨0, ⟨some 12, .mv, [.tmp 0], none⟩, []⟩,
      ⟨1, ⟨some 13, .nilck, [.tmp 12], none⟩, []⟩,
      ⟨2, ⟨some 14, (.faddr 0), [.tmp 13], none⟩, []⟩,
      ⟨3, ⟨some 15, (.ld false 1), [.tmp 14], none⟩, []⟩,
      ⟨4, ⟨some 16, .mv, [.tmp 0], none⟩, []⟩,
      ⟨5, ⟨some 17, .nilck, [.tmp 16], none⟩, []⟩,
      ⟨6, ⟨some 18, (.faddr 1), [.tmp 17], none⟩, []⟩,
      ⟨7, ⟨some 19, (.ld false 1), [.tmp 18], none⟩, []⟩,
      ⟨8, ⟨some 20, (.iaddr 5), [.tmp 15, .tmp 19], none⟩, []⟩,
      ⟨9, ⟨some 21, (.ld true 5), [.tmp 20], none⟩, []⟩,
      ⟨10, ⟨some 7, (.alloc [(.int .i64 0), (.int .i64 0), (.str []), (.str []), (.bool false)]), [], none⟩, [3, 7, 9]⟩,
      ⟨11, ⟨none, (.st 5), [.tmp 7, .tmp 21], none⟩, []⟩])
    (.seq (.seq (.run [0, 1, 4, 7, 37] [⟨some 22, (.faddr 0), [.tmp 7], none⟩,
        ⟨some 23, (.ld false 1), [.tmp 22], none⟩,
        ⟨some 24, (.eqg false 6), [.tmp 23, .const (.int .i64 6)], none⟩,
        ⟨some 25, .mv, [.tmp 24], none⟩,
        ⟨some 26, .mv, [.tmp 1], some (25, true)⟩,
        ⟨some 27, (.bin .gtr), [.tmp 26, .const (.int .i64 0)], some (25, true)⟩,
        ⟨some 28, .pick, [.tmp 25, .tmp 27, .const (.bool false)], none⟩,
        ⟨some 29, .mv, [.tmp 28], none⟩,
        ⟨some 30, (.faddr 0), [.tmp 7], some (29, false)⟩,
        ⟨some 31, (.ld false 1), [.tmp 30], some (29, false)⟩,
        ⟨some 32, (.call 68), [.tmp 31], some (29, false)⟩,
        ⟨some 33, .mv, [.tmp 32], some (29, false)⟩,
        ⟨some 34, .mv, [.tmp 1], some (33, true)⟩,
        ⟨some 35, (.bin .geq), [.tmp 34, .const (.int .i64 32)], some (33, true)⟩,
        ⟨some 36, .pick, [.tmp 33, .tmp 35, .const (.bool false)], some (29, false)⟩,
        ⟨some 37, .pick, [.tmp 29, .const (.bool true), .tmp 36], none⟩])
      (.cond (.tmp 37)
       (.seq (.runD [4, 5, 6] [⟨0, ⟨some 38, (.build [(.int .i64 0), (.int .i64 0), (.str []), (.str []), (.bool false), (.bool false), (.sl [] .nil), (.sl [] .nil)] []), [], none⟩, []⟩,
          ⟨1, ⟨some 39, (.faddr 1), [.tmp 7], none⟩, []⟩,
          ⟨2, ⟨some 40, (.ld false 1), [.tmp 39], none⟩, []⟩,
          ⟨3, ⟨none, (.st 8), [.tmp 4, .tmp 38], none⟩, [2]⟩,
          ⟨4, ⟨some 5, .mv, [.tmp 40], none⟩, []⟩,
          ⟨5, ⟨some 6, .mv, [.const (.int .i64 13)], none⟩, []⟩])
        .ret)
       .skip))
     (.seq (.seq (.run [0, 1, 4, 7, 45] [⟨some 41, .mv, [.tmp 0], none⟩,
         ⟨some 42, .nilck, [.tmp 41], none⟩,
         ⟨some 43, (.faddr 2), [.tmp 42], none⟩,
         ⟨some 44, (.ld false 1), [.tmp 43], none⟩,
         ⟨some 45, (.bin .geq), [.tmp 44, .const (.int .i64 4096)], none⟩])
       (.cond (.tmp 45)
        (.seq (.runD [4, 5, 6] [⟨0, ⟨some 46, (.build [(.int .i64 0), (.int .i64 0), (.str []), (.str []), (.bool false), (.bool false), (.sl [] .nil), (.sl [] .nil)] []), [], none⟩, []⟩,
           ⟨1, ⟨some 47, (.faddr 1), [.tmp 7], none⟩, []⟩,
           ⟨2, ⟨some 48, (.ld false 1), [.tmp 47], none⟩, []⟩,
           ⟨3, ⟨none, (.st 8), [.tmp 4, .tmp 46], none⟩, [2]⟩,
           ⟨4, ⟨some 5, .mv, [.tmp 48], none⟩, []⟩,
           ⟨5, ⟨some 6, .mv, [.const (.int .i64 14)], none⟩, []⟩])
         .ret)
        .skip))
      (.seq (.run [0, 1, 4, 7] [⟨some 49, .mv, [.tmp 0], none⟩,
         ⟨some 50, .nilck, [.tmp 49], none⟩,
         ⟨some 51, (.faddr 2), [.tmp 50], none⟩,
         ⟨some 52, (.ld false 1), [.tmp 51], none⟩,
         ⟨some 53, (.bin .add), [.tmp 52, .const (.int .i64 1)], none⟩,
         ⟨some 54, .nilck, [.tmp 49], none⟩,
         ⟨some 55, (.faddr 2), [.tmp 54], none⟩,
         ⟨none, (.st 1), [.tmp 55, .tmp 53], none⟩])
       (.seq (.run [0, 1, 4, 7] [⟨some 56, .mv, [.tmp 0], none⟩,
          ⟨some 57, .nilck, [.tmp 56], none⟩,
          ⟨some 58, (.faddr 1), [.tmp 57], none⟩,
          ⟨some 59, (.ld false 1), [.tmp 58], none⟩,
          ⟨some 60, (.bin .add), [.tmp 59, .const (.int .i64 1)], none⟩,
          ⟨some 61, .nilck, [.tmp 56], none⟩,
          ⟨some 62, (.faddr 1), [.tmp 61], none⟩,
          ⟨none, (.st 1), [.tmp 62, .tmp 60], none⟩])
        (.seq (.run [0, 1, 4, 7, 8] [⟨some 63, (.faddr 0), [.tmp 7], none⟩,
           ⟨some 64, (.ld false 1), [.tmp 63], none⟩,
           ⟨some 65, (.faddr 1), [.tmp 7], none⟩,
           ⟨some 66, (.ld false 1), [.tmp 65], none⟩,
           ⟨some 67, (.faddr 2), [.tmp 7], none⟩,
           ⟨some 68, (.ld false 1), [.tmp 67], none⟩,
           ⟨some 69, (.faddr 3), [.tmp 7], none⟩,
           ⟨some 70, (.ld false 1), [.tmp 69], none⟩,
           ⟨some 71, (.faddr 4), [.tmp 7], none⟩,
           ⟨some 72, (.ld false 1), [.tmp 71], none⟩,
           ⟨some 73, (.build [(.int .i64 0), (.int .i64 0), (.str []), (.str []), (.bool false), (.bool false), (.sl [] .nil), (.sl [] .nil)] [(0, 1), (1, 1), (2, 1), (3, 1), (4, 1)]), [.tmp 64, .tmp 66, .tmp 68, .tmp 70, .tmp 72], none⟩,
           ⟨some 8, (.alloc [(.int .i64 0), (.int .i64 0), (.str []), (.str []), (.bool false), (.bool false), (.sl [] .nil), (.sl [] .nil)]), [], none⟩,
           ⟨none, (.st 8), [.tmp 8, .tmp 73], none⟩])
         (.seq (.seq (.run [0, 1, 4, 7, 8, 77] [⟨some 74, (.faddr 0), [.tmp 7], none⟩,
             ⟨some 75, (.ld false 1), [.tmp 74], none⟩,
             ⟨some 76, (.call 68), [.tmp 75], none⟩,
             ⟨some 77, (.un .not), [.tmp 76], none⟩])
           (.cond (.tmp 77)
            (.seq (.run [4, 5, 6] [⟨some 78, (.ld true 8), [.tmp 8], none⟩,
               ⟨none, (.st 8), [.tmp 4, .tmp 78], none⟩,
               ⟨some 5, .mv, [.const (.int .i64 0)], none⟩,
               ⟨some 6, .mv, [.const (.int .i64 0)], none⟩])
             .ret)
            .skip))
          (.seq (.run [0, 1, 4, 7, 8, 9, 10, 11] [⟨some 80, .mv, [.tmp 0], none⟩,
             ⟨some 81, (.faddr 0), [.tmp 7], none⟩,
             ⟨some 82, (.ld false 1), [.tmp 81], none⟩,
             ⟨some 83, .mv, [.tmp 1], none⟩,
             ⟨some 84, (.bin .add), [.tmp 83, .const (.int .i64 1)], none⟩,
             ⟨some 85, (.call 54), [.tmp 80, .tmp 82, .const (.bool false), .tmp 84], none⟩,
             ⟨some 79, .mv, [.tmp 85], none⟩,
             ⟨some 86, (.ext 0), [.tmp 79], none⟩,
             ⟨some 87, (.ext 1), [.tmp 79], none⟩,
             ⟨some 88, (.ext 2), [.tmp 79], none⟩,
             ⟨some 9, .mv, [.tmp 86], none⟩,
             ⟨some 10, .mv, [.tmp 87], none⟩,
             ⟨some 11, .mv, [.tmp 88], none⟩])
           (.seq (.seq (.run [0, 1, 4, 7, 8, 9, 10, 11, 90] [⟨some 89, .mv, [.tmp 11], none⟩,
               ⟨some 90, (.eqg true 6), [.tmp 89, .const (.int .i64 0)], none⟩])
             (.cond (.tmp 90)
              (.seq (.run [4, 5, 6] [⟨some 91, (.build [(.int .i64 0), (.int .i64 0), (.str []), (.str []), (.bool false), (.bool false), (.sl [] .nil), (.sl [] .nil)] []), [], none⟩,
                 ⟨some 92, .mv, [.tmp 10], none⟩,
                 ⟨some 93, .mv, [.tmp 11], none⟩,
                 ⟨none, (.st 8), [.tmp 4, .tmp 91], none⟩,
                 ⟨some 5, .mv, [.tmp 92], none⟩,
                 ⟨some 6, .mv, [.tmp 93], none⟩])
               .ret)
              .skip))
            (.seq (.run [0, 1, 4, 7, 8] [⟨some 94, .mv, [.tmp 9], none⟩,
               ⟨some 95, (.faddr 6), [.tmp 8], none⟩,
               ⟨none, (.st 1), [.tmp 95, .tmp 94], none⟩])
             (.seq (.seq (.runD [0, 1, 4, 7, 8, 119] [⟨0, ⟨some 96, .mv, [.tmp 0], none⟩, []⟩,
                 ⟨1, ⟨some 97, .nilck, [.tmp 96], none⟩, []⟩,
                 ⟨2, ⟨some 98, (.faddr 1), [.tmp 97], none⟩, []⟩,
                 ⟨3, ⟨some 99, (.ld false 1), [.tmp 98], none⟩, []⟩,
                 ⟨4, ⟨some 100, .mv, [.tmp 0], none⟩, []⟩,
                 ⟨5, ⟨some 101, .nilck, [.tmp 100], none⟩, []⟩,
                 ⟨6, ⟨some 102, (.faddr 0), [.tmp 101], none⟩, []⟩,
                 ⟨7, ⟨some 103, (.ld false 1), [.tmp 102], none⟩, []⟩,
                 ⟨8, ⟨some 104, (.len 1), [.tmp 103], none⟩, []⟩,
                 ⟨9, ⟨some 105, (.bin .lss), [.tmp 99, .tmp 104], none⟩, []⟩,
                 ⟨10, ⟨some 106, .mv, [.tmp 105], none⟩, []⟩,
                 ⟨11, ⟨some 107, .mv, [.tmp 0], some (106, true)⟩, []⟩,
                 ⟨12, ⟨some 108, .nilck, [.tmp 107], some (106, true)⟩, []⟩,
                 ⟨13, ⟨some 109, (.faddr 0), [.tmp 108], some (106, true)⟩, []⟩,
                 ⟨14, ⟨some 110, (.ld false 1), [.tmp 109], some (106, true)⟩, []⟩,
                 ⟨15, ⟨some 111, .mv, [.tmp 0], some (106, true)⟩, []⟩,
                 ⟨16, ⟨some 112, .nilck, [.tmp 111], some (106, true)⟩, []⟩,
                 ⟨17, ⟨some 113, (.faddr 1), [.tmp 112], some (106, true)⟩, []⟩,
                 ⟨18, ⟨some 114, (.ld false 1), [.tmp 113], some (106, true)⟩, []⟩,
                 ⟨19, ⟨some 115, (.iaddr 5), [.tmp 110, .tmp 114], some (106, true)⟩, []⟩,
                 ⟨20, ⟨some 116, (.faddr 0), [.tmp 115], some (106, true)⟩, []⟩,
                 ⟨21, ⟨some 117, (.ld false 1), [.tmp 116], some (106, true)⟩, []⟩,
                 ⟨22, ⟨some 118, (.eqg false 6), [.tmp 117, .const (.int .i64 7)], some (106, true)⟩, []⟩,
                 ⟨23, ⟨some 119, .pick, [.tmp 106, .tmp 118, .const (.bool false)], none⟩, []⟩])
               (.cond (.tmp 119)
                (.seq (.run [0, 1, 4, 7, 8] [⟨some 120, .mv, [.tmp 0], none⟩,
                   ⟨some 121, .nilck, [.tmp 120], none⟩,
                   ⟨some 122, (.faddr 1), [.tmp 121], none⟩,
                   ⟨some 123, (.ld false 1), [.tmp 122], none⟩,
                   ⟨some 124, (.bin .add), [.tmp 123, .const (.int .i64 1)], none⟩,
                   ⟨some 125, .nilck, [.tmp 120], none⟩,
                   ⟨some 126, (.faddr 1), [.tmp 125], none⟩,
                   ⟨none, (.st 1), [.tmp 126, .tmp 124], none⟩])
                 (.seq (.run [0, 1, 4, 7, 8] [⟨some 127, (.faddr 5), [.tmp 8], none⟩,
                    ⟨none, (.st 1), [.tmp 127, .const (.bool true)], none⟩])
                  (.seq (.run [0, 4, 7, 8, 10, 11] [⟨some 129, .mv, [.tmp 0], none⟩,
                     ⟨some 130, (.faddr 0), [.tmp 7], none⟩,
                     ⟨some 131, (.ld false 1), [.tmp 130], none⟩,
                     ⟨some 132, .mv, [.tmp 1], none⟩,
                     ⟨some 133, (.bin .add), [.tmp 132, .const (.int .i64 1)], none⟩,
                     ⟨some 134, (.call 54), [.tmp 129, .tmp 131, .const (.bool true), .tmp 133], none⟩,
                     ⟨some 128, .mv, [.tmp 134], none⟩,
                     ⟨some 135, (.ext 0), [.tmp 128], none⟩,
                     ⟨some 136, (.ext 1), [.tmp 128], none⟩,
                     ⟨some 137, (.ext 2), [.tmp 128], none⟩,
                     ⟨some 138, (.faddr 7), [.tmp 8], none⟩,
                     ⟨none, (.st 1), [.tmp 138, .tmp 135], none⟩,
                     ⟨some 10, .mv, [.tmp 136], none⟩,
                     ⟨some 11, .mv, [.tmp 137], none⟩])
                   (.seq (.run [0, 4, 7, 8, 10, 11, 140] [⟨some 139, .mv, [.tmp 11], none⟩,
                      ⟨some 140, (.eqg true 6), [.tmp 139, .const (.int .i64 0)], none⟩])
                    (.cond (.tmp 140)
                     (.seq (.run [4, 5, 6] [⟨some 141, (.build [(.int .i64 0), (.int .i64 0), (.str []), (.str []), (.bool false), (.bool false), (.sl [] .nil), (.sl [] .nil)] []), [], none⟩,
                        ⟨some 142, .mv, [.tmp 10], none⟩,
                        ⟨some 143, .mv, [.tmp 11], none⟩,
                        ⟨none, (.st 8), [.tmp 4, .tmp 141], none⟩,
                        ⟨some 5, .mv, [.tmp 142], none⟩,
                        ⟨some 6, .mv, [.tmp 143], none⟩])
                      .ret)
                     .skip)))))
                .skip))
              (.seq (.seq (.runD [0, 4, 7, 8, 153] [⟨0, ⟨some 144, .mv, [.tmp 0], none⟩, []⟩,
                  ⟨1, ⟨some 145, .nilck, [.tmp 144], none⟩, []⟩,
                  ⟨2, ⟨some 146, (.faddr 1), [.tmp 145], none⟩, []⟩,
                  ⟨3, ⟨some 147, (.ld false 1), [.tmp 146], none⟩, []⟩,
                  ⟨4, ⟨some 148, .mv, [.tmp 0], none⟩, []⟩,
                  ⟨5, ⟨some 149, .nilck, [.tmp 148], none⟩, []⟩,
                  ⟨6, ⟨some 150, (.faddr 0), [.tmp 149], none⟩, []⟩,
                  ⟨7, ⟨some 151, (.ld false 1), [.tmp 150], none⟩, []⟩,
                  ⟨8, ⟨some 152, (.len 1), [.tmp 151], none⟩, []⟩,
                  ⟨9, ⟨some 153, (.bin .geq), [.tmp 147, .tmp 152], none⟩, []⟩])
                (.cond (.tmp 153)
                 (.seq (.runD [4, 5, 6] [⟨0, ⟨some 154, (.build [(.int .i64 0), (.int .i64 0), (.str []), (.str []), (.bool false), (.bool false), (.sl [] .nil), (.sl [] .nil)] []), [], none⟩, []⟩,
                    ⟨1, ⟨some 155, (.faddr 1), [.tmp 7], none⟩, []⟩,
                    ⟨2, ⟨some 156, (.ld false 1), [.tmp 155], none⟩, []⟩,
                    ⟨3, ⟨none, (.st 8), [.tmp 4, .tmp 154], none⟩, [2]⟩,
                    ⟨4, ⟨some 5, .mv, [.tmp 156], none⟩, []⟩,
                    ⟨5, ⟨some 6, .mv, [.const (.int .i64 7)], none⟩, []⟩])
                  .ret)
                 .skip))
               (.seq (.run [4, 8] [⟨some 157, .mv, [.tmp 0], none⟩,
                  ⟨some 158, .nilck, [.tmp 157], none⟩,
                  ⟨some 159, (.faddr 1), [.tmp 158], none⟩,
                  ⟨some 160, (.ld false 1), [.tmp 159], none⟩,
                  ⟨some 161, (.bin .add), [.tmp 160, .const (.int .i64 1)], none⟩,
                  ⟨some 162, .nilck, [.tmp 157], none⟩,
                  ⟨some 163, (.faddr 1), [.tmp 162], none⟩,
                  ⟨none, (.st 1), [.tmp 163, .tmp 161], none⟩])
                (.seq (.run [4, 5, 6] [⟨some 164, (.ld true 8), [.tmp 8], none⟩,
                   ⟨none, (.st 8), [.tmp 4, .tmp 164], none⟩,
                   ⟨some 5, .mv, [.const (.int .i64 0)], none⟩,
                   ⟨some 6, .mv, [.const (.int .i64 0)], none⟩])
                 .ret)))))))))))))))⟩

theorem f63_ok : compF Go.Proofs.Try.prog 63 f63.body.hints = some f63 := by kernel_rfl


def f64 : AFun := ⟨8, 2, [.slot 4],
  (.seq (.run [0, 1] [⟨some 4, .mv, [.const (.int .i64 0)], none⟩])
   (.seq (.run [4] [⟨some 5, .mv, [.tmp 0], none⟩,
      ⟨some 6, .mv, [.tmp 1], none⟩,
      ⟨some 7, (.call 69), [.tmp 5, .tmp 6], none⟩,
      ⟨some 4, .mv, [.tmp 7], none⟩])
    .ret))⟩

theorem f64_ok : compF Go.Proofs.Try.prog 64 f64.body.hints = some f64 := by kernel_rfl


def f65 : AFun := ⟨6, 1, [.slot 2],
  (.seq (.run [0] [⟨some 2, .mv, [.const (.bool false)], none⟩])
   (.seq (.run [2] [⟨some 3, .mv, [.tmp 0], none⟩,
      ⟨some 4, .ixs, [.tmp 3, .const (.int .i64 0)], none⟩,
      ⟨some 5, (.eqg false 6), [.tmp 4, .const (.int .u8 46)], none⟩,
      ⟨some 2, .mv, [.tmp 5], none⟩])
    .ret))⟩

theorem f65_ok : compF Go.Proofs.Try.prog 65 f65.body.hints = some f65 := by kernel_rfl


def f66 : AFun := ⟨47, 1, [.slot 2],
  (.seq (.run [0] [⟨some 2, .mv, [.const (.bool false)], none⟩])
   (.seq (.seq (.run [0, 17] [⟨some 4, .mv, [.tmp 0], none⟩,
       ⟨some 5, (.len 0), [.tmp 4], none⟩,
       ⟨some 6, (.bin .lss), [.tmp 5, .const (.int .i64 1)], none⟩,
       ⟨some 7, .mv, [.tmp 6], none⟩,
       ⟨some 8, .mv, [.tmp 0], some (7, false)⟩,
       ⟨some 9, (.len 0), [.tmp 8], some (7, false)⟩,
       ⟨some 10, (.bin .gtr), [.tmp 9, .const (.int .i64 32)], some (7, false)⟩,
       ⟨some 11, .pick, [.tmp 7, .const (.bool true), .tmp 10], none⟩,
       ⟨some 12, .mv, [.tmp 11], none⟩,
       ⟨some 13, .mv, [.tmp 0], some (12, false)⟩,
       ⟨some 14, .ixs, [.tmp 13, .const (.int .i64 0)], some (12, false)⟩,
       ⟨some 15, (.call 70), [.tmp 14], some (12, false)⟩,
       ⟨some 16, (.un .not), [.tmp 15], some (12, false)⟩,
       ⟨some 17, .pick, [.tmp 12, .const (.bool true), .tmp 16], none⟩])
     (.cond (.tmp 17)
      (.seq (.run [2] [⟨some 2, .mv, [.const (.bool false)], none⟩])
       .ret)
      .skip))
    (.seq (.seq (.run [0, 3] [⟨some 3, .mv, [.const (.int .i64 0)], none⟩])
      (.block 0 (.loop [0, 3] (.seq (.seq (.run [0, 3, 21] [⟨some 18, .mv, [.tmp 3], none⟩,
            ⟨some 19, .mv, [.tmp 0], none⟩,
            ⟨some 20, (.len 0), [.tmp 19], none⟩,
            ⟨some 21, (.bin .lss), [.tmp 18, .tmp 20], none⟩])
          (.cond (.tmp 21)
           .skip
           (.exit 0)))
         (.seq (.block 1 (.seq (.run [0, 3, 46] [⟨some 24, .mv, [.tmp 0], none⟩,
              ⟨some 25, .mv, [.tmp 3], none⟩,
              ⟨some 26, .ixs, [.tmp 24, .tmp 25], none⟩,
              ⟨some 27, (.call 70), [.tmp 26], none⟩,
              ⟨some 28, (.un .not), [.tmp 27], none⟩,
              ⟨some 29, .mv, [.tmp 28], none⟩,
              ⟨some 30, .mv, [.tmp 0], some (29, true)⟩,
              ⟨some 31, .mv, [.tmp 3], some (29, true)⟩,
              ⟨some 32, .ixs, [.tmp 30, .tmp 31], some (29, true)⟩,
              ⟨some 33, (.bin .lss), [.tmp 32, .const (.int .u8 48)], some (29, true)⟩,
              ⟨some 34, .mv, [.tmp 33], some (29, true)⟩,
              ⟨some 35, .mv, [.tmp 0], some (34, false)⟩,
              ⟨some 36, .mv, [.tmp 3], some (34, false)⟩,
              ⟨some 37, .ixs, [.tmp 35, .tmp 36], some (34, false)⟩,
              ⟨some 38, (.bin .gtr), [.tmp 37, .const (.int .u8 57)], some (34, false)⟩,
              ⟨some 39, .pick, [.tmp 34, .const (.bool true), .tmp 38], some (29, true)⟩,
              ⟨some 40, .pick, [.tmp 29, .tmp 39, .const (.bool false)], none⟩,
              ⟨some 41, .mv, [.tmp 40], none⟩,
              ⟨some 42, .mv, [.tmp 0], some (41, true)⟩,
              ⟨some 43, .mv, [.tmp 3], some (41, true)⟩,
              ⟨some 44, .ixs, [.tmp 42, .tmp 43], some (41, true)⟩,
              ⟨some 45, (.eqg true 6), [.tmp 44, .const (.int .u8 95)], some (41, true)⟩,
              ⟨some 46, .pick, [.tmp 41, .tmp 45, .const (.bool false)], none⟩])
            (.cond (.tmp 46)
             (.seq (.run [2] [⟨some 2, .mv, [.const (.bool false)], none⟩])
              .ret)
             .skip)))
          (.run [0, 3] [⟨some 22, .mv, [.tmp 3], none⟩,
            ⟨some 23, (.bin .add), [.tmp 22, .const (.int .i64 1)], none⟩,
            ⟨some 3, .mv, [.tmp 23], none⟩]))))))
     (.seq (.run [2] [⟨some 2, .mv, [.const (.bool true)], none⟩])
      .ret))))⟩

theorem f66_ok : compF Go.Proofs.Try.prog 66 f66.body.hints = some f66 := by kernel_rfl


def f67 : AFun := ⟨46, 1, [.slot 2, .slot 3],
  (.seq (.run [0] [⟨some 2, .mv, [.const (.slice none 0 0)], none⟩,
     ⟨some 3, .mv, [.const (.int .i64 0)], none⟩])
   (.seq (.seq (.run [0, 8] [⟨some 7, .mv, [.tmp 0], none⟩,
       ⟨some 8, (.eqg false 6), [.tmp 7, .const (.string ⟨#[]⟩)], none⟩])
     (.cond (.tmp 8)
      (.seq (.run [2, 3] [⟨some 2, .mv, [.const (.slice none 0 0)], none⟩,
         ⟨some 3, .mv, [.const (.int .i64 0)], none⟩])
       .ret)
      .skip))
    (.seq (.run [0, 4] [⟨some 4, .mv, [.const (.slice none 0 0)], none⟩])
     (.seq (.run [0, 4, 5] [⟨some 5, .mv, [.const (.int .i64 0)], none⟩])
      (.seq (.seq (.run [0, 4, 5, 6] [⟨some 6, .mv, [.const (.int .i64 0)], none⟩])
        (.block 0 (.loop [0, 4, 5, 6] (.seq (.seq (.run [0, 4, 5, 6, 12] [⟨some 9, .mv, [.tmp 6], none⟩,
              ⟨some 10, .mv, [.tmp 0], none⟩,
              ⟨some 11, (.len 0), [.tmp 10], none⟩,
              ⟨some 12, (.bin .leq), [.tmp 9, .tmp 11], none⟩])
            (.cond (.tmp 12)
             .skip
             (.exit 0)))
           (.seq (.block 1 (.seq (.run [0, 4, 5, 6, 24] [⟨some 15, .mv, [.tmp 6], none⟩,
                ⟨some 16, .mv, [.tmp 0], none⟩,
                ⟨some 17, (.len 0), [.tmp 16], none⟩,
                ⟨some 18, (.eqg false 6), [.tmp 15, .tmp 17], none⟩,
                ⟨some 19, .mv, [.tmp 18], none⟩,
                ⟨some 20, .mv, [.tmp 0], some (19, false)⟩,
                ⟨some 21, .mv, [.tmp 6], some (19, false)⟩,
                ⟨some 22, .ixs, [.tmp 20, .tmp 21], some (19, false)⟩,
                ⟨some 23, (.eqg false 6), [.tmp 22, .const (.int .u8 46)], some (19, false)⟩,
                ⟨some 24, .pick, [.tmp 19, .const (.bool true), .tmp 23], none⟩])
              (.cond (.tmp 24)
               (.seq (.seq (.run [0, 4, 5, 6, 35] [⟨some 25, .mv, [.tmp 0], none⟩,
                   ⟨some 26, .mv, [.tmp 5], none⟩,
                   ⟨some 27, .mv, [.tmp 6], none⟩,
                   ⟨some 28, (.slc 0 true true), [.tmp 25, .tmp 26, .tmp 27], none⟩,
                   ⟨some 29, (.call 66), [.tmp 28], none⟩,
                   ⟨some 30, (.un .not), [.tmp 29], none⟩,
                   ⟨some 31, .mv, [.tmp 30], none⟩,
                   ⟨some 32, .mv, [.tmp 4], some (31, false)⟩,
                   ⟨some 33, (.len 1), [.tmp 32], some (31, false)⟩,
                   ⟨some 34, (.eqg false 6), [.tmp 33, .const (.int .i64 8)], some (31, false)⟩,
                   ⟨some 35, .pick, [.tmp 31, .const (.bool true), .tmp 34], none⟩])
                 (.cond (.tmp 35)
                  (.seq (.run [2, 3] [⟨some 2, .mv, [.const (.slice none 0 0)], none⟩,
                     ⟨some 3, .mv, [.const (.int .i64 11)], none⟩])
                   .ret)
                  .skip))
                (.seq (.run [0, 4, 6] [⟨some 36, .mv, [.tmp 4], none⟩,
                   ⟨some 37, .mv, [.tmp 0], none⟩,
                   ⟨some 38, .mv, [.tmp 5], none⟩,
                   ⟨some 39, .mv, [.tmp 6], none⟩,
                   ⟨some 40, (.slc 0 true true), [.tmp 37, .tmp 38, .tmp 39], none⟩,
                   ⟨some 41, (.bslice 1 1 [(.str [])] [(0, 1)]), [.tmp 40], none⟩,
                   ⟨some 42, (.app 1 16), [.tmp 36, .tmp 41], none⟩,
                   ⟨some 4, .mv, [.tmp 42], none⟩])
                 (.run [0, 4, 5, 6] [⟨some 43, .mv, [.tmp 6], none⟩,
                   ⟨some 44, (.bin .add), [.tmp 43, .const (.int .i64 1)], none⟩,
                   ⟨some 5, .mv, [.tmp 44], none⟩])))
               .skip)))
            (.run [0, 4, 5, 6] [⟨some 13, .mv, [.tmp 6], none⟩,
              ⟨some 14, (.bin .add), [.tmp 13, .const (.int .i64 1)], none⟩,
              ⟨some 6, .mv, [.tmp 14], none⟩]))))))
       (.seq (.run [2, 3] [⟨some 45, .mv, [.tmp 4], none⟩,
          ⟨some 2, .mv, [.tmp 45], none⟩,
          ⟨some 3, .mv, [.const (.int .i64 0)], none⟩])
        .ret))))))⟩

theorem f67_ok : compF Go.Proofs.Try.prog 67 f67.body.hints = some f67 := by kernel_rfl


def f68 : AFun := ⟨13, 1, [.slot 2],
  (.seq (.run [0] [⟨some 2, .mv, [.const (.bool false)], none⟩])
   (.seq (.run [2] [⟨some 3, .mv, [.tmp 0], none⟩,
      ⟨some 4, (.eqg false 6), [.tmp 3, .const (.int .i64 2)], none⟩,
      ⟨some 5, .mv, [.tmp 4], none⟩,
      ⟨some 6, .mv, [.tmp 0], some (5, false)⟩,
      ⟨some 7, (.eqg false 6), [.tmp 6, .const (.int .i64 3)], some (5, false)⟩,
      ⟨some 8, .pick, [.tmp 5, .const (.bool true), .tmp 7], none⟩,
      ⟨some 9, .mv, [.tmp 8], none⟩,
      ⟨some 10, .mv, [.tmp 0], some (9, false)⟩,
      ⟨some 11, (.eqg false 6), [.tmp 10, .const (.int .i64 6)], some (9, false)⟩,
      ⟨some 12, .pick, [.tmp 9, .const (.bool true), .tmp 11], none⟩,
      ⟨some 2, .mv, [.tmp 12], none⟩])
    .ret))⟩

theorem f68_ok : compF Go.Proofs.Try.prog 68 f68.body.hints = some f68 := by kernel_rfl


def f70 : AFun := ⟨17, 1, [.slot 2],
  (.seq (.run [0] [⟨some 2, .mv, [.const (.bool false)], none⟩])
   (.seq (.run [2] [⟨some 3, .mv, [.tmp 0], none⟩,
      ⟨some 4, (.bin .geq), [.tmp 3, .const (.int .u8 65)], none⟩,
      ⟨some 5, .mv, [.tmp 4], none⟩,
      ⟨some 6, .mv, [.tmp 0], some (5, true)⟩,
      ⟨some 7, (.bin .leq), [.tmp 6, .const (.int .u8 90)], some (5, true)⟩,
      ⟨some 8, .pick, [.tmp 5, .tmp 7, .const (.bool false)], none⟩,
      ⟨some 9, .mv, [.tmp 8], none⟩,
      ⟨some 10, .mv, [.tmp 0], some (9, false)⟩,
      ⟨some 11, (.bin .geq), [.tmp 10, .const (.int .u8 97)], some (9, false)⟩,
      ⟨some 12, .mv, [.tmp 11], some (9, false)⟩,
      ⟨some 13, .mv, [.tmp 0], some (12, true)⟩,
      ⟨some 14, (.bin .leq), [.tmp 13, .const (.int .u8 122)], some (12, true)⟩,
      ⟨some 15, .pick, [.tmp 12, .tmp 14, .const (.bool false)], some (9, false)⟩,
      ⟨some 16, .pick, [.tmp 9, .const (.bool true), .tmp 15], none⟩,
      ⟨some 2, .mv, [.tmp 16], none⟩])
    .ret))⟩

theorem f70_ok : compF Go.Proofs.Try.prog 70 f70.body.hints = some f70 := by kernel_rfl

end Go.AL.Fun
