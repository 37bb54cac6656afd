/- The functions of this seat's program, turned. Printed by a program; each is checked against the program. -/
import Derived.Test.YtjlmonghelbihaaA21
import Derived.Test.YtjlmonghelbihaaProg
import Derived.KernelRfl
namespace Go.AL.Fun
open Go.AL


def f3 : AFun := ⟨62, 1, [.slot 2],
  (.seq (.run [0] [⟨some 2, .mv, [.const (.bool false)], none⟩])
   (.seq (.seq (.run [0, 12] [⟨some 10, .mv, [.tmp 0], none⟩,
       ⟨some 11, (.len 0), [.tmp 10], none⟩,
       ⟨some 12, (.bin .gtr), [.tmp 11, .const (.int .i64 3000)], none⟩])
     (.cond (.tmp 12)
      (.seq (.run [2] [⟨some 13, (.call 11), [], none⟩,
         ⟨some 2, .mv, [.tmp 13], none⟩])
       .ret)
      .skip))
    (.seq (.run [0, 3] [⟨some 3, (.alloc [(.int .i64 0), (.str []), (.str []), (.str [])]), [], none⟩])
     (.seq (.run [0, 3, 4] [⟨some 4, (.alloc [(.int .i64 0), (.str []), (.str []), (.str [])]), [], none⟩])
      (.seq (.seq (.run [0, 3, 4, 15, 16] [⟨some 14, .mv, [.tmp 0], none⟩,
          ⟨some 15, (.len 0), [.tmp 14], none⟩,
          ⟨some 16, .mv, [.const (.int .i64 0)], none⟩])
        (.block 0 (.loop [0, 3, 4, 15, 16] (.seq (.run [0, 3, 4, 15, 16, 17] [⟨some 17, (.bin .lss), [.tmp 16, .tmp 15], none⟩])
           (.seq (.cond (.tmp 17)
             .skip
             (.exit 0))
            (.seq (.block 1 (.seq (.run [0, 3, 4, 5, 15, 16] [⟨some 18, .mv, [.tmp 16], none⟩,
                 ⟨some 5, .mv, [.tmp 18], none⟩])
               (.seq (.runD [0, 3, 4, 15, 16] [⟨0, ⟨some 19, (.ld true 4), [.tmp 3], none⟩, []⟩,
                  ⟨1, ⟨some 20, .mv, [.tmp 0], none⟩, []⟩,
                  ⟨2, ⟨some 21, .mv, [.tmp 5], none⟩, []⟩,
                  ⟨3, ⟨some 22, .ixs, [.tmp 20, .tmp 21], none⟩, []⟩,
                  ⟨5, ⟨some 24, (.ld true 4), [.tmp 4], none⟩, []⟩,
                  ⟨6, ⟨some 25, .mv, [.tmp 0], none⟩, []⟩,
                  ⟨7, ⟨some 26, .mv, [.tmp 5], none⟩, []⟩,
                  ⟨8, ⟨some 27, .ixs, [.tmp 25, .tmp 26], none⟩, []⟩,
                  ⟨4, ⟨some 23, (.call 12), [.tmp 19, .tmp 22], none⟩, [5]⟩,
                  ⟨9, ⟨some 28, (.call 13), [.tmp 24, .tmp 27], none⟩, []⟩,
                  ⟨10, ⟨none, (.st 4), [.tmp 3, .tmp 23], none⟩, []⟩,
                  ⟨11, ⟨none, (.st 4), [.tmp 4, .tmp 28], none⟩, []⟩])
                (.seq (.run [0, 3, 4, 6, 7, 15, 16] [⟨some 30, (.ld true 4), [.tmp 3], none⟩,
                   ⟨some 31, (.call 14), [.tmp 30], none⟩,
                   ⟨some 29, .mv, [.tmp 31], none⟩,
                   ⟨some 32, (.ext 0), [.tmp 29], none⟩,
                   ⟨some 33, (.ext 1), [.tmp 29], none⟩,
                   ⟨some 6, .mv, [.tmp 32], none⟩,
                   ⟨some 7, .mv, [.tmp 33], none⟩])
                 (.seq (.run [0, 3, 4, 6, 7, 8, 9, 15, 16] [⟨some 35, (.ld true 4), [.tmp 4], none⟩,
                    ⟨some 36, (.call 15), [.tmp 35], none⟩,
                    ⟨some 34, .mv, [.tmp 36], none⟩,
                    ⟨some 37, (.ext 0), [.tmp 34], none⟩,
                    ⟨some 38, (.ext 1), [.tmp 34], none⟩,
                    ⟨some 8, .mv, [.tmp 37], none⟩,
                    ⟨some 9, .mv, [.tmp 38], none⟩])
                  (.seq (.runD [0, 3, 4, 15, 16, 52] [⟨0, ⟨some 39, (.ld true 4), [.tmp 3], none⟩, []⟩,
                     ⟨2, ⟨some 41, (.ld true 4), [.tmp 4], none⟩, []⟩,
                     ⟨1, ⟨some 40, (.call 16), [.tmp 39], none⟩, [2]⟩,
                     ⟨3, ⟨some 42, (.eqs true [1, 2, 2, 2]), [.tmp 40, .tmp 41], none⟩, []⟩,
                     ⟨4, ⟨some 43, .mv, [.tmp 42], none⟩, []⟩,
                     ⟨5, ⟨some 44, .mv, [.tmp 6], some (43, false)⟩, []⟩,
                     ⟨6, ⟨some 45, .mv, [.tmp 8], some (43, false)⟩, []⟩,
                     ⟨7, ⟨some 46, (.eqg true 6), [.tmp 44, .tmp 45], some (43, false)⟩, []⟩,
                     ⟨8, ⟨some 47, .pick, [.tmp 43, .const (.bool true), .tmp 46], none⟩, []⟩,
                     ⟨9, ⟨some 48, .mv, [.tmp 47], none⟩, []⟩,
                     ⟨10, ⟨some 49, .mv, [.tmp 7], some (48, false)⟩, []⟩,
                     ⟨11, ⟨some 50, .mv, [.tmp 9], some (48, false)⟩, []⟩,
                     ⟨12, ⟨some 51, (.eqg true 0), [.tmp 49, .tmp 50], some (48, false)⟩, []⟩,
                     ⟨13, ⟨some 52, .pick, [.tmp 48, .const (.bool true), .tmp 51], none⟩, []⟩])
                   (.cond (.tmp 52)
                    (.seq (.run [2] [⟨some 2, .mv, [.const (.bool false)], none⟩])
                     .ret)
                    .skip)))))))
             (.run [0, 3, 4, 15, 16] [⟨some 53, (.bin .add), [.tmp 16, .const (.int .i64 1)], none⟩,
               ⟨some 16, .mv, [.tmp 53], none⟩])))))))
       (.seq (.runD [2] [⟨0, ⟨some 54, (.call 11), [], none⟩, []⟩,
          ⟨1, ⟨some 55, .mv, [.tmp 54], none⟩, []⟩,
          ⟨2, ⟨some 56, (.build [(.int .i64 0), (.str []), (.str []), (.str [])] []), [], some (55, true)⟩, []⟩,
          ⟨3, ⟨some 57, .mv, [.tmp 0], some (55, true)⟩, []⟩,
          ⟨5, ⟨some 59, (.ld true 4), [.tmp 3], some (55, true)⟩, []⟩,
          ⟨4, ⟨some 58, (.call 17), [.tmp 56, .tmp 57], some (55, true)⟩, [5]⟩,
          ⟨6, ⟨some 60, (.eqs false [1, 2, 2, 2]), [.tmp 58, .tmp 59], some (55, true)⟩, []⟩,
          ⟨7, ⟨some 61, .pick, [.tmp 55, .tmp 60, .const (.bool false)], none⟩, []⟩,
          ⟨8, ⟨some 2, .mv, [.tmp 61], none⟩, []⟩])
        .ret))))))⟩

theorem f3_ok : compF Go.Proofs.Try.prog 3 f3.body.hints = some f3 := by kernel_rfl


def f4 : AFun := ⟨27, 2, [.slot 4],
  (.seq (.run [0, 1] [⟨some 4, .mv, [.const (.bool false)], none⟩])
   (.seq (.seq (.run [0, 1, 11] [⟨some 6, .mv, [.tmp 0], none⟩,
       ⟨some 7, (.len 0), [.tmp 6], none⟩,
       ⟨some 8, .mv, [.tmp 1], none⟩,
       ⟨some 9, (.len 0), [.tmp 8], none⟩,
       ⟨some 10, (.bin .add), [.tmp 7, .tmp 9], none⟩,
       ⟨some 11, (.bin .gtr), [.tmp 10, .const (.int .i64 3000)], none⟩])
     (.cond (.tmp 11)
      (.seq (.run [4] [⟨some 12, (.call 11), [], none⟩,
         ⟨some 4, .mv, [.tmp 12], none⟩])
       .ret)
      .skip))
    (.seq (.run [0, 1, 5] [⟨some 5, (.alloc [(.int .i64 0), (.str []), (.str []), (.str [])]), [], none⟩])
     (.seq (.runD [4] [⟨0, ⟨some 13, (.call 11), [], none⟩, []⟩,
        ⟨1, ⟨some 14, .mv, [.tmp 13], none⟩, []⟩,
        ⟨2, ⟨some 15, (.ld true 4), [.tmp 5], some (14, true)⟩, []⟩,
        ⟨3, ⟨some 16, .mv, [.tmp 0], some (14, true)⟩, []⟩,
        ⟨5, ⟨some 18, .mv, [.tmp 1], some (14, true)⟩, []⟩,
        ⟨7, ⟨some 20, (.ld true 4), [.tmp 5], some (14, true)⟩, []⟩,
        ⟨8, ⟨some 21, .mv, [.tmp 0], some (14, true)⟩, []⟩,
        ⟨9, ⟨some 22, .mv, [.tmp 1], some (14, true)⟩, []⟩,
        ⟨10, ⟨some 23, (.bin .add), [.tmp 21, .tmp 22], some (14, true)⟩, []⟩,
        ⟨4, ⟨some 17, (.call 17), [.tmp 15, .tmp 16], some (14, true)⟩, [7]⟩,
        ⟨6, ⟨some 19, (.call 17), [.tmp 17, .tmp 18], some (14, true)⟩, [7]⟩,
        ⟨11, ⟨some 24, (.call 17), [.tmp 20, .tmp 23], some (14, true)⟩, []⟩,
        ⟨12, ⟨some 25, (.eqs false [1, 2, 2, 2]), [.tmp 19, .tmp 24], some (14, true)⟩, []⟩,
        ⟨13, ⟨some 26, .pick, [.tmp 14, .tmp 25, .const (.bool false)], none⟩, []⟩,
        ⟨14, ⟨some 4, .mv, [.tmp 26], none⟩, []⟩])
      .ret))))⟩

theorem f4_ok : compF Go.Proofs.Try.prog 4 f4.body.hints = some f4 := by kernel_rfl


def f5 : AFun := ⟨104, 2, [.slot 4],
  (.seq (.run [0, 1] [⟨some 4, .mv, [.const (.bool false)], none⟩])
   (.seq (.seq (.run [0, 1, 21] [⟨some 10, .mv, [.tmp 0], none⟩,
       ⟨some 11, (.len 0), [.tmp 10], none⟩,
       ⟨some 12, (.bin .gtr), [.tmp 11, .const (.int .i64 30)], none⟩,
       ⟨some 13, .mv, [.tmp 12], none⟩,
       ⟨some 14, .mv, [.tmp 1], some (13, false)⟩,
       ⟨some 15, (.len 0), [.tmp 14], some (13, false)⟩,
       ⟨some 16, (.bin .gtr), [.tmp 15, .const (.int .i64 1000)], some (13, false)⟩,
       ⟨some 17, .pick, [.tmp 13, .const (.bool true), .tmp 16], none⟩,
       ⟨some 18, .mv, [.tmp 17], none⟩,
       ⟨some 19, .mv, [.tmp 0], some (18, false)⟩,
       ⟨some 20, (.eqg false 6), [.tmp 19, .const (.string ⟨#[]⟩)], some (18, false)⟩,
       ⟨some 21, .pick, [.tmp 18, .const (.bool true), .tmp 20], none⟩])
     (.cond (.tmp 21)
      (.seq (.run [4] [⟨some 22, (.call 11), [], none⟩,
         ⟨some 4, .mv, [.tmp 22], none⟩])
       .ret)
      .skip))
    (.seq (.seq (.run [0, 1, 24, 25] [⟨some 23, .mv, [.tmp 0], none⟩,
        ⟨some 24, (.len 0), [.tmp 23], none⟩,
        ⟨some 25, .mv, [.const (.int .i64 0)], none⟩])
      (.block 0 (.loop [0, 1, 24, 25] (.seq (.run [0, 1, 24, 25, 26] [⟨some 26, (.bin .lss), [.tmp 25, .tmp 24], none⟩])
         (.seq (.cond (.tmp 26)
           .skip
           (.exit 0))
          (.seq (.block 1 (.seq (.run [0, 1, 5, 24, 25] [⟨some 27, .mv, [.tmp 25], none⟩,
               ⟨some 5, .mv, [.tmp 27], none⟩])
             (.seq (.run [0, 1, 24, 25, 37] [⟨some 28, .mv, [.tmp 0], none⟩,
                ⟨some 29, .mv, [.tmp 5], none⟩,
                ⟨some 30, .ixs, [.tmp 28, .tmp 29], none⟩,
                ⟨some 31, (.bin .lss), [.tmp 30, .const (.int .u8 97)], none⟩,
                ⟨some 32, .mv, [.tmp 31], none⟩,
                ⟨some 33, .mv, [.tmp 0], some (32, false)⟩,
                ⟨some 34, .mv, [.tmp 5], some (32, false)⟩,
                ⟨some 35, .ixs, [.tmp 33, .tmp 34], some (32, false)⟩,
                ⟨some 36, (.bin .gtr), [.tmp 35, .const (.int .u8 122)], some (32, false)⟩,
                ⟨some 37, .pick, [.tmp 32, .const (.bool true), .tmp 36], none⟩])
              (.cond (.tmp 37)
               (.seq (.run [4] [⟨some 38, (.call 11), [], none⟩,
                  ⟨some 4, .mv, [.tmp 38], none⟩])
                .ret)
               .skip))))
           (.run [0, 1, 24, 25] [⟨some 39, (.bin .add), [.tmp 25, .const (.int .i64 1)], none⟩,
             ⟨some 25, .mv, [.tmp 39], none⟩])))))))
     (.seq (.run [0, 1, 6] [⟨some 40, (.build [(.int .i64 0), (.str []), (.str []), (.str [])] []), [], none⟩,
        ⟨some 41, .mv, [.tmp 0], none⟩,
        ⟨some 42, (.bin .add), [.const (.string ⟨#[60]⟩), .tmp 41], none⟩,
        ⟨some 43, (.bin .add), [.tmp 42, .const (.string ⟨#[32, 105, 100, 61, 34, 120, 34, 62]⟩)], none⟩,
        ⟨some 44, (.call 17), [.tmp 40, .tmp 43], none⟩,
        ⟨some 6, (.alloc [(.int .i64 0), (.str []), (.str []), (.str [])]), [], none⟩,
        ⟨none, (.st 4), [.tmp 6, .tmp 44], none⟩])
      (.seq (.run [0, 1, 6, 7] [⟨some 45, (.build [(.int .i64 0), (.str []), (.str []), (.str [])] []), [], none⟩,
         ⟨some 7, (.alloc [(.int .i64 0), (.str []), (.str []), (.str [])]), [], none⟩,
         ⟨none, (.st 4), [.tmp 7, .tmp 45], none⟩])
       (.seq (.seq (.run [0, 1, 6, 7, 46] [⟨some 46, .mv, [.tmp 0], none⟩])
         (.block 2 (.seq (.run [0, 1, 6, 7, 46, 47] [⟨some 48, (.eqg false 6), [.tmp 46, .const (.string ⟨#[115, 99, 114, 105, 112, 116]⟩)], none⟩,
             ⟨some 47, .mv, [.tmp 48], none⟩])
           (.cond (.tmp 47)
            (.run [0, 1, 6, 7] [⟨some 49, (.faddr 0), [.tmp 7], none⟩,
              ⟨none, (.st 1), [.tmp 49, .const (.int .i64 16)], none⟩])
            (.seq (.run [0, 1, 6, 7, 50] [⟨some 51, (.eqg false 6), [.tmp 46, .const (.string ⟨#[115, 116, 121, 108, 101]⟩)], none⟩,
               ⟨some 50, .mv, [.tmp 51], none⟩])
             (.cond (.tmp 50)
              (.run [0, 1, 6, 7] [⟨some 52, (.faddr 0), [.tmp 7], none⟩,
                ⟨none, (.st 1), [.tmp 52, .const (.int .i64 19)], none⟩])
              .skip))))))
        (.seq (.seq (.run [0, 1, 6, 7, 55] [⟨some 53, (.ld true 4), [.tmp 6], none⟩,
            ⟨some 54, (.ld true 4), [.tmp 7], none⟩,
            ⟨some 55, (.eqs true [1, 2, 2, 2]), [.tmp 53, .tmp 54], none⟩])
          (.cond (.tmp 55)
           (.seq (.run [4] [⟨some 4, .mv, [.const (.bool false)], none⟩])
            .ret)
           .skip))
         (.seq (.seq (.run [0, 1, 6, 7, 57, 58] [⟨some 56, .mv, [.tmp 1], none⟩,
             ⟨some 57, (.len 0), [.tmp 56], none⟩,
             ⟨some 58, .mv, [.const (.int .i64 0)], none⟩])
           (.block 3 (.loop [0, 1, 6, 7, 57, 58] (.seq (.run [0, 1, 6, 7, 57, 58, 59] [⟨some 59, (.bin .lss), [.tmp 58, .tmp 57], none⟩])
              (.seq (.cond (.tmp 59)
                .skip
                (.exit 3))
               (.seq (.block 4 (.seq (.run [0, 1, 6, 7, 8, 57, 58] [⟨some 60, .mv, [.tmp 58], none⟩,
                    ⟨some 8, .mv, [.tmp 60], none⟩])
                  (.seq (.run [0, 1, 6, 7, 57, 58, 64] [⟨some 61, .mv, [.tmp 1], none⟩,
                     ⟨some 62, .mv, [.tmp 8], none⟩,
                     ⟨some 63, .ixs, [.tmp 61, .tmp 62], none⟩,
                     ⟨some 64, (.eqg false 6), [.tmp 63, .const (.int .u8 60)], none⟩])
                   (.cond (.tmp 64)
                    (.seq (.run [4] [⟨some 65, (.call 11), [], none⟩,
                       ⟨some 4, .mv, [.tmp 65], none⟩])
                     .ret)
                    .skip))))
                (.run [0, 1, 6, 7, 57, 58] [⟨some 66, (.bin .add), [.tmp 58, .const (.int .i64 1)], none⟩,
                  ⟨some 58, .mv, [.tmp 66], none⟩])))))))
          (.seq (.run [0, 6, 7, 9] [⟨some 67, (.ld true 4), [.tmp 6], none⟩,
             ⟨some 68, .mv, [.tmp 1], none⟩,
             ⟨some 69, (.call 17), [.tmp 67, .tmp 68], none⟩,
             ⟨some 9, (.alloc [(.int .i64 0), (.str []), (.str []), (.str [])]), [], none⟩,
             ⟨none, (.st 4), [.tmp 9, .tmp 69], none⟩])
           (.seq (.seq (.run [0, 6, 7, 9, 72] [⟨some 70, (.faddr 0), [.tmp 7], none⟩,
               ⟨some 71, (.ld false 1), [.tmp 70], none⟩,
               ⟨some 72, (.eqg false 6), [.tmp 71, .const (.int .i64 0)], none⟩])
             (.cond (.tmp 72)
              (.seq (.run [4] [⟨some 73, (.call 11), [], none⟩,
                 ⟨some 74, .mv, [.tmp 73], none⟩,
                 ⟨some 75, (.ld true 4), [.tmp 9], some (74, true)⟩,
                 ⟨some 76, (.ld true 4), [.tmp 6], some (74, true)⟩,
                 ⟨some 77, (.eqs false [1, 2, 2, 2]), [.tmp 75, .tmp 76], some (74, true)⟩,
                 ⟨some 78, .pick, [.tmp 74, .tmp 77, .const (.bool false)], none⟩,
                 ⟨some 4, .mv, [.tmp 78], none⟩])
               .ret)
              .skip))
            (.seq (.run [4] [⟨some 79, (.call 11), [], none⟩,
               ⟨some 80, .mv, [.tmp 79], none⟩,
               ⟨some 81, (.faddr 0), [.tmp 9], some (80, true)⟩,
               ⟨some 82, (.ld false 1), [.tmp 81], some (80, true)⟩,
               ⟨some 83, (.faddr 0), [.tmp 7], some (80, true)⟩,
               ⟨some 84, (.ld false 1), [.tmp 83], some (80, true)⟩,
               ⟨some 85, (.bin .geq), [.tmp 82, .tmp 84], some (80, true)⟩,
               ⟨some 86, .pick, [.tmp 80, .tmp 85, .const (.bool false)], none⟩,
               ⟨some 87, .mv, [.tmp 86], none⟩,
               ⟨some 88, (.faddr 0), [.tmp 9], some (87, true)⟩,
               ⟨some 89, (.ld false 1), [.tmp 88], some (87, true)⟩,
               ⟨some 90, (.faddr 0), [.tmp 7], some (87, true)⟩,
               ⟨some 91, (.ld false 1), [.tmp 90], some (87, true)⟩,
               ⟨some 92, (.bin .add), [.tmp 91, .const (.int .i64 2)], some (87, true)⟩,
               ⟨some 93, (.bin .leq), [.tmp 89, .tmp 92], some (87, true)⟩,
               ⟨some 94, .pick, [.tmp 87, .tmp 93, .const (.bool false)], none⟩,
               ⟨some 95, .mv, [.tmp 94], none⟩,
               ⟨some 96, (.ld true 4), [.tmp 9], some (95, true)⟩,
               ⟨some 97, .mv, [.tmp 0], some (95, true)⟩,
               ⟨some 98, (.bin .add), [.const (.string ⟨#[60, 47]⟩), .tmp 97], some (95, true)⟩,
               ⟨some 99, (.bin .add), [.tmp 98, .const (.string ⟨#[62]⟩)], some (95, true)⟩,
               ⟨some 100, (.call 17), [.tmp 96, .tmp 99], some (95, true)⟩,
               ⟨some 101, (.build [(.int .i64 0), (.str []), (.str []), (.str [])] []), [], some (95, true)⟩,
               ⟨some 102, (.eqs false [1, 2, 2, 2]), [.tmp 100, .tmp 101], some (95, true)⟩,
               ⟨some 103, .pick, [.tmp 95, .tmp 102, .const (.bool false)], none⟩,
               ⟨some 4, .mv, [.tmp 103], none⟩])
             .ret)))))))))))⟩

theorem f5_ok : compF Go.Proofs.Try.prog 5 f5.body.hints = some f5 := by kernel_rfl


def f6 : AFun := ⟨63, 1, [.slot 2],
  (.seq (.run [0] [⟨some 2, .mv, [.const (.bool false)], none⟩])
   (.seq (.seq (.run [0, 9] [⟨some 7, .mv, [.tmp 0], none⟩,
       ⟨some 8, (.len 0), [.tmp 7], none⟩,
       ⟨some 9, (.bin .gtr), [.tmp 8, .const (.int .i64 3000)], none⟩])
     (.cond (.tmp 9)
      (.seq (.run [2] [⟨some 10, (.call 11), [], none⟩,
         ⟨some 2, .mv, [.tmp 10], none⟩])
       .ret)
      .skip))
    (.seq (.run [3] [⟨some 11, (.build [(.int .i64 0), (.str []), (.str []), (.str [])] []), [], none⟩,
       ⟨some 12, .mv, [.tmp 0], none⟩,
       ⟨some 13, (.call 17), [.tmp 11, .tmp 12], none⟩,
       ⟨some 3, (.alloc [(.int .i64 0), (.str []), (.str []), (.str [])]), [], none⟩,
       ⟨none, (.st 4), [.tmp 3, .tmp 13], none⟩])
     (.seq (.seq (.run [3, 20, 21, 22] [⟨some 14, (.faddr 1), [.tmp 3], none⟩,
         ⟨some 15, (.ld false 1), [.tmp 14], none⟩,
         ⟨some 16, (.faddr 2), [.tmp 3], none⟩,
         ⟨some 17, (.ld false 1), [.tmp 16], none⟩,
         ⟨some 18, (.faddr 3), [.tmp 3], none⟩,
         ⟨some 19, (.ld false 1), [.tmp 18], none⟩,
         ⟨some 20, (.bslice 1 3 [(.str [])] [(0, 1), (1, 1), (2, 1)]), [.tmp 15, .tmp 17, .tmp 19], none⟩,
         ⟨some 21, (.len 1), [.tmp 20], none⟩,
         ⟨some 22, .mv, [.const (.int .i64 0)], none⟩])
       (.block 0 (.loop [3, 20, 21, 22] (.seq (.run [3, 20, 21, 22, 23] [⟨some 23, (.bin .lss), [.tmp 22, .tmp 21], none⟩])
          (.seq (.cond (.tmp 23)
            .skip
            (.exit 0))
           (.seq (.block 1 (.seq (.run [3, 5, 20, 21, 22] [⟨some 24, (.iaddr 1), [.tmp 20, .tmp 22], none⟩,
                ⟨some 25, (.ld false 1), [.tmp 24], none⟩,
                ⟨some 5, .mv, [.tmp 25], none⟩])
              (.seq (.seq (.run [3, 5, 20, 21, 22, 28] [⟨some 26, .mv, [.tmp 5], none⟩,
                  ⟨some 27, (.len 0), [.tmp 26], none⟩,
                  ⟨some 28, (.bin .gtr), [.tmp 27, .const (.int .i64 16)], none⟩])
                (.cond (.tmp 28)
                 (.seq (.run [2] [⟨some 2, .mv, [.const (.bool false)], none⟩])
                  .ret)
                 .skip))
               (.seq (.run [3, 5, 20, 21, 22, 30, 31] [⟨some 29, .mv, [.tmp 5], none⟩,
                  ⟨some 30, (.len 0), [.tmp 29], none⟩,
                  ⟨some 31, .mv, [.const (.int .i64 0)], none⟩])
                (.block 2 (.loop [3, 5, 20, 21, 22, 30, 31] (.seq (.run [3, 5, 20, 21, 22, 30, 31, 32] [⟨some 32, (.bin .lss), [.tmp 31, .tmp 30], none⟩])
                   (.seq (.cond (.tmp 32)
                     .skip
                     (.exit 2))
                    (.seq (.block 3 (.seq (.run [3, 5, 6, 20, 21, 22, 30, 31] [⟨some 33, .mv, [.tmp 31], none⟩,
                         ⟨some 6, .mv, [.tmp 33], none⟩])
                       (.seq (.run [3, 5, 20, 21, 22, 30, 31, 43] [⟨some 34, .mv, [.tmp 5], none⟩,
                          ⟨some 35, .mv, [.tmp 6], none⟩,
                          ⟨some 36, .ixs, [.tmp 34, .tmp 35], none⟩,
                          ⟨some 37, (.bin .geq), [.tmp 36, .const (.int .u8 65)], none⟩,
                          ⟨some 38, .mv, [.tmp 37], none⟩,
                          ⟨some 39, .mv, [.tmp 5], some (38, true)⟩,
                          ⟨some 40, .mv, [.tmp 6], some (38, true)⟩,
                          ⟨some 41, .ixs, [.tmp 39, .tmp 40], some (38, true)⟩,
                          ⟨some 42, (.bin .leq), [.tmp 41, .const (.int .u8 90)], some (38, true)⟩,
                          ⟨some 43, .pick, [.tmp 38, .tmp 42, .const (.bool false)], none⟩])
                        (.cond (.tmp 43)
                         (.seq (.run [2] [⟨some 2, .mv, [.const (.bool false)], none⟩])
                          .ret)
                         .skip))))
                     (.run [3, 5, 20, 21, 22, 30, 31] [⟨some 44, (.bin .add), [.tmp 31, .const (.int .i64 1)], none⟩,
                       ⟨some 31, .mv, [.tmp 44], none⟩]))))))))))
            (.run [3, 20, 21, 22] [⟨some 45, (.bin .add), [.tmp 22, .const (.int .i64 1)], none⟩,
              ⟨some 22, .mv, [.tmp 45], none⟩])))))))
      (.seq (.run [2] [⟨some 46, (.call 11), [], none⟩,
         ⟨some 47, .mv, [.tmp 46], none⟩,
         ⟨some 48, (.faddr 3), [.tmp 3], some (47, true)⟩,
         ⟨some 49, (.ld false 1), [.tmp 48], some (47, true)⟩,
         ⟨some 50, (.len 0), [.tmp 49], some (47, true)⟩,
         ⟨some 51, (.bin .leq), [.tmp 50, .const (.int .i64 7)], some (47, true)⟩,
         ⟨some 52, .pick, [.tmp 47, .tmp 51, .const (.bool false)], none⟩,
         ⟨some 53, .mv, [.tmp 52], none⟩,
         ⟨some 54, (.faddr 0), [.tmp 3], some (53, true)⟩,
         ⟨some 55, (.ld false 1), [.tmp 54], some (53, true)⟩,
         ⟨some 56, (.bin .geq), [.tmp 55, .const (.int .i64 0)], some (53, true)⟩,
         ⟨some 57, .pick, [.tmp 53, .tmp 56, .const (.bool false)], none⟩,
         ⟨some 58, .mv, [.tmp 57], none⟩,
         ⟨some 59, (.faddr 0), [.tmp 3], some (58, true)⟩,
         ⟨some 60, (.ld false 1), [.tmp 59], some (58, true)⟩,
         ⟨some 61, (.bin .leq), [.tmp 60, .const (.int .i64 21)], some (58, true)⟩,
         ⟨some 62, .pick, [.tmp 58, .tmp 61, .const (.bool false)], none⟩,
         ⟨some 2, .mv, [.tmp 62], none⟩])
       .ret)))))⟩

theorem f6_ok : compF Go.Proofs.Try.prog 6 f6.body.hints = some f6 := by kernel_rfl


def f11 : AFun := ⟨37, 0, [.slot 0],
  (.seq (.run [] [⟨some 0, .mv, [.const (.bool false)], none⟩])
   (.seq (.run [1] [⟨some 7, (.build [(.int .i64 0), (.str []), (.str []), (.str [])] []), [], none⟩,
      ⟨some 8, (.call 17), [.tmp 7, .const (.string ⟨#[60, 97, 32, 104, 114, 101, 102, 61, 34]⟩)], none⟩,
      ⟨some 1, (.alloc [(.int .i64 0), (.str []), (.str []), (.str [])]), [], none⟩,
      ⟨none, (.st 4), [.tmp 1, .tmp 8], none⟩])
    (.seq (.run [1, 2] [⟨some 9, (.build [(.int .i64 0), (.str []), (.str []), (.str [])] []), [], none⟩,
       ⟨some 10, (.call 17), [.tmp 9, .const (.string ⟨#[60, 115, 99, 114, 105, 112, 116, 62, 120, 32, 61, 32, 39, 121]⟩)], none⟩,
       ⟨some 2, (.alloc [(.int .i64 0), (.str []), (.str []), (.str [])]), [], none⟩,
       ⟨none, (.st 4), [.tmp 2, .tmp 10], none⟩])
     (.seq (.run [1, 2, 4] [⟨some 12, (.build [(.int .i64 0), (.str []), (.str []), (.str [])] []), [], none⟩,
        ⟨some 13, (.call 17), [.tmp 12, .const (.string ⟨#[97, 60]⟩)], none⟩,
        ⟨some 14, (.call 14), [.tmp 13], none⟩,
        ⟨some 11, .mv, [.tmp 14], none⟩,
        ⟨some 15, (.ext 0), [.tmp 11], none⟩,
        ⟨some 16, (.ext 1), [.tmp 11], none⟩,
        ⟨some 3, .mv, [.tmp 15], none⟩,
        ⟨some 4, .mv, [.tmp 16], none⟩])
      (.seq (.run [1, 2, 4, 6] [⟨some 18, (.ld true 4), [.tmp 2], none⟩,
         ⟨some 19, (.call 14), [.tmp 18], none⟩,
         ⟨some 17, .mv, [.tmp 19], none⟩,
         ⟨some 20, (.ext 0), [.tmp 17], none⟩,
         ⟨some 21, (.ext 1), [.tmp 17], none⟩,
         ⟨some 5, .mv, [.tmp 20], none⟩,
         ⟨some 6, .mv, [.tmp 21], none⟩])
       (.seq (.run [0] [⟨some 22, (.ld true 4), [.tmp 1], none⟩,
          ⟨some 23, (.build [(.int .i64 0), (.str []), (.str []), (.str [])] [(0, 1), (1, 1)]), [.const (.int .i64 9), .const (.string ⟨#[97]⟩)], none⟩,
          ⟨some 24, (.eqs false [1, 2, 2, 2]), [.tmp 22, .tmp 23], none⟩,
          ⟨some 25, .mv, [.tmp 24], none⟩,
          ⟨some 26, (.faddr 0), [.tmp 2], some (25, true)⟩,
          ⟨some 27, (.ld false 1), [.tmp 26], some (25, true)⟩,
          ⟨some 28, (.eqg false 6), [.tmp 27, .const (.int .i64 18)], some (25, true)⟩,
          ⟨some 29, .pick, [.tmp 25, .tmp 28, .const (.bool false)], none⟩,
          ⟨some 30, .mv, [.tmp 29], none⟩,
          ⟨some 31, .mv, [.tmp 4], some (30, true)⟩,
          ⟨some 32, (.un .not), [.tmp 31], some (30, true)⟩,
          ⟨some 33, .pick, [.tmp 30, .tmp 32, .const (.bool false)], none⟩,
          ⟨some 34, .mv, [.tmp 33], none⟩,
          ⟨some 35, .mv, [.tmp 6], some (34, true)⟩,
          ⟨some 36, .pick, [.tmp 34, .tmp 35, .const (.bool false)], none⟩,
          ⟨some 0, .mv, [.tmp 36], none⟩])
        .ret))))))⟩

theorem f11_ok : compF Go.Proofs.Try.prog 11 f11.body.hints = some f11 := by kernel_rfl


def f12 : AFun := ⟨41, 2, [.cell 4 (.ld true 4)],
  (.seq (.run [1, 2, 4] [⟨some 2, .box, [.tmp 0], none⟩,
     ⟨some 4, (.alloc [(.int .i64 0), (.str []), (.str []), (.str [])]), [], none⟩])
   (.seq (.seq (.run [1, 2, 4, 6] [⟨some 5, (.faddr 0), [.tmp 2], none⟩,
       ⟨some 6, (.ld false 1), [.tmp 5], none⟩])
     (.block 0 (.seq (.run [1, 2, 4, 6, 7] [⟨some 8, (.eqg false 6), [.tmp 6, .const (.int .i64 0)], none⟩,
         ⟨some 7, .mv, [.tmp 8], none⟩])
       (.cond (.tmp 7)
        (.seq (.run [4] [⟨some 9, (.ld true 4), [.tmp 2], none⟩,
           ⟨some 10, .mv, [.tmp 1], none⟩,
           ⟨some 11, (.call 26), [.tmp 9, .tmp 10], none⟩,
           ⟨none, (.st 4), [.tmp 4, .tmp 11], none⟩])
         .ret)
        (.seq (.run [1, 2, 4, 6, 12] [⟨some 13, (.eqg false 6), [.tmp 6, .const (.int .i64 13)], none⟩,
           ⟨some 12, .mv, [.tmp 13], none⟩])
         (.cond (.tmp 12)
          (.seq (.run [4] [⟨some 14, (.ld true 4), [.tmp 2], none⟩,
             ⟨some 15, .mv, [.tmp 1], none⟩,
             ⟨some 16, (.call 27), [.tmp 14, .tmp 15], none⟩,
             ⟨none, (.st 4), [.tmp 4, .tmp 16], none⟩])
           .ret)
          (.seq (.seq (.run [1, 2, 4, 6, 17] [⟨some 18, (.eqg false 6), [.tmp 6, .const (.int .i64 14)], none⟩,
              ⟨some 17, .mv, [.tmp 18], none⟩])
            (.cond (.tmp 17)
             .skip
             (.run [1, 2, 4, 6, 17] [⟨some 19, (.eqg false 6), [.tmp 6, .const (.int .i64 15)], none⟩,
               ⟨some 17, .mv, [.tmp 19], none⟩])))
           (.cond (.tmp 17)
            (.seq (.seq (.run [2, 4, 21] [⟨some 20, .mv, [.tmp 1], none⟩,
                ⟨some 21, (.eqg false 6), [.tmp 20, .const (.int .u8 62)], none⟩])
              (.cond (.tmp 21)
               (.seq (.run [4] [⟨some 22, (.build [(.int .i64 0), (.str []), (.str []), (.str [])] []), [], none⟩,
                  ⟨none, (.st 4), [.tmp 4, .tmp 22], none⟩])
                .ret)
               .skip))
             (.seq (.run [4] [⟨some 23, (.ld true 4), [.tmp 2], none⟩,
                ⟨none, (.st 4), [.tmp 4, .tmp 23], none⟩])
              .ret))
            (.seq (.seq (.run [1, 2, 4, 6, 24] [⟨some 25, (.eqg false 6), [.tmp 6, .const (.int .i64 16)], none⟩,
                ⟨some 24, .mv, [.tmp 25], none⟩])
              (.cond (.tmp 24)
               .skip
               (.seq (.run [1, 2, 4, 6, 24] [⟨some 26, (.eqg false 6), [.tmp 6, .const (.int .i64 17)], none⟩,
                  ⟨some 24, .mv, [.tmp 26], none⟩])
                (.cond (.tmp 24)
                 .skip
                 (.run [1, 2, 4, 6, 24] [⟨some 27, (.eqg false 6), [.tmp 6, .const (.int .i64 18)], none⟩,
                   ⟨some 24, .mv, [.tmp 27], none⟩])))))
             (.cond (.tmp 24)
              (.seq (.run [4] [⟨some 28, (.ld true 4), [.tmp 2], none⟩,
                 ⟨some 29, .mv, [.tmp 1], none⟩,
                 ⟨some 30, (.call 28), [.tmp 28, .const (.int .i64 16), .const (.string ⟨#[60, 47, 115, 99, 114, 105, 112, 116]⟩), .tmp 29], none⟩,
                 ⟨none, (.st 4), [.tmp 4, .tmp 30], none⟩])
               .ret)
              (.seq (.seq (.run [1, 2, 4, 6, 31] [⟨some 32, (.eqg false 6), [.tmp 6, .const (.int .i64 19)], none⟩,
                  ⟨some 31, .mv, [.tmp 32], none⟩])
                (.cond (.tmp 31)
                 .skip
                 (.seq (.run [1, 2, 4, 6, 31] [⟨some 33, (.eqg false 6), [.tmp 6, .const (.int .i64 20)], none⟩,
                    ⟨some 31, .mv, [.tmp 33], none⟩])
                  (.cond (.tmp 31)
                   .skip
                   (.run [1, 2, 4, 31] [⟨some 34, (.eqg false 6), [.tmp 6, .const (.int .i64 21)], none⟩,
                     ⟨some 31, .mv, [.tmp 34], none⟩])))))
               (.cond (.tmp 31)
                (.seq (.run [4] [⟨some 35, (.ld true 4), [.tmp 2], none⟩,
                   ⟨some 36, .mv, [.tmp 1], none⟩,
                   ⟨some 37, (.call 28), [.tmp 35, .const (.int .i64 19), .const (.string ⟨#[60, 47, 115, 116, 121, 108, 101]⟩), .tmp 36], none⟩,
                   ⟨none, (.st 4), [.tmp 4, .tmp 37], none⟩])
                 .ret)
                .skip))))))))))))
    (.seq (.run [4] [⟨some 38, (.ld true 4), [.tmp 2], none⟩,
       ⟨some 39, .mv, [.tmp 1], none⟩,
       ⟨some 40, (.call 29), [.tmp 38, .tmp 39], none⟩,
       ⟨none, (.st 4), [.tmp 4, .tmp 40], none⟩])
     .ret)))⟩

theorem f12_ok : compF Go.Proofs.Try.prog 12 f12.body.hints = some f12 := by kernel_rfl


def f13 : AFun := ⟨37, 2, [.cell 4 (.ld true 4)],
  (.seq (.run [1, 2, 4] [⟨some 2, .box, [.tmp 0], none⟩,
     ⟨some 4, (.alloc [(.int .i64 0), (.str []), (.str []), (.str [])]), [], none⟩])
   (.seq (.block 0 (.seq (.run [1, 2, 4, 5] [⟨some 6, (.faddr 0), [.tmp 2], none⟩,
        ⟨some 7, (.ld false 1), [.tmp 6], none⟩,
        ⟨some 8, (.eqg false 6), [.tmp 7, .const (.int .i64 0)], none⟩,
        ⟨some 5, .mv, [.tmp 8], none⟩])
      (.cond (.tmp 5)
       (.seq (.run [4] [⟨some 9, (.ld true 4), [.tmp 2], none⟩,
          ⟨some 10, .mv, [.tmp 1], none⟩,
          ⟨some 11, (.call 30), [.tmp 9, .tmp 10], none⟩,
          ⟨none, (.st 4), [.tmp 4, .tmp 11], none⟩])
        .ret)
       (.seq (.run [1, 2, 4, 12] [⟨some 13, (.faddr 0), [.tmp 2], none⟩,
          ⟨some 14, (.ld false 1), [.tmp 13], none⟩,
          ⟨some 15, (.bin .leq), [.tmp 14, .const (.int .i64 12)], none⟩,
          ⟨some 12, .mv, [.tmp 15], none⟩])
        (.cond (.tmp 12)
         (.seq (.run [4] [⟨some 16, (.ld true 4), [.tmp 2], none⟩,
            ⟨some 17, .mv, [.tmp 1], none⟩,
            ⟨some 18, (.call 31), [.tmp 16, .tmp 17], none⟩,
            ⟨none, (.st 4), [.tmp 4, .tmp 18], none⟩])
          .ret)
         (.seq (.run [1, 2, 4, 19] [⟨some 20, (.faddr 0), [.tmp 2], none⟩,
            ⟨some 21, (.ld false 1), [.tmp 20], none⟩,
            ⟨some 22, (.eqg false 6), [.tmp 21, .const (.int .i64 13)], none⟩,
            ⟨some 19, .mv, [.tmp 22], none⟩])
          (.cond (.tmp 19)
           (.seq (.run [4] [⟨some 23, (.ld true 4), [.tmp 2], none⟩,
              ⟨some 24, .mv, [.tmp 1], none⟩,
              ⟨some 25, (.call 32), [.tmp 23, .tmp 24], none⟩,
              ⟨none, (.st 4), [.tmp 4, .tmp 25], none⟩])
            .ret)
           (.seq (.run [1, 2, 4, 26] [⟨some 27, (.faddr 0), [.tmp 2], none⟩,
              ⟨some 28, (.ld false 1), [.tmp 27], none⟩,
              ⟨some 29, (.bin .leq), [.tmp 28, .const (.int .i64 15)], none⟩,
              ⟨some 26, .mv, [.tmp 29], none⟩])
            (.cond (.tmp 26)
             (.seq (.seq (.run [2, 4, 31] [⟨some 30, .mv, [.tmp 1], none⟩,
                 ⟨some 31, (.eqg false 6), [.tmp 30, .const (.int .u8 62)], none⟩])
               (.cond (.tmp 31)
                (.seq (.run [4] [⟨some 32, (.build [(.int .i64 0), (.str []), (.str []), (.str [])] []), [], none⟩,
                   ⟨none, (.st 4), [.tmp 4, .tmp 32], none⟩])
                 .ret)
                .skip))
              (.seq (.run [4] [⟨some 33, (.ld true 4), [.tmp 2], none⟩,
                 ⟨none, (.st 4), [.tmp 4, .tmp 33], none⟩])
               .ret))
             .skip)))))))))
    (.seq (.run [4] [⟨some 34, (.ld true 4), [.tmp 2], none⟩,
       ⟨some 35, .mv, [.tmp 1], none⟩,
       ⟨some 36, (.call 33), [.tmp 34, .tmp 35], none⟩,
       ⟨none, (.st 4), [.tmp 4, .tmp 36], none⟩])
     .ret)))⟩

theorem f13_ok : compF Go.Proofs.Try.prog 13 f13.body.hints = some f13 := by kernel_rfl


def f14 : AFun := ⟨23, 1, [.slot 2, .slot 3],
  (.seq (.run [1] [⟨some 1, .box, [.tmp 0], none⟩,
     ⟨some 2, .mv, [.const (.int .i64 0)], none⟩,
     ⟨some 3, .mv, [.const (.bool false)], none⟩])
   (.seq (.seq (.run [1, 6] [⟨some 4, (.faddr 3), [.tmp 1], none⟩,
       ⟨some 5, (.ld false 1), [.tmp 4], none⟩,
       ⟨some 6, (.eqg true 6), [.tmp 5, .const (.string ⟨#[]⟩)], none⟩])
     (.cond (.tmp 6)
      (.seq (.run [2, 3] [⟨some 2, .mv, [.const (.int .i64 0)], none⟩,
         ⟨some 3, .mv, [.const (.bool false)], none⟩])
       .ret)
      .skip))
    (.seq (.seq (.run [8] [⟨some 7, (.faddr 0), [.tmp 1], none⟩,
        ⟨some 8, (.ld false 1), [.tmp 7], none⟩])
      (.block 0 (.seq (.run [8, 9] [⟨some 10, (.eqg false 6), [.tmp 8, .const (.int .i64 0)], none⟩,
          ⟨some 9, .mv, [.tmp 10], none⟩])
        (.cond (.tmp 9)
         (.seq (.run [2, 3] [⟨some 2, .mv, [.const (.int .i64 0)], none⟩,
            ⟨some 3, .mv, [.const (.bool true)], none⟩])
          .ret)
         (.seq (.seq (.run [8, 11] [⟨some 12, (.eqg false 6), [.tmp 8, .const (.int .i64 7)], none⟩,
             ⟨some 11, .mv, [.tmp 12], none⟩])
           (.cond (.tmp 11)
            .skip
            (.run [8, 11] [⟨some 13, (.eqg false 6), [.tmp 8, .const (.int .i64 8)], none⟩,
              ⟨some 11, .mv, [.tmp 13], none⟩])))
          (.cond (.tmp 11)
           (.seq (.run [2, 3] [⟨some 2, .mv, [.const (.int .i64 1)], none⟩,
              ⟨some 3, .mv, [.const (.bool true)], none⟩])
            .ret)
           (.seq (.seq (.run [8, 14] [⟨some 15, (.eqg false 6), [.tmp 8, .const (.int .i64 9)], none⟩,
               ⟨some 14, .mv, [.tmp 15], none⟩])
             (.cond (.tmp 14)
              .skip
              (.run [8, 14] [⟨some 16, (.eqg false 6), [.tmp 8, .const (.int .i64 10)], none⟩,
                ⟨some 14, .mv, [.tmp 16], none⟩])))
            (.cond (.tmp 14)
             (.seq (.run [2, 3] [⟨some 2, .mv, [.const (.int .i64 2)], none⟩,
                ⟨some 3, .mv, [.const (.bool true)], none⟩])
              .ret)
             (.seq (.seq (.run [8, 17] [⟨some 18, (.eqg false 6), [.tmp 8, .const (.int .i64 17)], none⟩,
                 ⟨some 17, .mv, [.tmp 18], none⟩])
               (.cond (.tmp 17)
                .skip
                (.run [8, 17] [⟨some 19, (.eqg false 6), [.tmp 8, .const (.int .i64 18)], none⟩,
                  ⟨some 17, .mv, [.tmp 19], none⟩])))
              (.cond (.tmp 17)
               (.seq (.run [2, 3] [⟨some 2, .mv, [.const (.int .i64 3)], none⟩,
                  ⟨some 3, .mv, [.const (.bool true)], none⟩])
                .ret)
               (.seq (.seq (.run [8, 20] [⟨some 21, (.eqg false 6), [.tmp 8, .const (.int .i64 20)], none⟩,
                   ⟨some 20, .mv, [.tmp 21], none⟩])
                 (.cond (.tmp 20)
                  .skip
                  (.run [20] [⟨some 22, (.eqg false 6), [.tmp 8, .const (.int .i64 21)], none⟩,
                    ⟨some 20, .mv, [.tmp 22], none⟩])))
                (.cond (.tmp 20)
                 (.seq (.run [2, 3] [⟨some 2, .mv, [.const (.int .i64 4)], none⟩,
                    ⟨some 3, .mv, [.const (.bool true)], none⟩])
                  .ret)
                 .skip))))))))))))
     (.seq (.run [2, 3] [⟨some 2, .mv, [.const (.int .i64 0)], none⟩,
        ⟨some 3, .mv, [.const (.bool false)], none⟩])
      .ret))))⟩

theorem f14_ok : compF Go.Proofs.Try.prog 14 f14.body.hints = some f14 := by kernel_rfl


def f15 : AFun := ⟨23, 1, [.slot 2, .slot 3],
  (.seq (.run [1] [⟨some 1, .box, [.tmp 0], none⟩,
     ⟨some 2, .mv, [.const (.int .i64 0)], none⟩,
     ⟨some 3, .mv, [.const (.bool false)], none⟩])
   (.seq (.seq (.run [1, 6] [⟨some 4, (.faddr 3), [.tmp 1], none⟩,
       ⟨some 5, (.ld false 1), [.tmp 4], none⟩,
       ⟨some 6, (.eqg true 6), [.tmp 5, .const (.string ⟨#[]⟩)], none⟩])
     (.cond (.tmp 6)
      (.seq (.run [2, 3] [⟨some 2, .mv, [.const (.int .i64 0)], none⟩,
         ⟨some 3, .mv, [.const (.bool false)], none⟩])
       .ret)
      .skip))
    (.seq (.seq (.run [8] [⟨some 7, (.faddr 0), [.tmp 1], none⟩,
        ⟨some 8, (.ld false 1), [.tmp 7], none⟩])
      (.block 0 (.seq (.run [8, 9] [⟨some 10, (.eqg false 6), [.tmp 8, .const (.int .i64 0)], none⟩,
          ⟨some 9, .mv, [.tmp 10], none⟩])
        (.cond (.tmp 9)
         (.seq (.run [2, 3] [⟨some 2, .mv, [.const (.int .i64 0)], none⟩,
            ⟨some 3, .mv, [.const (.bool true)], none⟩])
          .ret)
         (.seq (.seq (.run [8, 11] [⟨some 12, (.eqg false 6), [.tmp 8, .const (.int .i64 7)], none⟩,
             ⟨some 11, .mv, [.tmp 12], none⟩])
           (.cond (.tmp 11)
            .skip
            (.run [8, 11] [⟨some 13, (.eqg false 6), [.tmp 8, .const (.int .i64 8)], none⟩,
              ⟨some 11, .mv, [.tmp 13], none⟩])))
          (.cond (.tmp 11)
           (.seq (.run [2, 3] [⟨some 2, .mv, [.const (.int .i64 1)], none⟩,
              ⟨some 3, .mv, [.const (.bool true)], none⟩])
            .ret)
           (.seq (.seq (.run [8, 14] [⟨some 15, (.eqg false 6), [.tmp 8, .const (.int .i64 9)], none⟩,
               ⟨some 14, .mv, [.tmp 15], none⟩])
             (.cond (.tmp 14)
              .skip
              (.run [8, 14] [⟨some 16, (.eqg false 6), [.tmp 8, .const (.int .i64 10)], none⟩,
                ⟨some 14, .mv, [.tmp 16], none⟩])))
            (.cond (.tmp 14)
             (.seq (.run [2, 3] [⟨some 2, .mv, [.const (.int .i64 2)], none⟩,
                ⟨some 3, .mv, [.const (.bool true)], none⟩])
              .ret)
             (.seq (.seq (.run [8, 17] [⟨some 18, (.eqg false 6), [.tmp 8, .const (.int .i64 17)], none⟩,
                 ⟨some 17, .mv, [.tmp 18], none⟩])
               (.cond (.tmp 17)
                .skip
                (.run [8, 17] [⟨some 19, (.eqg false 6), [.tmp 8, .const (.int .i64 18)], none⟩,
                  ⟨some 17, .mv, [.tmp 19], none⟩])))
              (.cond (.tmp 17)
               (.seq (.run [2, 3] [⟨some 2, .mv, [.const (.int .i64 3)], none⟩,
                  ⟨some 3, .mv, [.const (.bool true)], none⟩])
                .ret)
               (.seq (.seq (.run [8, 20] [⟨some 21, (.eqg false 6), [.tmp 8, .const (.int .i64 20)], none⟩,
                   ⟨some 20, .mv, [.tmp 21], none⟩])
                 (.cond (.tmp 20)
                  .skip
                  (.run [20] [⟨some 22, (.eqg false 6), [.tmp 8, .const (.int .i64 21)], none⟩,
                    ⟨some 20, .mv, [.tmp 22], none⟩])))
                (.cond (.tmp 20)
                 (.seq (.run [2, 3] [⟨some 2, .mv, [.const (.int .i64 4)], none⟩,
                    ⟨some 3, .mv, [.const (.bool true)], none⟩])
                  .ret)
                 .skip))))))))))))
     (.seq (.run [2, 3] [⟨some 2, .mv, [.const (.int .i64 0)], none⟩,
        ⟨some 3, .mv, [.const (.bool false)], none⟩])
      .ret))))⟩

theorem f15_ok : compF Go.Proofs.Try.prog 15 f15.body.hints = some f15 := by kernel_rfl


def f16 : AFun := ⟨12, 1, [.cell 2 (.ld true 4)],
  (.seq (.run [1, 2] [⟨some 1, .box, [.tmp 0], none⟩,
     ⟨some 2, (.alloc [(.int .i64 0), (.str []), (.str []), (.str [])]), [], none⟩])
   (.seq (.run [2] [⟨some 3, (.faddr 0), [.tmp 1], none⟩,
      ⟨some 4, (.ld false 1), [.tmp 3], none⟩,
      ⟨some 5, (.faddr 1), [.tmp 1], none⟩,
      ⟨some 6, (.ld false 1), [.tmp 5], none⟩,
      ⟨some 7, (.faddr 2), [.tmp 1], none⟩,
      ⟨some 8, (.ld false 1), [.tmp 7], none⟩,
      ⟨some 9, (.faddr 3), [.tmp 1], none⟩,
      ⟨some 10, (.ld false 1), [.tmp 9], none⟩,
      ⟨some 11, (.build [(.int .i64 0), (.str []), (.str []), (.str [])] [(0, 1), (1, 1), (2, 1), (3, 1)]), [.tmp 4, .tmp 6, .tmp 8, .tmp 10], none⟩,
      ⟨none, (.st 4), [.tmp 2, .tmp 11], none⟩])
    .ret))⟩

theorem f16_ok : compF Go.Proofs.Try.prog 16 f16.body.hints = some f16 := by kernel_rfl


def f17 : AFun := ⟨24, 2, [.cell 4 (.ld true 4)],
  (.seq (.run [1, 2, 4] [⟨some 2, .box, [.tmp 0], none⟩,
     ⟨some 4, (.alloc [(.int .i64 0), (.str []), (.str []), (.str [])]), [], none⟩])
   (.seq (.seq (.run [2, 4, 9, 10, 11] [⟨some 8, .mv, [.tmp 1], none⟩,
       ⟨some 9, .sb, [.tmp 8], none⟩,
       ⟨some 10, (.len 1), [.tmp 9], none⟩,
       ⟨some 11, .mv, [.const (.int .i64 0)], none⟩])
     (.block 0 (.loop [2, 4, 9, 10, 11] (.seq (.run [2, 4, 9, 10, 11, 12] [⟨some 12, (.bin .lss), [.tmp 11, .tmp 10], none⟩])
        (.seq (.cond (.tmp 12)
          .skip
          (.exit 0))
         (.seq (.block 1 (.seq (.run [2, 4, 6, 9, 10, 11] [⟨some 13, (.iaddr 1), [.tmp 9, .tmp 11], none⟩,
              ⟨some 14, (.ld false 1), [.tmp 13], none⟩,
              ⟨some 6, .mv, [.tmp 14], none⟩])
            (.seq (.run [2, 4, 7, 9, 10, 11] [⟨some 15, (.ld true 4), [.tmp 2], none⟩,
               ⟨some 16, .mv, [.tmp 6], none⟩,
               ⟨some 17, (.call 12), [.tmp 15, .tmp 16], none⟩,
               ⟨some 7, (.alloc [(.int .i64 0), (.str []), (.str []), (.str [])]), [], none⟩,
               ⟨none, (.st 4), [.tmp 7, .tmp 17], none⟩])
             (.seq (.run [2, 4, 7, 9, 10, 11, 20] [⟨some 18, (.ld true 4), [.tmp 7], none⟩,
                ⟨some 19, (.ld true 4), [.tmp 2], none⟩,
                ⟨some 20, (.eqs true [1, 2, 2, 2]), [.tmp 18, .tmp 19], none⟩])
              (.cond (.tmp 20)
               (.run [2, 4, 9, 10, 11] [⟨some 21, (.ld true 4), [.tmp 7], none⟩,
                 ⟨none, (.st 4), [.tmp 2, .tmp 21], none⟩])
               .skip)))))
          (.run [2, 4, 9, 10, 11] [⟨some 22, (.bin .add), [.tmp 11, .const (.int .i64 1)], none⟩,
            ⟨some 11, .mv, [.tmp 22], none⟩])))))))
    (.seq (.run [4] [⟨some 23, (.ld true 4), [.tmp 2], none⟩,
       ⟨none, (.st 4), [.tmp 4, .tmp 23], none⟩])
     .ret)))⟩

theorem f17_ok : compF Go.Proofs.Try.prog 17 f17.body.hints = some f17 := by kernel_rfl


def f26 : AFun := ⟨79, 2, [.cell 4 (.ld true 4)],
  (.seq (.run [1, 2, 4] [⟨some 2, .box, [.tmp 0], none⟩,
     ⟨some 4, (.alloc [(.int .i64 0), (.str []), (.str []), (.str [])]), [], none⟩])
   (.seq (.block 0 (.seq (.run [1, 2, 4, 5] [⟨some 6, (.faddr 3), [.tmp 2], none⟩,
        ⟨some 7, (.ld false 1), [.tmp 6], none⟩,
        ⟨some 8, (.eqg false 6), [.tmp 7, .const (.string ⟨#[60]⟩)], none⟩,
        ⟨some 9, .mv, [.tmp 8], none⟩,
        ⟨some 10, .mv, [.tmp 1], some (9, true)⟩,
        ⟨some 11, (.call 38), [.tmp 10], some (9, true)⟩,
        ⟨some 12, .pick, [.tmp 9, .tmp 11, .const (.bool false)], none⟩,
        ⟨some 5, .mv, [.tmp 12], none⟩])
      (.cond (.tmp 5)
       (.seq (.run [4] [⟨some 13, .mv, [.tmp 1], none⟩,
          ⟨some 14, (.call 39), [.tmp 13], none⟩,
          ⟨some 15, (.build [(.int .i64 0), (.str []), (.str []), (.str [])] [(0, 1), (1, 1)]), [.const (.int .i64 2), .tmp 14], none⟩,
          ⟨none, (.st 4), [.tmp 4, .tmp 15], none⟩])
        .ret)
       (.seq (.seq (.run [1, 2, 4, 16] [⟨some 17, (.faddr 3), [.tmp 2], none⟩,
           ⟨some 18, (.ld false 1), [.tmp 17], none⟩,
           ⟨some 19, (.eqg false 6), [.tmp 18, .const (.string ⟨#[60]⟩)], none⟩,
           ⟨some 20, .mv, [.tmp 19], none⟩,
           ⟨some 21, .mv, [.tmp 1], some (20, true)⟩,
           ⟨some 22, (.eqg false 6), [.tmp 21, .const (.int .u8 47)], some (20, true)⟩,
           ⟨some 23, .mv, [.tmp 22], some (20, true)⟩,
           ⟨some 24, .mv, [.tmp 1], some (23, false)⟩,
           ⟨some 25, (.eqg false 6), [.tmp 24, .const (.int .u8 33)], some (23, false)⟩,
           ⟨some 26, .pick, [.tmp 23, .const (.bool true), .tmp 25], some (20, true)⟩,
           ⟨some 27, .pick, [.tmp 20, .tmp 26, .const (.bool false)], none⟩,
           ⟨some 16, .mv, [.tmp 27], none⟩])
         (.cond (.tmp 16)
          .skip
          (.run [1, 2, 4, 16] [⟨some 28, (.faddr 3), [.tmp 2], none⟩,
            ⟨some 29, (.ld false 1), [.tmp 28], none⟩,
            ⟨some 30, (.eqg false 6), [.tmp 29, .const (.string ⟨#[60, 33]⟩)], none⟩,
            ⟨some 31, .mv, [.tmp 30], none⟩,
            ⟨some 32, .mv, [.tmp 1], some (31, true)⟩,
            ⟨some 33, (.eqg false 6), [.tmp 32, .const (.int .u8 45)], some (31, true)⟩,
            ⟨some 34, .pick, [.tmp 31, .tmp 33, .const (.bool false)], none⟩,
            ⟨some 16, .mv, [.tmp 34], none⟩])))
        (.cond (.tmp 16)
         (.seq (.run [4] [⟨some 35, (.faddr 3), [.tmp 2], none⟩,
            ⟨some 36, (.ld false 1), [.tmp 35], none⟩,
            ⟨some 37, .mv, [.tmp 1], none⟩,
            ⟨some 38, (.bslice 1 1 [(.int .u8 0)] [(0, 1)]), [.tmp 37], none⟩,
            ⟨some 39, .cvb, [.tmp 38], none⟩,
            ⟨some 40, (.bin .add), [.tmp 36, .tmp 39], none⟩,
            ⟨some 41, (.build [(.int .i64 0), (.str []), (.str []), (.str [])] [(3, 1)]), [.tmp 40], none⟩,
            ⟨none, (.st 4), [.tmp 4, .tmp 41], none⟩])
          .ret)
         (.seq (.run [1, 2, 4, 42] [⟨some 43, (.faddr 3), [.tmp 2], none⟩,
            ⟨some 44, (.ld false 1), [.tmp 43], none⟩,
            ⟨some 45, (.eqg false 6), [.tmp 44, .const (.string ⟨#[60, 47]⟩)], none⟩,
            ⟨some 46, .mv, [.tmp 45], none⟩,
            ⟨some 47, .mv, [.tmp 1], some (46, true)⟩,
            ⟨some 48, (.call 38), [.tmp 47], some (46, true)⟩,
            ⟨some 49, .pick, [.tmp 46, .tmp 48, .const (.bool false)], none⟩,
            ⟨some 42, .mv, [.tmp 49], none⟩])
          (.cond (.tmp 42)
           (.seq (.run [4] [⟨some 50, (.build [(.int .i64 0), (.str []), (.str []), (.str [])] [(0, 1)]), [.const (.int .i64 15)], none⟩,
              ⟨none, (.st 4), [.tmp 4, .tmp 50], none⟩])
            .ret)
           (.seq (.run [1, 2, 4, 51] [⟨some 52, (.faddr 3), [.tmp 2], none⟩,
              ⟨some 53, (.ld false 1), [.tmp 52], none⟩,
              ⟨some 54, (.eqg false 6), [.tmp 53, .const (.string ⟨#[60, 33, 45]⟩)], none⟩,
              ⟨some 55, .mv, [.tmp 54], none⟩,
              ⟨some 56, .mv, [.tmp 1], some (55, true)⟩,
              ⟨some 57, (.eqg false 6), [.tmp 56, .const (.int .u8 45)], some (55, true)⟩,
              ⟨some 58, .pick, [.tmp 55, .tmp 57, .const (.bool false)], none⟩,
              ⟨some 51, .mv, [.tmp 58], none⟩])
            (.cond (.tmp 51)
             (.seq (.run [4] [⟨some 59, (.build [(.int .i64 0), (.str []), (.str []), (.str [])] [(0, 1)]), [.const (.int .i64 13)], none⟩,
                ⟨none, (.st 4), [.tmp 4, .tmp 59], none⟩])
              .ret)
             (.seq (.run [1, 4, 60] [⟨some 61, (.faddr 3), [.tmp 2], none⟩,
                ⟨some 62, (.ld false 1), [.tmp 61], none⟩,
                ⟨some 63, (.eqg false 6), [.tmp 62, .const (.string ⟨#[60, 33]⟩)], none⟩,
                ⟨some 64, .mv, [.tmp 63], none⟩,
                ⟨some 65, (.faddr 3), [.tmp 2], some (64, false)⟩,
                ⟨some 66, (.ld false 1), [.tmp 65], some (64, false)⟩,
                ⟨some 67, (.eqg false 6), [.tmp 66, .const (.string ⟨#[60, 33, 45]⟩)], some (64, false)⟩,
                ⟨some 68, .pick, [.tmp 64, .const (.bool true), .tmp 67], none⟩,
                ⟨some 69, .mv, [.tmp 68], none⟩,
                ⟨some 70, .mv, [.tmp 1], some (69, true)⟩,
                ⟨some 71, (.eqg true 6), [.tmp 70, .const (.int .u8 62)], some (69, true)⟩,
                ⟨some 72, .pick, [.tmp 69, .tmp 71, .const (.bool false)], none⟩,
                ⟨some 60, .mv, [.tmp 72], none⟩])
              (.cond (.tmp 60)
               (.seq (.run [4] [⟨some 73, (.build [(.int .i64 0), (.str []), (.str []), (.str [])] [(0, 1)]), [.const (.int .i64 14)], none⟩,
                  ⟨none, (.st 4), [.tmp 4, .tmp 73], none⟩])
                .ret)
               (.seq (.run [4, 74] [⟨some 75, .mv, [.tmp 1], none⟩,
                  ⟨some 76, (.eqg false 6), [.tmp 75, .const (.int .u8 60)], none⟩,
                  ⟨some 74, .mv, [.tmp 76], none⟩])
                (.cond (.tmp 74)
                 (.seq (.run [4] [⟨some 77, (.build [(.int .i64 0), (.str []), (.str []), (.str [])] [(3, 1)]), [.const (.string ⟨#[60]⟩)], none⟩,
                    ⟨none, (.st 4), [.tmp 4, .tmp 77], none⟩])
                  .ret)
                 .skip)))))))))))))
    (.seq (.run [4] [⟨some 78, (.build [(.int .i64 0), (.str []), (.str []), (.str [])] []), [], none⟩,
       ⟨none, (.st 4), [.tmp 4, .tmp 78], none⟩])
     .ret)))⟩

theorem f26_ok : compF Go.Proofs.Try.prog 26 f26.body.hints = some f26 := by kernel_rfl


def f27 : AFun := ⟨30, 2, [.cell 4 (.ld true 4)],
  (.seq (.run [1, 2, 4] [⟨some 2, .box, [.tmp 0], none⟩,
     ⟨some 4, (.alloc [(.int .i64 0), (.str []), (.str []), (.str [])]), [], none⟩])
   (.seq (.block 0 (.seq (.run [1, 2, 4, 5] [⟨some 6, (.faddr 3), [.tmp 2], none⟩,
        ⟨some 7, (.ld false 1), [.tmp 6], none⟩,
        ⟨some 8, (.eqg false 6), [.tmp 7, .const (.string ⟨#[45, 45]⟩)], none⟩,
        ⟨some 9, .mv, [.tmp 8], none⟩,
        ⟨some 10, .mv, [.tmp 1], some (9, true)⟩,
        ⟨some 11, (.eqg false 6), [.tmp 10, .const (.int .u8 62)], some (9, true)⟩,
        ⟨some 12, .pick, [.tmp 9, .tmp 11, .const (.bool false)], none⟩,
        ⟨some 5, .mv, [.tmp 12], none⟩])
      (.cond (.tmp 5)
       (.seq (.run [4] [⟨some 13, (.build [(.int .i64 0), (.str []), (.str []), (.str [])] []), [], none⟩,
          ⟨none, (.st 4), [.tmp 4, .tmp 13], none⟩])
        .ret)
       (.seq (.run [2, 4, 14] [⟨some 15, .mv, [.tmp 1], none⟩,
          ⟨some 16, (.eqg true 6), [.tmp 15, .const (.int .u8 45)], none⟩,
          ⟨some 14, .mv, [.tmp 16], none⟩])
        (.cond (.tmp 14)
         (.seq (.run [4] [⟨some 17, (.ld true 4), [.tmp 2], none⟩,
            ⟨some 18, (.call 40), [.tmp 17, .const (.string ⟨#[]⟩)], none⟩,
            ⟨none, (.st 4), [.tmp 4, .tmp 18], none⟩])
          .ret)
         (.seq (.run [2, 4, 19] [⟨some 20, (.faddr 3), [.tmp 2], none⟩,
            ⟨some 21, (.ld false 1), [.tmp 20], none⟩,
            ⟨some 22, (.len 0), [.tmp 21], none⟩,
            ⟨some 23, (.bin .lss), [.tmp 22, .const (.int .i64 2)], none⟩,
            ⟨some 19, .mv, [.tmp 23], none⟩])
          (.cond (.tmp 19)
           (.seq (.run [4] [⟨some 24, (.ld true 4), [.tmp 2], none⟩,
              ⟨some 25, (.faddr 3), [.tmp 2], none⟩,
              ⟨some 26, (.ld false 1), [.tmp 25], none⟩,
              ⟨some 27, (.bin .add), [.tmp 26, .const (.string ⟨#[45]⟩)], none⟩,
              ⟨some 28, (.call 40), [.tmp 24, .tmp 27], none⟩,
              ⟨none, (.st 4), [.tmp 4, .tmp 28], none⟩])
            .ret)
           .skip)))))))
    (.seq (.run [4] [⟨some 29, (.ld true 4), [.tmp 2], none⟩,
       ⟨none, (.st 4), [.tmp 4, .tmp 29], none⟩])
     .ret)))⟩

theorem f27_ok : compF Go.Proofs.Try.prog 27 f27.body.hints = some f27 := by kernel_rfl


def f28 : AFun := ⟨93, 4, [.cell 8 (.ld true 4)],
  (.seq (.run [1, 2, 3, 4, 8] [⟨some 4, .box, [.tmp 0], none⟩,
     ⟨some 8, (.alloc [(.int .i64 0), (.str []), (.str []), (.str [])]), [], none⟩])
   (.seq (.seq (.runD [1, 2, 3, 4, 8, 9] [⟨0, ⟨some 13, (.faddr 3), [.tmp 4], none⟩, []⟩,
       ⟨1, ⟨some 14, (.ld false 1), [.tmp 13], none⟩, []⟩,
       ⟨2, ⟨some 15, .mv, [.tmp 3], none⟩, []⟩,
       ⟨3, ⟨some 16, (.call 39), [.tmp 15], none⟩, [1]⟩,
       ⟨4, ⟨some 17, (.bin .add), [.tmp 14, .tmp 16], none⟩, []⟩,
       ⟨5, ⟨some 9, .mv, [.tmp 17], none⟩, []⟩])
     (.seq (.run [1, 2, 3, 4, 8, 9, 25] [⟨some 18, (.faddr 3), [.tmp 4], none⟩,
        ⟨some 19, (.ld false 1), [.tmp 18], none⟩,
        ⟨some 20, (.call 41), [.tmp 19, .const (.string ⟨#[60]⟩)], none⟩,
        ⟨some 21, .mv, [.tmp 20], none⟩,
        ⟨some 22, .mv, [.tmp 2], some (21, true)⟩,
        ⟨some 23, .mv, [.tmp 9], some (21, true)⟩,
        ⟨some 24, (.call 41), [.tmp 22, .tmp 23], some (21, true)⟩,
        ⟨some 25, .pick, [.tmp 21, .tmp 24, .const (.bool false)], none⟩])
      (.cond (.tmp 25)
       (.seq (.seq (.run [4, 8, 9, 28] [⟨some 26, .mv, [.tmp 9], none⟩,
           ⟨some 27, .mv, [.tmp 2], none⟩,
           ⟨some 28, (.eqg false 6), [.tmp 26, .tmp 27], none⟩])
         (.cond (.tmp 28)
          (.seq (.run [8] [⟨some 29, (.build [(.int .i64 0), (.str []), (.str []), (.str [])] [(0, 1)]), [.const (.int .i64 15)], none⟩,
             ⟨none, (.st 4), [.tmp 8, .tmp 29], none⟩])
           .ret)
          .skip))
        (.seq (.run [8] [⟨some 30, (.ld true 4), [.tmp 4], none⟩,
           ⟨some 31, .mv, [.tmp 9], none⟩,
           ⟨some 32, (.call 40), [.tmp 30, .tmp 31], none⟩,
           ⟨none, (.st 4), [.tmp 8, .tmp 32], none⟩])
         .ret))
       .skip)))
    (.seq (.run [1, 3, 4, 8, 10] [⟨some 33, (.faddr 3), [.tmp 4], none⟩,
       ⟨some 34, (.ld false 1), [.tmp 33], none⟩,
       ⟨some 35, (.eqg false 6), [.tmp 34, .const (.string ⟨#[92]⟩)], none⟩,
       ⟨some 10, .mv, [.tmp 35], none⟩])
     (.seq (.run [1, 3, 4, 8, 10] [⟨some 36, (.faddr 3), [.tmp 4], none⟩,
        ⟨none, (.st 1), [.tmp 36, .const (.string ⟨#[]⟩)], none⟩])
      (.seq (.run [1, 3, 4, 8, 10, 11] [⟨some 37, (.build [(.int .u8 0), (.int .u8 0), (.int .u8 0)] [(0, 1), (1, 1), (2, 1)]), [.const (.int .u8 0), .const (.int .u8 34), .const (.int .u8 39)], none⟩,
         ⟨some 11, (.alloc [(.int .u8 0), (.int .u8 0), (.int .u8 0)]), [], none⟩,
         ⟨none, (.st 3), [.tmp 11, .tmp 37], none⟩])
       (.seq (.seq (.run [1, 3, 4, 8, 10, 11, 12] [⟨some 38, (.faddr 0), [.tmp 4], none⟩,
           ⟨some 39, (.ld false 1), [.tmp 38], none⟩,
           ⟨some 40, .mv, [.tmp 1], none⟩,
           ⟨some 41, (.bin .sub), [.tmp 39, .tmp 40], none⟩,
           ⟨some 12, .mv, [.tmp 41], none⟩])
         (.block 0 (.seq (.run [1, 3, 4, 8, 10, 11, 12, 42] [⟨some 43, .mv, [.tmp 3], none⟩,
             ⟨some 44, (.eqg false 6), [.tmp 43, .const (.int .u8 60)], none⟩,
             ⟨some 42, .mv, [.tmp 44], none⟩])
           (.cond (.tmp 42)
            (.run [4, 8] [⟨some 45, (.faddr 3), [.tmp 4], none⟩,
              ⟨none, (.st 1), [.tmp 45, .const (.string ⟨#[60]⟩)], none⟩])
            (.seq (.run [1, 3, 4, 8, 11, 12, 46] [⟨some 47, .mv, [.tmp 10], none⟩,
               ⟨some 46, .mv, [.tmp 47], none⟩])
             (.cond (.tmp 46)
              .skip
              (.seq (.run [1, 3, 4, 8, 11, 12, 48] [⟨some 49, .mv, [.tmp 12], none⟩,
                 ⟨some 50, (.eqg false 6), [.tmp 49, .const (.int .i64 0)], none⟩,
                 ⟨some 51, .mv, [.tmp 50], none⟩,
                 ⟨some 52, .mv, [.tmp 3], some (51, true)⟩,
                 ⟨some 53, (.eqg false 6), [.tmp 52, .const (.int .u8 34)], some (51, true)⟩,
                 ⟨some 54, .pick, [.tmp 51, .tmp 53, .const (.bool false)], none⟩,
                 ⟨some 48, .mv, [.tmp 54], none⟩])
               (.cond (.tmp 48)
                (.run [4, 8] [⟨some 55, .mv, [.tmp 1], none⟩,
                  ⟨some 56, (.bin .add), [.tmp 55, .const (.int .i64 1)], none⟩,
                  ⟨some 57, (.faddr 0), [.tmp 4], none⟩,
                  ⟨none, (.st 1), [.tmp 57, .tmp 56], none⟩])
                (.seq (.run [1, 3, 4, 8, 11, 12, 58] [⟨some 59, .mv, [.tmp 12], none⟩,
                   ⟨some 60, (.eqg false 6), [.tmp 59, .const (.int .i64 0)], none⟩,
                   ⟨some 61, .mv, [.tmp 60], none⟩,
                   ⟨some 62, .mv, [.tmp 3], some (61, true)⟩,
                   ⟨some 63, (.eqg false 6), [.tmp 62, .const (.int .u8 39)], some (61, true)⟩,
                   ⟨some 64, .pick, [.tmp 61, .tmp 63, .const (.bool false)], none⟩,
                   ⟨some 58, .mv, [.tmp 64], none⟩])
                 (.cond (.tmp 58)
                  (.run [4, 8] [⟨some 65, .mv, [.tmp 1], none⟩,
                    ⟨some 66, (.bin .add), [.tmp 65, .const (.int .i64 2)], none⟩,
                    ⟨some 67, (.faddr 0), [.tmp 4], none⟩,
                    ⟨none, (.st 1), [.tmp 67, .tmp 66], none⟩])
                  (.seq (.run [1, 3, 4, 8, 12, 68] [⟨some 69, .mv, [.tmp 12], none⟩,
                     ⟨some 70, (.eqg true 6), [.tmp 69, .const (.int .i64 0)], none⟩,
                     ⟨some 71, .mv, [.tmp 70], none⟩,
                     ⟨some 72, .mv, [.tmp 3], some (71, true)⟩,
                     ⟨some 73, .mv, [.tmp 12], some (71, true)⟩,
                     ⟨some 74, (.aaddr 1 3), [.tmp 11, .tmp 73], some (71, true)⟩,
                     ⟨some 75, (.ld false 1), [.tmp 74], some (71, true)⟩,
                     ⟨some 76, (.eqg false 6), [.tmp 72, .tmp 75], some (71, true)⟩,
                     ⟨some 77, .mv, [.tmp 76], some (71, true)⟩,
                     ⟨some 78, .mv, [.tmp 3], some (77, false)⟩,
                     ⟨some 79, (.eqg false 6), [.tmp 78, .const (.int .u8 10)], some (77, false)⟩,
                     ⟨some 80, .pick, [.tmp 77, .const (.bool true), .tmp 79], some (71, true)⟩,
                     ⟨some 81, .pick, [.tmp 71, .tmp 80, .const (.bool false)], none⟩,
                     ⟨some 68, .mv, [.tmp 81], none⟩])
                   (.cond (.tmp 68)
                    (.run [4, 8] [⟨some 82, .mv, [.tmp 1], none⟩,
                      ⟨some 83, (.faddr 0), [.tmp 4], none⟩,
                      ⟨none, (.st 1), [.tmp 83, .tmp 82], none⟩])
                    (.seq (.run [4, 8, 84] [⟨some 85, .mv, [.tmp 12], none⟩,
                       ⟨some 86, (.eqg true 6), [.tmp 85, .const (.int .i64 0)], none⟩,
                       ⟨some 87, .mv, [.tmp 86], none⟩,
                       ⟨some 88, .mv, [.tmp 3], some (87, true)⟩,
                       ⟨some 89, (.eqg false 6), [.tmp 88, .const (.int .u8 92)], some (87, true)⟩,
                       ⟨some 90, .pick, [.tmp 87, .tmp 89, .const (.bool false)], none⟩,
                       ⟨some 84, .mv, [.tmp 90], none⟩])
                     (.cond (.tmp 84)
                      (.run [4, 8] [⟨some 91, (.faddr 3), [.tmp 4], none⟩,
                        ⟨none, (.st 1), [.tmp 91, .const (.string ⟨#[92]⟩)], none⟩])
                      .skip))))))))))))))
        (.seq (.run [8] [⟨some 92, (.ld true 4), [.tmp 4], none⟩,
           ⟨none, (.st 4), [.tmp 8, .tmp 92], none⟩])
         .ret)))))))⟩

theorem f28_ok : compF Go.Proofs.Try.prog 28 f28.body.hints = some f28 := by kernel_rfl


def f29 : AFun := ⟨50, 2, [.cell 4 (.ld true 4)],
  (.seq (.run [1, 2, 4] [⟨some 2, .box, [.tmp 0], none⟩,
     ⟨some 4, (.alloc [(.int .i64 0), (.str []), (.str []), (.str [])]), [], none⟩])
   (.seq (.seq (.run [1, 2, 4, 6] [⟨some 5, (.faddr 0), [.tmp 2], none⟩,
       ⟨some 6, (.ld false 1), [.tmp 5], none⟩])
     (.block 0 (.seq (.seq (.run [1, 2, 4, 6, 7] [⟨some 8, (.eqg false 6), [.tmp 6, .const (.int .i64 7)], none⟩,
          ⟨some 7, .mv, [.tmp 8], none⟩])
        (.cond (.tmp 7)
         .skip
         (.seq (.run [1, 2, 4, 6, 7] [⟨some 9, (.eqg false 6), [.tmp 6, .const (.int .i64 9)], none⟩,
            ⟨some 7, .mv, [.tmp 9], none⟩])
          (.cond (.tmp 7)
           .skip
           (.run [1, 2, 4, 6, 7] [⟨some 10, (.eqg false 6), [.tmp 6, .const (.int .i64 11)], none⟩,
             ⟨some 7, .mv, [.tmp 10], none⟩])))))
       (.cond (.tmp 7)
        (.seq (.seq (.run [2, 4, 12] [⟨some 11, .mv, [.tmp 1], none⟩,
            ⟨some 12, (.eqg false 6), [.tmp 11, .const (.int .u8 34)], none⟩])
          (.cond (.tmp 12)
           (.seq (.run [4] [⟨some 13, (.ld true 4), [.tmp 2], none⟩,
              ⟨some 14, (.call 42), [.tmp 13, .const (.int .i64 1)], none⟩,
              ⟨none, (.st 4), [.tmp 4, .tmp 14], none⟩])
            .ret)
           .skip))
         (.seq (.run [4] [⟨some 15, (.ld true 4), [.tmp 2], none⟩,
            ⟨none, (.st 4), [.tmp 4, .tmp 15], none⟩])
          .ret))
        (.seq (.seq (.run [1, 2, 4, 6, 16] [⟨some 17, (.eqg false 6), [.tmp 6, .const (.int .i64 8)], none⟩,
            ⟨some 16, .mv, [.tmp 17], none⟩])
          (.cond (.tmp 16)
           .skip
           (.seq (.run [1, 2, 4, 6, 16] [⟨some 18, (.eqg false 6), [.tmp 6, .const (.int .i64 10)], none⟩,
              ⟨some 16, .mv, [.tmp 18], none⟩])
            (.cond (.tmp 16)
             .skip
             (.run [1, 2, 4, 16] [⟨some 19, (.eqg false 6), [.tmp 6, .const (.int .i64 12)], none⟩,
               ⟨some 16, .mv, [.tmp 19], none⟩])))))
         (.cond (.tmp 16)
          (.seq (.seq (.run [2, 4, 21] [⟨some 20, .mv, [.tmp 1], none⟩,
              ⟨some 21, (.eqg false 6), [.tmp 20, .const (.int .u8 39)], none⟩])
            (.cond (.tmp 21)
             (.seq (.run [4] [⟨some 22, (.ld true 4), [.tmp 2], none⟩,
                ⟨some 23, (.call 42), [.tmp 22, .const (.int .i64 1)], none⟩,
                ⟨none, (.st 4), [.tmp 4, .tmp 23], none⟩])
              .ret)
             .skip))
           (.seq (.run [4] [⟨some 24, (.ld true 4), [.tmp 2], none⟩,
              ⟨none, (.st 4), [.tmp 4, .tmp 24], none⟩])
            .ret))
          .skip))))))
    (.seq (.block 1 (.seq (.run [1, 2, 4, 25] [⟨some 26, .mv, [.tmp 1], none⟩,
         ⟨some 27, (.eqg false 6), [.tmp 26, .const (.int .u8 62)], none⟩,
         ⟨some 25, .mv, [.tmp 27], none⟩])
       (.cond (.tmp 25)
        (.seq (.run [4] [⟨some 28, (.ld true 4), [.tmp 2], none⟩,
           ⟨some 29, (.call 43), [.tmp 28], none⟩,
           ⟨none, (.st 4), [.tmp 4, .tmp 29], none⟩])
         .ret)
        (.seq (.run [1, 2, 4, 30] [⟨some 31, (.faddr 0), [.tmp 2], none⟩,
           ⟨some 32, (.ld false 1), [.tmp 31], none⟩,
           ⟨some 33, (.eqg false 6), [.tmp 32, .const (.int .i64 5)], none⟩,
           ⟨some 30, .mv, [.tmp 33], none⟩])
         (.cond (.tmp 30)
          (.seq (.run [4] [⟨some 34, (.ld true 4), [.tmp 2], none⟩,
             ⟨some 35, .mv, [.tmp 1], none⟩,
             ⟨some 36, (.call 44), [.tmp 34, .tmp 35], none⟩,
             ⟨none, (.st 4), [.tmp 4, .tmp 36], none⟩])
           .ret)
          (.seq (.run [1, 2, 4, 37] [⟨some 38, (.faddr 0), [.tmp 2], none⟩,
             ⟨some 39, (.ld false 1), [.tmp 38], none⟩,
             ⟨some 40, (.eqg true 6), [.tmp 39, .const (.int .i64 6)], none⟩,
             ⟨some 37, .mv, [.tmp 40], none⟩])
           (.cond (.tmp 37)
            (.seq (.run [4] [⟨some 41, (.ld true 4), [.tmp 2], none⟩,
               ⟨some 42, .mv, [.tmp 1], none⟩,
               ⟨some 43, (.call 45), [.tmp 41, .tmp 42], none⟩,
               ⟨none, (.st 4), [.tmp 4, .tmp 43], none⟩])
             .ret)
            (.seq (.run [2, 4, 44] [⟨some 45, .mv, [.tmp 1], none⟩,
               ⟨some 46, (.call 46), [.tmp 45], none⟩,
               ⟨some 44, .mv, [.tmp 46], none⟩])
             (.cond (.tmp 44)
              (.seq (.run [4] [⟨some 47, (.ld true 4), [.tmp 2], none⟩,
                 ⟨some 48, (.call 42), [.tmp 47, .const (.int .i64 1)], none⟩,
                 ⟨none, (.st 4), [.tmp 4, .tmp 48], none⟩])
               .ret)
              .skip)))))))))
     (.seq (.run [4] [⟨some 49, (.ld true 4), [.tmp 2], none⟩,
        ⟨none, (.st 4), [.tmp 4, .tmp 49], none⟩])
      .ret))))⟩

theorem f29_ok : compF Go.Proofs.Try.prog 29 f29.body.hints = some f29 := by kernel_rfl


def f30 : AFun := ⟨52, 2, [.cell 4 (.ld true 4)],
  (.seq (.run [1, 2, 4] [⟨some 2, .box, [.tmp 0], none⟩,
     ⟨some 4, (.alloc [(.int .i64 0), (.str []), (.str []), (.str [])]), [], none⟩])
   (.seq (.seq (.run [1, 4, 6] [⟨some 5, (.faddr 3), [.tmp 2], none⟩,
       ⟨some 6, (.ld false 1), [.tmp 5], none⟩])
     (.block 0 (.seq (.run [1, 4, 6, 7] [⟨some 8, (.eqg false 6), [.tmp 6, .const (.string ⟨#[60]⟩)], none⟩,
         ⟨some 7, .mv, [.tmp 8], none⟩])
       (.cond (.tmp 7)
        (.seq (.seq (.run [1, 4, 10] [⟨some 9, .mv, [.tmp 1], none⟩,
            ⟨some 10, (.call 47), [.tmp 9], none⟩])
          (.cond (.tmp 10)
           (.seq (.run [4] [⟨some 11, .mv, [.tmp 1], none⟩,
              ⟨some 12, (.call 48), [.const (.string ⟨#[]⟩), .tmp 11], none⟩,
              ⟨some 13, (.build [(.int .i64 0), (.str []), (.str []), (.str [])] [(0, 1), (1, 1)]), [.const (.int .i64 2), .tmp 12], none⟩,
              ⟨none, (.st 4), [.tmp 4, .tmp 13], none⟩])
            .ret)
           .skip))
         (.seq (.run [1, 4, 19] [⟨some 14, .mv, [.tmp 1], none⟩,
            ⟨some 15, (.eqg false 6), [.tmp 14, .const (.int .u8 47)], none⟩,
            ⟨some 16, .mv, [.tmp 15], none⟩,
            ⟨some 17, .mv, [.tmp 1], some (16, false)⟩,
            ⟨some 18, (.eqg false 6), [.tmp 17, .const (.int .u8 33)], some (16, false)⟩,
            ⟨some 19, .pick, [.tmp 16, .const (.bool true), .tmp 18], none⟩])
          (.cond (.tmp 19)
           (.seq (.run [4] [⟨some 20, .mv, [.tmp 1], none⟩,
              ⟨some 21, (.bslice 1 1 [(.int .u8 0)] [(0, 1)]), [.tmp 20], none⟩,
              ⟨some 22, .cvb, [.tmp 21], none⟩,
              ⟨some 23, (.bin .add), [.const (.string ⟨#[60]⟩), .tmp 22], none⟩,
              ⟨some 24, (.build [(.int .i64 0), (.str []), (.str []), (.str [])] [(3, 1)]), [.tmp 23], none⟩,
              ⟨none, (.st 4), [.tmp 4, .tmp 24], none⟩])
            .ret)
           .skip)))
        (.seq (.run [1, 4, 6, 25] [⟨some 26, (.eqg false 6), [.tmp 6, .const (.string ⟨#[60, 47]⟩)], none⟩,
           ⟨some 25, .mv, [.tmp 26], none⟩])
         (.cond (.tmp 25)
          (.seq (.run [1, 4, 28] [⟨some 27, .mv, [.tmp 1], none⟩,
             ⟨some 28, (.call 47), [.tmp 27], none⟩])
           (.cond (.tmp 28)
            (.seq (.run [4] [⟨some 29, (.build [(.int .i64 0), (.str []), (.str []), (.str [])] [(0, 1)]), [.const (.int .i64 15)], none⟩,
               ⟨none, (.st 4), [.tmp 4, .tmp 29], none⟩])
             .ret)
            .skip))
          (.seq (.run [1, 4, 6, 30] [⟨some 31, (.eqg false 6), [.tmp 6, .const (.string ⟨#[60, 33]⟩)], none⟩,
             ⟨some 30, .mv, [.tmp 31], none⟩])
           (.cond (.tmp 30)
            (.seq (.seq (.run [1, 4, 33] [⟨some 32, .mv, [.tmp 1], none⟩,
                ⟨some 33, (.eqg false 6), [.tmp 32, .const (.int .u8 45)], none⟩])
              (.cond (.tmp 33)
               (.seq (.run [4] [⟨some 34, (.build [(.int .i64 0), (.str []), (.str []), (.str [])] [(3, 1)]), [.const (.string ⟨#[60, 33, 45]⟩)], none⟩,
                  ⟨none, (.st 4), [.tmp 4, .tmp 34], none⟩])
                .ret)
               .skip))
             (.seq (.seq (.run [4, 36] [⟨some 35, .mv, [.tmp 1], none⟩,
                 ⟨some 36, (.eqg false 6), [.tmp 35, .const (.int .u8 62)], none⟩])
               (.cond (.tmp 36)
                (.seq (.run [4] [⟨some 37, (.build [(.int .i64 0), (.str []), (.str []), (.str [])] []), [], none⟩,
                   ⟨none, (.st 4), [.tmp 4, .tmp 37], none⟩])
                 .ret)
                .skip))
              (.seq (.run [4] [⟨some 38, (.build [(.int .i64 0), (.str []), (.str []), (.str [])] [(0, 1)]), [.const (.int .i64 14)], none⟩,
                 ⟨none, (.st 4), [.tmp 4, .tmp 38], none⟩])
               .ret)))
            (.seq (.run [1, 4, 39] [⟨some 40, (.eqg false 6), [.tmp 6, .const (.string ⟨#[60, 33, 45]⟩)], none⟩,
               ⟨some 39, .mv, [.tmp 40], none⟩])
             (.cond (.tmp 39)
              (.seq (.seq (.run [1, 4, 42] [⟨some 41, .mv, [.tmp 1], none⟩,
                  ⟨some 42, (.eqg false 6), [.tmp 41, .const (.int .u8 45)], none⟩])
                (.cond (.tmp 42)
                 (.seq (.run [4] [⟨some 43, (.build [(.int .i64 0), (.str []), (.str []), (.str [])] [(0, 1)]), [.const (.int .i64 13)], none⟩,
                    ⟨none, (.st 4), [.tmp 4, .tmp 43], none⟩])
                  .ret)
                 .skip))
               (.seq (.seq (.run [4, 45] [⟨some 44, .mv, [.tmp 1], none⟩,
                   ⟨some 45, (.eqg false 6), [.tmp 44, .const (.int .u8 62)], none⟩])
                 (.cond (.tmp 45)
                  (.seq (.run [4] [⟨some 46, (.build [(.int .i64 0), (.str []), (.str []), (.str [])] []), [], none⟩,
                     ⟨none, (.st 4), [.tmp 4, .tmp 46], none⟩])
                   .ret)
                  .skip))
                (.seq (.run [4] [⟨some 47, (.build [(.int .i64 0), (.str []), (.str []), (.str [])] [(0, 1)]), [.const (.int .i64 14)], none⟩,
                   ⟨none, (.st 4), [.tmp 4, .tmp 47], none⟩])
                 .ret)))
              .skip))))))))))
    (.seq (.seq (.run [4, 49] [⟨some 48, .mv, [.tmp 1], none⟩,
        ⟨some 49, (.eqg false 6), [.tmp 48, .const (.int .u8 60)], none⟩])
      (.cond (.tmp 49)
       (.seq (.run [4] [⟨some 50, (.build [(.int .i64 0), (.str []), (.str []), (.str [])] [(3, 1)]), [.const (.string ⟨#[60]⟩)], none⟩,
          ⟨none, (.st 4), [.tmp 4, .tmp 50], none⟩])
        .ret)
       .skip))
     (.seq (.run [4] [⟨some 51, (.build [(.int .i64 0), (.str []), (.str []), (.str [])] []), [], none⟩,
        ⟨none, (.st 4), [.tmp 4, .tmp 51], none⟩])
      .ret))))⟩

theorem f30_ok : compF Go.Proofs.Try.prog 30 f30.body.hints = some f30 := by kernel_rfl


def f31 : AFun := ⟨117, 2, [.cell 4 (.ld true 4)],
  (.seq (.run [1, 2, 4] [⟨some 2, .box, [.tmp 0], none⟩,
     ⟨some 4, (.alloc [(.int .i64 0), (.str []), (.str []), (.str [])]), [], none⟩])
   (.seq (.seq (.run [1, 2, 4, 13] [⟨some 7, .mv, [.tmp 1], none⟩,
       ⟨some 8, (.eqg false 6), [.tmp 7, .const (.int .u8 62)], none⟩,
       ⟨some 9, .mv, [.tmp 8], none⟩,
       ⟨some 10, (.faddr 0), [.tmp 2], some (9, true)⟩,
       ⟨some 11, (.ld false 1), [.tmp 10], some (9, true)⟩,
       ⟨some 12, (.bin .leq), [.tmp 11, .const (.int .i64 6)], some (9, true)⟩,
       ⟨some 13, .pick, [.tmp 9, .tmp 12, .const (.bool false)], none⟩])
     (.cond (.tmp 13)
      (.seq (.run [4] [⟨some 14, (.faddr 1), [.tmp 2], none⟩,
         ⟨some 15, (.ld false 1), [.tmp 14], none⟩,
         ⟨some 16, (.call 49), [.tmp 15], none⟩,
         ⟨none, (.st 4), [.tmp 4, .tmp 16], none⟩])
       .ret)
      .skip))
    (.seq (.run [1, 2, 4, 5] [⟨some 17, (.faddr 1), [.tmp 2], none⟩,
       ⟨some 18, (.ld false 1), [.tmp 17], none⟩,
       ⟨some 19, (.build [(.int .i64 0), (.str []), (.str []), (.str [])] [(0, 1), (1, 1)]), [.const (.int .i64 1), .tmp 18], none⟩,
       ⟨some 5, (.alloc [(.int .i64 0), (.str []), (.str []), (.str [])]), [], none⟩,
       ⟨none, (.st 4), [.tmp 5, .tmp 19], none⟩])
     (.seq (.runF [1, 2, 4, 5, 6] [⟨0, ⟨some 20, (.faddr 1), [.tmp 2], none⟩, []⟩,
        ⟨1, ⟨some 21, (.ld false 1), [.tmp 20], none⟩, []⟩,
        ⟨2, ⟨some 22, .mv, [.tmp 1], none⟩, []⟩]
       [⟨3, ⟨some 23, (.call 48), [.const (.string ⟨#[]⟩), .tmp 22], none⟩, [1]⟩,
        ⟨4, ⟨some 24, (.build [(.int .i64 0), (.str []), (.str []), (.str [])] [(0, 1), (1, 1), (2, 1)]), [.const (.int .i64 3), .tmp 21, .tmp 23], none⟩, []⟩,
        ⟨5, ⟨some 6, (.alloc [(.int .i64 0), (.str []), (.str []), (.str [])]), [], none⟩, [1]⟩,
        ⟨6, ⟨none, (.st 4), [.tmp 6, .tmp 24], none⟩, []⟩]
       [⟨5, ⟨some 6, (.alloc [(.int .i64 0), (.str []), (.str []), (.str [])]), [], none⟩, [1]⟩,
        ⟨3, ⟨some 23, (.call 48), [.const (.string ⟨#[]⟩), .tmp 22], none⟩, [1]⟩,
        ⟨4, ⟨some 24, (.build [(.int .i64 0), (.str []), (.str []), (.str [])] [(0, 1), (1, 1), (2, 1)]), [.const (.int .i64 3), .tmp 21, .tmp 23], none⟩, []⟩,
        ⟨6, ⟨none, (.st 4), [.tmp 6, .tmp 24], none⟩, []⟩])
      (.seq (.seq (.run [1, 2, 4, 5, 6, 26] [⟨some 25, (.faddr 0), [.tmp 2], none⟩,
          ⟨some 26, (.ld false 1), [.tmp 25], none⟩])
        (.block 0 (.seq (.run [1, 2, 4, 5, 6, 26, 27] [⟨some 28, (.eqg false 6), [.tmp 26, .const (.int .i64 2)], none⟩,
            ⟨some 27, .mv, [.tmp 28], none⟩])
          (.cond (.tmp 27)
           (.seq (.seq (.run [1, 2, 4, 5, 34] [⟨some 29, .mv, [.tmp 1], none⟩,
               ⟨some 30, (.call 50), [.tmp 29], none⟩,
               ⟨some 31, .mv, [.tmp 30], none⟩,
               ⟨some 32, .mv, [.tmp 1], some (31, false)⟩,
               ⟨some 33, (.eqg false 6), [.tmp 32, .const (.int .u8 47)], some (31, false)⟩,
               ⟨some 34, .pick, [.tmp 31, .const (.bool true), .tmp 33], none⟩])
             (.cond (.tmp 34)
              (.seq (.run [4] [⟨some 35, (.ld true 4), [.tmp 5], none⟩,
                 ⟨none, (.st 4), [.tmp 4, .tmp 35], none⟩])
               .ret)
              .skip))
            (.run [2, 4] [⟨some 36, (.faddr 1), [.tmp 2], none⟩,
              ⟨some 37, (.ld false 1), [.tmp 36], none⟩,
              ⟨some 38, .mv, [.tmp 1], none⟩,
              ⟨some 39, (.call 48), [.tmp 37, .tmp 38], none⟩,
              ⟨some 40, (.faddr 1), [.tmp 2], none⟩,
              ⟨none, (.st 1), [.tmp 40, .tmp 39], none⟩]))
           (.seq (.run [1, 2, 4, 5, 6, 26, 41] [⟨some 42, (.eqg false 6), [.tmp 26, .const (.int .i64 1)], none⟩,
              ⟨some 41, .mv, [.tmp 42], none⟩])
            (.cond (.tmp 41)
             (.seq (.run [2, 4, 6, 49] [⟨some 43, .mv, [.tmp 1], none⟩,
                ⟨some 44, (.call 50), [.tmp 43], none⟩,
                ⟨some 45, (.un .not), [.tmp 44], none⟩,
                ⟨some 46, .mv, [.tmp 45], none⟩,
                ⟨some 47, .mv, [.tmp 1], some (46, true)⟩,
                ⟨some 48, (.eqg true 6), [.tmp 47, .const (.int .u8 47)], some (46, true)⟩,
                ⟨some 49, .pick, [.tmp 46, .tmp 48, .const (.bool false)], none⟩])
              (.cond (.tmp 49)
               (.seq (.run [4] [⟨some 50, (.ld true 4), [.tmp 6], none⟩,
                  ⟨none, (.st 4), [.tmp 4, .tmp 50], none⟩])
                .ret)
               .skip))
             (.seq (.seq (.run [1, 2, 4, 5, 6, 26, 51] [⟨some 52, (.eqg false 6), [.tmp 26, .const (.int .i64 3)], none⟩,
                 ⟨some 51, .mv, [.tmp 52], none⟩])
               (.cond (.tmp 51)
                .skip
                (.run [1, 2, 4, 5, 6, 26, 51] [⟨some 53, (.eqg false 6), [.tmp 26, .const (.int .i64 4)], none⟩,
                  ⟨some 51, .mv, [.tmp 53], none⟩])))
              (.cond (.tmp 51)
               (.block 1 (.seq (.run [1, 2, 4, 5, 6, 59] [⟨some 60, .mv, [.tmp 1], none⟩,
                   ⟨some 61, (.call 50), [.tmp 60], none⟩,
                   ⟨some 59, .mv, [.tmp 61], none⟩])
                 (.cond (.tmp 59)
                  (.run [2, 4] [⟨some 62, (.faddr 0), [.tmp 2], none⟩,
                    ⟨none, (.st 1), [.tmp 62, .const (.int .i64 4)], none⟩])
                  (.seq (.run [1, 2, 4, 5, 6, 63] [⟨some 64, .mv, [.tmp 1], none⟩,
                     ⟨some 65, (.eqg false 6), [.tmp 64, .const (.int .u8 47)], none⟩,
                     ⟨some 63, .mv, [.tmp 65], none⟩])
                   (.cond (.tmp 63)
                    (.seq (.run [4] [⟨some 66, (.ld true 4), [.tmp 5], none⟩,
                       ⟨none, (.st 4), [.tmp 4, .tmp 66], none⟩])
                     .ret)
                    (.seq (.run [1, 2, 4, 6, 67] [⟨some 68, .mv, [.tmp 1], none⟩,
                       ⟨some 69, (.eqg false 6), [.tmp 68, .const (.int .u8 61)], none⟩,
                       ⟨some 67, .mv, [.tmp 69], none⟩])
                     (.cond (.tmp 67)
                      (.run [2, 4] [⟨some 70, (.faddr 0), [.tmp 2], none⟩,
                        ⟨none, (.st 1), [.tmp 70, .const (.int .i64 5)], none⟩])
                      (.seq (.run [1, 2, 4, 6, 71] [⟨some 72, (.faddr 0), [.tmp 2], none⟩,
                         ⟨some 73, (.ld false 1), [.tmp 72], none⟩,
                         ⟨some 74, (.eqg false 6), [.tmp 73, .const (.int .i64 4)], none⟩,
                         ⟨some 71, .mv, [.tmp 74], none⟩])
                       (.cond (.tmp 71)
                        (.seq (.run [4] [⟨some 75, (.ld true 4), [.tmp 6], none⟩,
                           ⟨none, (.st 4), [.tmp 4, .tmp 75], none⟩])
                         .ret)
                        (.run [2, 4] [⟨some 54, (.faddr 2), [.tmp 2], none⟩,
                          ⟨some 55, (.ld false 1), [.tmp 54], none⟩,
                          ⟨some 56, .mv, [.tmp 1], none⟩,
                          ⟨some 57, (.call 48), [.tmp 55, .tmp 56], none⟩,
                          ⟨some 58, (.faddr 2), [.tmp 2], none⟩,
                          ⟨none, (.st 1), [.tmp 58, .tmp 57], none⟩]))))))))))
               (.seq (.run [1, 2, 4, 5, 26, 76] [⟨some 77, (.eqg false 6), [.tmp 26, .const (.int .i64 5)], none⟩,
                  ⟨some 76, .mv, [.tmp 77], none⟩])
                (.cond (.tmp 76)
                 (.seq (.seq (.run [1, 2, 4, 83] [⟨some 78, .mv, [.tmp 1], none⟩,
                     ⟨some 79, (.eqg false 6), [.tmp 78, .const (.int .u8 34)], none⟩,
                     ⟨some 80, .mv, [.tmp 79], none⟩,
                     ⟨some 81, .mv, [.tmp 1], some (80, false)⟩,
                     ⟨some 82, (.eqg false 6), [.tmp 81, .const (.int .u8 39)], some (80, false)⟩,
                     ⟨some 83, .pick, [.tmp 80, .const (.bool true), .tmp 82], none⟩])
                   (.cond (.tmp 83)
                    (.seq (.runD [4] [⟨0, ⟨some 84, (.faddr 2), [.tmp 2], none⟩, []⟩,
                       ⟨1, ⟨some 85, (.ld false 1), [.tmp 84], none⟩, []⟩,
                       ⟨2, ⟨some 86, .mv, [.tmp 1], none⟩, []⟩,
                       ⟨4, ⟨some 88, (.faddr 1), [.tmp 2], none⟩, []⟩,
                       ⟨5, ⟨some 89, (.ld false 1), [.tmp 88], none⟩, []⟩,
                       ⟨3, ⟨some 87, (.call 51), [.tmp 85, .tmp 86], none⟩, [5]⟩,
                       ⟨6, ⟨some 90, (.build [(.int .i64 0), (.str []), (.str []), (.str [])] [(0, 1), (1, 1)]), [.tmp 87, .tmp 89], none⟩, []⟩,
                       ⟨7, ⟨none, (.st 4), [.tmp 4, .tmp 90], none⟩, []⟩])
                     .ret)
                    .skip))
                  (.seq (.run [2, 4, 93] [⟨some 91, .mv, [.tmp 1], none⟩,
                     ⟨some 92, (.call 50), [.tmp 91], none⟩,
                     ⟨some 93, (.un .not), [.tmp 92], none⟩])
                   (.cond (.tmp 93)
                    (.seq (.run [4] [⟨some 94, (.faddr 1), [.tmp 2], none⟩,
                       ⟨some 95, (.ld false 1), [.tmp 94], none⟩,
                       ⟨some 96, (.build [(.int .i64 0), (.str []), (.str []), (.str [])] [(0, 1), (1, 1)]), [.const (.int .i64 6), .tmp 95], none⟩,
                       ⟨none, (.st 4), [.tmp 4, .tmp 96], none⟩])
                     .ret)
                    .skip)))
                 (.seq (.run [1, 2, 4, 5, 26, 97] [⟨some 98, (.eqg false 6), [.tmp 26, .const (.int .i64 6)], none⟩,
                    ⟨some 97, .mv, [.tmp 98], none⟩])
                  (.cond (.tmp 97)
                   (.seq (.run [2, 4, 5, 100] [⟨some 99, .mv, [.tmp 1], none⟩,
                      ⟨some 100, (.call 50), [.tmp 99], none⟩])
                    (.cond (.tmp 100)
                     (.seq (.run [4] [⟨some 101, (.ld true 4), [.tmp 5], none⟩,
                        ⟨none, (.st 4), [.tmp 4, .tmp 101], none⟩])
                      .ret)
                     .skip))
                   (.seq (.seq (.run [1, 2, 4, 5, 26, 102] [⟨some 103, (.eqg false 6), [.tmp 26, .const (.int .i64 7)], none⟩,
                       ⟨some 102, .mv, [.tmp 103], none⟩])
                     (.cond (.tmp 102)
                      .skip
                      (.seq (.run [1, 2, 4, 5, 26, 102] [⟨some 104, (.eqg false 6), [.tmp 26, .const (.int .i64 9)], none⟩,
                         ⟨some 102, .mv, [.tmp 104], none⟩])
                       (.cond (.tmp 102)
                        .skip
                        (.run [1, 2, 4, 5, 26, 102] [⟨some 105, (.eqg false 6), [.tmp 26, .const (.int .i64 11)], none⟩,
                          ⟨some 102, .mv, [.tmp 105], none⟩])))))
                    (.cond (.tmp 102)
                     (.seq (.run [2, 4, 5, 107] [⟨some 106, .mv, [.tmp 1], none⟩,
                        ⟨some 107, (.eqg false 6), [.tmp 106, .const (.int .u8 34)], none⟩])
                      (.cond (.tmp 107)
                       (.seq (.run [4] [⟨some 108, (.ld true 4), [.tmp 5], none⟩,
                          ⟨none, (.st 4), [.tmp 4, .tmp 108], none⟩])
                        .ret)
                       .skip))
                     (.seq (.seq (.run [1, 2, 4, 5, 26, 109] [⟨some 110, (.eqg false 6), [.tmp 26, .const (.int .i64 8)], none⟩,
                         ⟨some 109, .mv, [.tmp 110], none⟩])
                       (.cond (.tmp 109)
                        .skip
                        (.seq (.run [1, 2, 4, 5, 26, 109] [⟨some 111, (.eqg false 6), [.tmp 26, .const (.int .i64 10)], none⟩,
                           ⟨some 109, .mv, [.tmp 111], none⟩])
                         (.cond (.tmp 109)
                          .skip
                          (.run [1, 2, 4, 5, 109] [⟨some 112, (.eqg false 6), [.tmp 26, .const (.int .i64 12)], none⟩,
                            ⟨some 109, .mv, [.tmp 112], none⟩])))))
                      (.cond (.tmp 109)
                       (.seq (.run [2, 4, 5, 114] [⟨some 113, .mv, [.tmp 1], none⟩,
                          ⟨some 114, (.eqg false 6), [.tmp 113, .const (.int .u8 39)], none⟩])
                        (.cond (.tmp 114)
                         (.seq (.run [4] [⟨some 115, (.ld true 4), [.tmp 5], none⟩,
                            ⟨none, (.st 4), [.tmp 4, .tmp 115], none⟩])
                          .ret)
                         .skip))
                       .skip))))))))))))))))
       (.seq (.run [4] [⟨some 116, (.ld true 4), [.tmp 2], none⟩,
          ⟨none, (.st 4), [.tmp 4, .tmp 116], none⟩])
        .ret))))))⟩

theorem f31_ok : compF Go.Proofs.Try.prog 31 f31.body.hints = some f31 := by kernel_rfl


def f32 : AFun := ⟨21, 2, [.cell 4 (.ld true 4)],
  (.seq (.run [1, 2, 4] [⟨some 2, .box, [.tmp 0], none⟩,
     ⟨some 4, (.alloc [(.int .i64 0), (.str []), (.str []), (.str [])]), [], none⟩])
   (.seq (.seq (.run [1, 2, 4, 11] [⟨some 5, (.faddr 3), [.tmp 2], none⟩,
       ⟨some 6, (.ld false 1), [.tmp 5], none⟩,
       ⟨some 7, (.eqg false 6), [.tmp 6, .const (.string ⟨#[45, 45]⟩)], none⟩,
       ⟨some 8, .mv, [.tmp 7], none⟩,
       ⟨some 9, .mv, [.tmp 1], some (8, true)⟩,
       ⟨some 10, (.eqg false 6), [.tmp 9, .const (.int .u8 62)], some (8, true)⟩,
       ⟨some 11, .pick, [.tmp 8, .tmp 10, .const (.bool false)], none⟩])
     (.cond (.tmp 11)
      (.seq (.run [4] [⟨some 12, (.build [(.int .i64 0), (.str []), (.str []), (.str [])] []), [], none⟩,
         ⟨none, (.st 4), [.tmp 4, .tmp 12], none⟩])
       .ret)
      .skip))
    (.seq (.seq (.run [2, 4, 14] [⟨some 13, .mv, [.tmp 1], none⟩,
        ⟨some 14, (.eqg true 6), [.tmp 13, .const (.int .u8 45)], none⟩])
      (.cond (.tmp 14)
       (.seq (.run [4] [⟨some 15, (.build [(.int .i64 0), (.str []), (.str []), (.str [])] [(0, 1)]), [.const (.int .i64 13)], none⟩,
          ⟨none, (.st 4), [.tmp 4, .tmp 15], none⟩])
        .ret)
       .skip))
     (.seq (.seq (.run [4, 18] [⟨some 16, (.faddr 3), [.tmp 2], none⟩,
         ⟨some 17, (.ld false 1), [.tmp 16], none⟩,
         ⟨some 18, (.eqg false 6), [.tmp 17, .const (.string ⟨#[]⟩)], none⟩])
       (.cond (.tmp 18)
        (.seq (.run [4] [⟨some 19, (.build [(.int .i64 0), (.str []), (.str []), (.str [])] [(0, 1), (3, 1)]), [.const (.int .i64 13), .const (.string ⟨#[45]⟩)], none⟩,
           ⟨none, (.st 4), [.tmp 4, .tmp 19], none⟩])
         .ret)
        .skip))
      (.seq (.run [4] [⟨some 20, (.build [(.int .i64 0), (.str []), (.str []), (.str [])] [(0, 1), (3, 1)]), [.const (.int .i64 13), .const (.string ⟨#[45, 45]⟩)], none⟩,
         ⟨none, (.st 4), [.tmp 4, .tmp 20], none⟩])
       .ret)))))⟩

theorem f32_ok : compF Go.Proofs.Try.prog 32 f32.body.hints = some f32 := by kernel_rfl


def f33 : AFun := ⟨96, 2, [.cell 4 (.ld true 4)],
  (.seq (.run [1, 2, 4] [⟨some 2, .box, [.tmp 0], none⟩,
     ⟨some 4, (.alloc [(.int .i64 0), (.str []), (.str []), (.str [])]), [], none⟩])
   (.seq (.run [1, 2, 4, 5] [⟨some 5, .mv, [.const (.int .i64 16)], none⟩])
    (.seq (.run [1, 2, 4, 5, 6] [⟨some 6, .mv, [.const (.string ⟨#[60, 47, 115, 99, 114, 105, 112, 116]⟩)], none⟩])
     (.seq (.seq (.run [1, 2, 4, 5, 6, 11] [⟨some 9, (.faddr 0), [.tmp 2], none⟩,
         ⟨some 10, (.ld false 1), [.tmp 9], none⟩,
         ⟨some 11, (.bin .geq), [.tmp 10, .const (.int .i64 19)], none⟩])
       (.cond (.tmp 11)
        (.seq (.run [1, 2, 4, 5] [⟨some 5, .mv, [.const (.int .i64 19)], none⟩])
         (.run [1, 2, 4, 5, 6] [⟨some 6, .mv, [.const (.string ⟨#[60, 47, 115, 116, 121, 108, 101]⟩)], none⟩]))
        .skip))
      (.seq (.seq (.runD [1, 2, 4, 5, 6, 38] [⟨0, ⟨some 12, (.faddr 3), [.tmp 2], none⟩, []⟩,
          ⟨1, ⟨some 13, (.ld false 1), [.tmp 12], none⟩, []⟩,
          ⟨2, ⟨some 14, (.eqg true 6), [.tmp 13, .const (.string ⟨#[]⟩)], none⟩, []⟩,
          ⟨3, ⟨some 15, .mv, [.tmp 14], none⟩, []⟩,
          ⟨4, ⟨some 16, (.faddr 3), [.tmp 2], some (15, true)⟩, []⟩,
          ⟨5, ⟨some 17, (.ld false 1), [.tmp 16], some (15, true)⟩, []⟩,
          ⟨6, ⟨some 18, .ixs, [.tmp 17, .const (.int .i64 0)], some (15, true)⟩, []⟩,
          ⟨7, ⟨some 19, (.eqg false 6), [.tmp 18, .const (.int .u8 60)], some (15, true)⟩, []⟩,
          ⟨8, ⟨some 20, .pick, [.tmp 15, .tmp 19, .const (.bool false)], none⟩, []⟩,
          ⟨9, ⟨some 21, .mv, [.tmp 20], none⟩, []⟩,
          ⟨10, ⟨some 22, (.faddr 3), [.tmp 2], some (21, true)⟩, []⟩,
          ⟨11, ⟨some 23, (.ld false 1), [.tmp 22], some (21, true)⟩, []⟩,
          ⟨12, ⟨some 24, (.len 0), [.tmp 23], some (21, true)⟩, []⟩,
          ⟨13, ⟨some 25, .mv, [.tmp 6], some (21, true)⟩, []⟩,
          ⟨14, ⟨some 26, (.len 0), [.tmp 25], some (21, true)⟩, []⟩,
          ⟨15, ⟨some 27, (.bin .lss), [.tmp 24, .tmp 26], some (21, true)⟩, []⟩,
          ⟨16, ⟨some 28, .pick, [.tmp 21, .tmp 27, .const (.bool false)], none⟩, []⟩,
          ⟨17, ⟨some 29, .mv, [.tmp 28], none⟩, []⟩,
          ⟨18, ⟨some 30, .mv, [.tmp 6], some (29, true)⟩, []⟩,
          ⟨19, ⟨some 31, (.faddr 3), [.tmp 2], some (29, true)⟩, []⟩,
          ⟨20, ⟨some 32, (.ld false 1), [.tmp 31], some (29, true)⟩, []⟩,
          ⟨21, ⟨some 33, (.len 0), [.tmp 32], some (29, true)⟩, []⟩,
          ⟨22, ⟨some 34, .ixs, [.tmp 30, .tmp 33], some (29, true)⟩, []⟩,
          ⟨23, ⟨some 35, .mv, [.tmp 1], some (29, true)⟩, []⟩,
          ⟨24, ⟨some 36, (.call 52), [.tmp 35], some (29, true)⟩, [20]⟩,
          ⟨25, ⟨some 37, (.eqg false 6), [.tmp 34, .tmp 36], some (29, true)⟩, []⟩,
          ⟨26, ⟨some 38, .pick, [.tmp 29, .tmp 37, .const (.bool false)], none⟩, []⟩])
        (.cond (.tmp 38)
         (.seq (.runD [2, 4, 6] [⟨0, ⟨some 39, (.faddr 3), [.tmp 2], none⟩, []⟩,
            ⟨1, ⟨some 40, (.ld false 1), [.tmp 39], none⟩, []⟩,
            ⟨2, ⟨some 41, .mv, [.tmp 1], none⟩, []⟩,
            ⟨3, ⟨some 42, (.call 52), [.tmp 41], none⟩, [1]⟩,
            ⟨4, ⟨some 43, (.bslice 1 1 [(.int .u8 0)] [(0, 1)]), [.tmp 42], none⟩, [1]⟩,
            ⟨5, ⟨some 44, .cvb, [.tmp 43], none⟩, []⟩,
            ⟨6, ⟨some 45, (.bin .add), [.tmp 40, .tmp 44], none⟩, []⟩,
            ⟨7, ⟨some 46, (.faddr 3), [.tmp 2], none⟩, []⟩,
            ⟨8, ⟨none, (.st 1), [.tmp 46, .tmp 45], none⟩, []⟩])
          (.seq (.seq (.run [2, 4, 50] [⟨some 47, (.faddr 3), [.tmp 2], none⟩,
              ⟨some 48, (.ld false 1), [.tmp 47], none⟩,
              ⟨some 49, .mv, [.tmp 6], none⟩,
              ⟨some 50, (.eqg false 6), [.tmp 48, .tmp 49], none⟩])
            (.cond (.tmp 50)
             (.seq (.run [4] [⟨some 51, (.build [(.int .i64 0), (.str []), (.str []), (.str [])] [(0, 1)]), [.const (.int .i64 15)], none⟩,
                ⟨none, (.st 4), [.tmp 4, .tmp 51], none⟩])
              .ret)
             .skip))
           (.seq (.run [4] [⟨some 52, (.ld true 4), [.tmp 2], none⟩,
              ⟨none, (.st 4), [.tmp 4, .tmp 52], none⟩])
            .ret)))
         .skip))
       (.seq (.run [1, 2, 4, 5, 7] [⟨some 53, (.faddr 3), [.tmp 2], none⟩,
          ⟨some 54, (.ld false 1), [.tmp 53], none⟩,
          ⟨some 55, (.eqg false 6), [.tmp 54, .const (.string ⟨#[92]⟩)], none⟩,
          ⟨some 7, .mv, [.tmp 55], none⟩])
        (.seq (.run [1, 2, 4, 5, 7] [⟨some 56, (.faddr 3), [.tmp 2], none⟩,
           ⟨none, (.st 1), [.tmp 56, .const (.string ⟨#[]⟩)], none⟩])
         (.seq (.seq (.run [1, 2, 4, 5, 7, 58] [⟨some 57, .mv, [.tmp 1], none⟩,
             ⟨some 58, (.eqg false 6), [.tmp 57, .const (.int .u8 60)], none⟩])
           (.cond (.tmp 58)
            (.seq (.run [2, 4] [⟨some 59, (.faddr 3), [.tmp 2], none⟩,
               ⟨none, (.st 1), [.tmp 59, .const (.string ⟨#[60]⟩)], none⟩])
             (.seq (.run [4] [⟨some 60, (.ld true 4), [.tmp 2], none⟩,
                ⟨none, (.st 4), [.tmp 4, .tmp 60], none⟩])
              .ret))
            .skip))
          (.seq (.seq (.run [1, 2, 4, 5, 61] [⟨some 61, .mv, [.tmp 7], none⟩])
            (.cond (.tmp 61)
             (.seq (.run [4] [⟨some 62, (.ld true 4), [.tmp 2], none⟩,
                ⟨none, (.st 4), [.tmp 4, .tmp 62], none⟩])
              .ret)
             .skip))
           (.seq (.seq (.run [1, 2, 4, 5, 66] [⟨some 63, (.faddr 0), [.tmp 2], none⟩,
               ⟨some 64, (.ld false 1), [.tmp 63], none⟩,
               ⟨some 65, .mv, [.tmp 5], none⟩,
               ⟨some 66, (.eqg false 6), [.tmp 64, .tmp 65], none⟩])
             (.cond (.tmp 66)
              (.seq (.seq (.run [1, 2, 4, 5, 68] [⟨some 67, .mv, [.tmp 1], none⟩,
                  ⟨some 68, (.eqg false 6), [.tmp 67, .const (.int .u8 34)], none⟩])
                (.cond (.tmp 68)
                 (.run [1, 2, 4, 5] [⟨some 69, .mv, [.tmp 5], none⟩,
                   ⟨some 70, (.bin .add), [.tmp 69, .const (.int .i64 1)], none⟩,
                   ⟨some 71, (.faddr 0), [.tmp 2], none⟩,
                   ⟨none, (.st 1), [.tmp 71, .tmp 70], none⟩])
                 .skip))
               (.seq (.seq (.run [2, 4, 5, 73] [⟨some 72, .mv, [.tmp 1], none⟩,
                   ⟨some 73, (.eqg false 6), [.tmp 72, .const (.int .u8 39)], none⟩])
                 (.cond (.tmp 73)
                  (.run [2, 4] [⟨some 74, .mv, [.tmp 5], none⟩,
                    ⟨some 75, (.bin .add), [.tmp 74, .const (.int .i64 2)], none⟩,
                    ⟨some 76, (.faddr 0), [.tmp 2], none⟩,
                    ⟨none, (.st 1), [.tmp 76, .tmp 75], none⟩])
                  .skip))
                (.seq (.run [4] [⟨some 77, (.ld true 4), [.tmp 2], none⟩,
                   ⟨none, (.st 4), [.tmp 4, .tmp 77], none⟩])
                 .ret)))
              .skip))
            (.seq (.run [1, 2, 4, 5, 8] [⟨some 8, .mv, [.const (.int .u8 34)], none⟩])
             (.seq (.seq (.run [1, 2, 4, 5, 8, 82] [⟨some 78, (.faddr 0), [.tmp 2], none⟩,
                 ⟨some 79, (.ld false 1), [.tmp 78], none⟩,
                 ⟨some 80, .mv, [.tmp 5], none⟩,
                 ⟨some 81, (.bin .add), [.tmp 80, .const (.int .i64 2)], none⟩,
                 ⟨some 82, (.eqg false 6), [.tmp 79, .tmp 81], none⟩])
               (.cond (.tmp 82)
                (.run [1, 2, 4, 5, 8] [⟨some 8, .mv, [.const (.int .u8 39)], none⟩])
                .skip))
              (.seq (.seq (.run [1, 2, 4, 5, 89] [⟨some 83, .mv, [.tmp 1], none⟩,
                  ⟨some 84, .mv, [.tmp 8], none⟩,
                  ⟨some 85, (.eqg false 6), [.tmp 83, .tmp 84], none⟩,
                  ⟨some 86, .mv, [.tmp 85], none⟩,
                  ⟨some 87, .mv, [.tmp 1], some (86, false)⟩,
                  ⟨some 88, (.eqg false 6), [.tmp 87, .const (.int .u8 10)], some (86, false)⟩,
                  ⟨some 89, .pick, [.tmp 86, .const (.bool true), .tmp 88], none⟩])
                (.cond (.tmp 89)
                 (.run [1, 2, 4] [⟨some 90, .mv, [.tmp 5], none⟩,
                   ⟨some 91, (.faddr 0), [.tmp 2], none⟩,
                   ⟨none, (.st 1), [.tmp 91, .tmp 90], none⟩])
                 .skip))
               (.seq (.seq (.run [2, 4, 93] [⟨some 92, .mv, [.tmp 1], none⟩,
                   ⟨some 93, (.eqg false 6), [.tmp 92, .const (.int .u8 92)], none⟩])
                 (.cond (.tmp 93)
                  (.run [2, 4] [⟨some 94, (.faddr 3), [.tmp 2], none⟩,
                    ⟨none, (.st 1), [.tmp 94, .const (.string ⟨#[92]⟩)], none⟩])
                  .skip))
                (.seq (.run [4] [⟨some 95, (.ld true 4), [.tmp 2], none⟩,
                   ⟨none, (.st 4), [.tmp 4, .tmp 95], none⟩])
                 .ret)))))))))))))))⟩

theorem f33_ok : compF Go.Proofs.Try.prog 33 f33.body.hints = some f33 := by kernel_rfl


def f38 : AFun := ⟨17, 1, [.slot 2],
  (.seq (.run [0] [⟨some 2, .mv, [.const (.bool false)], none⟩])
   (.seq (.run [2] [⟨some 3, .mv, [.tmp 0], none⟩,
      ⟨some 4, (.bin .geq), [.tmp 3, .const (.int .u8 97)], none⟩,
      ⟨some 5, .mv, [.tmp 4], none⟩,
      ⟨some 6, .mv, [.tmp 0], some (5, true)⟩,
      ⟨some 7, (.bin .leq), [.tmp 6, .const (.int .u8 122)], some (5, true)⟩,
      ⟨some 8, .pick, [.tmp 5, .tmp 7, .const (.bool false)], none⟩,
      ⟨some 9, .mv, [.tmp 8], none⟩,
      ⟨some 10, .mv, [.tmp 0], some (9, false)⟩,
      ⟨some 11, (.bin .geq), [.tmp 10, .const (.int .u8 65)], some (9, false)⟩,
      ⟨some 12, .mv, [.tmp 11], some (9, false)⟩,
      ⟨some 13, .mv, [.tmp 0], some (12, true)⟩,
      ⟨some 14, (.bin .leq), [.tmp 13, .const (.int .u8 90)], some (12, true)⟩,
      ⟨some 15, .pick, [.tmp 12, .tmp 14, .const (.bool false)], some (9, false)⟩,
      ⟨some 16, .pick, [.tmp 9, .const (.bool true), .tmp 15], none⟩,
      ⟨some 2, .mv, [.tmp 16], none⟩])
    .ret))⟩

theorem f38_ok : compF Go.Proofs.Try.prog 38 f38.body.hints = some f38 := by kernel_rfl


def f39 : AFun := ⟨14, 1, [.slot 2],
  (.seq (.run [0] [⟨some 2, .mv, [.const (.string ⟨#[]⟩)], none⟩])
   (.seq (.seq (.run [0, 8] [⟨some 3, .mv, [.tmp 0], none⟩,
       ⟨some 4, (.bin .geq), [.tmp 3, .const (.int .u8 65)], none⟩,
       ⟨some 5, .mv, [.tmp 4], none⟩,
       ⟨some 6, .mv, [.tmp 0], some (5, true)⟩,
       ⟨some 7, (.bin .leq), [.tmp 6, .const (.int .u8 90)], some (5, true)⟩,
       ⟨some 8, .pick, [.tmp 5, .tmp 7, .const (.bool false)], none⟩])
     (.cond (.tmp 8)
      (.run [0] [⟨some 9, .mv, [.tmp 0], none⟩,
        ⟨some 10, (.bin .add), [.tmp 9, .const (.int .u8 32)], none⟩,
        ⟨some 0, .mv, [.tmp 10], none⟩])
      .skip))
    (.seq (.run [2] [⟨some 11, .mv, [.tmp 0], none⟩,
       ⟨some 12, (.bslice 1 1 [(.int .u8 0)] [(0, 1)]), [.tmp 11], none⟩,
       ⟨some 13, .cvb, [.tmp 12], none⟩,
       ⟨some 2, .mv, [.tmp 13], none⟩])
     .ret)))⟩

theorem f39_ok : compF Go.Proofs.Try.prog 39 f39.body.hints = some f39 := by kernel_rfl


def f40 : AFun := ⟨8, 2, [.cell 4 (.ld true 4)],
  (.seq (.run [1, 2, 4] [⟨some 2, .box, [.tmp 0], none⟩,
     ⟨some 4, (.alloc [(.int .i64 0), (.str []), (.str []), (.str [])]), [], none⟩])
   (.seq (.run [2, 4] [⟨some 5, .mv, [.tmp 1], none⟩,
      ⟨some 6, (.faddr 3), [.tmp 2], none⟩,
      ⟨none, (.st 1), [.tmp 6, .tmp 5], none⟩])
    (.seq (.run [4] [⟨some 7, (.ld true 4), [.tmp 2], none⟩,
       ⟨none, (.st 4), [.tmp 4, .tmp 7], none⟩])
     .ret)))⟩

theorem f40_ok : compF Go.Proofs.Try.prog 40 f40.body.hints = some f40 := by kernel_rfl


def f41 : AFun := ⟨8, 2, [.slot 4],
  (.seq (.run [0, 1] [⟨some 4, .mv, [.const (.bool false)], none⟩])
   (.seq (.run [4] [⟨some 5, .mv, [.tmp 0], none⟩,
      ⟨some 6, .mv, [.tmp 1], none⟩,
      ⟨some 7, (.call 57), [.tmp 5, .tmp 6], none⟩,
      ⟨some 4, .mv, [.tmp 7], none⟩])
    .ret))⟩

theorem f41_ok : compF Go.Proofs.Try.prog 41 f41.body.hints = some f41 := by kernel_rfl


def f42 : AFun := ⟨9, 2, [.cell 4 (.ld true 4)],
  (.seq (.run [1, 2, 4] [⟨some 2, .box, [.tmp 0], none⟩,
     ⟨some 4, (.alloc [(.int .i64 0), (.str []), (.str []), (.str [])]), [], none⟩])
   (.seq (.run [4] [⟨some 5, .mv, [.tmp 1], none⟩,
      ⟨some 6, (.faddr 1), [.tmp 2], none⟩,
      ⟨some 7, (.ld false 1), [.tmp 6], none⟩,
      ⟨some 8, (.build [(.int .i64 0), (.str []), (.str []), (.str [])] [(0, 1), (1, 1)]), [.tmp 5, .tmp 7], none⟩,
      ⟨none, (.st 4), [.tmp 4, .tmp 8], none⟩])
    .ret))⟩

theorem f42_ok : compF Go.Proofs.Try.prog 42 f42.body.hints = some f42 := by kernel_rfl


def f43 : AFun := ⟨12, 1, [.cell 2 (.ld true 4)],
  (.seq (.run [1, 2] [⟨some 1, .box, [.tmp 0], none⟩,
     ⟨some 2, (.alloc [(.int .i64 0), (.str []), (.str []), (.str [])]), [], none⟩])
   (.seq (.seq (.run [2, 4] [⟨some 3, (.faddr 1), [.tmp 1], none⟩,
       ⟨some 4, (.ld false 1), [.tmp 3], none⟩])
     (.block 0 (.seq (.run [2, 4, 5] [⟨some 6, (.eqg false 6), [.tmp 4, .const (.string ⟨#[115, 99, 114, 105, 112, 116]⟩)], none⟩,
         ⟨some 5, .mv, [.tmp 6], none⟩])
       (.cond (.tmp 5)
        (.seq (.run [2] [⟨some 7, (.build [(.int .i64 0), (.str []), (.str []), (.str [])] [(0, 1)]), [.const (.int .i64 16)], none⟩,
           ⟨none, (.st 4), [.tmp 2, .tmp 7], none⟩])
         .ret)
        (.seq (.run [2, 8] [⟨some 9, (.eqg false 6), [.tmp 4, .const (.string ⟨#[115, 116, 121, 108, 101]⟩)], none⟩,
           ⟨some 8, .mv, [.tmp 9], none⟩])
         (.cond (.tmp 8)
          (.seq (.run [2] [⟨some 10, (.build [(.int .i64 0), (.str []), (.str []), (.str [])] [(0, 1)]), [.const (.int .i64 19)], none⟩,
             ⟨none, (.st 4), [.tmp 2, .tmp 10], none⟩])
           .ret)
          .skip))))))
    (.seq (.run [2] [⟨some 11, (.build [(.int .i64 0), (.str []), (.str []), (.str [])] []), [], none⟩,
       ⟨none, (.st 4), [.tmp 2, .tmp 11], none⟩])
     .ret)))⟩

theorem f43_ok : compF Go.Proofs.Try.prog 43 f43.body.hints = some f43 := by kernel_rfl


def f44 : AFun := ⟨55, 2, [.cell 4 (.ld true 4)],
  (.seq (.run [1, 2, 4] [⟨some 2, .box, [.tmp 0], none⟩,
     ⟨some 4, (.alloc [(.int .i64 0), (.str []), (.str []), (.str [])]), [], none⟩])
   (.seq (.block 0 (.seq (.run [1, 2, 4, 7] [⟨some 8, .mv, [.tmp 1], none⟩,
        ⟨some 9, (.call 46), [.tmp 8], none⟩,
        ⟨some 7, .mv, [.tmp 9], none⟩])
      (.cond (.tmp 7)
       (.seq (.run [4] [⟨some 10, (.ld true 4), [.tmp 2], none⟩,
          ⟨none, (.st 4), [.tmp 4, .tmp 10], none⟩])
        .ret)
       (.seq (.run [1, 2, 4, 11] [⟨some 12, .mv, [.tmp 1], none⟩,
          ⟨some 13, (.eqg true 6), [.tmp 12, .const (.int .u8 34)], none⟩,
          ⟨some 14, .mv, [.tmp 13], none⟩,
          ⟨some 15, .mv, [.tmp 1], some (14, true)⟩,
          ⟨some 16, (.eqg true 6), [.tmp 15, .const (.int .u8 39)], some (14, true)⟩,
          ⟨some 17, .pick, [.tmp 14, .tmp 16, .const (.bool false)], none⟩,
          ⟨some 11, .mv, [.tmp 17], none⟩])
        (.cond (.tmp 11)
         (.seq (.run [4] [⟨some 18, (.ld true 4), [.tmp 2], none⟩,
            ⟨some 19, (.call 42), [.tmp 18, .const (.int .i64 6)], none⟩,
            ⟨none, (.st 4), [.tmp 4, .tmp 19], none⟩])
          .ret)
         .skip)))))
    (.seq (.run [1, 2, 4, 5] [⟨some 5, .mv, [.const (.int .i64 7)], none⟩])
     (.seq (.seq (.run [1, 2, 4, 5, 6] [⟨some 20, (.faddr 2), [.tmp 2], none⟩,
         ⟨some 21, (.ld false 1), [.tmp 20], none⟩,
         ⟨some 6, .mv, [.tmp 21], none⟩])
       (.block 1 (.seq (.run [1, 2, 4, 5, 6, 22] [⟨some 23, .mv, [.tmp 6], none⟩,
           ⟨some 24, (.eqg false 6), [.tmp 23, .const (.string ⟨#[104, 114, 101, 102]⟩)], none⟩,
           ⟨some 25, .mv, [.tmp 24], none⟩,
           ⟨some 26, .mv, [.tmp 6], some (25, false)⟩,
           ⟨some 27, (.eqg false 6), [.tmp 26, .const (.string ⟨#[115, 114, 99]⟩)], some (25, false)⟩,
           ⟨some 28, .pick, [.tmp 25, .const (.bool true), .tmp 27], none⟩,
           ⟨some 29, .mv, [.tmp 28], none⟩,
           ⟨some 30, .mv, [.tmp 6], some (29, false)⟩,
           ⟨some 31, (.eqg false 6), [.tmp 30, .const (.string ⟨#[97, 99, 116, 105, 111, 110]⟩)], some (29, false)⟩,
           ⟨some 32, .pick, [.tmp 29, .const (.bool true), .tmp 31], none⟩,
           ⟨some 33, .mv, [.tmp 32], none⟩,
           ⟨some 34, .mv, [.tmp 6], some (33, false)⟩,
           ⟨some 35, (.eqg false 6), [.tmp 34, .const (.string ⟨#[102, 111, 114, 109, 97, 99, 116, 105, 111, 110]⟩)], some (33, false)⟩,
           ⟨some 36, .pick, [.tmp 33, .const (.bool true), .tmp 35], none⟩,
           ⟨some 22, .mv, [.tmp 36], none⟩])
         (.cond (.tmp 22)
          (.run [1, 2, 4, 5] [⟨some 5, .mv, [.const (.int .i64 9)], none⟩])
          (.seq (.run [1, 2, 4, 5, 37] [⟨some 38, .mv, [.tmp 6], none⟩,
             ⟨some 39, (.eqg false 6), [.tmp 38, .const (.string ⟨#[115, 116, 121, 108, 101]⟩)], none⟩,
             ⟨some 40, .mv, [.tmp 39], none⟩,
             ⟨some 41, .mv, [.tmp 6], some (40, false)⟩,
             ⟨some 42, (.eqg false 6), [.tmp 41, .const (.string ⟨#[115, 114, 99, 100, 111, 99]⟩)], some (40, false)⟩,
             ⟨some 43, .pick, [.tmp 40, .const (.bool true), .tmp 42], none⟩,
             ⟨some 44, .mv, [.tmp 43], none⟩,
             ⟨some 45, .mv, [.tmp 6], some (44, false)⟩,
             ⟨some 46, (.call 41), [.tmp 45, .const (.string ⟨#[111, 110]⟩)], some (44, false)⟩,
             ⟨some 47, .pick, [.tmp 44, .const (.bool true), .tmp 46], none⟩,
             ⟨some 37, .mv, [.tmp 47], none⟩])
           (.cond (.tmp 37)
            (.run [1, 2, 4, 5] [⟨some 5, .mv, [.const (.int .i64 11)], none⟩])
            .skip))))))
      (.seq (.seq (.run [2, 4, 5, 49] [⟨some 48, .mv, [.tmp 1], none⟩,
          ⟨some 49, (.eqg false 6), [.tmp 48, .const (.int .u8 39)], none⟩])
        (.cond (.tmp 49)
         (.run [2, 4, 5] [⟨some 50, .mv, [.tmp 5], none⟩,
           ⟨some 51, (.bin .add), [.tmp 50, .const (.int .i64 1)], none⟩,
           ⟨some 5, .mv, [.tmp 51], none⟩])
         .skip))
       (.seq (.run [4] [⟨some 52, (.ld true 4), [.tmp 2], none⟩,
          ⟨some 53, .mv, [.tmp 5], none⟩,
          ⟨some 54, (.call 42), [.tmp 52, .tmp 53], none⟩,
          ⟨none, (.st 4), [.tmp 4, .tmp 54], none⟩])
        .ret))))))⟩

theorem f44_ok : compF Go.Proofs.Try.prog 44 f44.body.hints = some f44 := by kernel_rfl


def f45 : AFun := ⟨63, 2, [.cell 4 (.ld true 4)],
  (.seq (.run [1, 2, 4] [⟨some 2, .box, [.tmp 0], none⟩,
     ⟨some 4, (.alloc [(.int .i64 0), (.str []), (.str []), (.str [])]), [], none⟩])
   (.seq (.block 0 (.seq (.seq (.run [1, 2, 4, 5] [⟨some 6, .mv, [.tmp 1], none⟩,
         ⟨some 7, (.eqg false 6), [.tmp 6, .const (.int .u8 47)], none⟩,
         ⟨some 5, .mv, [.tmp 7], none⟩])
       (.cond (.tmp 5)
        .skip
        (.run [1, 2, 4, 5] [⟨some 8, (.faddr 0), [.tmp 2], none⟩,
          ⟨some 9, (.ld false 1), [.tmp 8], none⟩,
          ⟨some 10, (.eqg false 6), [.tmp 9, .const (.int .i64 2)], none⟩,
          ⟨some 11, .mv, [.tmp 10], none⟩,
          ⟨some 12, .mv, [.tmp 1], some (11, true)⟩,
          ⟨some 13, (.call 46), [.tmp 12], some (11, true)⟩,
          ⟨some 14, .pick, [.tmp 11, .tmp 13, .const (.bool false)], none⟩,
          ⟨some 5, .mv, [.tmp 14], none⟩])))
      (.cond (.tmp 5)
       (.seq (.run [4] [⟨some 15, (.ld true 4), [.tmp 2], none⟩,
          ⟨some 16, (.call 42), [.tmp 15, .const (.int .i64 1)], none⟩,
          ⟨none, (.st 4), [.tmp 4, .tmp 16], none⟩])
        .ret)
       (.seq (.run [1, 2, 4, 17] [⟨some 18, (.faddr 0), [.tmp 2], none⟩,
          ⟨some 19, (.ld false 1), [.tmp 18], none⟩,
          ⟨some 20, (.eqg false 6), [.tmp 19, .const (.int .i64 2)], none⟩,
          ⟨some 17, .mv, [.tmp 20], none⟩])
        (.cond (.tmp 17)
         (.seq (.run [2, 4] [⟨some 21, (.faddr 1), [.tmp 2], none⟩,
            ⟨some 22, (.ld false 1), [.tmp 21], none⟩,
            ⟨some 23, .mv, [.tmp 1], none⟩,
            ⟨some 24, (.call 58), [.tmp 22, .tmp 23], none⟩,
            ⟨some 25, (.faddr 1), [.tmp 2], none⟩,
            ⟨none, (.st 1), [.tmp 25, .tmp 24], none⟩])
          (.seq (.run [4] [⟨some 26, (.ld true 4), [.tmp 2], none⟩,
             ⟨none, (.st 4), [.tmp 4, .tmp 26], none⟩])
           .ret))
         (.seq (.run [1, 2, 4, 27] [⟨some 28, (.faddr 0), [.tmp 2], none⟩,
            ⟨some 29, (.ld false 1), [.tmp 28], none⟩,
            ⟨some 30, (.eqg false 6), [.tmp 29, .const (.int .i64 1)], none⟩,
            ⟨some 31, .mv, [.tmp 30], none⟩,
            ⟨some 32, .mv, [.tmp 1], some (31, true)⟩,
            ⟨some 33, (.call 46), [.tmp 32], some (31, true)⟩,
            ⟨some 34, .pick, [.tmp 31, .tmp 33, .const (.bool false)], none⟩,
            ⟨some 27, .mv, [.tmp 34], none⟩])
          (.cond (.tmp 27)
           (.seq (.run [4] [⟨some 35, (.ld true 4), [.tmp 2], none⟩,
              ⟨none, (.st 4), [.tmp 4, .tmp 35], none⟩])
            .ret)
           (.seq (.run [1, 2, 4, 36] [⟨some 37, .mv, [.tmp 1], none⟩,
              ⟨some 38, (.call 46), [.tmp 37], none⟩,
              ⟨some 36, .mv, [.tmp 38], none⟩])
            (.cond (.tmp 36)
             (.seq (.run [2, 4] [⟨some 39, (.faddr 0), [.tmp 2], none⟩,
                ⟨none, (.st 1), [.tmp 39, .const (.int .i64 4)], none⟩])
              (.seq (.run [4] [⟨some 40, (.ld true 4), [.tmp 2], none⟩,
                 ⟨none, (.st 4), [.tmp 4, .tmp 40], none⟩])
               .ret))
             (.seq (.run [1, 2, 4, 41] [⟨some 42, (.faddr 0), [.tmp 2], none⟩,
                ⟨some 43, (.ld false 1), [.tmp 42], none⟩,
                ⟨some 44, (.eqg true 6), [.tmp 43, .const (.int .i64 1)], none⟩,
                ⟨some 45, .mv, [.tmp 44], none⟩,
                ⟨some 46, .mv, [.tmp 1], some (45, true)⟩,
                ⟨some 47, (.eqg false 6), [.tmp 46, .const (.int .u8 61)], some (45, true)⟩,
                ⟨some 48, .pick, [.tmp 45, .tmp 47, .const (.bool false)], none⟩,
                ⟨some 41, .mv, [.tmp 48], none⟩])
              (.cond (.tmp 41)
               (.seq (.run [2, 4] [⟨some 49, (.faddr 0), [.tmp 2], none⟩,
                  ⟨none, (.st 1), [.tmp 49, .const (.int .i64 5)], none⟩])
                (.seq (.run [4] [⟨some 50, (.ld true 4), [.tmp 2], none⟩,
                   ⟨none, (.st 4), [.tmp 4, .tmp 50], none⟩])
                 .ret))
               (.seq (.run [1, 2, 4, 51] [⟨some 52, (.faddr 0), [.tmp 2], none⟩,
                  ⟨some 53, (.ld false 1), [.tmp 52], none⟩,
                  ⟨some 54, (.eqg true 6), [.tmp 53, .const (.int .i64 3)], none⟩,
                  ⟨some 51, .mv, [.tmp 54], none⟩])
                (.cond (.tmp 51)
                 (.run [1, 2, 4] [⟨some 55, (.ld true 4), [.tmp 2], none⟩,
                   ⟨some 56, (.call 42), [.tmp 55, .const (.int .i64 3)], none⟩,
                   ⟨none, (.st 4), [.tmp 2, .tmp 56], none⟩])
                 .skip)))))))))))))
    (.seq (.run [2, 4] [⟨some 57, (.faddr 2), [.tmp 2], none⟩,
       ⟨some 58, (.ld false 1), [.tmp 57], none⟩,
       ⟨some 59, .mv, [.tmp 1], none⟩,
       ⟨some 60, (.call 58), [.tmp 58, .tmp 59], none⟩,
       ⟨some 61, (.faddr 2), [.tmp 2], none⟩,
       ⟨none, (.st 1), [.tmp 61, .tmp 60], none⟩])
     (.seq (.run [4] [⟨some 62, (.ld true 4), [.tmp 2], none⟩,
        ⟨none, (.st 4), [.tmp 4, .tmp 62], none⟩])
      .ret))))⟩

theorem f45_ok : compF Go.Proofs.Try.prog 45 f45.body.hints = some f45 := by kernel_rfl


def f46 : AFun := ⟨6, 1, [.slot 2],
  (.seq (.run [0] [⟨some 2, .mv, [.const (.bool false)], none⟩])
   (.seq (.run [2] [⟨some 3, .mv, [.tmp 0], none⟩,
      ⟨some 4, (.call 59), [.const (.string ⟨#[32, 9, 10, 12, 13]⟩), .tmp 3], none⟩,
      ⟨some 5, (.bin .geq), [.tmp 4, .const (.int .i64 0)], none⟩,
      ⟨some 2, .mv, [.tmp 5], none⟩])
    .ret))⟩

theorem f46_ok : compF Go.Proofs.Try.prog 46 f46.body.hints = some f46 := by kernel_rfl


def f47 : AFun := ⟨11, 1, [.slot 2],
  (.seq (.run [0] [⟨some 2, .mv, [.const (.bool false)], none⟩])
   (.seq (.run [2] [⟨some 3, .mv, [.tmp 0], none⟩,
      ⟨some 4, (.call 52), [.tmp 3], none⟩,
      ⟨some 5, (.bin .geq), [.tmp 4, .const (.int .u8 97)], none⟩,
      ⟨some 6, .mv, [.tmp 5], none⟩,
      ⟨some 7, .mv, [.tmp 0], some (6, true)⟩,
      ⟨some 8, (.call 52), [.tmp 7], some (6, true)⟩,
      ⟨some 9, (.bin .leq), [.tmp 8, .const (.int .u8 122)], some (6, true)⟩,
      ⟨some 10, .pick, [.tmp 6, .tmp 9, .const (.bool false)], none⟩,
      ⟨some 2, .mv, [.tmp 10], none⟩])
    .ret))⟩

theorem f47_ok : compF Go.Proofs.Try.prog 47 f47.body.hints = some f47 := by kernel_rfl


def f48 : AFun := ⟨15, 2, [.slot 4],
  (.seq (.run [0, 1] [⟨some 4, .mv, [.const (.string ⟨#[]⟩)], none⟩])
   (.seq (.seq (.run [0, 1, 7] [⟨some 5, .mv, [.tmp 0], none⟩,
       ⟨some 6, (.len 0), [.tmp 5], none⟩,
       ⟨some 7, (.bin .geq), [.tmp 6, .const (.int .i64 16)], none⟩])
     (.cond (.tmp 7)
      (.seq (.run [4] [⟨some 8, .mv, [.tmp 0], none⟩,
         ⟨some 4, .mv, [.tmp 8], none⟩])
       .ret)
      .skip))
    (.seq (.run [4] [⟨some 9, .mv, [.tmp 0], none⟩,
       ⟨some 10, .mv, [.tmp 1], none⟩,
       ⟨some 11, (.call 52), [.tmp 10], none⟩,
       ⟨some 12, (.bslice 1 1 [(.int .u8 0)] [(0, 1)]), [.tmp 11], none⟩,
       ⟨some 13, .cvb, [.tmp 12], none⟩,
       ⟨some 14, (.bin .add), [.tmp 9, .tmp 13], none⟩,
       ⟨some 4, .mv, [.tmp 14], none⟩])
     .ret)))⟩

theorem f48_ok : compF Go.Proofs.Try.prog 48 f48.body.hints = some f48 := by kernel_rfl


def f49 : AFun := ⟨11, 1, [.cell 2 (.ld true 4)],
  (.seq (.run [0, 2] [⟨some 2, (.alloc [(.int .i64 0), (.str []), (.str []), (.str [])]), [], none⟩])
   (.seq (.seq (.run [2, 3] [⟨some 3, .mv, [.tmp 0], none⟩])
     (.block 0 (.seq (.run [2, 3, 4] [⟨some 5, (.eqg false 6), [.tmp 3, .const (.string ⟨#[115, 99, 114, 105, 112, 116]⟩)], none⟩,
         ⟨some 4, .mv, [.tmp 5], none⟩])
       (.cond (.tmp 4)
        (.seq (.run [2] [⟨some 6, (.build [(.int .i64 0), (.str []), (.str []), (.str [])] [(0, 1)]), [.const (.int .i64 16)], none⟩,
           ⟨none, (.st 4), [.tmp 2, .tmp 6], none⟩])
         .ret)
        (.seq (.run [2, 7] [⟨some 8, (.eqg false 6), [.tmp 3, .const (.string ⟨#[115, 116, 121, 108, 101]⟩)], none⟩,
           ⟨some 7, .mv, [.tmp 8], none⟩])
         (.cond (.tmp 7)
          (.seq (.run [2] [⟨some 9, (.build [(.int .i64 0), (.str []), (.str []), (.str [])] [(0, 1)]), [.const (.int .i64 19)], none⟩,
             ⟨none, (.st 4), [.tmp 2, .tmp 9], none⟩])
           .ret)
          .skip))))))
    (.seq (.run [2] [⟨some 10, (.build [(.int .i64 0), (.str []), (.str []), (.str [])] []), [], none⟩,
       ⟨none, (.st 4), [.tmp 2, .tmp 10], none⟩])
     .ret)))⟩

theorem f49_ok : compF Go.Proofs.Try.prog 49 f49.body.hints = some f49 := by kernel_rfl


def f50 : AFun := ⟨21, 1, [.slot 2],
  (.seq (.run [0] [⟨some 2, .mv, [.const (.bool false)], none⟩])
   (.seq (.run [2] [⟨some 3, .mv, [.tmp 0], none⟩,
      ⟨some 4, (.eqg false 6), [.tmp 3, .const (.int .u8 32)], none⟩,
      ⟨some 5, .mv, [.tmp 4], none⟩,
      ⟨some 6, .mv, [.tmp 0], some (5, false)⟩,
      ⟨some 7, (.eqg false 6), [.tmp 6, .const (.int .u8 9)], some (5, false)⟩,
      ⟨some 8, .pick, [.tmp 5, .const (.bool true), .tmp 7], none⟩,
      ⟨some 9, .mv, [.tmp 8], none⟩,
      ⟨some 10, .mv, [.tmp 0], some (9, false)⟩,
      ⟨some 11, (.eqg false 6), [.tmp 10, .const (.int .u8 10)], some (9, false)⟩,
      ⟨some 12, .pick, [.tmp 9, .const (.bool true), .tmp 11], none⟩,
      ⟨some 13, .mv, [.tmp 12], none⟩,
      ⟨some 14, .mv, [.tmp 0], some (13, false)⟩,
      ⟨some 15, (.eqg false 6), [.tmp 14, .const (.int .u8 12)], some (13, false)⟩,
      ⟨some 16, .pick, [.tmp 13, .const (.bool true), .tmp 15], none⟩,
      ⟨some 17, .mv, [.tmp 16], none⟩,
      ⟨some 18, .mv, [.tmp 0], some (17, false)⟩,
      ⟨some 19, (.eqg false 6), [.tmp 18, .const (.int .u8 13)], some (17, false)⟩,
      ⟨some 20, .pick, [.tmp 17, .const (.bool true), .tmp 19], none⟩,
      ⟨some 2, .mv, [.tmp 20], none⟩])
    .ret))⟩

theorem f50_ok : compF Go.Proofs.Try.prog 50 f50.body.hints = some f50 := by kernel_rfl


def f51 : AFun := ⟨28, 2, [.slot 4],
  (.seq (.run [0, 1] [⟨some 4, .mv, [.const (.int .i64 0)], none⟩])
   (.seq (.run [0, 1, 5] [⟨some 5, .mv, [.const (.int .i64 7)], none⟩])
    (.seq (.seq (.run [0, 1, 5, 6] [⟨some 6, .mv, [.tmp 0], none⟩])
      (.block 0 (.seq (.seq (.run [0, 1, 5, 6, 7] [⟨some 8, (.eqg false 6), [.tmp 6, .const (.string ⟨#[104, 114, 101, 102]⟩)], none⟩,
           ⟨some 7, .mv, [.tmp 8], none⟩])
         (.cond (.tmp 7)
          .skip
          (.seq (.run [0, 1, 5, 6, 7] [⟨some 9, (.eqg false 6), [.tmp 6, .const (.string ⟨#[115, 114, 99]⟩)], none⟩,
             ⟨some 7, .mv, [.tmp 9], none⟩])
           (.cond (.tmp 7)
            .skip
            (.seq (.run [0, 1, 5, 6, 7] [⟨some 10, (.eqg false 6), [.tmp 6, .const (.string ⟨#[97, 99, 116, 105, 111, 110]⟩)], none⟩,
               ⟨some 7, .mv, [.tmp 10], none⟩])
             (.cond (.tmp 7)
              .skip
              (.run [0, 1, 5, 6, 7] [⟨some 11, (.eqg false 6), [.tmp 6, .const (.string ⟨#[102, 111, 114, 109, 97, 99, 116, 105, 111, 110]⟩)], none⟩,
                ⟨some 7, .mv, [.tmp 11], none⟩])))))))
        (.cond (.tmp 7)
         (.run [0, 1, 5] [⟨some 5, .mv, [.const (.int .i64 9)], none⟩])
         (.seq (.seq (.run [0, 1, 5, 6, 12] [⟨some 13, (.eqg false 6), [.tmp 6, .const (.string ⟨#[115, 116, 121, 108, 101]⟩)], none⟩,
             ⟨some 12, .mv, [.tmp 13], none⟩])
           (.cond (.tmp 12)
            .skip
            (.run [0, 1, 5, 12] [⟨some 14, (.eqg false 6), [.tmp 6, .const (.string ⟨#[115, 114, 99, 100, 111, 99]⟩)], none⟩,
              ⟨some 12, .mv, [.tmp 14], none⟩])))
          (.cond (.tmp 12)
           (.run [0, 1, 5] [⟨some 5, .mv, [.const (.int .i64 11)], none⟩])
           .skip))))))
     (.seq (.seq (.run [1, 5, 22] [⟨some 15, .mv, [.tmp 0], none⟩,
         ⟨some 16, (.len 0), [.tmp 15], none⟩,
         ⟨some 17, (.bin .geq), [.tmp 16, .const (.int .i64 2)], none⟩,
         ⟨some 18, .mv, [.tmp 17], none⟩,
         ⟨some 19, .mv, [.tmp 0], some (18, true)⟩,
         ⟨some 20, (.slc 0 false true), [.tmp 19, .const (.int .i64 2)], some (18, true)⟩,
         ⟨some 21, (.eqg false 6), [.tmp 20, .const (.string ⟨#[111, 110]⟩)], some (18, true)⟩,
         ⟨some 22, .pick, [.tmp 18, .tmp 21, .const (.bool false)], none⟩])
       (.cond (.tmp 22)
        (.run [1, 5] [⟨some 5, .mv, [.const (.int .i64 11)], none⟩])
        .skip))
      (.seq (.seq (.run [5, 24] [⟨some 23, .mv, [.tmp 1], none⟩,
          ⟨some 24, (.eqg false 6), [.tmp 23, .const (.int .u8 39)], none⟩])
        (.cond (.tmp 24)
         (.run [5] [⟨some 25, .mv, [.tmp 5], none⟩,
           ⟨some 26, (.bin .add), [.tmp 25, .const (.int .i64 1)], none⟩,
           ⟨some 5, .mv, [.tmp 26], none⟩])
         .skip))
       (.seq (.run [4] [⟨some 27, .mv, [.tmp 5], none⟩,
          ⟨some 4, .mv, [.tmp 27], none⟩])
        .ret))))))⟩

theorem f51_ok : compF Go.Proofs.Try.prog 51 f51.body.hints = some f51 := by kernel_rfl


def f52 : AFun := ⟨12, 1, [.slot 2],
  (.seq (.run [0] [⟨some 2, .mv, [.const (.int .u8 0)], none⟩])
   (.seq (.seq (.run [0, 8] [⟨some 3, .mv, [.tmp 0], none⟩,
       ⟨some 4, (.bin .geq), [.tmp 3, .const (.int .u8 65)], none⟩,
       ⟨some 5, .mv, [.tmp 4], none⟩,
       ⟨some 6, .mv, [.tmp 0], some (5, true)⟩,
       ⟨some 7, (.bin .leq), [.tmp 6, .const (.int .u8 90)], some (5, true)⟩,
       ⟨some 8, .pick, [.tmp 5, .tmp 7, .const (.bool false)], none⟩])
     (.cond (.tmp 8)
      (.seq (.run [2] [⟨some 9, .mv, [.tmp 0], none⟩,
         ⟨some 10, (.bin .add), [.tmp 9, .const (.int .u8 32)], none⟩,
         ⟨some 2, .mv, [.tmp 10], none⟩])
       .ret)
      .skip))
    (.seq (.run [2] [⟨some 11, .mv, [.tmp 0], none⟩,
       ⟨some 2, .mv, [.tmp 11], none⟩])
     .ret)))⟩

theorem f52_ok : compF Go.Proofs.Try.prog 52 f52.body.hints = some f52 := by kernel_rfl


def f57 : AFun := ⟨18, 2, [.slot 4],
  (.seq (.run [0, 1] [⟨some 4, .mv, [.const (.bool false)], none⟩])
   (.seq (.run [4] [⟨some 5, .mv, [.tmp 0], none⟩,
      ⟨some 6, (.len 0), [.tmp 5], none⟩,
      ⟨some 7, .mv, [.tmp 1], none⟩,
      ⟨some 8, (.len 0), [.tmp 7], none⟩,
      ⟨some 9, (.bin .geq), [.tmp 6, .tmp 8], none⟩,
      ⟨some 10, .mv, [.tmp 9], none⟩,
      ⟨some 11, .mv, [.tmp 0], some (10, true)⟩,
      ⟨some 12, .mv, [.tmp 1], some (10, true)⟩,
      ⟨some 13, (.len 0), [.tmp 12], some (10, true)⟩,
      ⟨some 14, (.slc 0 false true), [.tmp 11, .tmp 13], some (10, true)⟩,
      ⟨some 15, .mv, [.tmp 1], some (10, true)⟩,
      ⟨some 16, (.eqg false 6), [.tmp 14, .tmp 15], some (10, true)⟩,
      ⟨some 17, .pick, [.tmp 10, .tmp 16, .const (.bool false)], none⟩,
      ⟨some 4, .mv, [.tmp 17], none⟩])
    .ret))⟩

theorem f57_ok : compF Go.Proofs.Try.prog 57 f57.body.hints = some f57 := by kernel_rfl


def f58 : AFun := ⟨13, 2, [.slot 4],
  (.seq (.run [0, 1] [⟨some 4, .mv, [.const (.string ⟨#[]⟩)], none⟩])
   (.seq (.seq (.run [0, 1, 7] [⟨some 5, .mv, [.tmp 0], none⟩,
       ⟨some 6, (.len 0), [.tmp 5], none⟩,
       ⟨some 7, (.eqg false 6), [.tmp 6, .const (.int .i64 16)], none⟩])
     (.cond (.tmp 7)
      (.seq (.run [4] [⟨some 8, .mv, [.tmp 0], none⟩,
         ⟨some 4, .mv, [.tmp 8], none⟩])
       .ret)
      .skip))
    (.seq (.run [4] [⟨some 9, .mv, [.tmp 0], none⟩,
       ⟨some 10, .mv, [.tmp 1], none⟩,
       ⟨some 11, (.call 39), [.tmp 10], none⟩,
       ⟨some 12, (.bin .add), [.tmp 9, .tmp 11], none⟩,
       ⟨some 4, .mv, [.tmp 12], none⟩])
     .ret)))⟩

theorem f58_ok : compF Go.Proofs.Try.prog 58 f58.body.hints = some f58 := by kernel_rfl


def f59 : AFun := ⟨8, 2, [.slot 4],
  (.seq (.run [0, 1] [⟨some 4, .mv, [.const (.int .i64 0)], none⟩])
   (.seq (.run [4] [⟨some 5, .mv, [.tmp 0], none⟩,
      ⟨some 6, .mv, [.tmp 1], none⟩,
      ⟨some 7, (.call 64), [.tmp 5, .tmp 6], none⟩,
      ⟨some 4, .mv, [.tmp 7], none⟩])
    .ret))⟩

theorem f59_ok : compF Go.Proofs.Try.prog 59 f59.body.hints = some f59 := by kernel_rfl


def f64 : AFun := ⟨8, 2, [.slot 4],
  (.seq (.run [0, 1] [⟨some 4, .mv, [.const (.int .i64 0)], none⟩])
   (.seq (.run [4] [⟨some 5, .mv, [.tmp 0], none⟩,
      ⟨some 6, .mv, [.tmp 1], none⟩,
      ⟨some 7, (.call 69), [.tmp 5, .tmp 6], none⟩,
      ⟨some 4, .mv, [.tmp 7], none⟩])
    .ret))⟩

theorem f64_ok : compF Go.Proofs.Try.prog 64 f64.body.hints = some f64 := by kernel_rfl

end Go.AL.Fun
