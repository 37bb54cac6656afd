/- The functions of this seat's program, turned. Printed by a program; each is checked against the program. -/
import Derived.Test.YtpeaphpibnikcaaB3
import Derived.Test.YtpeaphpibnikcaaProg
import Derived.KernelRfl
namespace Go.AL.Fun
open Go.AL


def f2 : AFun := ⟨1, 0, [],
  (.run [] [⟨some 0, (.call 1), [], none⟩])⟩

theorem f2_ok : compF Go.Proofs.Try.prog 2 f2.body.hints = some f2 := by kernel_rfl


def f3 : AFun := ⟨107, 3, [.slot 6],
  (.seq (.run [0, 1, 2] [⟨some 6, .mv, [.const (.bool false)], none⟩])
   (.seq (.run [0, 1, 2, 7] [⟨some 7, .mv, [.const (.pointer none)], none⟩])
    (.seq (.seq (.run [0, 1, 2, 7, 9] [⟨some 21, .mv, [.tmp 7], none⟩,
        ⟨some 22, (.call 6), [.tmp 21, .const (.string ⟨#[97]⟩)], none⟩,
        ⟨some 20, .mv, [.tmp 22], none⟩,
        ⟨some 23, (.ext 0), [.tmp 20], none⟩,
        ⟨some 24, (.ext 1), [.tmp 20], none⟩,
        ⟨some 8, (.alloc [(.int .i64 0), (.str []), (.int .i64 0), (.bool false), (.sl [] .nil), (.sl [] .nil)]), [], none⟩,
        ⟨none, (.st 6), [.tmp 8, .tmp 23], none⟩,
        ⟨some 9, .mv, [.tmp 24], none⟩])
      (.seq (.run [0, 1, 2, 32] [⟨some 25, .mv, [.tmp 9], none⟩,
         ⟨some 26, (.eqg true 6), [.tmp 25, .const (.int .i64 1)], none⟩,
         ⟨some 27, .mv, [.tmp 26], none⟩,
         ⟨some 28, .mv, [.tmp 7], some (27, false)⟩,
         ⟨some 29, (.call 7), [.tmp 28], some (27, false)⟩,
         ⟨some 30, (.len 1), [.tmp 29], some (27, false)⟩,
         ⟨some 31, (.eqg true 6), [.tmp 30, .const (.int .i64 0)], some (27, false)⟩,
         ⟨some 32, .pick, [.tmp 27, .const (.bool true), .tmp 31], none⟩])
       (.cond (.tmp 32)
        (.seq (.run [6] [⟨some 6, .mv, [.const (.bool false)], none⟩])
         .ret)
        .skip)))
     (.seq (.seq (.run [0, 1, 2, 41] [⟨some 33, .mv, [.tmp 0], none⟩,
         ⟨some 34, .mv, [.tmp 1], none⟩,
         ⟨some 35, (.call 8), [.tmp 33, .tmp 34], none⟩,
         ⟨some 36, (.bin .gtr), [.tmp 35, .const (.int .i64 0)], none⟩,
         ⟨some 37, .mv, [.tmp 36], none⟩,
         ⟨some 38, .mv, [.tmp 2], some (37, false)⟩,
         ⟨some 39, (.len 1), [.tmp 38], some (37, false)⟩,
         ⟨some 40, (.bin .gtr), [.tmp 39, .const (.int .i64 100)], some (37, false)⟩,
         ⟨some 41, .pick, [.tmp 37, .const (.bool true), .tmp 40], none⟩])
       (.cond (.tmp 41)
        (.seq (.run [6] [⟨some 42, (.call 9), [], none⟩,
           ⟨some 6, .mv, [.tmp 42], none⟩])
         .ret)
        .skip))
      (.seq (.run [0, 1, 2, 10, 11] [⟨some 44, .mv, [.tmp 0], none⟩,
         ⟨some 45, .mv, [.tmp 1], none⟩,
         ⟨some 46, (.call 10), [.tmp 44, .tmp 45], none⟩,
         ⟨some 43, .mv, [.tmp 46], none⟩,
         ⟨some 47, (.ext 0), [.tmp 43], none⟩,
         ⟨some 48, (.ext 1), [.tmp 43], none⟩,
         ⟨some 10, .mv, [.tmp 47], none⟩,
         ⟨some 11, .mv, [.tmp 48], none⟩])
       (.seq (.run [2, 10, 11, 12, 13] [⟨some 50, .mv, [.tmp 0], none⟩,
          ⟨some 51, .mv, [.tmp 1], none⟩,
          ⟨some 52, (.call 11), [.tmp 50, .tmp 51], none⟩,
          ⟨some 49, .mv, [.tmp 52], none⟩,
          ⟨some 53, (.ext 0), [.tmp 49], none⟩,
          ⟨some 54, (.ext 1), [.tmp 49], none⟩,
          ⟨some 12, .mv, [.tmp 53], none⟩,
          ⟨some 13, .mv, [.tmp 54], none⟩])
        (.seq (.seq (.run [2, 10, 12, 13, 64] [⟨some 55, .mv, [.tmp 11], none⟩,
            ⟨some 56, .mv, [.tmp 13], none⟩,
            ⟨some 57, (.eqg true 6), [.tmp 55, .tmp 56], none⟩,
            ⟨some 58, .mv, [.tmp 57], none⟩,
            ⟨some 59, .mv, [.tmp 10], some (58, false)⟩,
            ⟨some 60, (.eqg false 1), [.tmp 59, .const (.pointer none)], some (58, false)⟩,
            ⟨some 61, .mv, [.tmp 13], some (58, false)⟩,
            ⟨some 62, (.eqg true 6), [.tmp 61, .const (.int .i64 0)], some (58, false)⟩,
            ⟨some 63, (.eqg true 0), [.tmp 60, .tmp 62], some (58, false)⟩,
            ⟨some 64, .pick, [.tmp 58, .const (.bool true), .tmp 63], none⟩])
          (.cond (.tmp 64)
           (.seq (.run [6] [⟨some 6, .mv, [.const (.bool false)], none⟩])
            .ret)
           .skip))
         (.seq (.seq (.run [2, 10, 12, 66] [⟨some 65, .mv, [.tmp 13], none⟩,
             ⟨some 66, (.eqg true 6), [.tmp 65, .const (.int .i64 0)], none⟩])
           (.cond (.tmp 66)
            (.seq (.run [6] [⟨some 67, (.call 9), [], none⟩,
               ⟨some 6, .mv, [.tmp 67], none⟩])
             .ret)
            .skip))
          (.seq (.seq (.run [10, 12, 68, 69, 70] [⟨some 68, .mv, [.tmp 2], none⟩,
              ⟨some 69, (.len 1), [.tmp 68], none⟩,
              ⟨some 70, .mv, [.const (.int .i64 0)], none⟩])
            (.block 0 (.loop [10, 12, 68, 69, 70] (.seq (.run [10, 12, 68, 69, 70, 71] [⟨some 71, (.bin .lss), [.tmp 70, .tmp 69], none⟩])
               (.seq (.cond (.tmp 71)
                 .skip
                 (.exit 0))
                (.seq (.block 1 (.seq (.run [10, 12, 15, 68, 69, 70] [⟨some 72, (.iaddr 1), [.tmp 68, .tmp 70], none⟩,
                     ⟨some 73, (.ld false 1), [.tmp 72], none⟩,
                     ⟨some 15, .mv, [.tmp 73], none⟩])
                   (.seq (.run [10, 12, 15, 16, 17, 68, 69, 70] [⟨some 75, .mv, [.tmp 10], none⟩,
                      ⟨some 76, .mv, [.tmp 15], none⟩,
                      ⟨some 77, (.call 6), [.tmp 75, .tmp 76], none⟩,
                      ⟨some 74, .mv, [.tmp 77], none⟩,
                      ⟨some 78, (.ext 0), [.tmp 74], none⟩,
                      ⟨some 79, (.ext 1), [.tmp 74], none⟩,
                      ⟨some 16, (.alloc [(.int .i64 0), (.str []), (.int .i64 0), (.bool false), (.sl [] .nil), (.sl [] .nil)]), [], none⟩,
                      ⟨none, (.st 6), [.tmp 16, .tmp 78], none⟩,
                      ⟨some 17, .mv, [.tmp 79], none⟩])
                    (.seq (.run [10, 12, 16, 17, 18, 19, 68, 69, 70] [⟨some 81, .mv, [.tmp 12], none⟩,
                       ⟨some 82, .mv, [.tmp 15], none⟩,
                       ⟨some 83, (.call 12), [.tmp 81, .tmp 82], none⟩,
                       ⟨some 80, .mv, [.tmp 83], none⟩,
                       ⟨some 84, (.ext 0), [.tmp 80], none⟩,
                       ⟨some 85, (.ext 1), [.tmp 80], none⟩,
                       ⟨some 18, (.alloc [(.int .i64 0), (.str []), (.int .i64 0), (.bool false), (.sl [] .nil), (.sl [] .nil)]), [], none⟩,
                       ⟨none, (.st 6), [.tmp 18, .tmp 84], none⟩,
                       ⟨some 19, .mv, [.tmp 85], none⟩])
                     (.seq (.runD [10, 12, 68, 69, 70, 104] [⟨0, ⟨some 86, .mv, [.tmp 17], none⟩, []⟩,
                        ⟨1, ⟨some 87, .mv, [.tmp 19], none⟩, []⟩,
                        ⟨2, ⟨some 88, (.eqg true 6), [.tmp 86, .tmp 87], none⟩, []⟩,
                        ⟨3, ⟨some 89, .mv, [.tmp 88], none⟩, []⟩,
                        ⟨4, ⟨some 90, (.ld true 6), [.tmp 16], some (89, false)⟩, []⟩,
                        ⟨5, ⟨some 91, (.ld true 6), [.tmp 18], some (89, false)⟩, []⟩,
                        ⟨6, ⟨some 92, (.call 13), [.tmp 90, .tmp 91], some (89, false)⟩, []⟩,
                        ⟨7, ⟨some 93, (.un .not), [.tmp 92], some (89, false)⟩, []⟩,
                        ⟨8, ⟨some 94, .pick, [.tmp 89, .const (.bool true), .tmp 93], none⟩, []⟩,
                        ⟨9, ⟨some 95, .mv, [.tmp 94], none⟩, []⟩,
                        ⟨10, ⟨some 96, .mv, [.tmp 10], some (95, false)⟩, []⟩,
                        ⟨12, ⟨some 98, .mv, [.tmp 12], some (95, false)⟩, []⟩,
                        ⟨13, ⟨some 99, .nilck, [.tmp 98], some (95, false)⟩, []⟩,
                        ⟨14, ⟨some 100, (.faddr 2), [.tmp 99], some (95, false)⟩, []⟩,
                        ⟨15, ⟨some 101, (.ld false 1), [.tmp 100], some (95, false)⟩, []⟩,
                        ⟨11, ⟨some 97, (.call 7), [.tmp 96], some (95, false)⟩, [15]⟩,
                        ⟨16, ⟨some 102, (.call 14), [.tmp 97, .tmp 101], some (95, false)⟩, []⟩,
                        ⟨17, ⟨some 103, (.un .not), [.tmp 102], some (95, false)⟩, []⟩,
                        ⟨18, ⟨some 104, .pick, [.tmp 95, .const (.bool true), .tmp 103], none⟩, []⟩])
                      (.cond (.tmp 104)
                       (.seq (.run [6] [⟨some 6, .mv, [.const (.bool false)], none⟩])
                        .ret)
                       .skip))))))
                 (.run [10, 12, 68, 69, 70] [⟨some 105, (.bin .add), [.tmp 70, .const (.int .i64 1)], none⟩,
                   ⟨some 70, .mv, [.tmp 105], none⟩])))))))
           (.seq (.run [6] [⟨some 106, (.call 9), [], none⟩,
              ⟨some 6, .mv, [.tmp 106], none⟩])
            .ret))))))))))⟩

theorem f3_ok : compF Go.Proofs.Try.prog 3 f3.body.hints = some f3 := by kernel_rfl


def f4 : AFun := ⟨132, 2, [.slot 4],
  (.seq (.run [0, 1] [⟨some 4, .mv, [.const (.bool false)], none⟩])
   (.seq (.seq (.run [0, 1, 24] [⟨some 21, .mv, [.tmp 0], none⟩,
       ⟨some 22, .mv, [.tmp 1], none⟩,
       ⟨some 23, (.call 8), [.tmp 21, .tmp 22], none⟩,
       ⟨some 24, (.bin .gtr), [.tmp 23, .const (.int .i64 0)], none⟩])
     (.cond (.tmp 24)
      (.seq (.run [4] [⟨some 25, (.call 9), [], none⟩,
         ⟨some 4, .mv, [.tmp 25], none⟩])
       .ret)
      .skip))
    (.seq (.run [0, 1, 5] [⟨some 26, (.bslice 7 0 [(.str []), (.int .i64 0), (.str []), (.int .i64 0), (.bool false), (.sl [] .nil), (.sl [] .nil)] []), [], none⟩,
       ⟨some 27, .mv, [.tmp 0], none⟩,
       ⟨some 28, (.app 7 104), [.tmp 26, .tmp 27], none⟩,
       ⟨some 5, .mv, [.tmp 28], none⟩])
     (.seq (.run [0, 1, 5, 6] [⟨some 29, (.bslice 1 0 [(.str [])] []), [], none⟩,
        ⟨some 30, .mv, [.tmp 1], none⟩,
        ⟨some 31, (.app 1 16), [.tmp 29, .tmp 30], none⟩,
        ⟨some 6, .mv, [.tmp 31], none⟩])
      (.seq (.run [0, 1, 5, 6, 7, 8] [⟨some 33, .mv, [.tmp 5], none⟩,
         ⟨some 34, .mv, [.tmp 6], none⟩,
         ⟨some 35, (.call 10), [.tmp 33, .tmp 34], none⟩,
         ⟨some 32, .mv, [.tmp 35], none⟩,
         ⟨some 36, (.ext 0), [.tmp 32], none⟩,
         ⟨some 37, (.ext 1), [.tmp 32], none⟩,
         ⟨some 7, .mv, [.tmp 36], none⟩,
         ⟨some 8, .mv, [.tmp 37], none⟩])
       (.seq (.run [0, 5, 6, 7, 8, 9, 10] [⟨some 39, .mv, [.tmp 0], none⟩,
          ⟨some 40, .mv, [.tmp 1], none⟩,
          ⟨some 41, (.call 11), [.tmp 39, .tmp 40], none⟩,
          ⟨some 38, .mv, [.tmp 41], none⟩,
          ⟨some 42, (.ext 0), [.tmp 38], none⟩,
          ⟨some 43, (.ext 1), [.tmp 38], none⟩,
          ⟨some 9, .mv, [.tmp 42], none⟩,
          ⟨some 10, .mv, [.tmp 43], none⟩])
        (.seq (.seq (.run [0, 5, 6, 7, 8, 9, 10, 54] [⟨some 44, .mv, [.tmp 8], none⟩,
            ⟨some 45, .mv, [.tmp 10], none⟩,
            ⟨some 46, (.eqg true 6), [.tmp 44, .tmp 45], none⟩,
            ⟨some 47, .mv, [.tmp 46], none⟩,
            ⟨some 48, .mv, [.tmp 10], some (47, false)⟩,
            ⟨some 49, (.eqg true 6), [.tmp 48, .const (.int .i64 0)], some (47, false)⟩,
            ⟨some 50, .pick, [.tmp 47, .const (.bool true), .tmp 49], none⟩,
            ⟨some 51, .mv, [.tmp 50], none⟩,
            ⟨some 52, .mv, [.tmp 7], some (51, false)⟩,
            ⟨some 53, (.eqg false 1), [.tmp 52, .const (.pointer none)], some (51, false)⟩,
            ⟨some 54, .pick, [.tmp 51, .const (.bool true), .tmp 53], none⟩])
          (.cond (.tmp 54)
           (.seq (.run [4] [⟨some 55, (.call 9), [], none⟩,
              ⟨some 56, .mv, [.tmp 55], none⟩,
              ⟨some 57, .mv, [.tmp 8], some (56, true)⟩,
              ⟨some 58, .mv, [.tmp 10], some (56, true)⟩,
              ⟨some 59, (.eqg false 6), [.tmp 57, .tmp 58], some (56, true)⟩,
              ⟨some 60, .pick, [.tmp 56, .tmp 59, .const (.bool false)], none⟩,
              ⟨some 4, .mv, [.tmp 60], none⟩])
            .ret)
           .skip))
         (.seq (.seq (.run [0, 5, 6, 7, 9, 62, 63] [⟨some 61, .mv, [.tmp 5], none⟩,
             ⟨some 62, (.len 1), [.tmp 61], none⟩,
             ⟨some 63, .mv, [.const (.int .i64 0)], none⟩])
           (.block 0 (.loop [0, 5, 6, 7, 9, 62, 63] (.seq (.run [0, 5, 6, 7, 9, 62, 63, 64] [⟨some 64, (.bin .lss), [.tmp 63, .tmp 62], none⟩])
              (.seq (.cond (.tmp 64)
                .skip
                (.exit 0))
               (.seq (.block 1 (.seq (.run [0, 5, 6, 7, 9, 11, 62, 63] [⟨some 65, .mv, [.tmp 63], none⟩,
                    ⟨some 11, .mv, [.tmp 65], none⟩])
                  (.run [0, 5, 6, 7, 9, 62, 63] [⟨some 66, .mv, [.tmp 5], none⟩,
                    ⟨some 67, .mv, [.tmp 11], none⟩,
                    ⟨some 68, (.build [(.str []), (.int .i64 0), (.str []), (.int .i64 0), (.bool false), (.sl [] .nil), (.sl [] .nil)] []), [], none⟩,
                    ⟨some 69, (.iaddr 7), [.tmp 66, .tmp 67], none⟩,
                    ⟨none, (.st 7), [.tmp 69, .tmp 68], none⟩])))
                (.run [0, 5, 6, 7, 9, 62, 63] [⟨some 70, (.bin .add), [.tmp 63, .const (.int .i64 1)], none⟩,
                  ⟨some 63, .mv, [.tmp 70], none⟩])))))))
          (.seq (.seq (.run [0, 6, 7, 9, 72, 73] [⟨some 71, .mv, [.tmp 6], none⟩,
              ⟨some 72, (.len 1), [.tmp 71], none⟩,
              ⟨some 73, .mv, [.const (.int .i64 0)], none⟩])
            (.block 2 (.loop [0, 6, 7, 9, 72, 73] (.seq (.run [0, 6, 7, 9, 72, 73, 74] [⟨some 74, (.bin .lss), [.tmp 73, .tmp 72], none⟩])
               (.seq (.cond (.tmp 74)
                 .skip
                 (.exit 2))
                (.seq (.block 3 (.seq (.run [0, 6, 7, 9, 12, 72, 73] [⟨some 75, .mv, [.tmp 73], none⟩,
                     ⟨some 12, .mv, [.tmp 75], none⟩])
                   (.run [0, 6, 7, 9, 72, 73] [⟨some 76, .mv, [.tmp 6], none⟩,
                     ⟨some 77, .mv, [.tmp 12], none⟩,
                     ⟨some 78, (.iaddr 1), [.tmp 76, .tmp 77], none⟩,
                     ⟨none, (.st 1), [.tmp 78, .const (.string ⟨#[]⟩)], none⟩])))
                 (.run [0, 6, 7, 9, 72, 73] [⟨some 79, (.bin .add), [.tmp 73, .const (.int .i64 1)], none⟩,
                   ⟨some 73, .mv, [.tmp 79], none⟩])))))))
           (.seq (.seq (.run [7, 9, 80, 81, 82] [⟨some 80, .mv, [.tmp 0], none⟩,
               ⟨some 81, (.len 1), [.tmp 80], none⟩,
               ⟨some 82, .mv, [.const (.int .i64 0)], none⟩])
             (.block 4 (.loop [7, 9, 80, 81, 82] (.seq (.run [7, 9, 80, 81, 82, 83] [⟨some 83, (.bin .lss), [.tmp 82, .tmp 81], none⟩])
                (.seq (.cond (.tmp 83)
                  .skip
                  (.exit 4))
                 (.seq (.block 5 (.seq (.run [7, 9, 14, 80, 81, 82] [⟨some 84, (.iaddr 7), [.tmp 80, .tmp 82], none⟩,
                      ⟨some 85, (.ld true 7), [.tmp 84], none⟩,
                      ⟨some 14, (.alloc [(.str []), (.int .i64 0), (.str []), (.int .i64 0), (.bool false), (.sl [] .nil), (.sl [] .nil)]), [], none⟩,
                      ⟨none, (.st 7), [.tmp 14, .tmp 85], none⟩])
                    (.seq (.run [7, 9, 14, 15, 16, 80, 81, 82] [⟨some 87, .mv, [.tmp 7], none⟩,
                       ⟨some 88, (.faddr 0), [.tmp 14], none⟩,
                       ⟨some 89, (.ld false 1), [.tmp 88], none⟩,
                       ⟨some 90, (.call 6), [.tmp 87, .tmp 89], none⟩,
                       ⟨some 86, .mv, [.tmp 90], none⟩,
                       ⟨some 91, (.ext 0), [.tmp 86], none⟩,
                       ⟨some 92, (.ext 1), [.tmp 86], none⟩,
                       ⟨some 15, (.alloc [(.int .i64 0), (.str []), (.int .i64 0), (.bool false), (.sl [] .nil), (.sl [] .nil)]), [], none⟩,
                       ⟨none, (.st 6), [.tmp 15, .tmp 91], none⟩,
                       ⟨some 16, .mv, [.tmp 92], none⟩])
                     (.seq (.run [7, 9, 15, 16, 17, 18, 80, 81, 82] [⟨some 94, .mv, [.tmp 9], none⟩,
                        ⟨some 95, (.faddr 0), [.tmp 14], none⟩,
                        ⟨some 96, (.ld false 1), [.tmp 95], none⟩,
                        ⟨some 97, (.call 12), [.tmp 94, .tmp 96], none⟩,
                        ⟨some 93, .mv, [.tmp 97], none⟩,
                        ⟨some 98, (.ext 0), [.tmp 93], none⟩,
                        ⟨some 99, (.ext 1), [.tmp 93], none⟩,
                        ⟨some 17, (.alloc [(.int .i64 0), (.str []), (.int .i64 0), (.bool false), (.sl [] .nil), (.sl [] .nil)]), [], none⟩,
                        ⟨none, (.st 6), [.tmp 17, .tmp 98], none⟩,
                        ⟨some 18, .mv, [.tmp 99], none⟩])
                      (.seq (.run [7, 9, 15, 16, 17, 18, 19, 80, 81, 82] [⟨some 100, .mv, [.tmp 7], none⟩,
                         ⟨some 101, (.call 7), [.tmp 100], none⟩,
                         ⟨some 19, .mv, [.tmp 101], none⟩])
                       (.seq (.seq (.run [7, 9, 15, 16, 17, 18, 19, 80, 81, 82, 103, 104] [⟨some 102, .mv, [.tmp 19], none⟩,
                           ⟨some 103, (.len 1), [.tmp 102], none⟩,
                           ⟨some 104, .mv, [.const (.int .i64 0)], none⟩])
                         (.block 6 (.loop [7, 9, 15, 16, 17, 18, 19, 80, 81, 82, 103, 104] (.seq (.run [7, 9, 15, 16, 17, 18, 19, 80, 81, 82, 103, 104, 105] [⟨some 105, (.bin .lss), [.tmp 104, .tmp 103], none⟩])
                            (.seq (.cond (.tmp 105)
                              .skip
                              (.exit 6))
                             (.seq (.block 7 (.seq (.run [7, 9, 15, 16, 17, 18, 19, 20, 80, 81, 82, 103, 104] [⟨some 106, .mv, [.tmp 104], none⟩,
                                  ⟨some 20, .mv, [.tmp 106], none⟩])
                                (.run [7, 9, 15, 16, 17, 18, 19, 80, 81, 82, 103, 104] [⟨some 107, .mv, [.tmp 19], none⟩,
                                  ⟨some 108, .mv, [.tmp 20], none⟩,
                                  ⟨some 109, (.iaddr 1), [.tmp 107, .tmp 108], none⟩,
                                  ⟨none, (.st 1), [.tmp 109, .const (.string ⟨#[]⟩)], none⟩])))
                              (.run [7, 9, 15, 16, 17, 18, 19, 80, 81, 82, 103, 104] [⟨some 110, (.bin .add), [.tmp 104, .const (.int .i64 1)], none⟩,
                                ⟨some 104, .mv, [.tmp 110], none⟩])))))))
                        (.seq (.runD [7, 9, 80, 81, 82, 129] [⟨0, ⟨some 111, .mv, [.tmp 16], none⟩, []⟩,
                           ⟨1, ⟨some 112, .mv, [.tmp 18], none⟩, []⟩,
                           ⟨2, ⟨some 113, (.eqg true 6), [.tmp 111, .tmp 112], none⟩, []⟩,
                           ⟨3, ⟨some 114, .mv, [.tmp 113], none⟩, []⟩,
                           ⟨4, ⟨some 115, (.ld true 6), [.tmp 15], some (114, false)⟩, []⟩,
                           ⟨5, ⟨some 116, (.ld true 6), [.tmp 17], some (114, false)⟩, []⟩,
                           ⟨6, ⟨some 117, (.call 13), [.tmp 115, .tmp 116], some (114, false)⟩, []⟩,
                           ⟨7, ⟨some 118, (.un .not), [.tmp 117], some (114, false)⟩, []⟩,
                           ⟨8, ⟨some 119, .pick, [.tmp 114, .const (.bool true), .tmp 118], none⟩, []⟩,
                           ⟨9, ⟨some 120, .mv, [.tmp 119], none⟩, []⟩,
                           ⟨10, ⟨some 121, .mv, [.tmp 7], some (120, false)⟩, []⟩,
                           ⟨12, ⟨some 123, .mv, [.tmp 9], some (120, false)⟩, []⟩,
                           ⟨13, ⟨some 124, .nilck, [.tmp 123], some (120, false)⟩, []⟩,
                           ⟨14, ⟨some 125, (.faddr 2), [.tmp 124], some (120, false)⟩, []⟩,
                           ⟨15, ⟨some 126, (.ld false 1), [.tmp 125], some (120, false)⟩, []⟩,
                           ⟨11, ⟨some 122, (.call 7), [.tmp 121], some (120, false)⟩, [15]⟩,
                           ⟨16, ⟨some 127, (.call 14), [.tmp 122, .tmp 126], some (120, false)⟩, []⟩,
                           ⟨17, ⟨some 128, (.un .not), [.tmp 127], some (120, false)⟩, []⟩,
                           ⟨18, ⟨some 129, .pick, [.tmp 120, .const (.bool true), .tmp 128], none⟩, []⟩])
                         (.cond (.tmp 129)
                          (.seq (.run [4] [⟨some 4, .mv, [.const (.bool false)], none⟩])
                           .ret)
                          .skip))))))))
                  (.run [7, 9, 80, 81, 82] [⟨some 130, (.bin .add), [.tmp 82, .const (.int .i64 1)], none⟩,
                    ⟨some 82, .mv, [.tmp 130], none⟩])))))))
            (.seq (.run [4] [⟨some 131, (.call 9), [], none⟩,
               ⟨some 4, .mv, [.tmp 131], none⟩])
             .ret)))))))))))⟩

theorem f4_ok : compF Go.Proofs.Try.prog 4 f4.body.hints = some f4 := by kernel_rfl


def f5 : AFun := ⟨97, 2, [.slot 4],
  (.seq (.run [0, 1] [⟨some 4, .mv, [.const (.bool false)], none⟩])
   (.seq (.seq (.run [0, 1, 20] [⟨some 17, .mv, [.tmp 0], none⟩,
       ⟨some 18, .mv, [.tmp 1], none⟩,
       ⟨some 19, (.call 8), [.tmp 17, .tmp 18], none⟩,
       ⟨some 20, (.bin .gtr), [.tmp 19, .const (.int .i64 0)], none⟩])
     (.cond (.tmp 20)
      (.seq (.run [4] [⟨some 21, (.call 9), [], none⟩,
         ⟨some 4, .mv, [.tmp 21], none⟩])
       .ret)
      .skip))
    (.seq (.run [1, 5, 6] [⟨some 23, .mv, [.tmp 0], none⟩,
       ⟨some 24, (.call 10), [.tmp 23, .const (.slice none 0 0)], none⟩,
       ⟨some 22, .mv, [.tmp 24], none⟩,
       ⟨some 25, (.ext 0), [.tmp 22], none⟩,
       ⟨some 26, (.ext 1), [.tmp 22], none⟩,
       ⟨some 5, .mv, [.tmp 25], none⟩,
       ⟨some 6, .mv, [.tmp 26], none⟩])
     (.seq (.seq (.run [1, 5, 6, 32] [⟨some 27, .mv, [.tmp 6], none⟩,
         ⟨some 28, (.eqg true 6), [.tmp 27, .const (.int .i64 0)], none⟩,
         ⟨some 29, .mv, [.tmp 28], none⟩,
         ⟨some 30, .mv, [.tmp 5], some (29, false)⟩,
         ⟨some 31, (.eqg false 1), [.tmp 30, .const (.pointer none)], some (29, false)⟩,
         ⟨some 32, .pick, [.tmp 29, .const (.bool true), .tmp 31], none⟩])
       (.cond (.tmp 32)
        (.seq (.run [4] [⟨some 33, (.call 9), [], none⟩,
           ⟨some 34, .mv, [.tmp 33], none⟩,
           ⟨some 35, .mv, [.tmp 6], some (34, true)⟩,
           ⟨some 36, (.eqg true 6), [.tmp 35, .const (.int .i64 0)], some (34, true)⟩,
           ⟨some 37, .pick, [.tmp 34, .tmp 36, .const (.bool false)], none⟩,
           ⟨some 4, .mv, [.tmp 37], none⟩])
         .ret)
        .skip))
      (.seq (.seq (.run [1, 5, 38, 39, 40] [⟨some 38, .mv, [.tmp 1], none⟩,
          ⟨some 39, (.len 1), [.tmp 38], none⟩,
          ⟨some 40, .mv, [.const (.int .i64 0)], none⟩])
        (.block 0 (.loop [1, 5, 38, 39, 40] (.seq (.run [1, 5, 38, 39, 40, 41] [⟨some 41, (.bin .lss), [.tmp 40, .tmp 39], none⟩])
           (.seq (.cond (.tmp 41)
             .skip
             (.exit 0))
            (.seq (.block 1 (.seq (.run [1, 5, 8, 38, 39, 40] [⟨some 42, (.iaddr 1), [.tmp 38, .tmp 40], none⟩,
                 ⟨some 43, (.ld false 1), [.tmp 42], none⟩,
                 ⟨some 8, .mv, [.tmp 43], none⟩])
               (.seq (.run [1, 5, 8, 9, 10, 38, 39, 40] [⟨some 45, .mv, [.tmp 5], none⟩,
                  ⟨some 46, .mv, [.tmp 8], none⟩,
                  ⟨some 47, (.call 6), [.tmp 45, .tmp 46], none⟩,
                  ⟨some 44, .mv, [.tmp 47], none⟩,
                  ⟨some 48, (.ext 0), [.tmp 44], none⟩,
                  ⟨some 49, (.ext 1), [.tmp 44], none⟩,
                  ⟨some 9, (.alloc [(.int .i64 0), (.str []), (.int .i64 0), (.bool false), (.sl [] .nil), (.sl [] .nil)]), [], none⟩,
                  ⟨none, (.st 6), [.tmp 9, .tmp 48], none⟩,
                  ⟨some 10, .mv, [.tmp 49], none⟩])
                (.seq (.run [1, 5, 8, 9, 10, 11, 38, 39, 40] [⟨some 50, .mv, [.tmp 5], none⟩,
                   ⟨some 51, (.call 7), [.tmp 50], none⟩,
                   ⟨some 11, .mv, [.tmp 51], none⟩])
                 (.seq (.run [1, 5, 9, 10, 11, 12, 13, 38, 39, 40] [⟨some 53, .mv, [.tmp 5], none⟩,
                    ⟨some 54, .mv, [.tmp 8], none⟩,
                    ⟨some 55, (.call 6), [.tmp 53, .tmp 54], none⟩,
                    ⟨some 52, .mv, [.tmp 55], none⟩,
                    ⟨some 56, (.ext 0), [.tmp 52], none⟩,
                    ⟨some 57, (.ext 1), [.tmp 52], none⟩,
                    ⟨some 12, (.alloc [(.int .i64 0), (.str []), (.int .i64 0), (.bool false), (.sl [] .nil), (.sl [] .nil)]), [], none⟩,
                    ⟨none, (.st 6), [.tmp 12, .tmp 56], none⟩,
                    ⟨some 13, .mv, [.tmp 57], none⟩])
                  (.seq (.run [1, 5, 38, 39, 40, 73] [⟨some 58, .mv, [.tmp 10], none⟩,
                     ⟨some 59, .mv, [.tmp 13], none⟩,
                     ⟨some 60, (.eqg true 6), [.tmp 58, .tmp 59], none⟩,
                     ⟨some 61, .mv, [.tmp 60], none⟩,
                     ⟨some 62, (.ld true 6), [.tmp 9], some (61, false)⟩,
                     ⟨some 63, (.ld true 6), [.tmp 12], some (61, false)⟩,
                     ⟨some 64, (.call 13), [.tmp 62, .tmp 63], some (61, false)⟩,
                     ⟨some 65, (.un .not), [.tmp 64], some (61, false)⟩,
                     ⟨some 66, .pick, [.tmp 61, .const (.bool true), .tmp 65], none⟩,
                     ⟨some 67, .mv, [.tmp 66], none⟩,
                     ⟨some 68, .mv, [.tmp 5], some (67, false)⟩,
                     ⟨some 69, (.call 7), [.tmp 68], some (67, false)⟩,
                     ⟨some 70, .mv, [.tmp 11], some (67, false)⟩,
                     ⟨some 71, (.call 14), [.tmp 69, .tmp 70], some (67, false)⟩,
                     ⟨some 72, (.un .not), [.tmp 71], some (67, false)⟩,
                     ⟨some 73, .pick, [.tmp 67, .const (.bool true), .tmp 72], none⟩])
                   (.cond (.tmp 73)
                    (.seq (.run [4] [⟨some 4, .mv, [.const (.bool false)], none⟩])
                     .ret)
                    .skip)))))))
             (.run [1, 5, 38, 39, 40] [⟨some 74, (.bin .add), [.tmp 40, .const (.int .i64 1)], none⟩,
               ⟨some 40, .mv, [.tmp 74], none⟩])))))))
       (.seq (.run [1, 14] [⟨some 75, .mv, [.tmp 5], none⟩,
          ⟨some 76, (.call 7), [.tmp 75], none⟩,
          ⟨some 14, .mv, [.tmp 76], none⟩])
        (.seq (.seq (.run [1, 14, 77, 78, 79] [⟨some 77, .mv, [.tmp 14], none⟩,
            ⟨some 78, (.len 1), [.tmp 77], none⟩,
            ⟨some 79, .mv, [.const (.int .i64 0)], none⟩])
          (.block 2 (.loop [1, 14, 77, 78, 79] (.seq (.run [1, 14, 77, 78, 79, 80] [⟨some 80, (.bin .lss), [.tmp 79, .tmp 78], none⟩])
             (.seq (.cond (.tmp 80)
               .skip
               (.exit 2))
              (.seq (.block 3 (.seq (.run [1, 14, 15, 16, 77, 78, 79] [⟨some 81, .mv, [.tmp 79], none⟩,
                   ⟨some 82, (.iaddr 1), [.tmp 77, .tmp 79], none⟩,
                   ⟨some 83, (.ld false 1), [.tmp 82], none⟩,
                   ⟨some 15, .mv, [.tmp 81], none⟩,
                   ⟨some 16, .mv, [.tmp 83], none⟩])
                 (.seq (.run [1, 14, 77, 78, 79, 94] [⟨some 84, .mv, [.tmp 1], none⟩,
                    ⟨some 85, .mv, [.tmp 16], none⟩,
                    ⟨some 86, (.call 15), [.tmp 84, .tmp 85], none⟩,
                    ⟨some 87, (.un .not), [.tmp 86], none⟩,
                    ⟨some 88, .mv, [.tmp 87], none⟩,
                    ⟨some 89, .mv, [.tmp 14], some (88, false)⟩,
                    ⟨some 90, .mv, [.tmp 15], some (88, false)⟩,
                    ⟨some 91, (.slc 1 false true), [.tmp 89, .tmp 90], some (88, false)⟩,
                    ⟨some 92, .mv, [.tmp 16], some (88, false)⟩,
                    ⟨some 93, (.call 15), [.tmp 91, .tmp 92], some (88, false)⟩,
                    ⟨some 94, .pick, [.tmp 88, .const (.bool true), .tmp 93], none⟩])
                  (.cond (.tmp 94)
                   (.seq (.run [4] [⟨some 4, .mv, [.const (.bool false)], none⟩])
                    .ret)
                   .skip))))
               (.run [1, 14, 77, 78, 79] [⟨some 95, (.bin .add), [.tmp 79, .const (.int .i64 1)], none⟩,
                 ⟨some 79, .mv, [.tmp 95], none⟩])))))))
         (.seq (.run [4] [⟨some 96, (.call 9), [], none⟩,
            ⟨some 4, .mv, [.tmp 96], none⟩])
          .ret))))))))⟩

theorem f5_ok : compF Go.Proofs.Try.prog 5 f5.body.hints = some f5 := by kernel_rfl


def f6 : AFun := ⟨60, 2, [.cell 4 (.ld true 6), .slot 5],
  (.seq (.run [0, 1, 4] [⟨some 4, (.alloc [(.int .i64 0), (.str []), (.int .i64 0), (.bool false), (.sl [] .nil), (.sl [] .nil)]), [], none⟩,
     ⟨some 5, .mv, [.const (.int .i64 0)], none⟩])
   (.seq (.block 0 (.seq (.run [0, 1, 4, 8] [⟨some 9, .mv, [.tmp 0], none⟩,
        ⟨some 10, (.eqg false 1), [.tmp 9, .const (.pointer none)], none⟩,
        ⟨some 8, .mv, [.tmp 10], none⟩])
      (.cond (.tmp 8)
       (.seq (.run [4, 5] [⟨some 11, (.build [(.int .i64 0), (.str []), (.int .i64 0), (.bool false), (.sl [] .nil), (.sl [] .nil)] []), [], none⟩,
          ⟨none, (.st 6), [.tmp 4, .tmp 11], none⟩,
          ⟨some 5, .mv, [.const (.int .i64 1)], none⟩])
        .ret)
       (.seq (.run [0, 1, 4, 12] [⟨some 13, .mv, [.tmp 1], none⟩,
          ⟨some 14, (.call 16), [.tmp 13], none⟩,
          ⟨some 15, (.un .not), [.tmp 14], none⟩,
          ⟨some 12, .mv, [.tmp 15], none⟩])
        (.cond (.tmp 12)
         (.seq (.run [4, 5] [⟨some 16, (.build [(.int .i64 0), (.str []), (.int .i64 0), (.bool false), (.sl [] .nil), (.sl [] .nil)] []), [], none⟩,
            ⟨none, (.st 6), [.tmp 4, .tmp 16], none⟩,
            ⟨some 5, .mv, [.const (.int .i64 11)], none⟩])
          .ret)
         .skip)))))
    (.seq (.run [0, 1, 4, 6, 7] [⟨some 18, .mv, [.tmp 0], none⟩,
       ⟨some 19, .nilck, [.tmp 18], none⟩,
       ⟨some 20, (.faddr 1), [.tmp 19], none⟩,
       ⟨some 21, (.ld false 1), [.tmp 20], none⟩,
       ⟨some 22, .mv, [.tmp 1], none⟩,
       ⟨some 23, (.lkp 2 (.agg [(.int .i64 0), (.str []), (.int .i64 0), (.bool false), (.sl [] .nil), (.sl [] .nil), (.int .i64 0)]) true), [.tmp 21, .tmp 22], none⟩,
       ⟨some 17, .mv, [.tmp 23], none⟩,
       ⟨some 24, (.ext 0), [.tmp 17], none⟩,
       ⟨some 25, (.ext 1), [.tmp 17], none⟩,
       ⟨some 6, (.alloc [(.int .i64 0), (.str []), (.int .i64 0), (.bool false), (.sl [] .nil), (.sl [] .nil), (.int .i64 0)]), [], none⟩,
       ⟨none, (.st 7), [.tmp 6, .tmp 24], none⟩,
       ⟨some 7, .mv, [.tmp 25], none⟩])
     (.seq (.seq (.run [0, 1, 4, 6, 27] [⟨some 26, .mv, [.tmp 7], none⟩,
         ⟨some 27, (.un .not), [.tmp 26], none⟩])
       (.cond (.tmp 27)
        (.seq (.seq (.run [0, 1, 4, 6, 7] [⟨some 29, .mv, [.tmp 0], none⟩,
            ⟨some 30, .nilck, [.tmp 29], none⟩,
            ⟨some 31, (.faddr 0), [.tmp 30], none⟩,
            ⟨some 32, (.ld false 1), [.tmp 31], none⟩,
            ⟨some 33, .mv, [.tmp 1], none⟩,
            ⟨some 34, (.lkp 2 (.agg [(.int .i64 0), (.str []), (.int .i64 0), (.bool false), (.sl [] .nil), (.sl [] .nil), (.int .i64 0)]) true), [.tmp 32, .tmp 33], none⟩,
            ⟨some 28, .mv, [.tmp 34], none⟩,
            ⟨some 35, (.ext 0), [.tmp 28], none⟩,
            ⟨some 36, (.ext 1), [.tmp 28], none⟩,
            ⟨none, (.st 7), [.tmp 6, .tmp 35], none⟩,
            ⟨some 7, .mv, [.tmp 36], none⟩])
          (.seq (.run [0, 1, 4, 6, 38] [⟨some 37, .mv, [.tmp 7], none⟩,
             ⟨some 38, (.un .not), [.tmp 37], none⟩])
           (.cond (.tmp 38)
            (.run [0, 1, 4, 6] [⟨some 39, (.faddr 6), [.tmp 6], none⟩,
              ⟨none, (.st 1), [.tmp 39, .const (.int .i64 17)], none⟩])
            .skip)))
         (.seq (.runD [0, 1, 4, 6] [⟨0, ⟨some 40, .mv, [.tmp 0], none⟩, []⟩,
            ⟨1, ⟨some 41, .nilck, [.tmp 40], none⟩, []⟩,
            ⟨2, ⟨some 42, (.faddr 1), [.tmp 41], none⟩, []⟩,
            ⟨3, ⟨some 43, (.ld false 1), [.tmp 42], none⟩, []⟩,
            ⟨4, ⟨some 44, .mv, [.tmp 1], none⟩, []⟩,
            ⟨5, ⟨some 45, (.ld true 7), [.tmp 6], none⟩, []⟩,
            ⟨6, ⟨none, (.mup 2), [.tmp 43, .tmp 44, .tmp 45], none⟩, []⟩])
          (.run [4, 6] [⟨some 46, .mv, [.tmp 0], none⟩,
            ⟨some 47, .mv, [.tmp 0], none⟩,
            ⟨some 48, .nilck, [.tmp 47], none⟩,
            ⟨some 49, (.faddr 2), [.tmp 48], none⟩,
            ⟨some 50, (.ld false 1), [.tmp 49], none⟩,
            ⟨some 51, .mv, [.tmp 1], none⟩,
            ⟨some 52, (.bslice 1 1 [(.str [])] [(0, 1)]), [.tmp 51], none⟩,
            ⟨some 53, (.app 1 16), [.tmp 50, .tmp 52], none⟩,
            ⟨some 54, .nilck, [.tmp 46], none⟩,
            ⟨some 55, (.faddr 2), [.tmp 54], none⟩,
            ⟨none, (.st 1), [.tmp 55, .tmp 53], none⟩])))
        .skip))
      (.seq (.runD [4, 5] [⟨0, ⟨some 56, (.faddr 0), [.tmp 6], none⟩, []⟩,
         ⟨1, ⟨some 57, (.ld true 6), [.tmp 56], none⟩, []⟩,
         ⟨2, ⟨some 58, (.faddr 6), [.tmp 6], none⟩, []⟩,
         ⟨3, ⟨some 59, (.ld false 1), [.tmp 58], none⟩, []⟩,
         ⟨4, ⟨none, (.st 6), [.tmp 4, .tmp 57], none⟩, [3]⟩,
         ⟨5, ⟨some 5, .mv, [.tmp 59], none⟩, []⟩])
       .ret)))))⟩

theorem f6_ok : compF Go.Proofs.Try.prog 6 f6.body.hints = some f6 := by kernel_rfl


def f7 : AFun := ⟨10, 1, [.slot 2],
  (.seq (.run [0] [⟨some 2, .mv, [.const (.slice none 0 0)], none⟩])
   (.seq (.seq (.run [0, 4] [⟨some 3, .mv, [.tmp 0], none⟩,
       ⟨some 4, (.eqg false 1), [.tmp 3, .const (.pointer none)], none⟩])
     (.cond (.tmp 4)
      (.seq (.run [2] [⟨some 2, .mv, [.const (.slice none 0 0)], none⟩])
       .ret)
      .skip))
    (.seq (.run [2] [⟨some 5, .mv, [.tmp 0], none⟩,
       ⟨some 6, .nilck, [.tmp 5], none⟩,
       ⟨some 7, (.faddr 2), [.tmp 6], none⟩,
       ⟨some 8, (.ld false 1), [.tmp 7], none⟩,
       ⟨some 9, (.call 17), [.tmp 8], none⟩,
       ⟨some 2, .mv, [.tmp 9], none⟩])
     .ret)))⟩

theorem f7_ok : compF Go.Proofs.Try.prog 7 f7.body.hints = some f7 := by kernel_rfl


def f8 : AFun := ⟨16, 2, [.slot 4],
  (.seq (.run [0, 1] [⟨some 4, .mv, [.const (.int .i64 0)], none⟩])
   (.seq (.seq (.run [0, 12] [⟨some 5, .mv, [.tmp 0], none⟩,
       ⟨some 6, (.len 1), [.tmp 5], none⟩,
       ⟨some 7, (.bin .gtr), [.tmp 6, .const (.int .i64 100)], none⟩,
       ⟨some 8, .mv, [.tmp 7], none⟩,
       ⟨some 9, .mv, [.tmp 1], some (8, false)⟩,
       ⟨some 10, (.len 1), [.tmp 9], some (8, false)⟩,
       ⟨some 11, (.bin .gtr), [.tmp 10, .const (.int .i64 100)], some (8, false)⟩,
       ⟨some 12, .pick, [.tmp 8, .const (.bool true), .tmp 11], none⟩])
     (.cond (.tmp 12)
      (.seq (.run [4] [⟨some 4, .mv, [.const (.int .i64 1)], none⟩])
       .ret)
      .skip))
    (.seq (.run [4] [⟨some 13, .mv, [.tmp 0], none⟩,
       ⟨some 14, (.build [(.int .i64 0), (.str []), (.int .i64 0), (.bool false), (.sl [] .nil), (.sl [] .nil)] [(0, 1), (5, 1)]), [.const (.int .i64 4), .tmp 13], none⟩,
       ⟨some 15, (.call 18), [.tmp 14], none⟩,
       ⟨some 4, .mv, [.tmp 15], none⟩])
     .ret)))⟩

theorem f8_ok : compF Go.Proofs.Try.prog 8 f8.body.hints = some f8 := by kernel_rfl


def f9 : AFun := ⟨54, 0, [.slot 0],
  (.seq (.run [] [⟨some 0, .mv, [.const (.bool false)], none⟩])
   (.seq (.run [1, 2] [⟨some 10, (.build [(.str []), (.int .i64 0), (.str []), (.int .i64 0), (.bool false), (.sl [] .nil), (.sl [] .nil)] [(0, 1)]), [.const (.string ⟨#[97]⟩)], none⟩,
      ⟨some 11, (.bslice 7 1 [(.str []), (.int .i64 0), (.str []), (.int .i64 0), (.bool false), (.sl [] .nil), (.sl [] .nil)] [(0, 7)]), [.tmp 10], none⟩,
      ⟨some 12, (.bslice 1 1 [(.str [])] [(0, 1)]), [.const (.string ⟨#[98]⟩)], none⟩,
      ⟨some 13, (.call 10), [.tmp 11, .tmp 12], none⟩,
      ⟨some 9, .mv, [.tmp 13], none⟩,
      ⟨some 14, (.ext 0), [.tmp 9], none⟩,
      ⟨some 15, (.ext 1), [.tmp 9], none⟩,
      ⟨some 1, .mv, [.tmp 14], none⟩,
      ⟨some 2, .mv, [.tmp 15], none⟩])
    (.seq (.seq (.run [1, 21] [⟨some 16, .mv, [.tmp 2], none⟩,
        ⟨some 17, (.eqg true 6), [.tmp 16, .const (.int .i64 0)], none⟩,
        ⟨some 18, .mv, [.tmp 17], none⟩,
        ⟨some 19, .mv, [.tmp 1], some (18, false)⟩,
        ⟨some 20, (.eqg false 1), [.tmp 19, .const (.pointer none)], some (18, false)⟩,
        ⟨some 21, .pick, [.tmp 18, .const (.bool true), .tmp 20], none⟩])
      (.cond (.tmp 21)
       (.seq (.run [0] [⟨some 0, .mv, [.const (.bool false)], none⟩])
        .ret)
       .skip))
     (.seq (.run [1, 4] [⟨some 23, .mv, [.tmp 1], none⟩,
        ⟨some 24, (.call 6), [.tmp 23, .const (.string ⟨#[98]⟩)], none⟩,
        ⟨some 22, .mv, [.tmp 24], none⟩,
        ⟨some 25, (.ext 0), [.tmp 22], none⟩,
        ⟨some 26, (.ext 1), [.tmp 22], none⟩,
        ⟨some 3, (.alloc [(.int .i64 0), (.str []), (.int .i64 0), (.bool false), (.sl [] .nil), (.sl [] .nil)]), [], none⟩,
        ⟨none, (.st 6), [.tmp 3, .tmp 25], none⟩,
        ⟨some 4, .mv, [.tmp 26], none⟩])
      (.seq (.run [1, 4, 6] [⟨some 28, .mv, [.tmp 1], none⟩,
         ⟨some 29, (.call 6), [.tmp 28, .const (.string ⟨#[99]⟩)], none⟩,
         ⟨some 27, .mv, [.tmp 29], none⟩,
         ⟨some 30, (.ext 0), [.tmp 27], none⟩,
         ⟨some 31, (.ext 1), [.tmp 27], none⟩,
         ⟨some 5, (.alloc [(.int .i64 0), (.str []), (.int .i64 0), (.bool false), (.sl [] .nil), (.sl [] .nil)]), [], none⟩,
         ⟨none, (.st 6), [.tmp 5, .tmp 30], none⟩,
         ⟨some 6, .mv, [.tmp 31], none⟩])
       (.seq (.run [1, 4, 6, 8] [⟨some 33, .mv, [.tmp 1], none⟩,
          ⟨some 34, (.call 6), [.tmp 33, .const (.string ⟨#[98]⟩)], none⟩,
          ⟨some 32, .mv, [.tmp 34], none⟩,
          ⟨some 35, (.ext 0), [.tmp 32], none⟩,
          ⟨some 36, (.ext 1), [.tmp 32], none⟩,
          ⟨some 7, (.alloc [(.int .i64 0), (.str []), (.int .i64 0), (.bool false), (.sl [] .nil), (.sl [] .nil)]), [], none⟩,
          ⟨none, (.st 6), [.tmp 7, .tmp 35], none⟩,
          ⟨some 8, .mv, [.tmp 36], none⟩])
        (.seq (.run [0] [⟨some 37, .mv, [.tmp 4], none⟩,
           ⟨some 38, (.eqg false 6), [.tmp 37, .const (.int .i64 20)], none⟩,
           ⟨some 39, .mv, [.tmp 38], none⟩,
           ⟨some 40, .mv, [.tmp 6], some (39, true)⟩,
           ⟨some 41, (.eqg false 6), [.tmp 40, .const (.int .i64 17)], some (39, true)⟩,
           ⟨some 42, .pick, [.tmp 39, .tmp 41, .const (.bool false)], none⟩,
           ⟨some 43, .mv, [.tmp 42], none⟩,
           ⟨some 44, .mv, [.tmp 8], some (43, true)⟩,
           ⟨some 45, .mv, [.tmp 4], some (43, true)⟩,
           ⟨some 46, (.eqg false 6), [.tmp 44, .tmp 45], some (43, true)⟩,
           ⟨some 47, .pick, [.tmp 43, .tmp 46, .const (.bool false)], none⟩,
           ⟨some 48, .mv, [.tmp 47], none⟩,
           ⟨some 49, .mv, [.tmp 1], some (48, true)⟩,
           ⟨some 50, (.call 7), [.tmp 49], some (48, true)⟩,
           ⟨some 51, (.bslice 1 2 [(.str [])] [(0, 1), (1, 1)]), [.const (.string ⟨#[98]⟩), .const (.string ⟨#[99]⟩)], some (48, true)⟩,
           ⟨some 52, (.call 14), [.tmp 50, .tmp 51], some (48, true)⟩,
           ⟨some 53, .pick, [.tmp 48, .tmp 52, .const (.bool false)], none⟩,
           ⟨some 0, .mv, [.tmp 53], none⟩])
         .ret)))))))⟩

theorem f9_ok : compF Go.Proofs.Try.prog 9 f9.body.hints = some f9 := by kernel_rfl


def f10 : AFun := ⟨54, 2, [.slot 4, .slot 5],
  (.seq (.run [0, 1] [⟨some 4, .mv, [.const (.pointer none)], none⟩,
     ⟨some 5, .mv, [.const (.int .i64 0)], none⟩])
   (.seq (.seq (.run [0, 1, 6] [⟨some 12, .mv, [.tmp 0], none⟩,
       ⟨some 13, (.build [(.int .i64 0), (.str []), (.int .i64 0), (.bool false), (.sl [] .nil), (.sl [] .nil)] [(0, 1), (5, 1)]), [.const (.int .i64 4), .tmp 12], none⟩,
       ⟨some 14, (.call 19), [.tmp 13], none⟩,
       ⟨some 6, .mv, [.tmp 14], none⟩])
     (.seq (.run [0, 1, 6, 16] [⟨some 15, .mv, [.tmp 6], none⟩,
        ⟨some 16, (.eqg true 6), [.tmp 15, .const (.int .i64 0)], none⟩])
      (.cond (.tmp 16)
       (.seq (.run [4, 5] [⟨some 17, .mv, [.tmp 6], none⟩,
          ⟨some 4, .mv, [.const (.pointer none)], none⟩,
          ⟨some 5, .mv, [.tmp 17], none⟩])
        .ret)
       .skip)))
    (.seq (.seq (.run [0, 1, 19] [⟨some 18, .mv, [.tmp 1], none⟩,
        ⟨some 19, (.call 20), [.tmp 18, .func 21], none⟩])
      (.cond (.tmp 19)
       (.seq (.run [4, 5] [⟨some 4, .mv, [.const (.pointer none)], none⟩,
          ⟨some 5, .mv, [.const (.int .i64 11)], none⟩])
        .ret)
       .skip))
     (.seq (.run [0, 1, 7] [⟨some 20, .mkmap, [], none⟩,
        ⟨some 21, .mkmap, [], none⟩,
        ⟨some 22, (.build [.nilm, .nilm, (.sl [] .nil)] [(0, 1), (1, 1)]), [.tmp 20, .tmp 21], none⟩,
        ⟨some 23, .box, [.tmp 22], none⟩,
        ⟨some 7, .mv, [.tmp 23], none⟩])
      (.seq (.seq (.run [1, 7, 24, 25, 26] [⟨some 24, .mv, [.tmp 0], none⟩,
          ⟨some 25, (.len 1), [.tmp 24], none⟩,
          ⟨some 26, .mv, [.const (.int .i64 0)], none⟩])
        (.block 0 (.loop [1, 7, 24, 25, 26] (.seq (.run [1, 7, 24, 25, 26, 27] [⟨some 27, (.bin .lss), [.tmp 26, .tmp 25], none⟩])
           (.seq (.cond (.tmp 27)
             .skip
             (.exit 0))
            (.seq (.block 1 (.seq (.run [1, 7, 9, 24, 25, 26] [⟨some 28, (.iaddr 7), [.tmp 24, .tmp 26], none⟩,
                 ⟨some 29, (.ld true 7), [.tmp 28], none⟩,
                 ⟨some 9, (.alloc [(.str []), (.int .i64 0), (.str []), (.int .i64 0), (.bool false), (.sl [] .nil), (.sl [] .nil)]), [], none⟩,
                 ⟨none, (.st 7), [.tmp 9, .tmp 29], none⟩])
               (.runD [1, 7, 24, 25, 26] [⟨0, ⟨some 30, .mv, [.tmp 7], none⟩, []⟩,
                 ⟨1, ⟨some 31, .nilck, [.tmp 30], none⟩, []⟩,
                 ⟨2, ⟨some 32, (.faddr 0), [.tmp 31], none⟩, []⟩,
                 ⟨3, ⟨some 33, (.ld false 1), [.tmp 32], none⟩, []⟩,
                 ⟨4, ⟨some 34, (.faddr 0), [.tmp 9], none⟩, []⟩,
                 ⟨5, ⟨some 35, (.ld false 1), [.tmp 34], none⟩, []⟩,
                 ⟨6, ⟨some 36, (.faddr 1), [.tmp 9], none⟩, []⟩,
                 ⟨7, ⟨some 37, (.ld true 6), [.tmp 36], none⟩, []⟩,
                 ⟨8, ⟨some 38, (.build [(.int .i64 0), (.str []), (.int .i64 0), (.bool false), (.sl [] .nil), (.sl [] .nil), (.int .i64 0)] [(0, 6)]), [.tmp 37], none⟩, []⟩,
                 ⟨9, ⟨none, (.mup 2), [.tmp 33, .tmp 35, .tmp 38], none⟩, []⟩])))
             (.run [1, 7, 24, 25, 26] [⟨some 39, (.bin .add), [.tmp 26, .const (.int .i64 1)], none⟩,
               ⟨some 26, .mv, [.tmp 39], none⟩])))))))
       (.seq (.seq (.run [7, 40, 41, 42] [⟨some 40, .mv, [.tmp 1], none⟩,
           ⟨some 41, (.len 1), [.tmp 40], none⟩,
           ⟨some 42, .mv, [.const (.int .i64 0)], none⟩])
         (.block 2 (.loop [7, 40, 41, 42] (.seq (.run [7, 40, 41, 42, 43] [⟨some 43, (.bin .lss), [.tmp 42, .tmp 41], none⟩])
            (.seq (.cond (.tmp 43)
              .skip
              (.exit 2))
             (.seq (.block 3 (.seq (.run [7, 11, 40, 41, 42] [⟨some 44, (.iaddr 1), [.tmp 40, .tmp 42], none⟩,
                  ⟨some 45, (.ld false 1), [.tmp 44], none⟩,
                  ⟨some 11, .mv, [.tmp 45], none⟩])
                (.run [7, 40, 41, 42] [⟨some 46, .mv, [.tmp 7], none⟩,
                  ⟨some 47, .nilck, [.tmp 46], none⟩,
                  ⟨some 48, (.faddr 0), [.tmp 47], none⟩,
                  ⟨some 49, (.ld false 1), [.tmp 48], none⟩,
                  ⟨some 50, .mv, [.tmp 11], none⟩,
                  ⟨some 51, (.build [(.int .i64 0), (.str []), (.int .i64 0), (.bool false), (.sl [] .nil), (.sl [] .nil), (.int .i64 0)] [(6, 1)]), [.const (.int .i64 20)], none⟩,
                  ⟨none, (.mup 2), [.tmp 49, .tmp 50, .tmp 51], none⟩])))
              (.run [7, 40, 41, 42] [⟨some 52, (.bin .add), [.tmp 42, .const (.int .i64 1)], none⟩,
                ⟨some 42, .mv, [.tmp 52], none⟩])))))))
        (.seq (.run [4, 5] [⟨some 53, .mv, [.tmp 7], none⟩,
           ⟨some 4, .mv, [.tmp 53], none⟩,
           ⟨some 5, .mv, [.const (.int .i64 0)], none⟩])
         .ret)))))))⟩

theorem f10_ok : compF Go.Proofs.Try.prog 10 f10.body.hints = some f10 := by kernel_rfl


def f11 : AFun := ⟨34, 2, [.slot 4, .slot 5],
  (.seq (.run [0, 1] [⟨some 4, .mv, [.const (.pointer none)], none⟩,
     ⟨some 5, .mv, [.const (.int .i64 0)], none⟩])
   (.seq (.run [0, 1, 6] [⟨some 8, .mv, [.tmp 0], none⟩,
      ⟨some 9, (.build [(.int .i64 0), (.str []), (.int .i64 0), (.bool false), (.sl [] .nil), (.sl [] .nil)] [(0, 1), (5, 1)]), [.const (.int .i64 4), .tmp 8], none⟩,
      ⟨some 10, (.call 22), [.tmp 9], none⟩,
      ⟨some 6, .mv, [.tmp 10], none⟩])
    (.seq (.seq (.run [0, 1, 6, 12] [⟨some 11, .mv, [.tmp 6], none⟩,
        ⟨some 12, (.eqg true 6), [.tmp 11, .const (.int .i64 0)], none⟩])
      (.cond (.tmp 12)
       (.seq (.run [4, 5] [⟨some 13, .mv, [.tmp 6], none⟩,
          ⟨some 4, .mv, [.const (.pointer none)], none⟩,
          ⟨some 5, .mv, [.tmp 13], none⟩])
        .ret)
       .skip))
     (.seq (.seq (.run [0, 1, 7] [⟨some 7, .mv, [.const (.int .i64 0)], none⟩])
       (.block 0 (.loop [0, 1, 7] (.seq (.seq (.run [0, 1, 7, 17] [⟨some 14, .mv, [.tmp 7], none⟩,
             ⟨some 15, .mv, [.tmp 1], none⟩,
             ⟨some 16, (.len 1), [.tmp 15], none⟩,
             ⟨some 17, (.bin .lss), [.tmp 14, .tmp 16], none⟩])
           (.cond (.tmp 17)
            .skip
            (.exit 0)))
          (.seq (.block 1 (.seq (.run [0, 1, 7, 25] [⟨some 20, .mv, [.tmp 1], none⟩,
               ⟨some 21, .mv, [.tmp 7], none⟩,
               ⟨some 22, (.iaddr 1), [.tmp 20, .tmp 21], none⟩,
               ⟨some 23, (.ld false 1), [.tmp 22], none⟩,
               ⟨some 24, (.call 23), [.tmp 23], none⟩,
               ⟨some 25, (.un .not), [.tmp 24], none⟩])
             (.cond (.tmp 25)
              (.seq (.run [4, 5] [⟨some 4, .mv, [.const (.pointer none)], none⟩,
                 ⟨some 5, .mv, [.const (.int .i64 11)], none⟩])
               .ret)
              .skip)))
           (.run [0, 1, 7] [⟨some 18, .mv, [.tmp 7], none⟩,
             ⟨some 19, (.bin .add), [.tmp 18, .const (.int .i64 1)], none⟩,
             ⟨some 7, .mv, [.tmp 19], none⟩]))))))
      (.seq (.run [4, 5] [⟨some 26, (.bslice 7 0 [(.str []), (.int .i64 0), (.str []), (.int .i64 0), (.bool false), (.sl [] .nil), (.sl [] .nil)] []), [], none⟩,
         ⟨some 27, .mv, [.tmp 0], none⟩,
         ⟨some 28, (.app 7 104), [.tmp 26, .tmp 27], none⟩,
         ⟨some 29, (.bslice 1 0 [(.str [])] []), [], none⟩,
         ⟨some 30, .mv, [.tmp 1], none⟩,
         ⟨some 31, (.app 1 16), [.tmp 29, .tmp 30], none⟩,
         ⟨some 32, (.build [(.sl [] .nil), (.sl [] .nil), (.sl [] .nil)] [(0, 1), (1, 1)]), [.tmp 28, .tmp 31], none⟩,
         ⟨some 33, .box, [.tmp 32], none⟩,
         ⟨some 4, .mv, [.tmp 33], none⟩,
         ⟨some 5, .mv, [.const (.int .i64 0)], none⟩])
       .ret)))))⟩

theorem f11_ok : compF Go.Proofs.Try.prog 11 f11.body.hints = some f11 := by kernel_rfl


def f12 : AFun := ⟨45, 2, [.cell 4 (.ld true 6), .slot 5],
  (.seq (.run [0, 1, 4] [⟨some 4, (.alloc [(.int .i64 0), (.str []), (.int .i64 0), (.bool false), (.sl [] .nil), (.sl [] .nil)]), [], none⟩,
     ⟨some 5, .mv, [.const (.int .i64 0)], none⟩])
   (.seq (.seq (.run [0, 1, 4, 8] [⟨some 6, .mv, [.tmp 1], none⟩,
       ⟨some 7, (.call 23), [.tmp 6], none⟩,
       ⟨some 8, (.un .not), [.tmp 7], none⟩])
     (.cond (.tmp 8)
      (.seq (.run [4, 5] [⟨some 9, (.build [(.int .i64 0), (.str []), (.int .i64 0), (.bool false), (.sl [] .nil), (.sl [] .nil)] []), [], none⟩,
         ⟨none, (.st 6), [.tmp 4, .tmp 9], none⟩,
         ⟨some 5, .mv, [.const (.int .i64 11)], none⟩])
       .ret)
      .skip))
    (.seq (.seq (.run [0, 1, 4, 16] [⟨some 10, .mv, [.tmp 0], none⟩,
        ⟨some 11, .nilck, [.tmp 10], none⟩,
        ⟨some 12, (.faddr 2), [.tmp 11], none⟩,
        ⟨some 13, (.ld false 1), [.tmp 12], none⟩,
        ⟨some 14, .mv, [.tmp 1], none⟩,
        ⟨some 15, (.call 24), [.tmp 13, .tmp 14], none⟩,
        ⟨some 16, (.un .not), [.tmp 15], none⟩])
      (.cond (.tmp 16)
       (.run [0, 1, 4] [⟨some 17, .mv, [.tmp 0], none⟩,
         ⟨some 18, (.bslice 1 0 [(.str [])] []), [], none⟩,
         ⟨some 19, .mv, [.tmp 0], none⟩,
         ⟨some 20, .nilck, [.tmp 19], none⟩,
         ⟨some 21, (.faddr 2), [.tmp 20], none⟩,
         ⟨some 22, (.ld false 1), [.tmp 21], none⟩,
         ⟨some 23, (.app 1 16), [.tmp 18, .tmp 22], none⟩,
         ⟨some 24, .mv, [.tmp 1], none⟩,
         ⟨some 25, (.bslice 1 1 [(.str [])] [(0, 1)]), [.tmp 24], none⟩,
         ⟨some 26, (.app 1 16), [.tmp 23, .tmp 25], none⟩,
         ⟨some 27, .nilck, [.tmp 17], none⟩,
         ⟨some 28, (.faddr 2), [.tmp 27], none⟩,
         ⟨none, (.st 1), [.tmp 28, .tmp 26], none⟩])
       .skip))
     (.seq (.seq (.run [0, 1, 4, 34] [⟨some 29, .mv, [.tmp 0], none⟩,
         ⟨some 30, .nilck, [.tmp 29], none⟩,
         ⟨some 31, (.faddr 1), [.tmp 30], none⟩,
         ⟨some 32, (.ld false 1), [.tmp 31], none⟩,
         ⟨some 33, .mv, [.tmp 1], none⟩,
         ⟨some 34, (.call 24), [.tmp 32, .tmp 33], none⟩])
       (.cond (.tmp 34)
        (.seq (.run [4, 5] [⟨some 35, (.build [(.int .i64 0), (.str []), (.int .i64 0), (.bool false), (.sl [] .nil), (.sl [] .nil)] []), [], none⟩,
           ⟨none, (.st 6), [.tmp 4, .tmp 35], none⟩,
           ⟨some 5, .mv, [.const (.int .i64 20)], none⟩])
         .ret)
        .skip))
      (.seq (.run [4, 5] [⟨some 36, .mv, [.tmp 0], none⟩,
         ⟨some 37, .nilck, [.tmp 36], none⟩,
         ⟨some 38, (.faddr 0), [.tmp 37], none⟩,
         ⟨some 39, (.ld false 1), [.tmp 38], none⟩,
         ⟨some 40, (.build [(.int .i64 0), (.str []), (.int .i64 0), (.bool false), (.sl [] .nil), (.sl [] .nil)] [(0, 1), (5, 1)]), [.const (.int .i64 4), .tmp 39], none⟩,
         ⟨some 41, .mv, [.tmp 1], none⟩,
         ⟨some 42, (.call 25), [.tmp 40, .tmp 41], none⟩,
         ⟨some 43, (.ext 0), [.tmp 42], none⟩,
         ⟨some 44, (.ext 1), [.tmp 42], none⟩,
         ⟨none, (.st 6), [.tmp 4, .tmp 43], none⟩,
         ⟨some 5, .mv, [.tmp 44], none⟩])
       .ret)))))⟩

theorem f12_ok : compF Go.Proofs.Try.prog 12 f12.body.hints = some f12 := by kernel_rfl


def f13 : AFun := ⟨106, 2, [.slot 4],
  (.seq (.run [2, 3] [⟨some 2, .box, [.tmp 0], none⟩,
     ⟨some 3, .box, [.tmp 1], none⟩,
     ⟨some 4, .mv, [.const (.bool false)], none⟩])
   (.seq (.seq (.run [2, 3, 50] [⟨some 7, (.faddr 0), [.tmp 2], none⟩,
       ⟨some 8, (.ld false 1), [.tmp 7], none⟩,
       ⟨some 9, (.faddr 0), [.tmp 3], none⟩,
       ⟨some 10, (.ld false 1), [.tmp 9], none⟩,
       ⟨some 11, (.eqg true 6), [.tmp 8, .tmp 10], none⟩,
       ⟨some 12, .mv, [.tmp 11], none⟩,
       ⟨some 13, (.faddr 1), [.tmp 2], some (12, false)⟩,
       ⟨some 14, (.ld false 1), [.tmp 13], some (12, false)⟩,
       ⟨some 15, (.faddr 1), [.tmp 3], some (12, false)⟩,
       ⟨some 16, (.ld false 1), [.tmp 15], some (12, false)⟩,
       ⟨some 17, (.eqg true 6), [.tmp 14, .tmp 16], some (12, false)⟩,
       ⟨some 18, .pick, [.tmp 12, .const (.bool true), .tmp 17], none⟩,
       ⟨some 19, .mv, [.tmp 18], none⟩,
       ⟨some 20, (.faddr 2), [.tmp 2], some (19, false)⟩,
       ⟨some 21, (.ld false 1), [.tmp 20], some (19, false)⟩,
       ⟨some 22, (.faddr 2), [.tmp 3], some (19, false)⟩,
       ⟨some 23, (.ld false 1), [.tmp 22], some (19, false)⟩,
       ⟨some 24, (.eqg true 6), [.tmp 21, .tmp 23], some (19, false)⟩,
       ⟨some 25, .pick, [.tmp 19, .const (.bool true), .tmp 24], none⟩,
       ⟨some 26, .mv, [.tmp 25], none⟩,
       ⟨some 27, (.faddr 3), [.tmp 2], some (26, false)⟩,
       ⟨some 28, (.ld false 1), [.tmp 27], some (26, false)⟩,
       ⟨some 29, (.faddr 3), [.tmp 3], some (26, false)⟩,
       ⟨some 30, (.ld false 1), [.tmp 29], some (26, false)⟩,
       ⟨some 31, (.eqg true 0), [.tmp 28, .tmp 30], some (26, false)⟩,
       ⟨some 32, .pick, [.tmp 26, .const (.bool true), .tmp 31], none⟩,
       ⟨some 33, .mv, [.tmp 32], none⟩,
       ⟨some 34, (.faddr 4), [.tmp 2], some (33, false)⟩,
       ⟨some 35, (.ld false 1), [.tmp 34], some (33, false)⟩,
       ⟨some 36, (.len 1), [.tmp 35], some (33, false)⟩,
       ⟨some 37, (.faddr 4), [.tmp 3], some (33, false)⟩,
       ⟨some 38, (.ld false 1), [.tmp 37], some (33, false)⟩,
       ⟨some 39, (.len 1), [.tmp 38], some (33, false)⟩,
       ⟨some 40, (.eqg true 6), [.tmp 36, .tmp 39], some (33, false)⟩,
       ⟨some 41, .pick, [.tmp 33, .const (.bool true), .tmp 40], none⟩,
       ⟨some 42, .mv, [.tmp 41], none⟩,
       ⟨some 43, (.faddr 5), [.tmp 2], some (42, false)⟩,
       ⟨some 44, (.ld false 1), [.tmp 43], some (42, false)⟩,
       ⟨some 45, (.len 1), [.tmp 44], some (42, false)⟩,
       ⟨some 46, (.faddr 5), [.tmp 3], some (42, false)⟩,
       ⟨some 47, (.ld false 1), [.tmp 46], some (42, false)⟩,
       ⟨some 48, (.len 1), [.tmp 47], some (42, false)⟩,
       ⟨some 49, (.eqg true 6), [.tmp 45, .tmp 48], some (42, false)⟩,
       ⟨some 50, .pick, [.tmp 42, .const (.bool true), .tmp 49], none⟩])
     (.cond (.tmp 50)
      (.seq (.run [4] [⟨some 4, .mv, [.const (.bool false)], none⟩])
       .ret)
      .skip))
    (.seq (.seq (.run [2, 3, 5] [⟨some 5, .mv, [.const (.int .i64 0)], none⟩])
      (.block 0 (.loop [2, 3, 5] (.seq (.seq (.run [2, 3, 5, 55] [⟨some 51, .mv, [.tmp 5], none⟩,
            ⟨some 52, (.faddr 4), [.tmp 2], none⟩,
            ⟨some 53, (.ld false 1), [.tmp 52], none⟩,
            ⟨some 54, (.len 1), [.tmp 53], none⟩,
            ⟨some 55, (.bin .lss), [.tmp 51, .tmp 54], none⟩])
          (.cond (.tmp 55)
           .skip
           (.exit 0)))
         (.seq (.block 1 (.seq (.runD [2, 3, 5, 69] [⟨0, ⟨some 58, (.faddr 4), [.tmp 2], none⟩, []⟩,
              ⟨1, ⟨some 59, (.ld false 1), [.tmp 58], none⟩, []⟩,
              ⟨2, ⟨some 60, .mv, [.tmp 5], none⟩, []⟩,
              ⟨3, ⟨some 61, (.iaddr 6), [.tmp 59, .tmp 60], none⟩, []⟩,
              ⟨4, ⟨some 62, (.ld true 6), [.tmp 61], none⟩, []⟩,
              ⟨5, ⟨some 63, (.faddr 4), [.tmp 3], none⟩, []⟩,
              ⟨6, ⟨some 64, (.ld false 1), [.tmp 63], none⟩, []⟩,
              ⟨7, ⟨some 65, .mv, [.tmp 5], none⟩, []⟩,
              ⟨8, ⟨some 66, (.iaddr 6), [.tmp 64, .tmp 65], none⟩, []⟩,
              ⟨9, ⟨some 67, (.ld true 6), [.tmp 66], none⟩, []⟩,
              ⟨10, ⟨some 68, (.call 13), [.tmp 62, .tmp 67], none⟩, []⟩,
              ⟨11, ⟨some 69, (.un .not), [.tmp 68], none⟩, []⟩])
            (.cond (.tmp 69)
             (.seq (.run [4] [⟨some 4, .mv, [.const (.bool false)], none⟩])
              .ret)
             .skip)))
          (.run [2, 3, 5] [⟨some 56, .mv, [.tmp 5], none⟩,
            ⟨some 57, (.bin .add), [.tmp 56, .const (.int .i64 1)], none⟩,
            ⟨some 5, .mv, [.tmp 57], none⟩]))))))
     (.seq (.seq (.run [2, 3, 6] [⟨some 6, .mv, [.const (.int .i64 0)], none⟩])
       (.block 2 (.loop [2, 3, 6] (.seq (.seq (.run [2, 3, 6, 74] [⟨some 70, .mv, [.tmp 6], none⟩,
             ⟨some 71, (.faddr 5), [.tmp 2], none⟩,
             ⟨some 72, (.ld false 1), [.tmp 71], none⟩,
             ⟨some 73, (.len 1), [.tmp 72], none⟩,
             ⟨some 74, (.bin .lss), [.tmp 70, .tmp 73], none⟩])
           (.cond (.tmp 74)
            .skip
            (.exit 2)))
          (.seq (.block 3 (.seq (.runD [2, 3, 6, 105] [⟨0, ⟨some 77, (.faddr 5), [.tmp 2], none⟩, []⟩,
               ⟨1, ⟨some 78, (.ld false 1), [.tmp 77], none⟩, []⟩,
               ⟨2, ⟨some 79, .mv, [.tmp 6], none⟩, []⟩,
               ⟨3, ⟨some 80, (.iaddr 7), [.tmp 78, .tmp 79], none⟩, []⟩,
               ⟨4, ⟨some 81, (.faddr 0), [.tmp 80], none⟩, []⟩,
               ⟨5, ⟨some 82, (.ld false 1), [.tmp 81], none⟩, []⟩,
               ⟨6, ⟨some 83, (.faddr 5), [.tmp 3], none⟩, []⟩,
               ⟨7, ⟨some 84, (.ld false 1), [.tmp 83], none⟩, []⟩,
               ⟨8, ⟨some 85, .mv, [.tmp 6], none⟩, []⟩,
               ⟨9, ⟨some 86, (.iaddr 7), [.tmp 84, .tmp 85], none⟩, []⟩,
               ⟨10, ⟨some 87, (.faddr 0), [.tmp 86], none⟩, []⟩,
               ⟨11, ⟨some 88, (.ld false 1), [.tmp 87], none⟩, []⟩,
               ⟨12, ⟨some 89, (.eqg true 6), [.tmp 82, .tmp 88], none⟩, []⟩,
               ⟨13, ⟨some 90, .mv, [.tmp 89], none⟩, []⟩,
               ⟨14, ⟨some 91, (.faddr 5), [.tmp 2], some (90, false)⟩, []⟩,
               ⟨15, ⟨some 92, (.ld false 1), [.tmp 91], some (90, false)⟩, []⟩,
               ⟨16, ⟨some 93, .mv, [.tmp 6], some (90, false)⟩, []⟩,
               ⟨17, ⟨some 94, (.iaddr 7), [.tmp 92, .tmp 93], some (90, false)⟩, []⟩,
               ⟨18, ⟨some 95, (.faddr 1), [.tmp 94], some (90, false)⟩, []⟩,
               ⟨19, ⟨some 96, (.ld true 6), [.tmp 95], some (90, false)⟩, []⟩,
               ⟨20, ⟨some 97, (.faddr 5), [.tmp 3], some (90, false)⟩, []⟩,
               ⟨21, ⟨some 98, (.ld false 1), [.tmp 97], some (90, false)⟩, []⟩,
               ⟨22, ⟨some 99, .mv, [.tmp 6], some (90, false)⟩, []⟩,
               ⟨23, ⟨some 100, (.iaddr 7), [.tmp 98, .tmp 99], some (90, false)⟩, []⟩,
               ⟨24, ⟨some 101, (.faddr 1), [.tmp 100], some (90, false)⟩, []⟩,
               ⟨25, ⟨some 102, (.ld true 6), [.tmp 101], some (90, false)⟩, []⟩,
               ⟨26, ⟨some 103, (.call 13), [.tmp 96, .tmp 102], some (90, false)⟩, []⟩,
               ⟨27, ⟨some 104, (.un .not), [.tmp 103], some (90, false)⟩, []⟩,
               ⟨28, ⟨some 105, .pick, [.tmp 90, .const (.bool true), .tmp 104], none⟩, []⟩])
             (.cond (.tmp 105)
              (.seq (.run [4] [⟨some 4, .mv, [.const (.bool false)], none⟩])
               .ret)
              .skip)))
           (.run [2, 3, 6] [⟨some 75, .mv, [.tmp 6], none⟩,
             ⟨some 76, (.bin .add), [.tmp 75, .const (.int .i64 1)], none⟩,
             ⟨some 6, .mv, [.tmp 76], none⟩]))))))
      (.seq (.run [4] [⟨some 4, .mv, [.const (.bool true)], none⟩])
       .ret)))))⟩

theorem f13_ok : compF Go.Proofs.Try.prog 13 f13.body.hints = some f13 := by kernel_rfl


def f14 : AFun := ⟨26, 2, [.slot 4],
  (.seq (.run [0, 1] [⟨some 4, .mv, [.const (.bool false)], none⟩])
   (.seq (.seq (.run [0, 1, 10] [⟨some 6, .mv, [.tmp 0], none⟩,
       ⟨some 7, (.len 1), [.tmp 6], none⟩,
       ⟨some 8, .mv, [.tmp 1], none⟩,
       ⟨some 9, (.len 1), [.tmp 8], none⟩,
       ⟨some 10, (.eqg true 6), [.tmp 7, .tmp 9], none⟩])
     (.cond (.tmp 10)
      (.seq (.run [4] [⟨some 4, .mv, [.const (.bool false)], none⟩])
       .ret)
      .skip))
    (.seq (.seq (.run [0, 1, 12, 13] [⟨some 11, .mv, [.tmp 0], none⟩,
        ⟨some 12, (.len 1), [.tmp 11], none⟩,
        ⟨some 13, .mv, [.const (.int .i64 0)], none⟩])
      (.block 0 (.loop [0, 1, 12, 13] (.seq (.run [0, 1, 12, 13, 14] [⟨some 14, (.bin .lss), [.tmp 13, .tmp 12], none⟩])
         (.seq (.cond (.tmp 14)
           .skip
           (.exit 0))
          (.seq (.block 1 (.seq (.run [0, 1, 5, 12, 13] [⟨some 15, .mv, [.tmp 13], none⟩,
               ⟨some 5, .mv, [.tmp 15], none⟩])
             (.seq (.runD [0, 1, 12, 13, 24] [⟨0, ⟨some 16, .mv, [.tmp 0], none⟩, []⟩,
                ⟨1, ⟨some 17, .mv, [.tmp 5], none⟩, []⟩,
                ⟨2, ⟨some 18, (.iaddr 1), [.tmp 16, .tmp 17], none⟩, []⟩,
                ⟨3, ⟨some 19, (.ld false 1), [.tmp 18], none⟩, []⟩,
                ⟨4, ⟨some 20, .mv, [.tmp 1], none⟩, []⟩,
                ⟨5, ⟨some 21, .mv, [.tmp 5], none⟩, []⟩,
                ⟨6, ⟨some 22, (.iaddr 1), [.tmp 20, .tmp 21], none⟩, []⟩,
                ⟨7, ⟨some 23, (.ld false 1), [.tmp 22], none⟩, []⟩,
                ⟨8, ⟨some 24, (.eqg true 6), [.tmp 19, .tmp 23], none⟩, []⟩])
              (.cond (.tmp 24)
               (.seq (.run [4] [⟨some 4, .mv, [.const (.bool false)], none⟩])
                .ret)
               .skip))))
           (.run [0, 1, 12, 13] [⟨some 25, (.bin .add), [.tmp 13, .const (.int .i64 1)], none⟩,
             ⟨some 13, .mv, [.tmp 25], none⟩])))))))
     (.seq (.run [4] [⟨some 4, .mv, [.const (.bool true)], none⟩])
      .ret))))⟩

theorem f14_ok : compF Go.Proofs.Try.prog 14 f14.body.hints = some f14 := by kernel_rfl


def f15 : AFun := ⟨9, 2, [.slot 4],
  (.seq (.run [0, 1] [⟨some 4, .mv, [.const (.bool false)], none⟩])
   (.seq (.run [4] [⟨some 5, .mv, [.tmp 0], none⟩,
      ⟨some 6, .mv, [.tmp 1], none⟩,
      ⟨some 7, (.call 26), [.tmp 5, .tmp 6], none⟩,
      ⟨some 8, (.bin .geq), [.tmp 7, .const (.int .i64 0)], none⟩,
      ⟨some 4, .mv, [.tmp 8], none⟩])
    .ret))⟩

theorem f15_ok : compF Go.Proofs.Try.prog 15 f15.body.hints = some f15 := by kernel_rfl


def f16 : AFun := ⟨37, 1, [.slot 2],
  (.seq (.run [0] [⟨some 2, .mv, [.const (.bool false)], none⟩])
   (.seq (.seq (.run [0, 11] [⟨some 5, .mv, [.tmp 0], none⟩,
       ⟨some 6, (.eqg false 6), [.tmp 5, .const (.string ⟨#[]⟩)], none⟩,
       ⟨some 7, .mv, [.tmp 6], none⟩,
       ⟨some 8, .mv, [.tmp 0], some (7, false)⟩,
       ⟨some 9, (.len 0), [.tmp 8], some (7, false)⟩,
       ⟨some 10, (.bin .gtr), [.tmp 9, .const (.int .i64 32)], some (7, false)⟩,
       ⟨some 11, .pick, [.tmp 7, .const (.bool true), .tmp 10], none⟩])
     (.cond (.tmp 11)
      (.seq (.run [2] [⟨some 2, .mv, [.const (.bool false)], none⟩])
       .ret)
      .skip))
    (.seq (.seq (.run [13] [⟨some 12, .mv, [.tmp 0], none⟩,
        ⟨some 13, .rngs, [.tmp 12], none⟩])
      (.block 0 (.loop [13] (.seq (.run [13, 14, 15] [⟨some 14, .nxts, [.tmp 13], none⟩,
           ⟨some 15, (.ext 0), [.tmp 14], none⟩])
         (.seq (.cond (.tmp 15)
           .skip
           (.exit 0))
          (.block 1 (.seq (.run [3, 4, 13] [⟨some 16, (.ext 1), [.tmp 14], none⟩,
              ⟨some 17, (.ext 2), [.tmp 14], none⟩,
              ⟨some 3, .mv, [.tmp 16], none⟩,
              ⟨some 4, .mv, [.tmp 17], none⟩])
            (.seq (.run [13, 36] [⟨some 18, .mv, [.tmp 4], none⟩,
               ⟨some 19, (.call 27), [.tmp 18], none⟩,
               ⟨some 20, (.un .not), [.tmp 19], none⟩,
               ⟨some 21, .mv, [.tmp 20], none⟩,
               ⟨some 22, .mv, [.tmp 3], some (21, true)⟩,
               ⟨some 23, (.eqg false 6), [.tmp 22, .const (.int .i64 0)], some (21, true)⟩,
               ⟨some 24, .mv, [.tmp 23], some (21, true)⟩,
               ⟨some 25, .mv, [.tmp 4], some (24, false)⟩,
               ⟨some 26, (.eqg true 6), [.tmp 25, .const (.int .i32 95)], some (24, false)⟩,
               ⟨some 27, .mv, [.tmp 26], some (24, false)⟩,
               ⟨some 28, .mv, [.tmp 4], some (27, true)⟩,
               ⟨some 29, (.bin .lss), [.tmp 28, .const (.int .i32 48)], some (27, true)⟩,
               ⟨some 30, .mv, [.tmp 29], some (27, true)⟩,
               ⟨some 31, .mv, [.tmp 4], some (30, false)⟩,
               ⟨some 32, (.bin .gtr), [.tmp 31, .const (.int .i32 57)], some (30, false)⟩,
               ⟨some 33, .pick, [.tmp 30, .const (.bool true), .tmp 32], some (27, true)⟩,
               ⟨some 34, .pick, [.tmp 27, .tmp 33, .const (.bool false)], some (24, false)⟩,
               ⟨some 35, .pick, [.tmp 24, .const (.bool true), .tmp 34], some (21, true)⟩,
               ⟨some 36, .pick, [.tmp 21, .tmp 35, .const (.bool false)], none⟩])
             (.cond (.tmp 36)
              (.seq (.run [2] [⟨some 2, .mv, [.const (.bool false)], none⟩])
               .ret)
              .skip)))))))))
     (.seq (.run [2] [⟨some 2, .mv, [.const (.bool true)], none⟩])
      .ret))))⟩

theorem f16_ok : compF Go.Proofs.Try.prog 16 f16.body.hints = some f16 := by kernel_rfl


def f17 : AFun := ⟨8, 1, [.slot 2],
  (.seq (.run [0] [⟨some 2, .mv, [.const (.slice none 0 0)], none⟩])
   (.seq (.seq (.run [0, 4] [⟨some 3, .mv, [.tmp 0], none⟩,
       ⟨some 4, (.eqg false 2), [.tmp 3, .const (.slice none 0 0)], none⟩])
     (.cond (.tmp 4)
      (.seq (.run [2] [⟨some 2, .mv, [.const (.slice none 0 0)], none⟩])
       .ret)
      .skip))
    (.seq (.run [2] [⟨some 5, (.bslice 1 0 [(.str [])] []), [], none⟩,
       ⟨some 6, .mv, [.tmp 0], none⟩,
       ⟨some 7, (.app 1 16), [.tmp 5, .tmp 6], none⟩,
       ⟨some 2, .mv, [.tmp 7], none⟩])
     .ret)))⟩

theorem f17_ok : compF Go.Proofs.Try.prog 17 f17.body.hints = some f17 := by kernel_rfl


def f18 : AFun := ⟨6, 1, [.slot 2],
  (.seq (.run [1] [⟨some 1, .box, [.tmp 0], none⟩,
     ⟨some 2, .mv, [.const (.int .i64 0)], none⟩])
   (.seq (.seq (.run [5] [⟨some 3, (.ld true 6), [.tmp 1], none⟩,
       ⟨some 4, (.call 28), [.tmp 3, .const (.int .i64 0)], none⟩,
       ⟨some 5, (.bin .gtr), [.tmp 4, .const (.int .i64 20000)], none⟩])
     (.cond (.tmp 5)
      (.seq (.run [2] [⟨some 2, .mv, [.const (.int .i64 1)], none⟩])
       .ret)
      .skip))
    (.seq (.run [2] [⟨some 2, .mv, [.const (.int .i64 0)], none⟩])
     .ret)))⟩

theorem f18_ok : compF Go.Proofs.Try.prog 18 f18.body.hints = some f18 := by kernel_rfl


def f19 : AFun := ⟨5, 1, [.slot 2],
  (.seq (.run [1] [⟨some 1, .box, [.tmp 0], none⟩,
     ⟨some 2, .mv, [.const (.int .i64 0)], none⟩])
   (.seq (.run [2] [⟨some 3, (.ld true 6), [.tmp 1], none⟩,
      ⟨some 4, (.call 29), [.tmp 3, .const (.int .i64 1)], none⟩,
      ⟨some 2, .mv, [.tmp 4], none⟩])
    .ret))⟩

theorem f19_ok : compF Go.Proofs.Try.prog 19 f19.body.hints = some f19 := by kernel_rfl


def f20 : AFun := ⟨9, 2, [.slot 4],
  (.seq (.run [0, 1] [⟨some 4, .mv, [.const (.bool false)], none⟩])
   (.seq (.run [4] [⟨some 5, .mv, [.tmp 0], none⟩,
      ⟨some 6, .mv, [.tmp 1], none⟩,
      ⟨some 7, (.call 30), [.tmp 5, .tmp 6], none⟩,
      ⟨some 8, (.bin .geq), [.tmp 7, .const (.int .i64 0)], none⟩,
      ⟨some 4, .mv, [.tmp 8], none⟩])
    .ret))⟩

theorem f20_ok : compF Go.Proofs.Try.prog 20 f20.body.hints = some f20 := by kernel_rfl


def f21 : AFun := ⟨6, 1, [.slot 2],
  (.seq (.run [0] [⟨some 2, .mv, [.const (.bool false)], none⟩])
   (.seq (.run [2] [⟨some 3, .mv, [.tmp 0], none⟩,
      ⟨some 4, (.call 16), [.tmp 3], none⟩,
      ⟨some 5, (.un .not), [.tmp 4], none⟩,
      ⟨some 2, .mv, [.tmp 5], none⟩])
    .ret))⟩

theorem f21_ok : compF Go.Proofs.Try.prog 21 f21.body.hints = some f21 := by kernel_rfl


def f22 : AFun := ⟨5, 1, [.slot 2],
  (.seq (.run [1] [⟨some 1, .box, [.tmp 0], none⟩,
     ⟨some 2, .mv, [.const (.int .i64 0)], none⟩])
   (.seq (.run [2] [⟨some 3, (.ld true 6), [.tmp 1], none⟩,
      ⟨some 4, (.call 31), [.tmp 3, .const (.int .i64 1)], none⟩,
      ⟨some 2, .mv, [.tmp 4], none⟩])
    .ret))⟩

theorem f22_ok : compF Go.Proofs.Try.prog 22 f22.body.hints = some f22 := by kernel_rfl


def f23 : AFun := ⟨47, 1, [.slot 2],
  (.seq (.run [0] [⟨some 2, .mv, [.const (.bool false)], none⟩])
   (.seq (.seq (.run [0, 17] [⟨some 4, .mv, [.tmp 0], none⟩,
       ⟨some 5, (.len 0), [.tmp 4], none⟩,
       ⟨some 6, (.bin .lss), [.tmp 5, .const (.int .i64 1)], none⟩,
       ⟨some 7, .mv, [.tmp 6], none⟩,
       ⟨some 8, .mv, [.tmp 0], some (7, false)⟩,
       ⟨some 9, (.len 0), [.tmp 8], some (7, false)⟩,
       ⟨some 10, (.bin .gtr), [.tmp 9, .const (.int .i64 32)], some (7, false)⟩,
       ⟨some 11, .pick, [.tmp 7, .const (.bool true), .tmp 10], none⟩,
       ⟨some 12, .mv, [.tmp 11], none⟩,
       ⟨some 13, .mv, [.tmp 0], some (12, false)⟩,
       ⟨some 14, .ixs, [.tmp 13, .const (.int .i64 0)], some (12, false)⟩,
       ⟨some 15, (.call 32), [.tmp 14], some (12, false)⟩,
       ⟨some 16, (.un .not), [.tmp 15], some (12, false)⟩,
       ⟨some 17, .pick, [.tmp 12, .const (.bool true), .tmp 16], none⟩])
     (.cond (.tmp 17)
      (.seq (.run [2] [⟨some 2, .mv, [.const (.bool false)], none⟩])
       .ret)
      .skip))
    (.seq (.seq (.run [0, 3] [⟨some 3, .mv, [.const (.int .i64 0)], none⟩])
      (.block 0 (.loop [0, 3] (.seq (.seq (.run [0, 3, 21] [⟨some 18, .mv, [.tmp 3], none⟩,
            ⟨some 19, .mv, [.tmp 0], none⟩,
            ⟨some 20, (.len 0), [.tmp 19], none⟩,
            ⟨some 21, (.bin .lss), [.tmp 18, .tmp 20], none⟩])
          (.cond (.tmp 21)
           .skip
           (.exit 0)))
         (.seq (.block 1 (.seq (.run [0, 3, 46] [⟨some 24, .mv, [.tmp 0], none⟩,
              ⟨some 25, .mv, [.tmp 3], none⟩,
              ⟨some 26, .ixs, [.tmp 24, .tmp 25], none⟩,
              ⟨some 27, (.call 32), [.tmp 26], none⟩,
              ⟨some 28, (.un .not), [.tmp 27], none⟩,
              ⟨some 29, .mv, [.tmp 28], none⟩,
              ⟨some 30, .mv, [.tmp 0], some (29, true)⟩,
              ⟨some 31, .mv, [.tmp 3], some (29, true)⟩,
              ⟨some 32, .ixs, [.tmp 30, .tmp 31], some (29, true)⟩,
              ⟨some 33, (.bin .lss), [.tmp 32, .const (.int .u8 48)], some (29, true)⟩,
              ⟨some 34, .mv, [.tmp 33], some (29, true)⟩,
              ⟨some 35, .mv, [.tmp 0], some (34, false)⟩,
              ⟨some 36, .mv, [.tmp 3], some (34, false)⟩,
              ⟨some 37, .ixs, [.tmp 35, .tmp 36], some (34, false)⟩,
              ⟨some 38, (.bin .gtr), [.tmp 37, .const (.int .u8 57)], some (34, false)⟩,
              ⟨some 39, .pick, [.tmp 34, .const (.bool true), .tmp 38], some (29, true)⟩,
              ⟨some 40, .pick, [.tmp 29, .tmp 39, .const (.bool false)], none⟩,
              ⟨some 41, .mv, [.tmp 40], none⟩,
              ⟨some 42, .mv, [.tmp 0], some (41, true)⟩,
              ⟨some 43, .mv, [.tmp 3], some (41, true)⟩,
              ⟨some 44, .ixs, [.tmp 42, .tmp 43], some (41, true)⟩,
              ⟨some 45, (.eqg true 6), [.tmp 44, .const (.int .u8 95)], some (41, true)⟩,
              ⟨some 46, .pick, [.tmp 41, .tmp 45, .const (.bool false)], none⟩])
            (.cond (.tmp 46)
             (.seq (.run [2] [⟨some 2, .mv, [.const (.bool false)], none⟩])
              .ret)
             .skip)))
          (.run [0, 3] [⟨some 22, .mv, [.tmp 3], none⟩,
            ⟨some 23, (.bin .add), [.tmp 22, .const (.int .i64 1)], none⟩,
            ⟨some 3, .mv, [.tmp 23], none⟩]))))))
     (.seq (.run [2] [⟨some 2, .mv, [.const (.bool true)], none⟩])
      .ret))))⟩

theorem f23_ok : compF Go.Proofs.Try.prog 23 f23.body.hints = some f23 := by kernel_rfl


def f24 : AFun := ⟨18, 2, [.slot 4],
  (.seq (.run [0, 1] [⟨some 4, .mv, [.const (.bool false)], none⟩])
   (.seq (.seq (.run [0, 1, 5] [⟨some 5, .mv, [.const (.int .i64 0)], none⟩])
     (.block 0 (.loop [0, 1, 5] (.seq (.seq (.run [0, 1, 5, 9] [⟨some 6, .mv, [.tmp 5], none⟩,
           ⟨some 7, .mv, [.tmp 0], none⟩,
           ⟨some 8, (.len 1), [.tmp 7], none⟩,
           ⟨some 9, (.bin .lss), [.tmp 6, .tmp 8], none⟩])
         (.cond (.tmp 9)
          .skip
          (.exit 0)))
        (.seq (.block 1 (.seq (.run [0, 1, 5, 17] [⟨some 12, .mv, [.tmp 0], none⟩,
             ⟨some 13, .mv, [.tmp 5], none⟩,
             ⟨some 14, (.iaddr 1), [.tmp 12, .tmp 13], none⟩,
             ⟨some 15, (.ld false 1), [.tmp 14], none⟩,
             ⟨some 16, .mv, [.tmp 1], none⟩,
             ⟨some 17, (.eqg false 6), [.tmp 15, .tmp 16], none⟩])
           (.cond (.tmp 17)
            (.seq (.run [4] [⟨some 4, .mv, [.const (.bool true)], none⟩])
             .ret)
            .skip)))
         (.run [0, 1, 5] [⟨some 10, .mv, [.tmp 5], none⟩,
           ⟨some 11, (.bin .add), [.tmp 10, .const (.int .i64 1)], none⟩,
           ⟨some 5, .mv, [.tmp 11], none⟩]))))))
    (.seq (.run [4] [⟨some 4, .mv, [.const (.bool false)], none⟩])
     .ret)))⟩

theorem f24_ok : compF Go.Proofs.Try.prog 24 f24.body.hints = some f24 := by kernel_rfl


def f25 : AFun := ⟨33, 2, [.cell 4 (.ld true 6), .slot 5],
  (.seq (.run [1, 2, 4] [⟨some 2, .box, [.tmp 0], none⟩,
     ⟨some 4, (.alloc [(.int .i64 0), (.str []), (.int .i64 0), (.bool false), (.sl [] .nil), (.sl [] .nil)]), [], none⟩,
     ⟨some 5, .mv, [.const (.int .i64 0)], none⟩])
   (.seq (.seq (.run [1, 2, 4, 9] [⟨some 7, (.faddr 0), [.tmp 2], none⟩,
       ⟨some 8, (.ld false 1), [.tmp 7], none⟩,
       ⟨some 9, (.eqg true 6), [.tmp 8, .const (.int .i64 4)], none⟩])
     (.cond (.tmp 9)
      (.seq (.run [4, 5] [⟨some 10, (.build [(.int .i64 0), (.str []), (.int .i64 0), (.bool false), (.sl [] .nil), (.sl [] .nil)] []), [], none⟩,
         ⟨none, (.st 6), [.tmp 4, .tmp 10], none⟩,
         ⟨some 5, .mv, [.const (.int .i64 18)], none⟩])
       .ret)
      .skip))
    (.seq (.seq (.run [1, 2, 4, 6] [⟨some 6, .mv, [.const (.int .i64 0)], none⟩])
      (.block 0 (.loop [1, 2, 4, 6] (.seq (.seq (.run [1, 2, 4, 6, 15] [⟨some 11, .mv, [.tmp 6], none⟩,
            ⟨some 12, (.faddr 5), [.tmp 2], none⟩,
            ⟨some 13, (.ld false 1), [.tmp 12], none⟩,
            ⟨some 14, (.len 1), [.tmp 13], none⟩,
            ⟨some 15, (.bin .lss), [.tmp 11, .tmp 14], none⟩])
          (.cond (.tmp 15)
           .skip
           (.exit 0)))
         (.seq (.block 1 (.seq (.run [1, 2, 4, 6, 25] [⟨some 18, (.faddr 5), [.tmp 2], none⟩,
              ⟨some 19, (.ld false 1), [.tmp 18], none⟩,
              ⟨some 20, .mv, [.tmp 6], none⟩,
              ⟨some 21, (.iaddr 7), [.tmp 19, .tmp 20], none⟩,
              ⟨some 22, (.faddr 0), [.tmp 21], none⟩,
              ⟨some 23, (.ld false 1), [.tmp 22], none⟩,
              ⟨some 24, .mv, [.tmp 1], none⟩,
              ⟨some 25, (.eqg false 6), [.tmp 23, .tmp 24], none⟩])
            (.cond (.tmp 25)
             (.seq (.run [4, 5] [⟨some 26, (.faddr 5), [.tmp 2], none⟩,
                ⟨some 27, (.ld false 1), [.tmp 26], none⟩,
                ⟨some 28, .mv, [.tmp 6], none⟩,
                ⟨some 29, (.iaddr 7), [.tmp 27, .tmp 28], none⟩,
                ⟨some 30, (.faddr 1), [.tmp 29], none⟩,
                ⟨some 31, (.ld true 6), [.tmp 30], none⟩,
                ⟨none, (.st 6), [.tmp 4, .tmp 31], none⟩,
                ⟨some 5, .mv, [.const (.int .i64 0)], none⟩])
              .ret)
             .skip)))
          (.run [1, 2, 4, 6] [⟨some 16, .mv, [.tmp 6], none⟩,
            ⟨some 17, (.bin .add), [.tmp 16, .const (.int .i64 1)], none⟩,
            ⟨some 6, .mv, [.tmp 17], none⟩]))))))
     (.seq (.run [4, 5] [⟨some 32, (.build [(.int .i64 0), (.str []), (.int .i64 0), (.bool false), (.sl [] .nil), (.sl [] .nil)] []), [], none⟩,
        ⟨none, (.st 6), [.tmp 4, .tmp 32], none⟩,
        ⟨some 5, .mv, [.const (.int .i64 17)], none⟩])
      .ret))))⟩

theorem f25_ok : compF Go.Proofs.Try.prog 25 f25.body.hints = some f25 := by kernel_rfl


def f26 : AFun := ⟨19, 2, [.slot 4],
  (.seq (.run [0, 1] [⟨some 4, .mv, [.const (.int .i64 0)], none⟩])
   (.seq (.seq (.run [0, 1, 7, 8] [⟨some 6, .mv, [.tmp 0], none⟩,
       ⟨some 7, (.len 1), [.tmp 6], none⟩,
       ⟨some 8, .mv, [.const (.int .i64 0)], none⟩])
     (.block 0 (.loop [0, 1, 7, 8] (.seq (.run [0, 1, 7, 8, 9] [⟨some 9, (.bin .lss), [.tmp 8, .tmp 7], none⟩])
        (.seq (.cond (.tmp 9)
          .skip
          (.exit 0))
         (.seq (.block 1 (.seq (.run [0, 1, 5, 7, 8] [⟨some 10, .mv, [.tmp 8], none⟩,
              ⟨some 5, .mv, [.tmp 10], none⟩])
            (.seq (.run [0, 1, 5, 7, 8, 16] [⟨some 11, .mv, [.tmp 1], none⟩,
               ⟨some 12, .mv, [.tmp 0], none⟩,
               ⟨some 13, .mv, [.tmp 5], none⟩,
               ⟨some 14, (.iaddr 1), [.tmp 12, .tmp 13], none⟩,
               ⟨some 15, (.ld false 1), [.tmp 14], none⟩,
               ⟨some 16, (.eqg false 6), [.tmp 11, .tmp 15], none⟩])
             (.cond (.tmp 16)
              (.seq (.run [4] [⟨some 17, .mv, [.tmp 5], none⟩,
                 ⟨some 4, .mv, [.tmp 17], none⟩])
               .ret)
              .skip))))
          (.run [0, 1, 7, 8] [⟨some 18, (.bin .add), [.tmp 8, .const (.int .i64 1)], none⟩,
            ⟨some 8, .mv, [.tmp 18], none⟩])))))))
    (.seq (.run [4] [⟨some 4, .mv, [.const (.int .i64 (-1))], none⟩])
     .ret)))⟩

theorem f26_ok : compF Go.Proofs.Try.prog 26 f26.body.hints = some f26 := by kernel_rfl


def f27 : AFun := ⟨17, 1, [.slot 2],
  (.seq (.run [0] [⟨some 2, .mv, [.const (.bool false)], none⟩])
   (.seq (.run [2] [⟨some 3, .mv, [.tmp 0], none⟩,
      ⟨some 4, (.bin .geq), [.tmp 3, .const (.int .i32 97)], none⟩,
      ⟨some 5, .mv, [.tmp 4], none⟩,
      ⟨some 6, .mv, [.tmp 0], some (5, true)⟩,
      ⟨some 7, (.bin .leq), [.tmp 6, .const (.int .i32 122)], some (5, true)⟩,
      ⟨some 8, .pick, [.tmp 5, .tmp 7, .const (.bool false)], none⟩,
      ⟨some 9, .mv, [.tmp 8], none⟩,
      ⟨some 10, .mv, [.tmp 0], some (9, false)⟩,
      ⟨some 11, (.bin .geq), [.tmp 10, .const (.int .i32 65)], some (9, false)⟩,
      ⟨some 12, .mv, [.tmp 11], some (9, false)⟩,
      ⟨some 13, .mv, [.tmp 0], some (12, true)⟩,
      ⟨some 14, (.bin .leq), [.tmp 13, .const (.int .i32 90)], some (12, true)⟩,
      ⟨some 15, .pick, [.tmp 12, .tmp 14, .const (.bool false)], some (9, false)⟩,
      ⟨some 16, .pick, [.tmp 9, .const (.bool true), .tmp 15], none⟩,
      ⟨some 2, .mv, [.tmp 16], none⟩])
    .ret))⟩

theorem f27_ok : compF Go.Proofs.Try.prog 27 f27.body.hints = some f27 := by kernel_rfl


def f28 : AFun := ⟨70, 2, [.slot 4],
  (.seq (.run [1, 2] [⟨some 2, .box, [.tmp 0], none⟩,
     ⟨some 4, .mv, [.const (.int .i64 0)], none⟩])
   (.seq (.seq (.run [1, 2, 27] [⟨some 10, .mv, [.tmp 1], none⟩,
       ⟨some 11, (.bin .gtr), [.tmp 10, .const (.int .i64 200)], none⟩,
       ⟨some 12, .mv, [.tmp 11], none⟩,
       ⟨some 13, (.faddr 4), [.tmp 2], some (12, false)⟩,
       ⟨some 14, (.ld false 1), [.tmp 13], some (12, false)⟩,
       ⟨some 15, (.len 1), [.tmp 14], some (12, false)⟩,
       ⟨some 16, (.faddr 5), [.tmp 2], some (12, false)⟩,
       ⟨some 17, (.ld false 1), [.tmp 16], some (12, false)⟩,
       ⟨some 18, (.len 1), [.tmp 17], some (12, false)⟩,
       ⟨some 19, (.bin .add), [.tmp 15, .tmp 18], some (12, false)⟩,
       ⟨some 20, (.bin .gtr), [.tmp 19, .const (.int .i64 1000)], some (12, false)⟩,
       ⟨some 21, .pick, [.tmp 12, .const (.bool true), .tmp 20], none⟩,
       ⟨some 22, .mv, [.tmp 21], none⟩,
       ⟨some 23, (.faddr 1), [.tmp 2], some (22, false)⟩,
       ⟨some 24, (.ld false 1), [.tmp 23], some (22, false)⟩,
       ⟨some 25, (.len 0), [.tmp 24], some (22, false)⟩,
       ⟨some 26, (.bin .gtr), [.tmp 25, .const (.int .i64 10000)], some (22, false)⟩,
       ⟨some 27, .pick, [.tmp 22, .const (.bool true), .tmp 26], none⟩])
     (.cond (.tmp 27)
      (.seq (.run [4] [⟨some 4, .mv, [.const (.int .i64 100001)], none⟩])
       .ret)
      .skip))
    (.seq (.run [1, 2, 5] [⟨some 28, (.faddr 1), [.tmp 2], none⟩,
       ⟨some 29, (.ld false 1), [.tmp 28], none⟩,
       ⟨some 30, (.len 0), [.tmp 29], none⟩,
       ⟨some 31, (.bin .add), [.const (.int .i64 1), .tmp 30], none⟩,
       ⟨some 5, .mv, [.tmp 31], none⟩])
     (.seq (.seq (.run [1, 2, 5, 33, 34, 35] [⟨some 32, (.faddr 4), [.tmp 2], none⟩,
         ⟨some 33, (.ld false 1), [.tmp 32], none⟩,
         ⟨some 34, (.len 1), [.tmp 33], none⟩,
         ⟨some 35, .mv, [.const (.int .i64 0)], none⟩])
       (.block 0 (.loop [1, 2, 5, 33, 34, 35] (.seq (.run [1, 2, 5, 33, 34, 35, 36] [⟨some 36, (.bin .lss), [.tmp 35, .tmp 34], none⟩])
          (.seq (.cond (.tmp 36)
            .skip
            (.exit 0))
           (.seq (.block 1 (.seq (.run [1, 2, 5, 7, 33, 34, 35] [⟨some 37, (.iaddr 6), [.tmp 33, .tmp 35], none⟩,
                ⟨some 38, (.ld true 6), [.tmp 37], none⟩,
                ⟨some 7, (.alloc [(.int .i64 0), (.str []), (.int .i64 0), (.bool false), (.sl [] .nil), (.sl [] .nil)]), [], none⟩,
                ⟨none, (.st 6), [.tmp 7, .tmp 38], none⟩])
              (.seq (.run [1, 2, 5, 33, 34, 35] [⟨some 39, .mv, [.tmp 5], none⟩,
                 ⟨some 40, (.ld true 6), [.tmp 7], none⟩,
                 ⟨some 41, .mv, [.tmp 1], none⟩,
                 ⟨some 42, (.bin .add), [.tmp 41, .const (.int .i64 1)], none⟩,
                 ⟨some 43, (.call 28), [.tmp 40, .tmp 42], none⟩,
                 ⟨some 44, (.bin .add), [.tmp 39, .tmp 43], none⟩,
                 ⟨some 5, .mv, [.tmp 44], none⟩])
               (.seq (.run [1, 2, 5, 33, 34, 35, 46] [⟨some 45, .mv, [.tmp 5], none⟩,
                  ⟨some 46, (.bin .gtr), [.tmp 45, .const (.int .i64 100000)], none⟩])
                (.cond (.tmp 46)
                 (.seq (.run [4] [⟨some 4, .mv, [.const (.int .i64 100001)], none⟩])
                  .ret)
                 .skip)))))
            (.run [1, 2, 5, 33, 34, 35] [⟨some 47, (.bin .add), [.tmp 35, .const (.int .i64 1)], none⟩,
              ⟨some 35, .mv, [.tmp 47], none⟩])))))))
      (.seq (.seq (.run [1, 5, 49, 50, 51] [⟨some 48, (.faddr 5), [.tmp 2], none⟩,
          ⟨some 49, (.ld false 1), [.tmp 48], none⟩,
          ⟨some 50, (.len 1), [.tmp 49], none⟩,
          ⟨some 51, .mv, [.const (.int .i64 0)], none⟩])
        (.block 2 (.loop [1, 5, 49, 50, 51] (.seq (.run [1, 5, 49, 50, 51, 52] [⟨some 52, (.bin .lss), [.tmp 51, .tmp 50], none⟩])
           (.seq (.cond (.tmp 52)
             .skip
             (.exit 2))
            (.seq (.block 3 (.seq (.run [1, 5, 9, 49, 50, 51] [⟨some 53, (.iaddr 7), [.tmp 49, .tmp 51], none⟩,
                 ⟨some 54, (.ld true 7), [.tmp 53], none⟩,
                 ⟨some 9, (.alloc [(.str []), (.int .i64 0), (.str []), (.int .i64 0), (.bool false), (.sl [] .nil), (.sl [] .nil)]), [], none⟩,
                 ⟨none, (.st 7), [.tmp 9, .tmp 54], none⟩])
               (.seq (.runD [1, 5, 49, 50, 51] [⟨0, ⟨some 55, .mv, [.tmp 5], none⟩, []⟩,
                  ⟨1, ⟨some 56, (.faddr 1), [.tmp 9], none⟩, []⟩,
                  ⟨2, ⟨some 57, (.ld true 6), [.tmp 56], none⟩, []⟩,
                  ⟨3, ⟨some 58, .mv, [.tmp 1], none⟩, []⟩,
                  ⟨4, ⟨some 59, (.bin .add), [.tmp 58, .const (.int .i64 1)], none⟩, []⟩,
                  ⟨6, ⟨some 61, (.faddr 0), [.tmp 9], none⟩, []⟩,
                  ⟨7, ⟨some 62, (.ld false 1), [.tmp 61], none⟩, []⟩,
                  ⟨8, ⟨some 63, (.len 0), [.tmp 62], none⟩, []⟩,
                  ⟨5, ⟨some 60, (.call 28), [.tmp 57, .tmp 59], none⟩, [7]⟩,
                  ⟨9, ⟨some 64, (.bin .add), [.tmp 60, .tmp 63], none⟩, []⟩,
                  ⟨10, ⟨some 65, (.bin .add), [.tmp 55, .tmp 64], none⟩, []⟩,
                  ⟨11, ⟨some 5, .mv, [.tmp 65], none⟩, []⟩])
                (.seq (.run [1, 5, 49, 50, 51, 67] [⟨some 66, .mv, [.tmp 5], none⟩,
                   ⟨some 67, (.bin .gtr), [.tmp 66, .const (.int .i64 100000)], none⟩])
                 (.cond (.tmp 67)
                  (.seq (.run [4] [⟨some 4, .mv, [.const (.int .i64 100001)], none⟩])
                   .ret)
                  .skip)))))
             (.run [1, 5, 49, 50, 51] [⟨some 68, (.bin .add), [.tmp 51, .const (.int .i64 1)], none⟩,
               ⟨some 51, .mv, [.tmp 68], none⟩])))))))
       (.seq (.run [4] [⟨some 69, .mv, [.tmp 5], none⟩,
          ⟨some 4, .mv, [.tmp 69], none⟩])
        .ret))))))⟩

theorem f28_ok : compF Go.Proofs.Try.prog 28 f28.body.hints = some f28 := by kernel_rfl


def f29 : AFun := ⟨73, 2, [.slot 4],
  (.seq (.run [1, 2] [⟨some 2, .box, [.tmp 0], none⟩,
     ⟨some 4, .mv, [.const (.int .i64 0)], none⟩])
   (.seq (.block 0 (.seq (.run [1, 2, 12] [⟨some 13, .mv, [.tmp 1], none⟩,
        ⟨some 14, (.bin .gtr), [.tmp 13, .const (.int .i64 32)], none⟩,
        ⟨some 12, .mv, [.tmp 14], none⟩])
      (.cond (.tmp 12)
       (.seq (.run [4] [⟨some 4, .mv, [.const (.int .i64 13)], none⟩])
        .ret)
       (.seq (.run [1, 2, 15] [⟨some 16, (.faddr 0), [.tmp 2], none⟩,
          ⟨some 17, (.ld false 1), [.tmp 16], none⟩,
          ⟨some 18, (.bin .lss), [.tmp 17, .const (.int .i64 0)], none⟩,
          ⟨some 19, .mv, [.tmp 18], none⟩,
          ⟨some 20, (.faddr 0), [.tmp 2], some (19, false)⟩,
          ⟨some 21, (.ld false 1), [.tmp 20], some (19, false)⟩,
          ⟨some 22, (.bin .gtr), [.tmp 21, .const (.int .i64 4)], some (19, false)⟩,
          ⟨some 23, .pick, [.tmp 19, .const (.bool true), .tmp 22], none⟩,
          ⟨some 15, .mv, [.tmp 23], none⟩])
        (.cond (.tmp 15)
         (.seq (.run [4] [⟨some 4, .mv, [.const (.int .i64 18)], none⟩])
          .ret)
         (.seq (.run [1, 2, 24] [⟨some 25, (.ld true 6), [.tmp 2], none⟩,
            ⟨some 26, (.call 33), [.tmp 25], none⟩,
            ⟨some 27, (.un .not), [.tmp 26], none⟩,
            ⟨some 24, .mv, [.tmp 27], none⟩])
          (.cond (.tmp 24)
           (.seq (.run [4] [⟨some 4, .mv, [.const (.int .i64 2)], none⟩])
            .ret)
           .skip)))))))
    (.seq (.seq (.run [1, 2, 29, 30, 31] [⟨some 28, (.faddr 4), [.tmp 2], none⟩,
        ⟨some 29, (.ld false 1), [.tmp 28], none⟩,
        ⟨some 30, (.len 1), [.tmp 29], none⟩,
        ⟨some 31, .mv, [.const (.int .i64 0)], none⟩])
      (.block 1 (.loop [1, 2, 29, 30, 31] (.seq (.run [1, 2, 29, 30, 31, 32] [⟨some 32, (.bin .lss), [.tmp 31, .tmp 30], none⟩])
         (.seq (.cond (.tmp 32)
           .skip
           (.exit 1))
          (.seq (.block 2 (.seq (.run [1, 2, 6, 29, 30, 31] [⟨some 33, (.iaddr 6), [.tmp 29, .tmp 31], none⟩,
               ⟨some 34, (.ld true 6), [.tmp 33], none⟩,
               ⟨some 6, (.alloc [(.int .i64 0), (.str []), (.int .i64 0), (.bool false), (.sl [] .nil), (.sl [] .nil)]), [], none⟩,
               ⟨none, (.st 6), [.tmp 6, .tmp 34], none⟩])
             (.seq (.run [1, 2, 7, 29, 30, 31] [⟨some 35, (.ld true 6), [.tmp 6], none⟩,
                ⟨some 36, .mv, [.tmp 1], none⟩,
                ⟨some 37, (.bin .add), [.tmp 36, .const (.int .i64 1)], none⟩,
                ⟨some 38, (.call 29), [.tmp 35, .tmp 37], none⟩,
                ⟨some 7, .mv, [.tmp 38], none⟩])
              (.seq (.run [1, 2, 7, 29, 30, 31, 40] [⟨some 39, .mv, [.tmp 7], none⟩,
                 ⟨some 40, (.eqg true 6), [.tmp 39, .const (.int .i64 0)], none⟩])
               (.cond (.tmp 40)
                (.seq (.run [4] [⟨some 41, .mv, [.tmp 7], none⟩,
                   ⟨some 4, .mv, [.tmp 41], none⟩])
                 .ret)
                .skip)))))
           (.run [1, 2, 29, 30, 31] [⟨some 42, (.bin .add), [.tmp 31, .const (.int .i64 1)], none⟩,
             ⟨some 31, .mv, [.tmp 42], none⟩])))))))
     (.seq (.run [1, 2, 8] [⟨some 43, .mkmap, [], none⟩,
        ⟨some 8, .mv, [.tmp 43], none⟩])
      (.seq (.seq (.run [1, 8, 45, 46, 47] [⟨some 44, (.faddr 5), [.tmp 2], none⟩,
          ⟨some 45, (.ld false 1), [.tmp 44], none⟩,
          ⟨some 46, (.len 1), [.tmp 45], none⟩,
          ⟨some 47, .mv, [.const (.int .i64 0)], none⟩])
        (.block 3 (.loop [1, 8, 45, 46, 47] (.seq (.run [1, 8, 45, 46, 47, 48] [⟨some 48, (.bin .lss), [.tmp 47, .tmp 46], none⟩])
           (.seq (.cond (.tmp 48)
             .skip
             (.exit 3))
            (.seq (.block 4 (.seq (.run [1, 8, 10, 45, 46, 47] [⟨some 49, (.iaddr 7), [.tmp 45, .tmp 47], none⟩,
                 ⟨some 50, (.ld true 7), [.tmp 49], none⟩,
                 ⟨some 10, (.alloc [(.str []), (.int .i64 0), (.str []), (.int .i64 0), (.bool false), (.sl [] .nil), (.sl [] .nil)]), [], none⟩,
                 ⟨none, (.st 7), [.tmp 10, .tmp 50], none⟩])
               (.seq (.block 5 (.seq (.run [1, 8, 10, 45, 46, 47, 51] [⟨some 52, (.faddr 0), [.tmp 10], none⟩,
                    ⟨some 53, (.ld false 1), [.tmp 52], none⟩,
                    ⟨some 54, (.call 16), [.tmp 53], none⟩,
                    ⟨some 55, (.un .not), [.tmp 54], none⟩,
                    ⟨some 51, .mv, [.tmp 55], none⟩])
                  (.cond (.tmp 51)
                   (.seq (.run [4] [⟨some 4, .mv, [.const (.int .i64 11)], none⟩])
                    .ret)
                   (.seq (.run [1, 8, 10, 45, 46, 47, 56] [⟨some 57, .mv, [.tmp 8], none⟩,
                      ⟨some 58, (.faddr 0), [.tmp 10], none⟩,
                      ⟨some 59, (.ld false 1), [.tmp 58], none⟩,
                      ⟨some 60, (.lkp 2 (.bool false) false), [.tmp 57, .tmp 59], none⟩,
                      ⟨some 56, .mv, [.tmp 60], none⟩])
                    (.cond (.tmp 56)
                     (.seq (.run [4] [⟨some 4, .mv, [.const (.int .i64 12)], none⟩])
                      .ret)
                     .skip)))))
                (.seq (.run [1, 8, 10, 45, 46, 47] [⟨some 61, .mv, [.tmp 8], none⟩,
                   ⟨some 62, (.faddr 0), [.tmp 10], none⟩,
                   ⟨some 63, (.ld false 1), [.tmp 62], none⟩,
                   ⟨none, (.mup 2), [.tmp 61, .tmp 63, .const (.bool true)], none⟩])
                 (.seq (.run [1, 8, 11, 45, 46, 47] [⟨some 64, (.faddr 1), [.tmp 10], none⟩,
                    ⟨some 65, (.ld true 6), [.tmp 64], none⟩,
                    ⟨some 66, .mv, [.tmp 1], none⟩,
                    ⟨some 67, (.bin .add), [.tmp 66, .const (.int .i64 1)], none⟩,
                    ⟨some 68, (.call 29), [.tmp 65, .tmp 67], none⟩,
                    ⟨some 11, .mv, [.tmp 68], none⟩])
                  (.seq (.run [1, 8, 11, 45, 46, 47, 70] [⟨some 69, .mv, [.tmp 11], none⟩,
                     ⟨some 70, (.eqg true 6), [.tmp 69, .const (.int .i64 0)], none⟩])
                   (.cond (.tmp 70)
                    (.seq (.run [4] [⟨some 71, .mv, [.tmp 11], none⟩,
                       ⟨some 4, .mv, [.tmp 71], none⟩])
                     .ret)
                    .skip)))))))
             (.run [1, 8, 45, 46, 47] [⟨some 72, (.bin .add), [.tmp 47, .const (.int .i64 1)], none⟩,
               ⟨some 47, .mv, [.tmp 72], none⟩])))))))
       (.seq (.run [4] [⟨some 4, .mv, [.const (.int .i64 0)], none⟩])
        .ret))))))⟩

theorem f29_ok : compF Go.Proofs.Try.prog 29 f29.body.hints = some f29 := by kernel_rfl


def f30 : AFun := ⟨19, 2, [.slot 4],
  (.seq (.run [0, 1] [⟨some 4, .mv, [.const (.int .i64 0)], none⟩])
   (.seq (.seq (.run [0, 1, 7, 8] [⟨some 6, .mv, [.tmp 0], none⟩,
       ⟨some 7, (.len 1), [.tmp 6], none⟩,
       ⟨some 8, .mv, [.const (.int .i64 0)], none⟩])
     (.block 0 (.loop [0, 1, 7, 8] (.seq (.run [0, 1, 7, 8, 9] [⟨some 9, (.bin .lss), [.tmp 8, .tmp 7], none⟩])
        (.seq (.cond (.tmp 9)
          .skip
          (.exit 0))
         (.seq (.block 1 (.seq (.run [0, 1, 5, 7, 8] [⟨some 10, .mv, [.tmp 8], none⟩,
              ⟨some 5, .mv, [.tmp 10], none⟩])
            (.seq (.run [0, 1, 5, 7, 8, 16] [⟨some 11, .mv, [.tmp 1], none⟩,
               ⟨some 12, .mv, [.tmp 0], none⟩,
               ⟨some 13, .mv, [.tmp 5], none⟩,
               ⟨some 14, (.iaddr 1), [.tmp 12, .tmp 13], none⟩,
               ⟨some 15, (.ld false 1), [.tmp 14], none⟩,
               ⟨some 16, .callv, [.tmp 11, .tmp 15], none⟩])
             (.cond (.tmp 16)
              (.seq (.run [4] [⟨some 17, .mv, [.tmp 5], none⟩,
                 ⟨some 4, .mv, [.tmp 17], none⟩])
               .ret)
              .skip))))
          (.run [0, 1, 7, 8] [⟨some 18, (.bin .add), [.tmp 8, .const (.int .i64 1)], none⟩,
            ⟨some 8, .mv, [.tmp 18], none⟩])))))))
    (.seq (.run [4] [⟨some 4, .mv, [.const (.int .i64 (-1))], none⟩])
     .ret)))⟩

theorem f30_ok : compF Go.Proofs.Try.prog 30 f30.body.hints = some f30 := by kernel_rfl


def f31 : AFun := ⟨86, 2, [.slot 4],
  (.seq (.run [1, 2] [⟨some 2, .box, [.tmp 0], none⟩,
     ⟨some 4, .mv, [.const (.int .i64 0)], none⟩])
   (.seq (.seq (.run [1, 2, 11] [⟨some 10, .mv, [.tmp 1], none⟩,
       ⟨some 11, (.bin .gtr), [.tmp 10, .const (.int .i64 32)], none⟩])
     (.cond (.tmp 11)
      (.seq (.run [4] [⟨some 4, .mv, [.const (.int .i64 13)], none⟩])
       .ret)
      .skip))
    (.seq (.seq (.run [1, 2, 19] [⟨some 12, (.faddr 0), [.tmp 2], none⟩,
        ⟨some 13, (.ld false 1), [.tmp 12], none⟩,
        ⟨some 14, (.bin .lss), [.tmp 13, .const (.int .i64 0)], none⟩,
        ⟨some 15, .mv, [.tmp 14], none⟩,
        ⟨some 16, (.faddr 0), [.tmp 2], some (15, false)⟩,
        ⟨some 17, (.ld false 1), [.tmp 16], some (15, false)⟩,
        ⟨some 18, (.bin .gtr), [.tmp 17, .const (.int .i64 4)], some (15, false)⟩,
        ⟨some 19, .pick, [.tmp 15, .const (.bool true), .tmp 18], none⟩])
      (.cond (.tmp 19)
       (.seq (.run [4] [⟨some 4, .mv, [.const (.int .i64 18)], none⟩])
        .ret)
       .skip))
     (.seq (.seq (.run [1, 2, 22] [⟨some 20, (.ld true 6), [.tmp 2], none⟩,
         ⟨some 21, (.call 34), [.tmp 20], none⟩,
         ⟨some 22, (.un .not), [.tmp 21], none⟩])
       (.cond (.tmp 22)
        (.seq (.run [4] [⟨some 4, .mv, [.const (.int .i64 2)], none⟩])
         .ret)
        .skip))
      (.seq (.seq (.run [1, 2, 5] [⟨some 5, .mv, [.const (.int .i64 0)], none⟩])
        (.block 0 (.loop [1, 2, 5] (.seq (.seq (.run [1, 2, 5, 27] [⟨some 23, .mv, [.tmp 5], none⟩,
              ⟨some 24, (.faddr 4), [.tmp 2], none⟩,
              ⟨some 25, (.ld false 1), [.tmp 24], none⟩,
              ⟨some 26, (.len 1), [.tmp 25], none⟩,
              ⟨some 27, (.bin .lss), [.tmp 23, .tmp 26], none⟩])
            (.cond (.tmp 27)
             .skip
             (.exit 0)))
           (.seq (.block 1 (.seq (.run [1, 2, 5, 6] [⟨some 30, (.faddr 4), [.tmp 2], none⟩,
                ⟨some 31, (.ld false 1), [.tmp 30], none⟩,
                ⟨some 32, .mv, [.tmp 5], none⟩,
                ⟨some 33, (.iaddr 6), [.tmp 31, .tmp 32], none⟩,
                ⟨some 34, (.ld true 6), [.tmp 33], none⟩,
                ⟨some 35, .mv, [.tmp 1], none⟩,
                ⟨some 36, (.bin .add), [.tmp 35, .const (.int .i64 1)], none⟩,
                ⟨some 37, (.call 31), [.tmp 34, .tmp 36], none⟩,
                ⟨some 6, .mv, [.tmp 37], none⟩])
              (.seq (.run [1, 2, 5, 6, 39] [⟨some 38, .mv, [.tmp 6], none⟩,
                 ⟨some 39, (.eqg true 6), [.tmp 38, .const (.int .i64 0)], none⟩])
               (.cond (.tmp 39)
                (.seq (.run [4] [⟨some 40, .mv, [.tmp 6], none⟩,
                   ⟨some 4, .mv, [.tmp 40], none⟩])
                 .ret)
                .skip))))
            (.run [1, 2, 5] [⟨some 28, .mv, [.tmp 5], none⟩,
              ⟨some 29, (.bin .add), [.tmp 28, .const (.int .i64 1)], none⟩,
              ⟨some 5, .mv, [.tmp 29], none⟩]))))))
       (.seq (.seq (.run [1, 2, 7] [⟨some 7, .mv, [.const (.int .i64 0)], none⟩])
         (.block 2 (.loop [1, 2, 7] (.seq (.seq (.run [1, 2, 7, 45] [⟨some 41, .mv, [.tmp 7], none⟩,
               ⟨some 42, (.faddr 5), [.tmp 2], none⟩,
               ⟨some 43, (.ld false 1), [.tmp 42], none⟩,
               ⟨some 44, (.len 1), [.tmp 43], none⟩,
               ⟨some 45, (.bin .lss), [.tmp 41, .tmp 44], none⟩])
             (.cond (.tmp 45)
              .skip
              (.exit 2)))
            (.seq (.block 3 (.seq (.seq (.run [1, 2, 7, 55] [⟨some 48, (.faddr 5), [.tmp 2], none⟩,
                  ⟨some 49, (.ld false 1), [.tmp 48], none⟩,
                  ⟨some 50, .mv, [.tmp 7], none⟩,
                  ⟨some 51, (.iaddr 7), [.tmp 49, .tmp 50], none⟩,
                  ⟨some 52, (.faddr 0), [.tmp 51], none⟩,
                  ⟨some 53, (.ld false 1), [.tmp 52], none⟩,
                  ⟨some 54, (.call 23), [.tmp 53], none⟩,
                  ⟨some 55, (.un .not), [.tmp 54], none⟩])
                (.cond (.tmp 55)
                 (.seq (.run [4] [⟨some 4, .mv, [.const (.int .i64 11)], none⟩])
                  .ret)
                 .skip))
               (.seq (.seq (.run [1, 2, 7, 8] [⟨some 8, .mv, [.const (.int .i64 0)], none⟩])
                 (.block 4 (.loop [1, 2, 7, 8] (.seq (.seq (.run [1, 2, 7, 8, 58] [⟨some 56, .mv, [.tmp 8], none⟩,
                       ⟨some 57, .mv, [.tmp 7], none⟩,
                       ⟨some 58, (.bin .lss), [.tmp 56, .tmp 57], none⟩])
                     (.cond (.tmp 58)
                      .skip
                      (.exit 4)))
                    (.seq (.block 5 (.seq (.runD [1, 2, 7, 8, 73] [⟨0, ⟨some 61, (.faddr 5), [.tmp 2], none⟩, []⟩,
                         ⟨1, ⟨some 62, (.ld false 1), [.tmp 61], none⟩, []⟩,
                         ⟨2, ⟨some 63, .mv, [.tmp 8], none⟩, []⟩,
                         ⟨3, ⟨some 64, (.iaddr 7), [.tmp 62, .tmp 63], none⟩, []⟩,
                         ⟨4, ⟨some 65, (.faddr 0), [.tmp 64], none⟩, []⟩,
                         ⟨5, ⟨some 66, (.ld false 1), [.tmp 65], none⟩, []⟩,
                         ⟨6, ⟨some 67, (.faddr 5), [.tmp 2], none⟩, []⟩,
                         ⟨7, ⟨some 68, (.ld false 1), [.tmp 67], none⟩, []⟩,
                         ⟨8, ⟨some 69, .mv, [.tmp 7], none⟩, []⟩,
                         ⟨9, ⟨some 70, (.iaddr 7), [.tmp 68, .tmp 69], none⟩, []⟩,
                         ⟨10, ⟨some 71, (.faddr 0), [.tmp 70], none⟩, []⟩,
                         ⟨11, ⟨some 72, (.ld false 1), [.tmp 71], none⟩, []⟩,
                         ⟨12, ⟨some 73, (.eqg false 6), [.tmp 66, .tmp 72], none⟩, []⟩])
                       (.cond (.tmp 73)
                        (.seq (.run [4] [⟨some 4, .mv, [.const (.int .i64 12)], none⟩])
                         .ret)
                        .skip)))
                     (.run [1, 2, 7, 8] [⟨some 59, .mv, [.tmp 8], none⟩,
                       ⟨some 60, (.bin .add), [.tmp 59, .const (.int .i64 1)], none⟩,
                       ⟨some 8, .mv, [.tmp 60], none⟩]))))))
                (.seq (.run [1, 2, 7, 9] [⟨some 74, (.faddr 5), [.tmp 2], none⟩,
                   ⟨some 75, (.ld false 1), [.tmp 74], none⟩,
                   ⟨some 76, .mv, [.tmp 7], none⟩,
                   ⟨some 77, (.iaddr 7), [.tmp 75, .tmp 76], none⟩,
                   ⟨some 78, (.faddr 1), [.tmp 77], none⟩,
                   ⟨some 79, (.ld true 6), [.tmp 78], none⟩,
                   ⟨some 80, .mv, [.tmp 1], none⟩,
                   ⟨some 81, (.bin .add), [.tmp 80, .const (.int .i64 1)], none⟩,
                   ⟨some 82, (.call 31), [.tmp 79, .tmp 81], none⟩,
                   ⟨some 9, .mv, [.tmp 82], none⟩])
                 (.seq (.run [1, 2, 7, 9, 84] [⟨some 83, .mv, [.tmp 9], none⟩,
                    ⟨some 84, (.eqg true 6), [.tmp 83, .const (.int .i64 0)], none⟩])
                  (.cond (.tmp 84)
                   (.seq (.run [4] [⟨some 85, .mv, [.tmp 9], none⟩,
                      ⟨some 4, .mv, [.tmp 85], none⟩])
                    .ret)
                   .skip))))))
             (.run [1, 2, 7] [⟨some 46, .mv, [.tmp 7], none⟩,
               ⟨some 47, (.bin .add), [.tmp 46, .const (.int .i64 1)], none⟩,
               ⟨some 7, .mv, [.tmp 47], none⟩]))))))
        (.seq (.run [4] [⟨some 4, .mv, [.const (.int .i64 0)], none⟩])
         .ret)))))))⟩

theorem f31_ok : compF Go.Proofs.Try.prog 31 f31.body.hints = some f31 := by kernel_rfl


def f32 : AFun := ⟨17, 1, [.slot 2],
  (.seq (.run [0] [⟨some 2, .mv, [.const (.bool false)], none⟩])
   (.seq (.run [2] [⟨some 3, .mv, [.tmp 0], none⟩,
      ⟨some 4, (.bin .geq), [.tmp 3, .const (.int .u8 65)], none⟩,
      ⟨some 5, .mv, [.tmp 4], none⟩,
      ⟨some 6, .mv, [.tmp 0], some (5, true)⟩,
      ⟨some 7, (.bin .leq), [.tmp 6, .const (.int .u8 90)], some (5, true)⟩,
      ⟨some 8, .pick, [.tmp 5, .tmp 7, .const (.bool false)], none⟩,
      ⟨some 9, .mv, [.tmp 8], none⟩,
      ⟨some 10, .mv, [.tmp 0], some (9, false)⟩,
      ⟨some 11, (.bin .geq), [.tmp 10, .const (.int .u8 97)], some (9, false)⟩,
      ⟨some 12, .mv, [.tmp 11], some (9, false)⟩,
      ⟨some 13, .mv, [.tmp 0], some (12, true)⟩,
      ⟨some 14, (.bin .leq), [.tmp 13, .const (.int .u8 122)], some (12, true)⟩,
      ⟨some 15, .pick, [.tmp 12, .tmp 14, .const (.bool false)], some (9, false)⟩,
      ⟨some 16, .pick, [.tmp 9, .const (.bool true), .tmp 15], none⟩,
      ⟨some 2, .mv, [.tmp 16], none⟩])
    .ret))⟩

theorem f32_ok : compF Go.Proofs.Try.prog 32 f32.body.hints = some f32 := by kernel_rfl


def f33 : AFun := ⟨45, 1, [.slot 2],
  (.seq (.run [1] [⟨some 1, .box, [.tmp 0], none⟩,
     ⟨some 2, .mv, [.const (.bool false)], none⟩])
   (.seq (.seq (.run [1, 4] [⟨some 3, (.faddr 0), [.tmp 1], none⟩,
       ⟨some 4, (.ld false 1), [.tmp 3], none⟩])
     (.block 0 (.seq (.run [1, 4, 5] [⟨some 6, (.eqg false 6), [.tmp 4, .const (.int .i64 0)], none⟩,
         ⟨some 5, .mv, [.tmp 6], none⟩])
       (.cond (.tmp 5)
        (.run [1] [⟨some 7, (.faddr 1), [.tmp 1], none⟩,
          ⟨none, (.st 1), [.tmp 7, .const (.string ⟨#[]⟩)], none⟩])
        (.seq (.run [1, 4, 8] [⟨some 9, (.eqg false 6), [.tmp 4, .const (.int .i64 1)], none⟩,
           ⟨some 8, .mv, [.tmp 9], none⟩])
         (.cond (.tmp 8)
          (.run [1] [⟨some 10, (.faddr 2), [.tmp 1], none⟩,
            ⟨none, (.st 1), [.tmp 10, .const (.int .i64 0)], none⟩])
          (.seq (.run [1, 4, 11] [⟨some 12, (.eqg false 6), [.tmp 4, .const (.int .i64 2)], none⟩,
             ⟨some 11, .mv, [.tmp 12], none⟩])
           (.cond (.tmp 11)
            (.run [1] [⟨some 13, (.faddr 3), [.tmp 1], none⟩,
              ⟨none, (.st 1), [.tmp 13, .const (.bool false)], none⟩])
            (.seq (.run [1, 4, 14] [⟨some 15, (.eqg false 6), [.tmp 4, .const (.int .i64 3)], none⟩,
               ⟨some 14, .mv, [.tmp 15], none⟩])
             (.cond (.tmp 14)
              (.run [1] [⟨some 16, (.faddr 4), [.tmp 1], none⟩,
                ⟨none, (.st 1), [.tmp 16, .const (.slice none 0 0)], none⟩])
              (.seq (.run [1, 17] [⟨some 18, (.eqg false 6), [.tmp 4, .const (.int .i64 4)], none⟩,
                 ⟨some 17, .mv, [.tmp 18], none⟩])
               (.cond (.tmp 17)
                (.run [1] [⟨some 19, (.faddr 5), [.tmp 1], none⟩,
                  ⟨none, (.st 1), [.tmp 19, .const (.slice none 0 0)], none⟩])
                .skip))))))))))))
    (.seq (.run [2] [⟨some 20, (.faddr 1), [.tmp 1], none⟩,
       ⟨some 21, (.ld false 1), [.tmp 20], none⟩,
       ⟨some 22, (.eqg false 6), [.tmp 21, .const (.string ⟨#[]⟩)], none⟩,
       ⟨some 23, .mv, [.tmp 22], none⟩,
       ⟨some 24, (.faddr 2), [.tmp 1], some (23, true)⟩,
       ⟨some 25, (.ld false 1), [.tmp 24], some (23, true)⟩,
       ⟨some 26, (.eqg false 6), [.tmp 25, .const (.int .i64 0)], some (23, true)⟩,
       ⟨some 27, .pick, [.tmp 23, .tmp 26, .const (.bool false)], none⟩,
       ⟨some 28, .mv, [.tmp 27], none⟩,
       ⟨some 29, (.faddr 3), [.tmp 1], some (28, true)⟩,
       ⟨some 30, (.ld false 1), [.tmp 29], some (28, true)⟩,
       ⟨some 31, (.un .not), [.tmp 30], some (28, true)⟩,
       ⟨some 32, .pick, [.tmp 28, .tmp 31, .const (.bool false)], none⟩,
       ⟨some 33, .mv, [.tmp 32], none⟩,
       ⟨some 34, (.faddr 4), [.tmp 1], some (33, true)⟩,
       ⟨some 35, (.ld false 1), [.tmp 34], some (33, true)⟩,
       ⟨some 36, (.len 1), [.tmp 35], some (33, true)⟩,
       ⟨some 37, (.eqg false 6), [.tmp 36, .const (.int .i64 0)], some (33, true)⟩,
       ⟨some 38, .pick, [.tmp 33, .tmp 37, .const (.bool false)], none⟩,
       ⟨some 39, .mv, [.tmp 38], none⟩,
       ⟨some 40, (.faddr 5), [.tmp 1], some (39, true)⟩,
       ⟨some 41, (.ld false 1), [.tmp 40], some (39, true)⟩,
       ⟨some 42, (.len 1), [.tmp 41], some (39, true)⟩,
       ⟨some 43, (.eqg false 6), [.tmp 42, .const (.int .i64 0)], some (39, true)⟩,
       ⟨some 44, .pick, [.tmp 39, .tmp 43, .const (.bool false)], none⟩,
       ⟨some 2, .mv, [.tmp 44], none⟩])
     .ret)))⟩

theorem f33_ok : compF Go.Proofs.Try.prog 33 f33.body.hints = some f33 := by kernel_rfl


def f34 : AFun := ⟨53, 1, [.slot 2],
  (.seq (.run [1] [⟨some 1, .box, [.tmp 0], none⟩,
     ⟨some 2, .mv, [.const (.bool false)], none⟩])
   (.seq (.run [2] [⟨some 3, (.faddr 1), [.tmp 1], none⟩,
      ⟨some 4, (.ld false 1), [.tmp 3], none⟩,
      ⟨some 5, (.eqg false 6), [.tmp 4, .const (.string ⟨#[]⟩)], none⟩,
      ⟨some 6, .mv, [.tmp 5], none⟩,
      ⟨some 7, (.faddr 0), [.tmp 1], some (6, false)⟩,
      ⟨some 8, (.ld false 1), [.tmp 7], some (6, false)⟩,
      ⟨some 9, (.eqg false 6), [.tmp 8, .const (.int .i64 0)], some (6, false)⟩,
      ⟨some 10, .pick, [.tmp 6, .const (.bool true), .tmp 9], none⟩,
      ⟨some 11, .mv, [.tmp 10], none⟩,
      ⟨some 12, (.faddr 2), [.tmp 1], some (11, true)⟩,
      ⟨some 13, (.ld false 1), [.tmp 12], some (11, true)⟩,
      ⟨some 14, (.eqg false 6), [.tmp 13, .const (.int .i64 0)], some (11, true)⟩,
      ⟨some 15, .mv, [.tmp 14], some (11, true)⟩,
      ⟨some 16, (.faddr 0), [.tmp 1], some (15, false)⟩,
      ⟨some 17, (.ld false 1), [.tmp 16], some (15, false)⟩,
      ⟨some 18, (.eqg false 6), [.tmp 17, .const (.int .i64 1)], some (15, false)⟩,
      ⟨some 19, .pick, [.tmp 15, .const (.bool true), .tmp 18], some (11, true)⟩,
      ⟨some 20, .pick, [.tmp 11, .tmp 19, .const (.bool false)], none⟩,
      ⟨some 21, .mv, [.tmp 20], none⟩,
      ⟨some 22, (.faddr 3), [.tmp 1], some (21, true)⟩,
      ⟨some 23, (.ld false 1), [.tmp 22], some (21, true)⟩,
      ⟨some 24, (.un .not), [.tmp 23], some (21, true)⟩,
      ⟨some 25, .mv, [.tmp 24], some (21, true)⟩,
      ⟨some 26, (.faddr 0), [.tmp 1], some (25, false)⟩,
      ⟨some 27, (.ld false 1), [.tmp 26], some (25, false)⟩,
      ⟨some 28, (.eqg false 6), [.tmp 27, .const (.int .i64 2)], some (25, false)⟩,
      ⟨some 29, .pick, [.tmp 25, .const (.bool true), .tmp 28], some (21, true)⟩,
      ⟨some 30, .pick, [.tmp 21, .tmp 29, .const (.bool false)], none⟩,
      ⟨some 31, .mv, [.tmp 30], none⟩,
      ⟨some 32, (.faddr 4), [.tmp 1], some (31, true)⟩,
      ⟨some 33, (.ld false 1), [.tmp 32], some (31, true)⟩,
      ⟨some 34, (.len 1), [.tmp 33], some (31, true)⟩,
      ⟨some 35, (.eqg false 6), [.tmp 34, .const (.int .i64 0)], some (31, true)⟩,
      ⟨some 36, .mv, [.tmp 35], some (31, true)⟩,
      ⟨some 37, (.faddr 0), [.tmp 1], some (36, false)⟩,
      ⟨some 38, (.ld false 1), [.tmp 37], some (36, false)⟩,
      ⟨some 39, (.eqg false 6), [.tmp 38, .const (.int .i64 3)], some (36, false)⟩,
      ⟨some 40, .pick, [.tmp 36, .const (.bool true), .tmp 39], some (31, true)⟩,
      ⟨some 41, .pick, [.tmp 31, .tmp 40, .const (.bool false)], none⟩,
      ⟨some 42, .mv, [.tmp 41], none⟩,
      ⟨some 43, (.faddr 5), [.tmp 1], some (42, true)⟩,
      ⟨some 44, (.ld false 1), [.tmp 43], some (42, true)⟩,
      ⟨some 45, (.len 1), [.tmp 44], some (42, true)⟩,
      ⟨some 46, (.eqg false 6), [.tmp 45, .const (.int .i64 0)], some (42, true)⟩,
      ⟨some 47, .mv, [.tmp 46], some (42, true)⟩,
      ⟨some 48, (.faddr 0), [.tmp 1], some (47, false)⟩,
      ⟨some 49, (.ld false 1), [.tmp 48], some (47, false)⟩,
      ⟨some 50, (.eqg false 6), [.tmp 49, .const (.int .i64 4)], some (47, false)⟩,
      ⟨some 51, .pick, [.tmp 47, .const (.bool true), .tmp 50], some (42, true)⟩,
      ⟨some 52, .pick, [.tmp 42, .tmp 51, .const (.bool false)], none⟩,
      ⟨some 2, .mv, [.tmp 52], none⟩])
    .ret))⟩

theorem f34_ok : compF Go.Proofs.Try.prog 34 f34.body.hints = some f34 := by kernel_rfl

end Go.AL.Fun
