/- The functions of this seat's program, turned. Printed by a program; each is checked against the program. -/
import Derived.Test.YtijioomcpecdhaaDoorB3
import Derived.Test.YtijioomcpecdhaaDoorProg
import Derived.KernelRfl
namespace Go.AL.Fun
open Go.AL


def f15 : AFun := ⟨80, 2, [.slot 4, .slot 5],
  (.seq (.run [0, 1] [⟨some 4, .mv, [.const (.string ⟨#[]⟩)], none⟩,
     ⟨some 5, .mv, [.const (.int .i64 0)], none⟩])
   (.seq (.run [0, 1] [⟨some 7, .mv, [.tmp 0], none⟩,
      ⟨some 8, .mv, [.tmp 1], none⟩,
      ⟨some 9, (.call 39), [.tmp 7, .tmp 8], none⟩,
      ⟨some 1, .mv, [.tmp 9], none⟩])
    (.seq (.seq (.run [1, 10] [⟨some 10, .mv, [.tmp 0], none⟩])
      (.block 0 (.seq (.block 6 (.seq (.block 5 (.seq (.block 4 (.seq (.block 3 (.seq (.block 2 (.seq (.block 1 (.seq (.seq (.seq (.run [1, 10, 11] [⟨some 12, (.eqg false 6), [.tmp 10, .const (.int .i64 1)], none⟩,
                        ⟨some 11, .mv, [.tmp 12], none⟩])
                      (.cond (.tmp 11)
                       (.exit 1)
                       .skip))
                     (.seq (.seq (.run [1, 10, 13] [⟨some 14, (.eqg false 6), [.tmp 10, .const (.int .i64 0)], none⟩,
                         ⟨some 13, .mv, [.tmp 14], none⟩])
                       (.cond (.tmp 13)
                        (.exit 2)
                        .skip))
                      (.seq (.seq (.run [1, 10, 15] [⟨some 16, (.eqg false 6), [.tmp 10, .const (.int .i64 2)], none⟩,
                          ⟨some 15, .mv, [.tmp 16], none⟩])
                        (.cond (.tmp 15)
                         (.exit 3)
                         .skip))
                       (.seq (.seq (.run [1, 10, 17] [⟨some 18, (.eqg false 6), [.tmp 10, .const (.int .i64 3)], none⟩,
                           ⟨some 17, .mv, [.tmp 18], none⟩])
                         (.cond (.tmp 17)
                          (.exit 4)
                          .skip))
                        (.seq (.run [1, 19] [⟨some 20, (.eqg false 6), [.tmp 10, .const (.int .i64 4)], none⟩,
                           ⟨some 19, .mv, [.tmp 20], none⟩])
                         (.cond (.tmp 19)
                          (.exit 5)
                          .skip))))))
                    (.exit 6)))
                  (.seq (.run [1, 26] [⟨some 21, .mv, [.tmp 1], none⟩,
                     ⟨some 22, (.eqg false 6), [.tmp 21, .const (.int .i32 96)], none⟩,
                     ⟨some 23, .mv, [.tmp 22], none⟩,
                     ⟨some 24, .mv, [.tmp 1], some (23, false)⟩,
                     ⟨some 25, (.eqg false 6), [.tmp 24, .const (.int .i32 61)], some (23, false)⟩,
                     ⟨some 26, .pick, [.tmp 23, .const (.bool true), .tmp 25], none⟩])
                   (.cond (.tmp 26)
                    (.seq (.run [4, 5] [⟨some 27, .mv, [.tmp 1], none⟩,
                       ⟨some 28, (.call 40), [.tmp 27], none⟩,
                       ⟨some 4, .mv, [.tmp 28], none⟩,
                       ⟨some 5, .mv, [.const (.int .i64 0)], none⟩])
                     .ret)
                    .skip))))
                (.seq (.seq (.run [1, 34] [⟨some 29, .mv, [.tmp 1], none⟩,
                    ⟨some 30, (.eqg false 6), [.tmp 29, .const (.int .i32 38)], none⟩,
                    ⟨some 31, .mv, [.tmp 30], none⟩,
                    ⟨some 32, .mv, [.tmp 1], some (31, false)⟩,
                    ⟨some 33, (.call 41), [.const (.string ⟨#[60, 62, 34, 39]⟩), .tmp 32], some (31, false)⟩,
                    ⟨some 34, .pick, [.tmp 31, .const (.bool true), .tmp 33], none⟩])
                  (.cond (.tmp 34)
                   (.seq (.run [4, 5] [⟨some 35, .mv, [.tmp 1], none⟩,
                      ⟨some 36, (.call 40), [.tmp 35], none⟩,
                      ⟨some 4, .mv, [.tmp 36], none⟩,
                      ⟨some 5, .mv, [.const (.int .i64 0)], none⟩])
                    .ret)
                   .skip))
                 (.exit 0))))
              (.seq (.seq (.run [1, 44] [⟨some 37, .mv, [.tmp 1], none⟩,
                  ⟨some 38, (.call 42), [.tmp 37], none⟩,
                  ⟨some 39, (.un .not), [.tmp 38], none⟩,
                  ⟨some 40, .mv, [.tmp 39], none⟩,
                  ⟨some 41, .mv, [.tmp 1], some (40, true)⟩,
                  ⟨some 42, (.call 41), [.const (.string ⟨#[45, 46, 95, 126]⟩), .tmp 41], some (40, true)⟩,
                  ⟨some 43, (.un .not), [.tmp 42], some (40, true)⟩,
                  ⟨some 44, .pick, [.tmp 40, .tmp 43, .const (.bool false)], none⟩])
                (.cond (.tmp 44)
                 (.seq (.run [4, 5] [⟨some 45, .mv, [.tmp 1], none⟩,
                    ⟨some 46, (.call 43), [.tmp 45], none⟩,
                    ⟨some 4, .mv, [.tmp 46], none⟩,
                    ⟨some 5, .mv, [.const (.int .i64 0)], none⟩])
                  .ret)
                 .skip))
               (.exit 0))))
            (.seq (.seq (.run [1, 56] [⟨some 47, .mv, [.tmp 1], none⟩,
                ⟨some 48, (.call 44), [.tmp 47], none⟩,
                ⟨some 49, .mv, [.tmp 48], none⟩,
                ⟨some 50, .mv, [.tmp 1], some (49, false)⟩,
                ⟨some 51, (.call 45), [.tmp 50], some (49, false)⟩,
                ⟨some 52, .pick, [.tmp 49, .const (.bool true), .tmp 51], none⟩,
                ⟨some 53, .mv, [.tmp 52], none⟩,
                ⟨some 54, .mv, [.tmp 1], some (53, false)⟩,
                ⟨some 55, (.call 41), [.const (.string ⟨#[34, 38, 39, 47, 60, 61, 62, 92, 96]⟩), .tmp 54], some (53, false)⟩,
                ⟨some 56, .pick, [.tmp 53, .const (.bool true), .tmp 55], none⟩])
              (.cond (.tmp 56)
               (.seq (.run [6] [⟨some 57, .mv, [.tmp 1], none⟩,
                  ⟨some 58, (.cvi .i64), [.tmp 57], none⟩,
                  ⟨some 59, (.call 46), [.tmp 58, .const (.int .i64 16)], none⟩,
                  ⟨some 6, .mv, [.tmp 59], none⟩])
                (.seq (.run [4, 5] [⟨some 60, .mv, [.tmp 6], none⟩,
                   ⟨some 61, (.len 0), [.tmp 60], none⟩,
                   ⟨some 62, (.bin .sub), [.const (.int .i64 4), .tmp 61], none⟩,
                   ⟨some 63, (.call 47), [.const (.string ⟨#[48]⟩), .tmp 62], none⟩,
                   ⟨some 64, (.bin .add), [.const (.string ⟨#[92, 117]⟩), .tmp 63], none⟩,
                   ⟨some 65, .mv, [.tmp 6], none⟩,
                   ⟨some 66, (.bin .add), [.tmp 64, .tmp 65], none⟩,
                   ⟨some 4, .mv, [.tmp 66], none⟩,
                   ⟨some 5, .mv, [.const (.int .i64 0)], none⟩])
                 .ret))
               .skip))
             (.exit 0))))
          (.seq (.seq (.run [1, 72] [⟨some 67, .mv, [.tmp 1], none⟩,
              ⟨some 68, (.call 44), [.tmp 67], none⟩,
              ⟨some 69, .mv, [.tmp 68], none⟩,
              ⟨some 70, .mv, [.tmp 1], some (69, false)⟩,
              ⟨some 71, (.call 41), [.const (.string ⟨#[34, 38, 39, 40, 41, 47, 58, 59, 60, 62, 92, 123, 125]⟩), .tmp 70], some (69, false)⟩,
              ⟨some 72, .pick, [.tmp 69, .const (.bool true), .tmp 71], none⟩])
            (.cond (.tmp 72)
             (.seq (.run [4, 5] [⟨some 73, .mv, [.tmp 1], none⟩,
                ⟨some 74, (.cvi .i64), [.tmp 73], none⟩,
                ⟨some 75, (.call 46), [.tmp 74, .const (.int .i64 16)], none⟩,
                ⟨some 76, (.bin .add), [.const (.string ⟨#[92]⟩), .tmp 75], none⟩,
                ⟨some 77, (.bin .add), [.tmp 76, .const (.string ⟨#[32]⟩)], none⟩,
                ⟨some 4, .mv, [.tmp 77], none⟩,
                ⟨some 5, .mv, [.const (.int .i64 0)], none⟩])
              .ret)
             .skip))
           (.exit 0))))
        (.seq (.seq (.run [4, 5] [⟨some 4, .mv, [.const (.string ⟨#[]⟩)], none⟩,
            ⟨some 5, .mv, [.const (.int .i64 2)], none⟩])
          .ret)
         (.exit 0)))))
     (.seq (.run [4, 5] [⟨some 78, .mv, [.tmp 1], none⟩,
        ⟨some 79, .cvc, [.tmp 78], none⟩,
        ⟨some 4, .mv, [.tmp 79], none⟩,
        ⟨some 5, .mv, [.const (.int .i64 0)], none⟩])
      .ret))))⟩

theorem f15_ok : compF Go.Proofs.Tryd.prog 15 f15.body.hints = some f15 := by kernel_rfl


def f16 : AFun := ⟨114, 2, [.slot 4, .slot 5],
  (.seq (.run [0, 1] [⟨some 4, .mv, [.const (.string ⟨#[]⟩)], none⟩,
     ⟨some 5, .mv, [.const (.int .i64 0)], none⟩])
   (.seq (.seq (.run [0, 1, 13] [⟨some 8, .mv, [.tmp 0], none⟩,
       ⟨some 9, (.bin .lss), [.tmp 8, .const (.int .i64 0)], none⟩,
       ⟨some 10, .mv, [.tmp 9], none⟩,
       ⟨some 11, .mv, [.tmp 0], some (10, false)⟩,
       ⟨some 12, (.bin .gtr), [.tmp 11, .const (.int .i64 4)], some (10, false)⟩,
       ⟨some 13, .pick, [.tmp 10, .const (.bool true), .tmp 12], none⟩])
     (.cond (.tmp 13)
      (.seq (.run [4, 5] [⟨some 4, .mv, [.const (.string ⟨#[]⟩)], none⟩,
         ⟨some 5, .mv, [.const (.int .i64 2)], none⟩])
       .ret)
      .skip))
    (.seq (.seq (.run [0, 1, 43] [⟨some 14, .mv, [.tmp 1], none⟩,
        ⟨some 15, (.bin .lss), [.tmp 14, .const (.int .i32 0)], none⟩,
        ⟨some 16, .mv, [.tmp 15], none⟩,
        ⟨some 17, .mv, [.tmp 1], some (16, false)⟩,
        ⟨some 18, (.bin .gtr), [.tmp 17, .const (.int .i32 1114111)], some (16, false)⟩,
        ⟨some 19, .pick, [.tmp 16, .const (.bool true), .tmp 18], none⟩,
        ⟨some 20, .mv, [.tmp 19], none⟩,
        ⟨some 21, .mv, [.tmp 1], some (20, false)⟩,
        ⟨some 22, (.bin .geq), [.tmp 21, .const (.int .i32 55296)], some (20, false)⟩,
        ⟨some 23, .mv, [.tmp 22], some (20, false)⟩,
        ⟨some 24, .mv, [.tmp 1], some (23, true)⟩,
        ⟨some 25, (.bin .leq), [.tmp 24, .const (.int .i32 57343)], some (23, true)⟩,
        ⟨some 26, .pick, [.tmp 23, .tmp 25, .const (.bool false)], some (20, false)⟩,
        ⟨some 27, .pick, [.tmp 20, .const (.bool true), .tmp 26], none⟩,
        ⟨some 28, .mv, [.tmp 27], none⟩,
        ⟨some 29, .mv, [.tmp 1], some (28, false)⟩,
        ⟨some 30, (.eqg false 6), [.tmp 29, .const (.int .i32 0)], some (28, false)⟩,
        ⟨some 31, .mv, [.tmp 30], some (28, false)⟩,
        ⟨some 32, .mv, [.tmp 0], some (31, true)⟩,
        ⟨some 33, (.eqg false 6), [.tmp 32, .const (.int .i64 0)], some (31, true)⟩,
        ⟨some 34, .mv, [.tmp 33], some (31, true)⟩,
        ⟨some 35, .mv, [.tmp 0], some (34, false)⟩,
        ⟨some 36, (.eqg false 6), [.tmp 35, .const (.int .i64 1)], some (34, false)⟩,
        ⟨some 37, .pick, [.tmp 34, .const (.bool true), .tmp 36], some (31, true)⟩,
        ⟨some 38, .mv, [.tmp 37], some (31, true)⟩,
        ⟨some 39, .mv, [.tmp 0], some (38, false)⟩,
        ⟨some 40, (.eqg false 6), [.tmp 39, .const (.int .i64 4)], some (38, false)⟩,
        ⟨some 41, .pick, [.tmp 38, .const (.bool true), .tmp 40], some (31, true)⟩,
        ⟨some 42, .pick, [.tmp 31, .tmp 41, .const (.bool false)], some (28, false)⟩,
        ⟨some 43, .pick, [.tmp 28, .const (.bool true), .tmp 42], none⟩])
      (.cond (.tmp 43)
       (.run [0, 1] [⟨some 1, .mv, [.const (.int .i32 65533)], none⟩])
       .skip))
     (.seq (.run [0, 1, 6] [⟨some 44, .mv, [.tmp 1], none⟩,
        ⟨some 45, (.bslice 1 1 [(.int .i32 0)] [(0, 1)]), [.tmp 44], none⟩,
        ⟨some 46, (.call 48), [.tmp 45], none⟩,
        ⟨some 6, .mv, [.tmp 46], none⟩])
      (.seq (.run [0, 1, 6, 7] [⟨some 47, .mv, [.tmp 1], none⟩,
         ⟨some 48, (.bin .lss), [.tmp 47, .const (.int .i32 32)], none⟩,
         ⟨some 49, .mv, [.tmp 48], none⟩,
         ⟨some 50, .mv, [.tmp 1], some (49, false)⟩,
         ⟨some 51, (.eqg false 6), [.tmp 50, .const (.int .i32 127)], some (49, false)⟩,
         ⟨some 52, .pick, [.tmp 49, .const (.bool true), .tmp 51], none⟩,
         ⟨some 7, .mv, [.tmp 52], none⟩])
       (.seq (.seq (.run [1, 6, 7, 53] [⟨some 53, .mv, [.tmp 0], none⟩])
         (.block 0 (.seq (.run [1, 6, 7, 53, 54] [⟨some 55, (.eqg false 6), [.tmp 53, .const (.int .i64 0)], none⟩,
             ⟨some 54, .mv, [.tmp 55], none⟩])
           (.cond (.tmp 54)
            (.seq (.run [1, 6, 58] [⟨some 56, .mv, [.tmp 1], none⟩,
               ⟨some 57, (.call 49), [.tmp 56], none⟩,
               ⟨some 58, (.eqg true 6), [.tmp 57, .const (.string ⟨#[]⟩)], none⟩])
             (.cond (.tmp 58)
              (.seq (.run [4, 5] [⟨some 59, .mv, [.tmp 1], none⟩,
                 ⟨some 60, (.call 49), [.tmp 59], none⟩,
                 ⟨some 4, .mv, [.tmp 60], none⟩,
                 ⟨some 5, .mv, [.const (.int .i64 0)], none⟩])
               .ret)
              .skip))
            (.seq (.run [1, 6, 7, 53, 61] [⟨some 62, (.eqg false 6), [.tmp 53, .const (.int .i64 1)], none⟩,
               ⟨some 61, .mv, [.tmp 62], none⟩])
             (.cond (.tmp 61)
              (.seq (.seq (.run [1, 6, 65] [⟨some 63, .mv, [.tmp 1], none⟩,
                  ⟨some 64, (.call 49), [.tmp 63], none⟩,
                  ⟨some 65, (.eqg true 6), [.tmp 64, .const (.string ⟨#[]⟩)], none⟩])
                (.cond (.tmp 65)
                 (.seq (.run [4, 5] [⟨some 66, .mv, [.tmp 1], none⟩,
                    ⟨some 67, (.call 49), [.tmp 66], none⟩,
                    ⟨some 4, .mv, [.tmp 67], none⟩,
                    ⟨some 5, .mv, [.const (.int .i64 0)], none⟩])
                  .ret)
                 .skip))
               (.seq (.seq (.run [1, 6, 69] [⟨some 68, .mv, [.tmp 1], none⟩,
                   ⟨some 69, (.eqg false 6), [.tmp 68, .const (.int .i32 96)], none⟩])
                 (.cond (.tmp 69)
                  (.seq (.run [4, 5] [⟨some 4, .mv, [.const (.string ⟨#[38, 35, 57, 54, 59]⟩)], none⟩,
                     ⟨some 5, .mv, [.const (.int .i64 0)], none⟩])
                   .ret)
                  .skip))
                (.seq (.run [6, 71] [⟨some 70, .mv, [.tmp 1], none⟩,
                   ⟨some 71, (.eqg false 6), [.tmp 70, .const (.int .i32 61)], none⟩])
                 (.cond (.tmp 71)
                  (.seq (.run [4, 5] [⟨some 4, .mv, [.const (.string ⟨#[38, 35, 54, 49, 59]⟩)], none⟩,
                     ⟨some 5, .mv, [.const (.int .i64 0)], none⟩])
                   .ret)
                  .skip))))
              (.seq (.run [1, 6, 7, 53, 72] [⟨some 73, (.eqg false 6), [.tmp 53, .const (.int .i64 2)], none⟩,
                 ⟨some 72, .mv, [.tmp 73], none⟩])
               (.cond (.tmp 72)
                (.seq (.run [4, 5] [⟨some 74, .mv, [.tmp 6], none⟩,
                   ⟨some 75, (.call 50), [.tmp 74], none⟩,
                   ⟨some 4, .mv, [.tmp 75], none⟩,
                   ⟨some 5, .mv, [.const (.int .i64 0)], none⟩])
                 .ret)
                (.seq (.run [1, 6, 7, 53, 76] [⟨some 77, (.eqg false 6), [.tmp 53, .const (.int .i64 3)], none⟩,
                   ⟨some 76, .mv, [.tmp 77], none⟩])
                 (.cond (.tmp 76)
                  (.seq (.run [1, 6, 94] [⟨some 78, .mv, [.tmp 7], none⟩,
                     ⟨some 79, .mv, [.tmp 78], none⟩,
                     ⟨some 80, .mv, [.tmp 1], some (79, false)⟩,
                     ⟨some 81, (.eqg false 6), [.tmp 80, .const (.int .i32 8232)], some (79, false)⟩,
                     ⟨some 82, .pick, [.tmp 79, .const (.bool true), .tmp 81], none⟩,
                     ⟨some 83, .mv, [.tmp 82], none⟩,
                     ⟨some 84, .mv, [.tmp 1], some (83, false)⟩,
                     ⟨some 85, (.eqg false 6), [.tmp 84, .const (.int .i32 8233)], some (83, false)⟩,
                     ⟨some 86, .pick, [.tmp 83, .const (.bool true), .tmp 85], none⟩,
                     ⟨some 87, .mv, [.tmp 86], none⟩,
                     ⟨some 88, .mv, [.tmp 1], some (87, false)⟩,
                     ⟨some 89, (.bin .lss), [.tmp 88, .const (.int .i32 128)], some (87, false)⟩,
                     ⟨some 90, .mv, [.tmp 89], some (87, false)⟩,
                     ⟨some 91, .mv, [.tmp 1], some (90, true)⟩,
                     ⟨some 92, (.call 51), [.const (.string ⟨#[34, 38, 39, 47, 60, 61, 62, 92, 96]⟩), .tmp 91], some (90, true)⟩,
                     ⟨some 93, .pick, [.tmp 90, .tmp 92, .const (.bool false)], some (87, false)⟩,
                     ⟨some 94, .pick, [.tmp 87, .const (.bool true), .tmp 93], none⟩])
                   (.cond (.tmp 94)
                    (.seq (.run [4, 5] [⟨some 95, .mv, [.tmp 1], none⟩,
                       ⟨some 96, (.call 52), [.tmp 95, .const (.int .i64 4)], none⟩,
                       ⟨some 97, (.bin .add), [.const (.string ⟨#[92, 117]⟩), .tmp 96], none⟩,
                       ⟨some 4, .mv, [.tmp 97], none⟩,
                       ⟨some 5, .mv, [.const (.int .i64 0)], none⟩])
                     .ret)
                    .skip))
                  (.seq (.run [1, 6, 7, 98] [⟨some 99, (.eqg false 6), [.tmp 53, .const (.int .i64 4)], none⟩,
                     ⟨some 98, .mv, [.tmp 99], none⟩])
                   (.cond (.tmp 98)
                    (.seq (.run [1, 6, 108] [⟨some 100, .mv, [.tmp 7], none⟩,
                       ⟨some 101, .mv, [.tmp 100], none⟩,
                       ⟨some 102, .mv, [.tmp 1], some (101, false)⟩,
                       ⟨some 103, (.bin .lss), [.tmp 102, .const (.int .i32 128)], some (101, false)⟩,
                       ⟨some 104, .mv, [.tmp 103], some (101, false)⟩,
                       ⟨some 105, .mv, [.tmp 1], some (104, true)⟩,
                       ⟨some 106, (.call 51), [.const (.string ⟨#[34, 38, 39, 40, 41, 47, 58, 59, 60, 62, 92, 123, 125]⟩), .tmp 105], some (104, true)⟩,
                       ⟨some 107, .pick, [.tmp 104, .tmp 106, .const (.bool false)], some (101, false)⟩,
                       ⟨some 108, .pick, [.tmp 101, .const (.bool true), .tmp 107], none⟩])
                     (.cond (.tmp 108)
                      (.seq (.run [4, 5] [⟨some 109, .mv, [.tmp 1], none⟩,
                         ⟨some 110, (.call 52), [.tmp 109, .const (.int .i64 1)], none⟩,
                         ⟨some 111, (.bin .add), [.const (.string ⟨#[92]⟩), .tmp 110], none⟩,
                         ⟨some 112, (.bin .add), [.tmp 111, .const (.string ⟨#[32]⟩)], none⟩,
                         ⟨some 4, .mv, [.tmp 112], none⟩,
                         ⟨some 5, .mv, [.const (.int .i64 0)], none⟩])
                       .ret)
                      .skip))
                    .skip))))))))))))
        (.seq (.run [4, 5] [⟨some 113, .mv, [.tmp 6], none⟩,
           ⟨some 4, .mv, [.tmp 113], none⟩,
           ⟨some 5, .mv, [.const (.int .i64 0)], none⟩])
         .ret)))))))⟩

theorem f16_ok : compF Go.Proofs.Tryd.prog 16 f16.body.hints = some f16 := by kernel_rfl


def f17 : AFun := ⟨55, 0, [.slot 0],
  (.seq (.run [] [⟨some 0, .mv, [.const (.bool false)], none⟩])
   (.seq (.run [1, 2] [⟨some 10, (.call 18), [.const (.int .i64 0), .const (.string ⟨#[97, 60, 98]⟩)], none⟩,
      ⟨some 9, .mv, [.tmp 10], none⟩,
      ⟨some 11, (.ext 0), [.tmp 9], none⟩,
      ⟨some 12, (.ext 1), [.tmp 9], none⟩,
      ⟨some 1, .mv, [.tmp 11], none⟩,
      ⟨some 2, .mv, [.tmp 12], none⟩])
    (.seq (.run [1, 2, 3, 4] [⟨some 14, (.call 18), [.const (.int .i64 2), .const (.string ⟨#[97, 32, 98]⟩)], none⟩,
       ⟨some 13, .mv, [.tmp 14], none⟩,
       ⟨some 15, (.ext 0), [.tmp 13], none⟩,
       ⟨some 16, (.ext 1), [.tmp 13], none⟩,
       ⟨some 3, .mv, [.tmp 15], none⟩,
       ⟨some 4, .mv, [.tmp 16], none⟩])
     (.seq (.run [1, 2, 3, 4, 5, 6] [⟨some 18, (.call 18), [.const (.int .i64 3), .const (.string ⟨#[34]⟩)], none⟩,
        ⟨some 17, .mv, [.tmp 18], none⟩,
        ⟨some 19, (.ext 0), [.tmp 17], none⟩,
        ⟨some 20, (.ext 1), [.tmp 17], none⟩,
        ⟨some 5, .mv, [.tmp 19], none⟩,
        ⟨some 6, .mv, [.tmp 20], none⟩])
      (.seq (.run [1, 2, 3, 4, 5, 6, 7, 8] [⟨some 22, (.call 18), [.const (.int .i64 4), .const (.string ⟨#[34]⟩)], none⟩,
         ⟨some 21, .mv, [.tmp 22], none⟩,
         ⟨some 23, (.ext 0), [.tmp 21], none⟩,
         ⟨some 24, (.ext 1), [.tmp 21], none⟩,
         ⟨some 7, .mv, [.tmp 23], none⟩,
         ⟨some 8, .mv, [.tmp 24], none⟩])
       (.seq (.run [0] [⟨some 25, .mv, [.tmp 2], none⟩,
          ⟨some 26, (.eqg false 6), [.tmp 25, .const (.int .i64 0)], none⟩,
          ⟨some 27, .mv, [.tmp 26], none⟩,
          ⟨some 28, .mv, [.tmp 1], some (27, true)⟩,
          ⟨some 29, (.eqg false 6), [.tmp 28, .const (.string ⟨#[97, 38, 108, 116, 59, 98]⟩)], some (27, true)⟩,
          ⟨some 30, .pick, [.tmp 27, .tmp 29, .const (.bool false)], none⟩,
          ⟨some 31, .mv, [.tmp 30], none⟩,
          ⟨some 32, .mv, [.tmp 4], some (31, true)⟩,
          ⟨some 33, (.eqg false 6), [.tmp 32, .const (.int .i64 0)], some (31, true)⟩,
          ⟨some 34, .pick, [.tmp 31, .tmp 33, .const (.bool false)], none⟩,
          ⟨some 35, .mv, [.tmp 34], none⟩,
          ⟨some 36, .mv, [.tmp 3], some (35, true)⟩,
          ⟨some 37, (.eqg false 6), [.tmp 36, .const (.string ⟨#[97, 37, 50, 48, 98]⟩)], some (35, true)⟩,
          ⟨some 38, .pick, [.tmp 35, .tmp 37, .const (.bool false)], none⟩,
          ⟨some 39, .mv, [.tmp 38], none⟩,
          ⟨some 40, .mv, [.tmp 6], some (39, true)⟩,
          ⟨some 41, (.eqg false 6), [.tmp 40, .const (.int .i64 0)], some (39, true)⟩,
          ⟨some 42, .pick, [.tmp 39, .tmp 41, .const (.bool false)], none⟩,
          ⟨some 43, .mv, [.tmp 42], none⟩,
          ⟨some 44, .mv, [.tmp 5], some (43, true)⟩,
          ⟨some 45, (.eqg false 6), [.tmp 44, .const (.string ⟨#[92, 117, 48, 48, 50, 50]⟩)], some (43, true)⟩,
          ⟨some 46, .pick, [.tmp 43, .tmp 45, .const (.bool false)], none⟩,
          ⟨some 47, .mv, [.tmp 46], none⟩,
          ⟨some 48, .mv, [.tmp 8], some (47, true)⟩,
          ⟨some 49, (.eqg false 6), [.tmp 48, .const (.int .i64 0)], some (47, true)⟩,
          ⟨some 50, .pick, [.tmp 47, .tmp 49, .const (.bool false)], none⟩,
          ⟨some 51, .mv, [.tmp 50], none⟩,
          ⟨some 52, .mv, [.tmp 7], some (51, true)⟩,
          ⟨some 53, (.eqg false 6), [.tmp 52, .const (.string ⟨#[92, 50, 50, 32]⟩)], some (51, true)⟩,
          ⟨some 54, .pick, [.tmp 51, .tmp 53, .const (.bool false)], none⟩,
          ⟨some 0, .mv, [.tmp 54], none⟩])
        .ret))))))⟩

theorem f17_ok : compF Go.Proofs.Tryd.prog 17 f17.body.hints = some f17 := by kernel_rfl


def f18 : AFun := ⟨31, 2, [.slot 4, .slot 5],
  (.seq (.run [0, 1] [⟨some 4, .mv, [.const (.string ⟨#[]⟩)], none⟩,
     ⟨some 5, .mv, [.const (.int .i64 0)], none⟩])
   (.seq (.seq (.run [0, 1, 13] [⟨some 11, .mv, [.tmp 0], none⟩,
       ⟨some 12, (.call 53), [.tmp 11], none⟩,
       ⟨some 13, (.un .not), [.tmp 12], none⟩])
     (.cond (.tmp 13)
      (.seq (.run [4, 5] [⟨some 4, .mv, [.const (.string ⟨#[]⟩)], none⟩,
         ⟨some 5, .mv, [.const (.int .i64 2)], none⟩])
       .ret)
      .skip))
    (.seq (.run [0, 1, 6] [⟨some 6, (.rawal 71), [], none⟩])
     (.seq (.seq (.run [0, 6, 15] [⟨some 14, .mv, [.tmp 1], none⟩,
         ⟨some 15, .rngs, [.tmp 14], none⟩])
       (.block 0 (.loop [0, 6, 15] (.seq (.run [0, 6, 15, 16, 17] [⟨some 16, .nxts, [.tmp 15], none⟩,
            ⟨some 17, (.ext 0), [.tmp 16], none⟩])
          (.seq (.cond (.tmp 17)
            .skip
            (.exit 0))
           (.block 1 (.seq (.run [0, 6, 8, 15] [⟨some 18, (.ext 2), [.tmp 16], none⟩,
               ⟨some 8, .mv, [.tmp 18], none⟩])
             (.seq (.run [0, 6, 9, 10, 15] [⟨some 20, .mv, [.tmp 0], none⟩,
                ⟨some 21, .mv, [.tmp 8], none⟩,
                ⟨some 22, (.call 15), [.tmp 20, .tmp 21], none⟩,
                ⟨some 19, .mv, [.tmp 22], none⟩,
                ⟨some 23, (.ext 0), [.tmp 19], none⟩,
                ⟨some 24, (.ext 1), [.tmp 19], none⟩,
                ⟨some 9, .mv, [.tmp 23], none⟩,
                ⟨some 10, .mv, [.tmp 24], none⟩])
              (.seq (.seq (.run [0, 6, 9, 10, 15, 26] [⟨some 25, .mv, [.tmp 10], none⟩,
                  ⟨some 26, (.eqg true 6), [.tmp 25, .const (.int .i64 0)], none⟩])
                (.cond (.tmp 26)
                 (.seq (.run [4, 5] [⟨some 27, .mv, [.tmp 10], none⟩,
                    ⟨some 4, .mv, [.const (.string ⟨#[]⟩)], none⟩,
                    ⟨some 5, .mv, [.tmp 27], none⟩])
                  .ret)
                 .skip))
               (.run [0, 6, 15] [⟨some 28, .mv, [.tmp 9], none⟩,
                 ⟨some 29, (.call 54), [.tmp 6, .tmp 28], none⟩]))))))))))
      (.seq (.run [4, 5] [⟨some 30, (.call 55), [.tmp 6], none⟩,
         ⟨some 4, .mv, [.tmp 30], none⟩,
         ⟨some 5, .mv, [.const (.int .i64 0)], none⟩])
       .ret)))))⟩

theorem f18_ok : compF Go.Proofs.Tryd.prog 18 f18.body.hints = some f18 := by kernel_rfl


def f19 : AFun := ⟨5, 1, [.slot 2],
  (.seq (.run [0] [⟨some 2, .mv, [.const (.bool false)], none⟩])
   (.seq (.run [2] [⟨some 3, .mv, [.tmp 0], none⟩,
      ⟨some 4, (.call 56), [.tmp 3], none⟩,
      ⟨some 2, .mv, [.tmp 4], none⟩])
    .ret))⟩

theorem f19_ok : compF Go.Proofs.Tryd.prog 19 f19.body.hints = some f19 := by kernel_rfl


def f20 : AFun := ⟨38, 2, [.slot 4, .slot 5],
  (.seq (.run [0, 1] [⟨some 4, .mv, [.const (.string ⟨#[]⟩)], none⟩,
     ⟨some 5, .mv, [.const (.int .i64 0)], none⟩])
   (.seq (.seq (.run [0, 1, 16] [⟨some 11, .mv, [.tmp 0], none⟩,
       ⟨some 12, (.bin .lss), [.tmp 11, .const (.int .i64 0)], none⟩,
       ⟨some 13, .mv, [.tmp 12], none⟩,
       ⟨some 14, .mv, [.tmp 0], some (13, false)⟩,
       ⟨some 15, (.bin .gtr), [.tmp 14, .const (.int .i64 4)], some (13, false)⟩,
       ⟨some 16, .pick, [.tmp 13, .const (.bool true), .tmp 15], none⟩])
     (.cond (.tmp 16)
      (.seq (.run [4, 5] [⟨some 4, .mv, [.const (.string ⟨#[]⟩)], none⟩,
         ⟨some 5, .mv, [.const (.int .i64 2)], none⟩])
       .ret)
      .skip))
    (.seq (.run [0, 1, 6] [⟨some 6, .mv, [.const (.string ⟨#[]⟩)], none⟩])
     (.seq (.run [0, 6, 7] [⟨some 17, .mv, [.tmp 1], none⟩,
        ⟨some 18, (.call 57), [.tmp 17], none⟩,
        ⟨some 7, .mv, [.tmp 18], none⟩])
      (.seq (.seq (.run [0, 6, 7, 8] [⟨some 8, .mv, [.const (.int .i64 0)], none⟩])
        (.block 0 (.loop [0, 6, 7, 8] (.seq (.seq (.run [0, 6, 7, 8, 22] [⟨some 19, .mv, [.tmp 8], none⟩,
              ⟨some 20, .mv, [.tmp 7], none⟩,
              ⟨some 21, (.len 1), [.tmp 20], none⟩,
              ⟨some 22, (.bin .lss), [.tmp 19, .tmp 21], none⟩])
            (.cond (.tmp 22)
             .skip
             (.exit 0)))
           (.seq (.block 1 (.seq (.run [0, 6, 7, 8, 9] [⟨some 26, .mv, [.tmp 0], none⟩,
                ⟨some 27, .mv, [.tmp 7], none⟩,
                ⟨some 28, .mv, [.tmp 8], none⟩,
                ⟨some 29, (.iaddr 1), [.tmp 27, .tmp 28], none⟩,
                ⟨some 30, (.ld false 1), [.tmp 29], none⟩,
                ⟨some 31, (.call 16), [.tmp 26, .tmp 30], none⟩,
                ⟨some 25, .mv, [.tmp 31], none⟩,
                ⟨some 32, (.ext 0), [.tmp 25], none⟩,
                ⟨some 33, (.ext 1), [.tmp 25], none⟩,
                ⟨some 9, .mv, [.tmp 32], none⟩,
                ⟨some 10, .mv, [.tmp 33], none⟩])
              (.run [0, 6, 7, 8] [⟨some 34, .mv, [.tmp 6], none⟩,
                ⟨some 35, .mv, [.tmp 9], none⟩,
                ⟨some 36, (.bin .add), [.tmp 34, .tmp 35], none⟩,
                ⟨some 6, .mv, [.tmp 36], none⟩])))
            (.run [0, 6, 7, 8] [⟨some 23, .mv, [.tmp 8], none⟩,
              ⟨some 24, (.bin .add), [.tmp 23, .const (.int .i64 1)], none⟩,
              ⟨some 8, .mv, [.tmp 24], none⟩]))))))
       (.seq (.run [4, 5] [⟨some 37, .mv, [.tmp 6], none⟩,
          ⟨some 4, .mv, [.tmp 37], none⟩,
          ⟨some 5, .mv, [.const (.int .i64 0)], none⟩])
        .ret))))))⟩

theorem f20_ok : compF Go.Proofs.Tryd.prog 20 f20.body.hints = some f20 := by kernel_rfl


def f21 : AFun := ⟨17, 2, [.slot 4],
  (.seq (.run [1, 2] [⟨some 2, .box, [.tmp 0], none⟩,
     ⟨some 4, .mv, [.const (.bool false)], none⟩])
   (.seq (.seq (.run [1, 2, 12] [⟨some 5, (.ld false 1), [.tmp 2], none⟩,
       ⟨some 6, (.call 53), [.tmp 5], none⟩,
       ⟨some 7, (.un .not), [.tmp 6], none⟩,
       ⟨some 8, .mv, [.tmp 7], none⟩,
       ⟨some 9, .mv, [.tmp 1], some (8, false)⟩,
       ⟨some 10, (.call 19), [.tmp 9], some (8, false)⟩,
       ⟨some 11, (.un .not), [.tmp 10], some (8, false)⟩,
       ⟨some 12, .pick, [.tmp 8, .const (.bool true), .tmp 11], none⟩])
     (.cond (.tmp 12)
      (.seq (.run [4] [⟨some 4, .mv, [.const (.bool false)], none⟩])
       .ret)
      .skip))
    (.seq (.run [4] [⟨some 13, .mv, [.tmp 1], none⟩,
       ⟨some 14, (.mkfn (.func 59) 0), [.tmp 2], none⟩,
       ⟨some 15, (.call 58), [.tmp 13, .tmp 14], none⟩,
       ⟨some 16, (.un .not), [.tmp 15], none⟩,
       ⟨some 4, .mv, [.tmp 16], none⟩])
     .ret)))⟩

theorem f21_ok : compF Go.Proofs.Tryd.prog 21 f21.body.hints = some f21 := by kernel_rfl


def f22 : AFun := ⟨33, 2, [.slot 4],
  (.seq (.run [0, 1] [⟨some 4, .mv, [.const (.bool false)], none⟩])
   (.seq (.seq (.run [0, 1, 17] [⟨some 7, .mv, [.tmp 0], none⟩,
       ⟨some 8, (.bin .lss), [.tmp 7, .const (.int .i64 0)], none⟩,
       ⟨some 9, .mv, [.tmp 8], none⟩,
       ⟨some 10, .mv, [.tmp 0], some (9, false)⟩,
       ⟨some 11, (.bin .gtr), [.tmp 10, .const (.int .i64 4)], some (9, false)⟩,
       ⟨some 12, .pick, [.tmp 9, .const (.bool true), .tmp 11], none⟩,
       ⟨some 13, .mv, [.tmp 12], none⟩,
       ⟨some 14, .mv, [.tmp 1], some (13, false)⟩,
       ⟨some 15, (.call 61), [.tmp 14], some (13, false)⟩,
       ⟨some 16, (.un .not), [.tmp 15], some (13, false)⟩,
       ⟨some 17, .pick, [.tmp 13, .const (.bool true), .tmp 16], none⟩])
     (.cond (.tmp 17)
      (.seq (.run [4] [⟨some 4, .mv, [.const (.bool false)], none⟩])
       .ret)
      .skip))
    (.seq (.run [0, 5] [⟨some 18, .mv, [.tmp 1], none⟩,
       ⟨some 19, (.call 57), [.tmp 18], none⟩,
       ⟨some 5, .mv, [.tmp 19], none⟩])
     (.seq (.seq (.run [0, 5, 6] [⟨some 6, .mv, [.const (.int .i64 0)], none⟩])
       (.block 0 (.loop [0, 5, 6] (.seq (.seq (.run [0, 5, 6, 23] [⟨some 20, .mv, [.tmp 6], none⟩,
             ⟨some 21, .mv, [.tmp 5], none⟩,
             ⟨some 22, (.len 1), [.tmp 21], none⟩,
             ⟨some 23, (.bin .lss), [.tmp 20, .tmp 22], none⟩])
           (.cond (.tmp 23)
            .skip
            (.exit 0)))
          (.seq (.block 1 (.seq (.run [0, 5, 6, 32] [⟨some 26, .mv, [.tmp 0], none⟩,
               ⟨some 27, .mv, [.tmp 5], none⟩,
               ⟨some 28, .mv, [.tmp 6], none⟩,
               ⟨some 29, (.iaddr 1), [.tmp 27, .tmp 28], none⟩,
               ⟨some 30, (.ld false 1), [.tmp 29], none⟩,
               ⟨some 31, (.call 62), [.tmp 26, .tmp 30], none⟩,
               ⟨some 32, (.un .not), [.tmp 31], none⟩])
             (.cond (.tmp 32)
              (.seq (.run [4] [⟨some 4, .mv, [.const (.bool false)], none⟩])
               .ret)
              .skip)))
           (.run [0, 5, 6] [⟨some 24, .mv, [.tmp 6], none⟩,
             ⟨some 25, (.bin .add), [.tmp 24, .const (.int .i64 1)], none⟩,
             ⟨some 6, .mv, [.tmp 25], none⟩]))))))
      (.seq (.run [4] [⟨some 4, .mv, [.const (.bool true)], none⟩])
       .ret)))))⟩

theorem f22_ok : compF Go.Proofs.Tryd.prog 22 f22.body.hints = some f22 := by kernel_rfl


def f23 : AFun := ⟨19, 1, [.slot 2],
  (.seq (.run [0] [⟨some 2, .mv, [.const (.slice none 0 0)], none⟩])
   (.seq (.run [0, 3] [⟨some 6, .mv, [.tmp 0], none⟩,
      ⟨some 7, (.len 0), [.tmp 6], none⟩,
      ⟨some 8, (.mksl 1 4 [(.int .i32 0)]), [.const (.int .i64 0), .tmp 7], none⟩,
      ⟨some 3, .mv, [.tmp 8], none⟩])
    (.seq (.seq (.run [3, 10] [⟨some 9, .mv, [.tmp 0], none⟩,
        ⟨some 10, .rngs, [.tmp 9], none⟩])
      (.block 0 (.loop [3, 10] (.seq (.run [3, 10, 11, 12] [⟨some 11, .nxts, [.tmp 10], none⟩,
           ⟨some 12, (.ext 0), [.tmp 11], none⟩])
         (.seq (.cond (.tmp 12)
           .skip
           (.exit 0))
          (.block 1 (.seq (.run [3, 5, 10] [⟨some 13, (.ext 2), [.tmp 11], none⟩,
              ⟨some 5, .mv, [.tmp 13], none⟩])
            (.run [3, 10] [⟨some 14, .mv, [.tmp 3], none⟩,
              ⟨some 15, .mv, [.tmp 5], none⟩,
              ⟨some 16, (.bslice 1 1 [(.int .i32 0)] [(0, 1)]), [.tmp 15], none⟩,
              ⟨some 17, (.app 1 4), [.tmp 14, .tmp 16], none⟩,
              ⟨some 3, .mv, [.tmp 17], none⟩]))))))))
     (.seq (.run [2] [⟨some 18, .mv, [.tmp 3], none⟩,
        ⟨some 2, .mv, [.tmp 18], none⟩])
      .ret))))⟩

theorem f23_ok : compF Go.Proofs.Tryd.prog 23 f23.body.hints = some f23 := by kernel_rfl


def f25 : AFun := ⟨13, 1, [.slot 2, .slot 3],
  (.seq (.run [0] [⟨some 2, .mv, [.const (.pointer none)], none⟩,
     ⟨some 3, .mv, [.const (.int .i64 0)], none⟩])
   (.seq (.seq (.run [0, 9] [⟨some 4, .mv, [.tmp 0], none⟩,
       ⟨some 5, (.bin .lss), [.tmp 4, .const (.int .i64 0)], none⟩,
       ⟨some 6, .mv, [.tmp 5], none⟩,
       ⟨some 7, .mv, [.tmp 0], some (6, false)⟩,
       ⟨some 8, (.bin .geq), [.tmp 7, .const (.int .i64 5)], some (6, false)⟩,
       ⟨some 9, .pick, [.tmp 6, .const (.bool true), .tmp 8], none⟩])
     (.cond (.tmp 9)
      (.seq (.run [2, 3] [⟨some 2, .mv, [.const (.pointer none)], none⟩,
         ⟨some 3, .mv, [.const (.int .i64 2)], none⟩])
       .ret)
      .skip))
    (.seq (.run [2, 3] [⟨some 10, .mv, [.tmp 0], none⟩,
       ⟨some 11, (.build [(.sl [] .nil), (.int .i64 0), (.sl [] .nil), (.bool false)] [(1, 1)]), [.tmp 10], none⟩,
       ⟨some 12, .box, [.tmp 11], none⟩,
       ⟨some 2, .mv, [.tmp 12], none⟩,
       ⟨some 3, .mv, [.const (.int .i64 0)], none⟩])
     .ret)))⟩

theorem f25_ok : compF Go.Proofs.Tryd.prog 25 f25.body.hints = some f25 := by kernel_rfl


def f26 : AFun := ⟨39, 0, [.slot 0],
  (.seq (.run [] [⟨some 0, .mv, [.const (.bool false)], none⟩])
   (.seq (.run [1, 2] [⟨some 4, (.call 25), [.const (.int .i64 0)], none⟩,
      ⟨some 3, .mv, [.tmp 4], none⟩,
      ⟨some 5, (.ext 0), [.tmp 3], none⟩,
      ⟨some 6, (.ext 1), [.tmp 3], none⟩,
      ⟨some 1, .mv, [.tmp 5], none⟩,
      ⟨some 2, .mv, [.tmp 6], none⟩])
    (.seq (.seq (.run [1, 19] [⟨some 7, .mv, [.tmp 2], none⟩,
        ⟨some 8, (.eqg true 6), [.tmp 7, .const (.int .i64 0)], none⟩,
        ⟨some 9, .mv, [.tmp 8], none⟩,
        ⟨some 10, .mv, [.tmp 1], some (9, false)⟩,
        ⟨some 11, (.eqg false 1), [.tmp 10, .const (.pointer none)], some (9, false)⟩,
        ⟨some 12, .pick, [.tmp 9, .const (.bool true), .tmp 11], none⟩,
        ⟨some 13, .mv, [.tmp 12], none⟩,
        ⟨some 14, .mv, [.tmp 1], some (13, false)⟩,
        ⟨some 15, (.bslice 1 2 [(.int .u8 0)] [(0, 1), (1, 1)]), [.const (.int .u8 97), .const (.int .u8 60)], some (13, false)⟩,
        ⟨some 16, .cvm, [.tmp 15], some (13, false)⟩,
        ⟨some 17, (.call 29), [.tmp 14, .tmp 16], some (13, false)⟩,
        ⟨some 18, (.eqg true 6), [.tmp 17, .const (.int .i64 0)], some (13, false)⟩,
        ⟨some 19, .pick, [.tmp 13, .const (.bool true), .tmp 18], none⟩])
      (.cond (.tmp 19)
       (.seq (.run [0] [⟨some 0, .mv, [.const (.bool false)], none⟩])
        .ret)
       .skip))
     (.seq (.run [0] [⟨some 20, .mv, [.tmp 1], none⟩,
        ⟨some 21, (.call 27), [.tmp 20], none⟩,
        ⟨some 22, (.eqg false 6), [.tmp 21, .const (.int .i64 5)], none⟩,
        ⟨some 23, .mv, [.tmp 22], none⟩,
        ⟨some 24, .mv, [.tmp 1], some (23, true)⟩,
        ⟨some 25, (.call 31), [.tmp 24, .const (.int .i64 2)], some (23, true)⟩,
        ⟨some 26, .cvb, [.tmp 25], some (23, true)⟩,
        ⟨some 27, (.eqg false 6), [.tmp 26, .const (.string ⟨#[97, 38]⟩)], some (23, true)⟩,
        ⟨some 28, .pick, [.tmp 23, .tmp 27, .const (.bool false)], none⟩,
        ⟨some 29, .mv, [.tmp 28], none⟩,
        ⟨some 30, .mv, [.tmp 1], some (29, true)⟩,
        ⟨some 31, (.call 27), [.tmp 30], some (29, true)⟩,
        ⟨some 32, (.eqg false 6), [.tmp 31, .const (.int .i64 3)], some (29, true)⟩,
        ⟨some 33, .pick, [.tmp 29, .tmp 32, .const (.bool false)], none⟩,
        ⟨some 34, .mv, [.tmp 33], none⟩,
        ⟨some 35, .mv, [.tmp 1], some (34, true)⟩,
        ⟨some 36, (.call 28), [.tmp 35], some (34, true)⟩,
        ⟨some 37, (.un .not), [.tmp 36], some (34, true)⟩,
        ⟨some 38, .pick, [.tmp 34, .tmp 37, .const (.bool false)], none⟩,
        ⟨some 0, .mv, [.tmp 38], none⟩])
      .ret))))⟩

theorem f26_ok : compF Go.Proofs.Tryd.prog 26 f26.body.hints = some f26 := by kernel_rfl


def f27 : AFun := ⟨10, 1, [.slot 2],
  (.seq (.run [0] [⟨some 2, .mv, [.const (.int .i64 0)], none⟩])
   (.seq (.seq (.run [0, 4] [⟨some 3, .mv, [.tmp 0], none⟩,
       ⟨some 4, (.eqg false 1), [.tmp 3, .const (.pointer none)], none⟩])
     (.cond (.tmp 4)
      (.seq (.run [2] [⟨some 2, .mv, [.const (.int .i64 0)], none⟩])
       .ret)
      .skip))
    (.seq (.run [2] [⟨some 5, .mv, [.tmp 0], none⟩,
       ⟨some 6, .nilck, [.tmp 5], none⟩,
       ⟨some 7, (.faddr 2), [.tmp 6], none⟩,
       ⟨some 8, (.ld false 1), [.tmp 7], none⟩,
       ⟨some 9, (.len 1), [.tmp 8], none⟩,
       ⟨some 2, .mv, [.tmp 9], none⟩])
     .ret)))⟩

theorem f27_ok : compF Go.Proofs.Tryd.prog 27 f27.body.hints = some f27 := by kernel_rfl


def f28 : AFun := ⟨19, 1, [.slot 2],
  (.seq (.run [0] [⟨some 2, .mv, [.const (.bool false)], none⟩])
   (.seq (.run [2] [⟨some 3, .mv, [.tmp 0], none⟩,
      ⟨some 4, (.eqg true 1), [.tmp 3, .const (.pointer none)], none⟩,
      ⟨some 5, .mv, [.tmp 4], none⟩,
      ⟨some 6, .mv, [.tmp 0], some (5, true)⟩,
      ⟨some 7, .nilck, [.tmp 6], some (5, true)⟩,
      ⟨some 8, (.faddr 3), [.tmp 7], some (5, true)⟩,
      ⟨some 9, (.ld false 1), [.tmp 8], some (5, true)⟩,
      ⟨some 10, .pick, [.tmp 5, .tmp 9, .const (.bool false)], none⟩,
      ⟨some 11, .mv, [.tmp 10], none⟩,
      ⟨some 12, .mv, [.tmp 0], some (11, true)⟩,
      ⟨some 13, .nilck, [.tmp 12], some (11, true)⟩,
      ⟨some 14, (.faddr 2), [.tmp 13], some (11, true)⟩,
      ⟨some 15, (.ld false 1), [.tmp 14], some (11, true)⟩,
      ⟨some 16, (.len 1), [.tmp 15], some (11, true)⟩,
      ⟨some 17, (.eqg false 6), [.tmp 16, .const (.int .i64 0)], some (11, true)⟩,
      ⟨some 18, .pick, [.tmp 11, .tmp 17, .const (.bool false)], none⟩,
      ⟨some 2, .mv, [.tmp 18], none⟩])
    .ret))⟩

theorem f28_ok : compF Go.Proofs.Tryd.prog 28 f28.body.hints = some f28 := by kernel_rfl


def f29 : AFun := ⟨20, 2, [.slot 4],
  (.seq (.run [0, 1] [⟨some 4, .mv, [.const (.int .i64 0)], none⟩])
   (.seq (.block 0 (.seq (.run [0, 1, 5] [⟨some 6, .mv, [.tmp 0], none⟩,
        ⟨some 7, (.eqg false 1), [.tmp 6, .const (.pointer none)], none⟩,
        ⟨some 5, .mv, [.tmp 7], none⟩])
      (.cond (.tmp 5)
       (.seq (.run [4] [⟨some 4, .mv, [.const (.int .i64 1)], none⟩])
        .ret)
       (.seq (.run [0, 1, 8] [⟨some 9, .mv, [.tmp 0], none⟩,
          ⟨some 10, .nilck, [.tmp 9], none⟩,
          ⟨some 11, (.faddr 3), [.tmp 10], none⟩,
          ⟨some 12, (.ld false 1), [.tmp 11], none⟩,
          ⟨some 8, .mv, [.tmp 12], none⟩])
        (.cond (.tmp 8)
         (.seq (.run [4] [⟨some 4, .mv, [.const (.int .i64 4)], none⟩])
          .ret)
         .skip)))))
    (.seq (.run [4] [⟨some 13, .mv, [.tmp 0], none⟩,
       ⟨some 14, .mv, [.tmp 0], none⟩,
       ⟨some 15, .nilck, [.tmp 14], none⟩,
       ⟨some 16, (.faddr 0), [.tmp 15], none⟩,
       ⟨some 17, .mv, [.tmp 1], none⟩,
       ⟨some 18, (.call 65), [.tmp 16, .tmp 17], none⟩,
       ⟨some 19, (.call 64), [.tmp 13, .tmp 18], none⟩,
       ⟨some 4, .mv, [.tmp 19], none⟩])
     .ret)))⟩

theorem f29_ok : compF Go.Proofs.Tryd.prog 29 f29.body.hints = some f29 := by kernel_rfl


def f30 : AFun := ⟨20, 1, [.slot 2],
  (.seq (.run [0] [⟨some 2, .mv, [.const (.int .i64 0)], none⟩])
   (.seq (.block 0 (.seq (.run [0, 3] [⟨some 4, .mv, [.tmp 0], none⟩,
        ⟨some 5, (.eqg false 1), [.tmp 4, .const (.pointer none)], none⟩,
        ⟨some 3, .mv, [.tmp 5], none⟩])
      (.cond (.tmp 3)
       (.seq (.run [2] [⟨some 2, .mv, [.const (.int .i64 1)], none⟩])
        .ret)
       (.seq (.run [0, 6] [⟨some 7, .mv, [.tmp 0], none⟩,
          ⟨some 8, .nilck, [.tmp 7], none⟩,
          ⟨some 9, (.faddr 3), [.tmp 8], none⟩,
          ⟨some 10, (.ld false 1), [.tmp 9], none⟩,
          ⟨some 6, .mv, [.tmp 10], none⟩])
        (.cond (.tmp 6)
         (.seq (.run [2] [⟨some 2, .mv, [.const (.int .i64 4)], none⟩])
          .ret)
         .skip)))))
    (.seq (.run [0] [⟨some 11, .mv, [.tmp 0], none⟩,
       ⟨some 12, .nilck, [.tmp 11], none⟩,
       ⟨some 13, (.faddr 3), [.tmp 12], none⟩,
       ⟨none, (.st 1), [.tmp 13, .const (.bool true)], none⟩])
     (.seq (.run [2] [⟨some 14, .mv, [.tmp 0], none⟩,
        ⟨some 15, .mv, [.tmp 0], none⟩,
        ⟨some 16, .nilck, [.tmp 15], none⟩,
        ⟨some 17, (.faddr 0), [.tmp 16], none⟩,
        ⟨some 18, (.call 66), [.tmp 17], none⟩,
        ⟨some 19, (.call 64), [.tmp 14, .tmp 18], none⟩,
        ⟨some 2, .mv, [.tmp 19], none⟩])
      .ret))))⟩

theorem f30_ok : compF Go.Proofs.Tryd.prog 30 f30.body.hints = some f30 := by kernel_rfl


def f31 : AFun := ⟨33, 2, [.slot 4],
  (.seq (.run [0, 1] [⟨some 4, .mv, [.const (.slice none 0 0)], none⟩])
   (.seq (.seq (.run [0, 1, 7] [⟨some 6, .mv, [.tmp 0], none⟩,
       ⟨some 7, (.eqg false 1), [.tmp 6, .const (.pointer none)], none⟩])
     (.cond (.tmp 7)
      (.seq (.run [4] [⟨some 4, .mv, [.const (.slice none 0 0)], none⟩])
       .ret)
      .skip))
    (.seq (.run [0, 1] [⟨some 8, .mv, [.tmp 1], none⟩,
       ⟨some 9, .mv, [.tmp 0], none⟩,
       ⟨some 10, .nilck, [.tmp 9], none⟩,
       ⟨some 11, (.faddr 2), [.tmp 10], none⟩,
       ⟨some 12, (.ld false 1), [.tmp 11], none⟩,
       ⟨some 13, (.len 1), [.tmp 12], none⟩,
       ⟨some 14, .min, [.tmp 8, .tmp 13], none⟩,
       ⟨some 15, .max, [.const (.int .i64 0), .tmp 14], none⟩,
       ⟨some 1, .mv, [.tmp 15], none⟩])
     (.seq (.run [0, 1, 5] [⟨some 16, .mv, [.tmp 0], none⟩,
        ⟨some 17, .nilck, [.tmp 16], none⟩,
        ⟨some 18, (.faddr 2), [.tmp 17], none⟩,
        ⟨some 19, (.ld false 1), [.tmp 18], none⟩,
        ⟨some 20, .mv, [.tmp 1], none⟩,
        ⟨some 21, (.slc 1 false true), [.tmp 19, .tmp 20], none⟩,
        ⟨some 22, (.call 67), [.tmp 21], none⟩,
        ⟨some 5, .mv, [.tmp 22], none⟩])
      (.seq (.run [5] [⟨some 23, .mv, [.tmp 0], none⟩,
         ⟨some 24, .mv, [.tmp 0], none⟩,
         ⟨some 25, .nilck, [.tmp 24], none⟩,
         ⟨some 26, (.faddr 2), [.tmp 25], none⟩,
         ⟨some 27, (.ld false 1), [.tmp 26], none⟩,
         ⟨some 28, .mv, [.tmp 1], none⟩,
         ⟨some 29, (.slc 1 true false), [.tmp 27, .tmp 28], none⟩,
         ⟨some 30, .nilck, [.tmp 23], none⟩,
         ⟨some 31, (.faddr 2), [.tmp 30], none⟩,
         ⟨none, (.st 1), [.tmp 31, .tmp 29], none⟩])
       (.seq (.run [4] [⟨some 32, .mv, [.tmp 5], none⟩,
          ⟨some 4, .mv, [.tmp 32], none⟩])
        .ret))))))⟩

theorem f31_ok : compF Go.Proofs.Tryd.prog 31 f31.body.hints = some f31 := by kernel_rfl


def f33 : AFun := ⟨19, 2, [.slot 4],
  (.seq (.run [0, 1] [⟨some 4, .mv, [.const (.int .i64 0)], none⟩])
   (.seq (.seq (.run [0, 1, 8] [⟨some 5, .mv, [.tmp 0], none⟩,
       ⟨some 6, .nilck, [.tmp 5], none⟩,
       ⟨some 7, (.faddr 3), [.tmp 6], none⟩,
       ⟨some 8, (.ld false 1), [.tmp 7], none⟩])
     (.cond (.tmp 8)
      (.seq (.run [4] [⟨some 4, .mv, [.const (.int .i64 4)], none⟩])
       .ret)
      .skip))
    (.seq (.runD [] [⟨0, ⟨some 9, .mv, [.tmp 0], none⟩, []⟩,
       ⟨1, ⟨some 10, .mv, [.tmp 0], none⟩, []⟩,
       ⟨2, ⟨some 11, .nilck, [.tmp 10], none⟩, []⟩,
       ⟨3, ⟨some 12, (.faddr 1), [.tmp 11], none⟩, []⟩,
       ⟨4, ⟨some 13, (.ld false 1), [.tmp 12], none⟩, []⟩,
       ⟨5, ⟨some 14, .mv, [.tmp 1], none⟩, []⟩,
       ⟨6, ⟨some 15, .cvb, [.tmp 14], none⟩, []⟩,
       ⟨7, ⟨some 16, (.bin .add), [.tmp 13, .tmp 15], none⟩, []⟩,
       ⟨8, ⟨some 17, .nilck, [.tmp 9], none⟩, []⟩,
       ⟨9, ⟨some 18, (.faddr 1), [.tmp 17], none⟩, []⟩,
       ⟨10, ⟨none, (.st 1), [.tmp 18, .tmp 16], none⟩, []⟩])
     (.seq (.run [4] [⟨some 4, .mv, [.const (.int .i64 0)], none⟩])
      .ret))))⟩

theorem f33_ok : compF Go.Proofs.Tryd.prog 33 f33.body.hints = some f33 := by kernel_rfl


def f34 : AFun := ⟨33, 2, [.slot 4],
  (.seq (.run [0, 1] [⟨some 4, .mv, [.const (.slice none 0 0)], none⟩])
   (.seq (.seq (.run [0, 1, 7] [⟨some 6, .mv, [.tmp 1], none⟩,
       ⟨some 7, (.bin .lss), [.tmp 6, .const (.int .i64 0)], none⟩])
     (.cond (.tmp 7)
      (.run [0, 1] [⟨some 1, .mv, [.const (.int .i64 0)], none⟩])
      .skip))
    (.seq (.seq (.run [0, 1, 11] [⟨some 8, .mv, [.tmp 1], none⟩,
        ⟨some 9, .mv, [.tmp 0], none⟩,
        ⟨some 10, (.call 36), [.tmp 9], none⟩,
        ⟨some 11, (.bin .gtr), [.tmp 8, .tmp 10], none⟩])
      (.cond (.tmp 11)
       (.run [0, 1] [⟨some 12, .mv, [.tmp 0], none⟩,
         ⟨some 13, (.call 36), [.tmp 12], none⟩,
         ⟨some 1, .mv, [.tmp 13], none⟩])
       .skip))
     (.seq (.runD [0, 1, 5] [⟨0, ⟨some 14, .mv, [.tmp 0], none⟩, []⟩,
        ⟨2, ⟨some 16, .mv, [.tmp 0], none⟩, []⟩,
        ⟨3, ⟨some 17, .nilck, [.tmp 16], none⟩, []⟩,
        ⟨4, ⟨some 18, (.faddr 2), [.tmp 17], none⟩, []⟩,
        ⟨5, ⟨some 19, (.ld false 1), [.tmp 18], none⟩, []⟩,
        ⟨1, ⟨some 15, (.call 68), [.tmp 14], none⟩, [5]⟩,
        ⟨6, ⟨some 20, (.slc 0 true false), [.tmp 15, .tmp 19], none⟩, []⟩,
        ⟨7, ⟨some 5, .mv, [.tmp 20], none⟩, []⟩])
      (.seq (.run [1, 5] [⟨some 21, .mv, [.tmp 0], none⟩,
         ⟨some 22, .nilck, [.tmp 21], none⟩,
         ⟨some 23, (.faddr 2), [.tmp 22], none⟩,
         ⟨some 24, (.ld false 1), [.tmp 23], none⟩,
         ⟨some 25, .mv, [.tmp 1], none⟩,
         ⟨some 26, (.bin .add), [.tmp 24, .tmp 25], none⟩,
         ⟨some 27, .nilck, [.tmp 21], none⟩,
         ⟨some 28, (.faddr 2), [.tmp 27], none⟩,
         ⟨none, (.st 1), [.tmp 28, .tmp 26], none⟩])
       (.seq (.run [4] [⟨some 29, .mv, [.tmp 5], none⟩,
          ⟨some 30, .mv, [.tmp 1], none⟩,
          ⟨some 31, (.slc 0 false true), [.tmp 29, .tmp 30], none⟩,
          ⟨some 32, .sb, [.tmp 31], none⟩,
          ⟨some 4, .mv, [.tmp 32], none⟩])
        .ret))))))⟩

theorem f34_ok : compF Go.Proofs.Tryd.prog 34 f34.body.hints = some f34 := by kernel_rfl


def f35 : AFun := ⟨10, 1, [.slot 2],
  (.seq (.run [0] [⟨some 2, .mv, [.const (.int .i64 0)], none⟩])
   (.seq (.seq (.run [0, 6] [⟨some 3, .mv, [.tmp 0], none⟩,
       ⟨some 4, .nilck, [.tmp 3], none⟩,
       ⟨some 5, (.faddr 3), [.tmp 4], none⟩,
       ⟨some 6, (.ld false 1), [.tmp 5], none⟩])
     (.cond (.tmp 6)
      (.seq (.run [2] [⟨some 2, .mv, [.const (.int .i64 4)], none⟩])
       .ret)
      .skip))
    (.seq (.run [] [⟨some 7, .mv, [.tmp 0], none⟩,
       ⟨some 8, .nilck, [.tmp 7], none⟩,
       ⟨some 9, (.faddr 3), [.tmp 8], none⟩,
       ⟨none, (.st 1), [.tmp 9, .const (.bool true)], none⟩])
     (.seq (.run [2] [⟨some 2, .mv, [.const (.int .i64 0)], none⟩])
      .ret))))⟩

theorem f35_ok : compF Go.Proofs.Tryd.prog 35 f35.body.hints = some f35 := by kernel_rfl


def f36 : AFun := ⟨11, 1, [.slot 2],
  (.seq (.run [0] [⟨some 2, .mv, [.const (.int .i64 0)], none⟩])
   (.seq (.runD [2] [⟨0, ⟨some 3, .mv, [.tmp 0], none⟩, []⟩,
      ⟨3, ⟨some 6, .mv, [.tmp 0], none⟩, []⟩,
      ⟨4, ⟨some 7, .nilck, [.tmp 6], none⟩, []⟩,
      ⟨5, ⟨some 8, (.faddr 2), [.tmp 7], none⟩, []⟩,
      ⟨6, ⟨some 9, (.ld false 1), [.tmp 8], none⟩, []⟩,
      ⟨1, ⟨some 4, (.call 68), [.tmp 3], none⟩, [6]⟩,
      ⟨2, ⟨some 5, (.len 0), [.tmp 4], none⟩, []⟩,
      ⟨7, ⟨some 10, (.bin .sub), [.tmp 5, .tmp 9], none⟩, []⟩,
      ⟨8, ⟨some 2, .mv, [.tmp 10], none⟩, []⟩])
    .ret))⟩

theorem f36_ok : compF Go.Proofs.Tryd.prog 36 f36.body.hints = some f36 := by kernel_rfl


def f37 : AFun := ⟨12, 1, [.slot 2],
  (.seq (.run [0] [⟨some 2, .mv, [.const (.bool false)], none⟩])
   (.seq (.run [2] [⟨some 3, .mv, [.tmp 0], none⟩,
      ⟨some 4, .nilck, [.tmp 3], none⟩,
      ⟨some 5, (.faddr 3), [.tmp 4], none⟩,
      ⟨some 6, (.ld false 1), [.tmp 5], none⟩,
      ⟨some 7, .mv, [.tmp 6], none⟩,
      ⟨some 8, .mv, [.tmp 0], some (7, true)⟩,
      ⟨some 9, (.call 36), [.tmp 8], some (7, true)⟩,
      ⟨some 10, (.eqg false 6), [.tmp 9, .const (.int .i64 0)], some (7, true)⟩,
      ⟨some 11, .pick, [.tmp 7, .tmp 10, .const (.bool false)], none⟩,
      ⟨some 2, .mv, [.tmp 11], none⟩])
    .ret))⟩

theorem f37_ok : compF Go.Proofs.Tryd.prog 37 f37.body.hints = some f37 := by kernel_rfl


def f39 : AFun := ⟨21, 2, [.slot 4],
  (.seq (.run [0, 1] [⟨some 4, .mv, [.const (.int .i32 0)], none⟩])
   (.seq (.block 0 (.seq (.run [0, 1, 5] [⟨some 6, .mv, [.tmp 1], none⟩,
        ⟨some 7, (.call 73), [.tmp 6], none⟩,
        ⟨some 8, (.un .not), [.tmp 7], none⟩,
        ⟨some 5, .mv, [.tmp 8], none⟩])
      (.cond (.tmp 5)
       (.seq (.run [4] [⟨some 4, .mv, [.const (.int .i32 65533)], none⟩])
        .ret)
       (.seq (.run [1, 9] [⟨some 10, .mv, [.tmp 1], none⟩,
          ⟨some 11, (.eqg false 6), [.tmp 10, .const (.int .i32 0)], none⟩,
          ⟨some 12, .mv, [.tmp 11], none⟩,
          ⟨some 13, .mv, [.tmp 0], some (12, true)⟩,
          ⟨some 14, (.eqg true 6), [.tmp 13, .const (.int .i64 2)], some (12, true)⟩,
          ⟨some 15, .pick, [.tmp 12, .tmp 14, .const (.bool false)], none⟩,
          ⟨some 16, .mv, [.tmp 15], none⟩,
          ⟨some 17, .mv, [.tmp 0], some (16, true)⟩,
          ⟨some 18, (.eqg true 6), [.tmp 17, .const (.int .i64 3)], some (16, true)⟩,
          ⟨some 19, .pick, [.tmp 16, .tmp 18, .const (.bool false)], none⟩,
          ⟨some 9, .mv, [.tmp 19], none⟩])
        (.cond (.tmp 9)
         (.seq (.run [4] [⟨some 4, .mv, [.const (.int .i32 65533)], none⟩])
          .ret)
         .skip)))))
    (.seq (.run [4] [⟨some 20, .mv, [.tmp 1], none⟩,
       ⟨some 4, .mv, [.tmp 20], none⟩])
     .ret)))⟩

theorem f39_ok : compF Go.Proofs.Tryd.prog 39 f39.body.hints = some f39 := by kernel_rfl


def f40 : AFun := ⟨15, 1, [.slot 2],
  (.seq (.run [0] [⟨some 2, .mv, [.const (.string ⟨#[]⟩)], none⟩])
   (.seq (.seq (.run [0, 3] [⟨some 3, .mv, [.tmp 0], none⟩])
     (.block 0 (.seq (.run [0, 3, 4] [⟨some 5, (.eqg false 6), [.tmp 3, .const (.int .i32 38)], none⟩,
         ⟨some 4, .mv, [.tmp 5], none⟩])
       (.cond (.tmp 4)
        (.seq (.run [2] [⟨some 2, .mv, [.const (.string ⟨#[38, 97, 109, 112, 59]⟩)], none⟩])
         .ret)
        (.seq (.run [0, 3, 6] [⟨some 7, (.eqg false 6), [.tmp 3, .const (.int .i32 60)], none⟩,
           ⟨some 6, .mv, [.tmp 7], none⟩])
         (.cond (.tmp 6)
          (.seq (.run [2] [⟨some 2, .mv, [.const (.string ⟨#[38, 108, 116, 59]⟩)], none⟩])
           .ret)
          (.seq (.run [0, 8] [⟨some 9, (.eqg false 6), [.tmp 3, .const (.int .i32 62)], none⟩,
             ⟨some 8, .mv, [.tmp 9], none⟩])
           (.cond (.tmp 8)
            (.seq (.run [2] [⟨some 2, .mv, [.const (.string ⟨#[38, 103, 116, 59]⟩)], none⟩])
             .ret)
            .skip))))))))
    (.seq (.run [2] [⟨some 10, .mv, [.tmp 0], none⟩,
       ⟨some 11, (.cvi .i64), [.tmp 10], none⟩,
       ⟨some 12, (.call 74), [.tmp 11], none⟩,
       ⟨some 13, (.bin .add), [.const (.string ⟨#[38, 35]⟩), .tmp 12], none⟩,
       ⟨some 14, (.bin .add), [.tmp 13, .const (.string ⟨#[59]⟩)], none⟩,
       ⟨some 2, .mv, [.tmp 14], none⟩])
     .ret)))⟩

theorem f40_ok : compF Go.Proofs.Tryd.prog 40 f40.body.hints = some f40 := by kernel_rfl


def f41 : AFun := ⟨9, 2, [.slot 4],
  (.seq (.run [0, 1] [⟨some 4, .mv, [.const (.bool false)], none⟩])
   (.seq (.run [4] [⟨some 5, .mv, [.tmp 0], none⟩,
      ⟨some 6, .mv, [.tmp 1], none⟩,
      ⟨some 7, (.call 75), [.tmp 5, .tmp 6], none⟩,
      ⟨some 8, (.bin .geq), [.tmp 7, .const (.int .i64 0)], none⟩,
      ⟨some 4, .mv, [.tmp 8], none⟩])
    .ret))⟩

theorem f41_ok : compF Go.Proofs.Tryd.prog 41 f41.body.hints = some f41 := by kernel_rfl


def f42 : AFun := ⟨25, 1, [.slot 2],
  (.seq (.run [0] [⟨some 2, .mv, [.const (.bool false)], none⟩])
   (.seq (.run [2] [⟨some 3, .mv, [.tmp 0], none⟩,
      ⟨some 4, (.bin .geq), [.tmp 3, .const (.int .i32 97)], none⟩,
      ⟨some 5, .mv, [.tmp 4], none⟩,
      ⟨some 6, .mv, [.tmp 0], some (5, true)⟩,
      ⟨some 7, (.bin .leq), [.tmp 6, .const (.int .i32 122)], some (5, true)⟩,
      ⟨some 8, .pick, [.tmp 5, .tmp 7, .const (.bool false)], none⟩,
      ⟨some 9, .mv, [.tmp 8], none⟩,
      ⟨some 10, .mv, [.tmp 0], some (9, false)⟩,
      ⟨some 11, (.bin .geq), [.tmp 10, .const (.int .i32 65)], some (9, false)⟩,
      ⟨some 12, .mv, [.tmp 11], some (9, false)⟩,
      ⟨some 13, .mv, [.tmp 0], some (12, true)⟩,
      ⟨some 14, (.bin .leq), [.tmp 13, .const (.int .i32 90)], some (12, true)⟩,
      ⟨some 15, .pick, [.tmp 12, .tmp 14, .const (.bool false)], some (9, false)⟩,
      ⟨some 16, .pick, [.tmp 9, .const (.bool true), .tmp 15], none⟩,
      ⟨some 17, .mv, [.tmp 16], none⟩,
      ⟨some 18, .mv, [.tmp 0], some (17, false)⟩,
      ⟨some 19, (.bin .geq), [.tmp 18, .const (.int .i32 48)], some (17, false)⟩,
      ⟨some 20, .mv, [.tmp 19], some (17, false)⟩,
      ⟨some 21, .mv, [.tmp 0], some (20, true)⟩,
      ⟨some 22, (.bin .leq), [.tmp 21, .const (.int .i32 57)], some (20, true)⟩,
      ⟨some 23, .pick, [.tmp 20, .tmp 22, .const (.bool false)], some (17, false)⟩,
      ⟨some 24, .pick, [.tmp 17, .const (.bool true), .tmp 23], none⟩,
      ⟨some 2, .mv, [.tmp 24], none⟩])
    .ret))⟩

theorem f42_ok : compF Go.Proofs.Tryd.prog 42 f42.body.hints = some f42 := by kernel_rfl


def f43 : AFun := ⟨25, 1, [.slot 2],
  (.seq (.run [0] [⟨some 2, .mv, [.const (.string ⟨#[]⟩)], none⟩])
   (.seq (.run [0, 3] [⟨some 3, .mv, [.const (.slice none 0 0)], none⟩])
    (.seq (.seq (.run [3, 7, 8, 9] [⟨some 6, .mv, [.tmp 0], none⟩,
        ⟨some 7, (.call 76), [.const (.slice none 0 0), .tmp 6], none⟩,
        ⟨some 8, (.len 1), [.tmp 7], none⟩,
        ⟨some 9, .mv, [.const (.int .i64 0)], none⟩])
      (.block 0 (.loop [3, 7, 8, 9] (.seq (.run [3, 7, 8, 9, 10] [⟨some 10, (.bin .lss), [.tmp 9, .tmp 8], none⟩])
         (.seq (.cond (.tmp 10)
           .skip
           (.exit 0))
          (.seq (.block 1 (.seq (.run [3, 5, 7, 8, 9] [⟨some 11, (.iaddr 1), [.tmp 7, .tmp 9], none⟩,
               ⟨some 12, (.ld false 1), [.tmp 11], none⟩,
               ⟨some 5, .mv, [.tmp 12], none⟩])
             (.runD [3, 7, 8, 9] [⟨0, ⟨some 13, .mv, [.tmp 3], none⟩, []⟩,
               ⟨1, ⟨some 14, .mv, [.tmp 5], none⟩, []⟩,
               ⟨2, ⟨some 15, (.bin .shr), [.tmp 14, .const (.int .u64 4)], none⟩, []⟩,
               ⟨3, ⟨some 16, .ixs, [.const (.string ⟨#[48, 49, 50, 51, 52, 53, 54, 55, 56, 57, 65, 66, 67, 68, 69, 70]⟩), .tmp 15], none⟩, []⟩,
               ⟨4, ⟨some 17, .mv, [.tmp 5], none⟩, []⟩,
               ⟨5, ⟨some 18, (.bin .and), [.tmp 17, .const (.int .u8 15)], none⟩, []⟩,
               ⟨6, ⟨some 19, .ixs, [.const (.string ⟨#[48, 49, 50, 51, 52, 53, 54, 55, 56, 57, 65, 66, 67, 68, 69, 70]⟩), .tmp 18], none⟩, []⟩,
               ⟨7, ⟨some 20, (.bslice 1 3 [(.int .u8 0)] [(0, 1), (1, 1), (2, 1)]), [.const (.int .u8 37), .tmp 16, .tmp 19], none⟩, []⟩,
               ⟨8, ⟨some 21, (.app 1 1), [.tmp 13, .tmp 20], none⟩, []⟩,
               ⟨9, ⟨some 3, .mv, [.tmp 21], none⟩, []⟩])))
           (.run [3, 7, 8, 9] [⟨some 22, (.bin .add), [.tmp 9, .const (.int .i64 1)], none⟩,
             ⟨some 9, .mv, [.tmp 22], none⟩])))))))
     (.seq (.run [2] [⟨some 23, .mv, [.tmp 3], none⟩,
        ⟨some 24, .cvb, [.tmp 23], none⟩,
        ⟨some 2, .mv, [.tmp 24], none⟩])
      .ret))))⟩

theorem f43_ok : compF Go.Proofs.Tryd.prog 43 f43.body.hints = some f43 := by kernel_rfl


def f44 : AFun := ⟨9, 1, [.slot 2],
  (.seq (.run [0] [⟨some 2, .mv, [.const (.bool false)], none⟩])
   (.seq (.run [2] [⟨some 3, .mv, [.tmp 0], none⟩,
      ⟨some 4, (.bin .lss), [.tmp 3, .const (.int .i32 32)], none⟩,
      ⟨some 5, .mv, [.tmp 4], none⟩,
      ⟨some 6, .mv, [.tmp 0], some (5, false)⟩,
      ⟨some 7, (.eqg false 6), [.tmp 6, .const (.int .i32 127)], some (5, false)⟩,
      ⟨some 8, .pick, [.tmp 5, .const (.bool true), .tmp 7], none⟩,
      ⟨some 2, .mv, [.tmp 8], none⟩])
    .ret))⟩

theorem f44_ok : compF Go.Proofs.Tryd.prog 44 f44.body.hints = some f44 := by kernel_rfl


def f45 : AFun := ⟨9, 1, [.slot 2],
  (.seq (.run [0] [⟨some 2, .mv, [.const (.bool false)], none⟩])
   (.seq (.run [2] [⟨some 3, .mv, [.tmp 0], none⟩,
      ⟨some 4, (.eqg false 6), [.tmp 3, .const (.int .i32 8232)], none⟩,
      ⟨some 5, .mv, [.tmp 4], none⟩,
      ⟨some 6, .mv, [.tmp 0], some (5, false)⟩,
      ⟨some 7, (.eqg false 6), [.tmp 6, .const (.int .i32 8233)], some (5, false)⟩,
      ⟨some 8, .pick, [.tmp 5, .const (.bool true), .tmp 7], none⟩,
      ⟨some 2, .mv, [.tmp 8], none⟩])
    .ret))⟩

theorem f45_ok : compF Go.Proofs.Tryd.prog 45 f45.body.hints = some f45 := by kernel_rfl


def f46 : AFun := ⟨8, 2, [.slot 4],
  (.seq (.run [0, 1] [⟨some 4, .mv, [.const (.string ⟨#[]⟩)], none⟩])
   (.seq (.run [4] [⟨some 5, .mv, [.tmp 0], none⟩,
      ⟨some 6, .mv, [.tmp 1], none⟩,
      ⟨some 7, (.call 77), [.tmp 5, .tmp 6], none⟩,
      ⟨some 4, .mv, [.tmp 7], none⟩])
    .ret))⟩

theorem f46_ok : compF Go.Proofs.Tryd.prog 46 f46.body.hints = some f46 := by kernel_rfl


def f48 : AFun := ⟨19, 1, [.slot 2],
  (.seq (.run [0] [⟨some 2, .mv, [.const (.string ⟨#[]⟩)], none⟩])
   (.seq (.run [0, 3] [⟨some 3, .mv, [.const (.string ⟨#[]⟩)], none⟩])
    (.seq (.seq (.run [0, 3, 4] [⟨some 4, .mv, [.const (.int .i64 0)], none⟩])
      (.block 0 (.loop [0, 3, 4] (.seq (.seq (.run [0, 3, 4, 8] [⟨some 5, .mv, [.tmp 4], none⟩,
            ⟨some 6, .mv, [.tmp 0], none⟩,
            ⟨some 7, (.len 1), [.tmp 6], none⟩,
            ⟨some 8, (.bin .lss), [.tmp 5, .tmp 7], none⟩])
          (.cond (.tmp 8)
           .skip
           (.exit 0)))
         (.seq (.block 1 (.run [0, 3, 4] [⟨some 11, .mv, [.tmp 3], none⟩,
             ⟨some 12, .mv, [.tmp 0], none⟩,
             ⟨some 13, .mv, [.tmp 4], none⟩,
             ⟨some 14, (.iaddr 1), [.tmp 12, .tmp 13], none⟩,
             ⟨some 15, (.ld false 1), [.tmp 14], none⟩,
             ⟨some 16, (.call 81), [.tmp 15], none⟩,
             ⟨some 17, (.bin .add), [.tmp 11, .tmp 16], none⟩,
             ⟨some 3, .mv, [.tmp 17], none⟩]))
          (.run [0, 3, 4] [⟨some 9, .mv, [.tmp 4], none⟩,
            ⟨some 10, (.bin .add), [.tmp 9, .const (.int .i64 1)], none⟩,
            ⟨some 4, .mv, [.tmp 10], none⟩]))))))
     (.seq (.run [2] [⟨some 18, .mv, [.tmp 3], none⟩,
        ⟨some 2, .mv, [.tmp 18], none⟩])
      .ret))))⟩

theorem f48_ok : compF Go.Proofs.Tryd.prog 48 f48.body.hints = some f48 := by kernel_rfl


def f49 : AFun := ⟨14, 1, [.slot 2],
  (.seq (.run [0] [⟨some 2, .mv, [.const (.string ⟨#[]⟩)], none⟩])
   (.seq (.seq (.run [3] [⟨some 3, .mv, [.tmp 0], none⟩])
     (.block 0 (.seq (.run [3, 4] [⟨some 5, (.eqg false 6), [.tmp 3, .const (.int .i32 38)], none⟩,
         ⟨some 4, .mv, [.tmp 5], none⟩])
       (.cond (.tmp 4)
        (.seq (.run [2] [⟨some 2, .mv, [.const (.string ⟨#[38, 97, 109, 112, 59]⟩)], none⟩])
         .ret)
        (.seq (.run [3, 6] [⟨some 7, (.eqg false 6), [.tmp 3, .const (.int .i32 60)], none⟩,
           ⟨some 6, .mv, [.tmp 7], none⟩])
         (.cond (.tmp 6)
          (.seq (.run [2] [⟨some 2, .mv, [.const (.string ⟨#[38, 108, 116, 59]⟩)], none⟩])
           .ret)
          (.seq (.run [3, 8] [⟨some 9, (.eqg false 6), [.tmp 3, .const (.int .i32 62)], none⟩,
             ⟨some 8, .mv, [.tmp 9], none⟩])
           (.cond (.tmp 8)
            (.seq (.run [2] [⟨some 2, .mv, [.const (.string ⟨#[38, 103, 116, 59]⟩)], none⟩])
             .ret)
            (.seq (.run [3, 10] [⟨some 11, (.eqg false 6), [.tmp 3, .const (.int .i32 34)], none⟩,
               ⟨some 10, .mv, [.tmp 11], none⟩])
             (.cond (.tmp 10)
              (.seq (.run [2] [⟨some 2, .mv, [.const (.string ⟨#[38, 35, 51, 52, 59]⟩)], none⟩])
               .ret)
              (.seq (.run [12] [⟨some 13, (.eqg false 6), [.tmp 3, .const (.int .i32 39)], none⟩,
                 ⟨some 12, .mv, [.tmp 13], none⟩])
               (.cond (.tmp 12)
                (.seq (.run [2] [⟨some 2, .mv, [.const (.string ⟨#[38, 35, 51, 57, 59]⟩)], none⟩])
                 .ret)
                .skip))))))))))))
    (.seq (.run [2] [⟨some 2, .mv, [.const (.string ⟨#[]⟩)], none⟩])
     .ret)))⟩

theorem f49_ok : compF Go.Proofs.Tryd.prog 49 f49.body.hints = some f49 := by kernel_rfl


def f50 : AFun := ⟨63, 1, [.slot 2],
  (.seq (.run [0] [⟨some 2, .mv, [.const (.string ⟨#[]⟩)], none⟩])
   (.seq (.run [0, 3] [⟨some 3, .mv, [.const (.string ⟨#[]⟩)], none⟩])
    (.seq (.seq (.run [0, 3, 4] [⟨some 4, .mv, [.const (.int .i64 0)], none⟩])
      (.block 0 (.loop [0, 3, 4] (.seq (.seq (.run [0, 3, 4, 9] [⟨some 6, .mv, [.tmp 4], none⟩,
            ⟨some 7, .mv, [.tmp 0], none⟩,
            ⟨some 8, (.len 0), [.tmp 7], none⟩,
            ⟨some 9, (.bin .lss), [.tmp 6, .tmp 8], none⟩])
          (.cond (.tmp 9)
           .skip
           (.exit 0)))
         (.seq (.block 1 (.seq (.run [0, 3, 4, 5] [⟨some 12, .mv, [.tmp 0], none⟩,
              ⟨some 13, .mv, [.tmp 4], none⟩,
              ⟨some 14, .ixs, [.tmp 12, .tmp 13], none⟩,
              ⟨some 5, .mv, [.tmp 14], none⟩])
            (.seq (.run [0, 3, 4, 5, 45] [⟨some 15, .mv, [.tmp 5], none⟩,
               ⟨some 16, (.bin .geq), [.tmp 15, .const (.int .u8 65)], none⟩,
               ⟨some 17, .mv, [.tmp 16], none⟩,
               ⟨some 18, .mv, [.tmp 5], some (17, true)⟩,
               ⟨some 19, (.bin .leq), [.tmp 18, .const (.int .u8 90)], some (17, true)⟩,
               ⟨some 20, .pick, [.tmp 17, .tmp 19, .const (.bool false)], none⟩,
               ⟨some 21, .mv, [.tmp 20], none⟩,
               ⟨some 22, .mv, [.tmp 5], some (21, false)⟩,
               ⟨some 23, (.bin .geq), [.tmp 22, .const (.int .u8 97)], some (21, false)⟩,
               ⟨some 24, .mv, [.tmp 23], some (21, false)⟩,
               ⟨some 25, .mv, [.tmp 5], some (24, true)⟩,
               ⟨some 26, (.bin .leq), [.tmp 25, .const (.int .u8 122)], some (24, true)⟩,
               ⟨some 27, .pick, [.tmp 24, .tmp 26, .const (.bool false)], some (21, false)⟩,
               ⟨some 28, .pick, [.tmp 21, .const (.bool true), .tmp 27], none⟩,
               ⟨some 29, .mv, [.tmp 28], none⟩,
               ⟨some 30, .mv, [.tmp 5], some (29, false)⟩,
               ⟨some 31, (.bin .geq), [.tmp 30, .const (.int .u8 48)], some (29, false)⟩,
               ⟨some 32, .mv, [.tmp 31], some (29, false)⟩,
               ⟨some 33, .mv, [.tmp 5], some (32, true)⟩,
               ⟨some 34, (.bin .leq), [.tmp 33, .const (.int .u8 57)], some (32, true)⟩,
               ⟨some 35, .pick, [.tmp 32, .tmp 34, .const (.bool false)], some (29, false)⟩,
               ⟨some 36, .pick, [.tmp 29, .const (.bool true), .tmp 35], none⟩,
               ⟨some 37, .mv, [.tmp 36], none⟩,
               ⟨some 38, .mv, [.tmp 5], some (37, false)⟩,
               ⟨some 39, (.cvi .i32), [.tmp 38], some (37, false)⟩,
               ⟨some 40, (.call 51), [.const (.string ⟨#[45, 46, 95, 126]⟩), .tmp 39], some (37, false)⟩,
               ⟨some 41, .mv, [.tmp 40], some (37, false)⟩,
               ⟨some 42, .mv, [.tmp 5], some (41, true)⟩,
               ⟨some 43, (.bin .lss), [.tmp 42, .const (.int .u8 128)], some (41, true)⟩,
               ⟨some 44, .pick, [.tmp 41, .tmp 43, .const (.bool false)], some (37, false)⟩,
               ⟨some 45, .pick, [.tmp 37, .const (.bool true), .tmp 44], none⟩])
             (.cond (.tmp 45)
              (.run [0, 3, 4] [⟨some 46, .mv, [.tmp 3], none⟩,
                ⟨some 47, .mv, [.tmp 5], none⟩,
                ⟨some 48, (.bslice 1 1 [(.int .u8 0)] [(0, 1)]), [.tmp 47], none⟩,
                ⟨some 49, .cvb, [.tmp 48], none⟩,
                ⟨some 50, (.bin .add), [.tmp 46, .tmp 49], none⟩,
                ⟨some 3, .mv, [.tmp 50], none⟩])
              (.runD [0, 3, 4] [⟨0, ⟨some 51, .mv, [.tmp 3], none⟩, []⟩,
                ⟨1, ⟨some 52, (.bin .add), [.tmp 51, .const (.string ⟨#[37]⟩)], none⟩, []⟩,
                ⟨2, ⟨some 53, .mv, [.tmp 5], none⟩, []⟩,
                ⟨3, ⟨some 54, (.bin .quo), [.tmp 53, .const (.int .u8 16)], none⟩, []⟩,
                ⟨4, ⟨some 55, .ixs, [.const (.string ⟨#[48, 49, 50, 51, 52, 53, 54, 55, 56, 57, 65, 66, 67, 68, 69, 70]⟩), .tmp 54], none⟩, []⟩,
                ⟨5, ⟨some 56, .mv, [.tmp 5], none⟩, []⟩,
                ⟨6, ⟨some 57, (.bin .rem), [.tmp 56, .const (.int .u8 16)], none⟩, []⟩,
                ⟨7, ⟨some 58, .ixs, [.const (.string ⟨#[48, 49, 50, 51, 52, 53, 54, 55, 56, 57, 65, 66, 67, 68, 69, 70]⟩), .tmp 57], none⟩, []⟩,
                ⟨8, ⟨some 59, (.bslice 1 2 [(.int .u8 0)] [(0, 1), (1, 1)]), [.tmp 55, .tmp 58], none⟩, []⟩,
                ⟨9, ⟨some 60, .cvb, [.tmp 59], none⟩, []⟩,
                ⟨10, ⟨some 61, (.bin .add), [.tmp 52, .tmp 60], none⟩, []⟩,
                ⟨11, ⟨some 3, .mv, [.tmp 61], none⟩, []⟩])))))
          (.run [0, 3, 4] [⟨some 10, .mv, [.tmp 4], none⟩,
            ⟨some 11, (.bin .add), [.tmp 10, .const (.int .i64 1)], none⟩,
            ⟨some 4, .mv, [.tmp 11], none⟩]))))))
     (.seq (.run [2] [⟨some 62, .mv, [.tmp 3], none⟩,
        ⟨some 2, .mv, [.tmp 62], none⟩])
      .ret))))⟩

theorem f50_ok : compF Go.Proofs.Tryd.prog 50 f50.body.hints = some f50 := by kernel_rfl


def f51 : AFun := ⟨18, 2, [.slot 4],
  (.seq (.run [0, 1] [⟨some 4, .mv, [.const (.bool false)], none⟩])
   (.seq (.seq (.run [0, 1, 5] [⟨some 5, .mv, [.const (.int .i64 0)], none⟩])
     (.block 0 (.loop [0, 1, 5] (.seq (.seq (.run [0, 1, 5, 9] [⟨some 6, .mv, [.tmp 5], none⟩,
           ⟨some 7, .mv, [.tmp 0], none⟩,
           ⟨some 8, (.len 0), [.tmp 7], none⟩,
           ⟨some 9, (.bin .lss), [.tmp 6, .tmp 8], none⟩])
         (.cond (.tmp 9)
          .skip
          (.exit 0)))
        (.seq (.block 1 (.seq (.run [0, 1, 5, 17] [⟨some 12, .mv, [.tmp 0], none⟩,
             ⟨some 13, .mv, [.tmp 5], none⟩,
             ⟨some 14, .ixs, [.tmp 12, .tmp 13], none⟩,
             ⟨some 15, (.cvi .i32), [.tmp 14], none⟩,
             ⟨some 16, .mv, [.tmp 1], none⟩,
             ⟨some 17, (.eqg false 6), [.tmp 15, .tmp 16], none⟩])
           (.cond (.tmp 17)
            (.seq (.run [4] [⟨some 4, .mv, [.const (.bool true)], none⟩])
             .ret)
            .skip)))
         (.run [0, 1, 5] [⟨some 10, .mv, [.tmp 5], none⟩,
           ⟨some 11, (.bin .add), [.tmp 10, .const (.int .i64 1)], none⟩,
           ⟨some 5, .mv, [.tmp 11], none⟩]))))))
    (.seq (.run [4] [⟨some 4, .mv, [.const (.bool false)], none⟩])
     .ret)))⟩

theorem f51_ok : compF Go.Proofs.Tryd.prog 51 f51.body.hints = some f51 := by kernel_rfl


def f52 : AFun := ⟨24, 2, [.slot 4],
  (.seq (.run [0, 1] [⟨some 4, .mv, [.const (.string ⟨#[]⟩)], none⟩])
   (.seq (.run [0, 1, 5] [⟨some 5, .mv, [.const (.string ⟨#[]⟩)], none⟩])
    (.seq (.block 0 (.loop [0, 1, 5] (.seq (.seq (.run [0, 1, 5, 13] [⟨some 6, .mv, [.tmp 0], none⟩,
           ⟨some 7, (.bin .gtr), [.tmp 6, .const (.int .i32 0)], none⟩,
           ⟨some 8, .mv, [.tmp 7], none⟩,
           ⟨some 9, .mv, [.tmp 5], some (8, false)⟩,
           ⟨some 10, (.len 0), [.tmp 9], some (8, false)⟩,
           ⟨some 11, .mv, [.tmp 1], some (8, false)⟩,
           ⟨some 12, (.bin .lss), [.tmp 10, .tmp 11], some (8, false)⟩,
           ⟨some 13, .pick, [.tmp 8, .const (.bool true), .tmp 12], none⟩])
         (.cond (.tmp 13)
          .skip
          (.exit 0)))
        (.block 1 (.seq (.run [0, 1, 5] [⟨some 14, .mv, [.tmp 0], none⟩,
            ⟨some 15, (.bin .rem), [.tmp 14, .const (.int .i32 16)], none⟩,
            ⟨some 16, .ixs, [.const (.string ⟨#[48, 49, 50, 51, 52, 53, 54, 55, 56, 57, 97, 98, 99, 100, 101, 102]⟩), .tmp 15], none⟩,
            ⟨some 17, (.bslice 1 1 [(.int .u8 0)] [(0, 1)]), [.tmp 16], none⟩,
            ⟨some 18, .cvb, [.tmp 17], none⟩,
            ⟨some 19, .mv, [.tmp 5], none⟩,
            ⟨some 20, (.bin .add), [.tmp 18, .tmp 19], none⟩,
            ⟨some 5, .mv, [.tmp 20], none⟩])
          (.run [0, 1, 5] [⟨some 21, .mv, [.tmp 0], none⟩,
            ⟨some 22, (.bin .quo), [.tmp 21, .const (.int .i32 16)], none⟩,
            ⟨some 0, .mv, [.tmp 22], none⟩]))))))
     (.seq (.run [4] [⟨some 23, .mv, [.tmp 5], none⟩,
        ⟨some 4, .mv, [.tmp 23], none⟩])
      .ret))))⟩

theorem f52_ok : compF Go.Proofs.Tryd.prog 52 f52.body.hints = some f52 := by kernel_rfl


def f53 : AFun := ⟨9, 1, [.slot 2],
  (.seq (.run [0] [⟨some 2, .mv, [.const (.bool false)], none⟩])
   (.seq (.run [2] [⟨some 3, .mv, [.tmp 0], none⟩,
      ⟨some 4, (.bin .geq), [.tmp 3, .const (.int .i64 0)], none⟩,
      ⟨some 5, .mv, [.tmp 4], none⟩,
      ⟨some 6, .mv, [.tmp 0], some (5, true)⟩,
      ⟨some 7, (.bin .lss), [.tmp 6, .const (.int .i64 5)], some (5, true)⟩,
      ⟨some 8, .pick, [.tmp 5, .tmp 7, .const (.bool false)], none⟩,
      ⟨some 2, .mv, [.tmp 8], none⟩])
    .ret))⟩

theorem f53_ok : compF Go.Proofs.Tryd.prog 53 f53.body.hints = some f53 := by kernel_rfl


def f56 : AFun := ⟨169, 1, [.slot 2],
  (.seq (.run [0] [⟨some 2, .mv, [.const (.bool false)], none⟩])
   (.seq (.block 0 (.loop [0] (.seq (.seq (.run [0, 9] [⟨some 7, .mv, [.tmp 0], none⟩,
          ⟨some 8, (.len 0), [.tmp 7], none⟩,
          ⟨some 9, (.bin .gtr), [.tmp 8, .const (.int .i64 0)], none⟩])
        (.cond (.tmp 9)
         .skip
         (.exit 0)))
       (.block 1 (.seq (.run [0, 3] [⟨some 10, .mv, [.tmp 0], none⟩,
           ⟨some 11, .ixs, [.tmp 10, .const (.int .i64 0)], none⟩,
           ⟨some 3, .mv, [.tmp 11], none⟩])
         (.seq (.seq (.run [0, 3, 13] [⟨some 12, .mv, [.tmp 3], none⟩,
             ⟨some 13, (.bin .lss), [.tmp 12, .const (.int .u8 128)], none⟩])
           (.cond (.tmp 13)
            (.seq (.run [0] [⟨some 14, .mv, [.tmp 0], none⟩,
               ⟨some 15, (.slc 0 true false), [.tmp 14, .const (.int .i64 1)], none⟩,
               ⟨some 0, .mv, [.tmp 15], none⟩])
             (.seq (.seq (.run [0, 24] [⟨some 16, .mv, [.tmp 0], none⟩,
                 ⟨some 17, (.len 0), [.tmp 16], none⟩,
                 ⟨some 18, (.bin .gtr), [.tmp 17, .const (.int .i64 8)], none⟩,
                 ⟨some 19, .mv, [.tmp 18], none⟩,
                 ⟨some 20, .mv, [.tmp 0], some (19, true)⟩,
                 ⟨some 21, (.call 83), [.tmp 20], some (19, true)⟩,
                 ⟨some 22, (.bin .and), [.tmp 21, .const (.int .u64 9259542123273814144)], some (19, true)⟩,
                 ⟨some 23, (.eqg false 6), [.tmp 22, .const (.int .u64 0)], some (19, true)⟩,
                 ⟨some 24, .pick, [.tmp 19, .tmp 23, .const (.bool false)], none⟩])
               (.cond (.tmp 24)
                (.seq (.run [0] [⟨some 25, .mv, [.tmp 0], none⟩,
                   ⟨some 26, (.slc 0 true false), [.tmp 25, .const (.int .i64 8)], none⟩,
                   ⟨some 0, .mv, [.tmp 26], none⟩])
                 (.seq (.runD [0, 39] [⟨0, ⟨some 27, .mv, [.tmp 0], none⟩, []⟩,
                    ⟨1, ⟨some 28, (.len 0), [.tmp 27], none⟩, []⟩,
                    ⟨2, ⟨some 29, (.bin .gtr), [.tmp 28, .const (.int .i64 16)], none⟩, []⟩,
                    ⟨3, ⟨some 30, .mv, [.tmp 29], none⟩, []⟩,
                    ⟨4, ⟨some 31, .mv, [.tmp 0], some (30, true)⟩, []⟩,
                    ⟨6, ⟨some 33, .mv, [.tmp 0], some (30, true)⟩, []⟩,
                    ⟨7, ⟨some 34, (.slc 0 true false), [.tmp 33, .const (.int .i64 8)], some (30, true)⟩, []⟩,
                    ⟨5, ⟨some 32, (.call 83), [.tmp 31], some (30, true)⟩, []⟩,
                    ⟨8, ⟨some 35, (.call 83), [.tmp 34], some (30, true)⟩, []⟩,
                    ⟨9, ⟨some 36, (.bin .or), [.tmp 32, .tmp 35], some (30, true)⟩, []⟩,
                    ⟨10, ⟨some 37, (.bin .and), [.tmp 36, .const (.int .u64 9259542123273814144)], some (30, true)⟩, []⟩,
                    ⟨11, ⟨some 38, (.eqg false 6), [.tmp 37, .const (.int .u64 0)], some (30, true)⟩, []⟩,
                    ⟨12, ⟨some 39, .pick, [.tmp 30, .tmp 38, .const (.bool false)], none⟩, []⟩])
                  (.cond (.tmp 39)
                   (.seq (.run [0] [⟨some 40, .mv, [.tmp 0], none⟩,
                      ⟨some 41, (.slc 0 true false), [.tmp 40, .const (.int .i64 16)], none⟩,
                      ⟨some 0, .mv, [.tmp 41], none⟩])
                    (.block 2 (.loop [0] (.seq (.seq (.runD [0, 62] [⟨0, ⟨some 42, .mv, [.tmp 0], none⟩, []⟩,
                          ⟨1, ⟨some 43, (.len 0), [.tmp 42], none⟩, []⟩,
                          ⟨2, ⟨some 44, (.bin .gtr), [.tmp 43, .const (.int .i64 32)], none⟩, []⟩,
                          ⟨3, ⟨some 45, .mv, [.tmp 44], none⟩, []⟩,
                          ⟨4, ⟨some 46, .mv, [.tmp 0], some (45, true)⟩, []⟩,
                          ⟨6, ⟨some 48, .mv, [.tmp 0], some (45, true)⟩, []⟩,
                          ⟨7, ⟨some 49, (.slc 0 true false), [.tmp 48, .const (.int .i64 8)], some (45, true)⟩, []⟩,
                          ⟨10, ⟨some 52, .mv, [.tmp 0], some (45, true)⟩, []⟩,
                          ⟨11, ⟨some 53, (.slc 0 true false), [.tmp 52, .const (.int .i64 16)], some (45, true)⟩, []⟩,
                          ⟨13, ⟨some 55, .mv, [.tmp 0], some (45, true)⟩, []⟩,
                          ⟨14, ⟨some 56, (.slc 0 true false), [.tmp 55, .const (.int .i64 24)], some (45, true)⟩, []⟩,
                          ⟨5, ⟨some 47, (.call 83), [.tmp 46], some (45, true)⟩, []⟩,
                          ⟨8, ⟨some 50, (.call 83), [.tmp 49], some (45, true)⟩, []⟩,
                          ⟨9, ⟨some 51, (.bin .or), [.tmp 47, .tmp 50], some (45, true)⟩, []⟩,
                          ⟨12, ⟨some 54, (.call 83), [.tmp 53], some (45, true)⟩, []⟩,
                          ⟨15, ⟨some 57, (.call 83), [.tmp 56], some (45, true)⟩, []⟩,
                          ⟨16, ⟨some 58, (.bin .or), [.tmp 54, .tmp 57], some (45, true)⟩, []⟩,
                          ⟨17, ⟨some 59, (.bin .or), [.tmp 51, .tmp 58], some (45, true)⟩, []⟩,
                          ⟨18, ⟨some 60, (.bin .and), [.tmp 59, .const (.int .u64 9259542123273814144)], some (45, true)⟩, []⟩,
                          ⟨19, ⟨some 61, (.eqg false 6), [.tmp 60, .const (.int .u64 0)], some (45, true)⟩, []⟩,
                          ⟨20, ⟨some 62, .pick, [.tmp 45, .tmp 61, .const (.bool false)], none⟩, []⟩])
                        (.cond (.tmp 62)
                         .skip
                         (.exit 2)))
                       (.block 3 (.run [0] [⟨some 63, .mv, [.tmp 0], none⟩,
                          ⟨some 64, (.slc 0 true false), [.tmp 63, .const (.int .i64 32)], none⟩,
                          ⟨some 0, .mv, [.tmp 64], none⟩]))))))
                   .skip)))
                .skip))
              (.exit 1)))
            .skip))
          (.seq (.run [0, 4] [⟨some 65, .mv, [.tmp 3], none⟩,
             ⟨some 66, (.aaddr 1 256), [.global 0, .tmp 65], none⟩,
             ⟨some 67, (.ld false 1), [.tmp 66], none⟩,
             ⟨some 4, .mv, [.tmp 67], none⟩])
           (.seq (.run [0, 4, 5] [⟨some 68, .mv, [.tmp 4], none⟩,
              ⟨some 69, (.bin .and), [.tmp 68, .const (.int .u8 7)], none⟩,
              ⟨some 70, (.cvi .i64), [.tmp 69], none⟩,
              ⟨some 5, .mv, [.tmp 70], none⟩])
            (.seq (.run [0, 5, 6] [⟨some 71, .mv, [.tmp 4], none⟩,
               ⟨some 72, (.bin .shr), [.tmp 71, .const (.int .u64 4)], none⟩,
               ⟨some 73, (.aaddr 2 16), [.global 1, .tmp 72], none⟩,
               ⟨some 74, (.ld true 2), [.tmp 73], none⟩,
               ⟨some 6, (.alloc [(.int .u8 0), (.int .u8 0)]), [], none⟩,
               ⟨none, (.st 2), [.tmp 6, .tmp 74], none⟩])
             (.seq (.run [0, 6, 75] [⟨some 75, .mv, [.tmp 5], none⟩])
              (.block 4 (.seq (.run [0, 6, 75, 76] [⟨some 77, (.eqg false 6), [.tmp 75, .const (.int .i64 2)], none⟩,
                  ⟨some 76, .mv, [.tmp 77], none⟩])
                (.cond (.tmp 76)
                 (.seq (.seq (.runD [0, 94] [⟨0, ⟨some 78, .mv, [.tmp 0], none⟩, []⟩,
                     ⟨1, ⟨some 79, (.len 0), [.tmp 78], none⟩, []⟩,
                     ⟨2, ⟨some 80, (.bin .lss), [.tmp 79, .const (.int .i64 2)], none⟩, []⟩,
                     ⟨3, ⟨some 81, .mv, [.tmp 80], none⟩, []⟩,
                     ⟨4, ⟨some 82, .mv, [.tmp 0], some (81, false)⟩, []⟩,
                     ⟨5, ⟨some 83, .ixs, [.tmp 82, .const (.int .i64 1)], some (81, false)⟩, []⟩,
                     ⟨6, ⟨some 84, (.faddr 0), [.tmp 6], some (81, false)⟩, []⟩,
                     ⟨7, ⟨some 85, (.ld false 1), [.tmp 84], some (81, false)⟩, []⟩,
                     ⟨8, ⟨some 86, (.bin .lss), [.tmp 83, .tmp 85], some (81, false)⟩, []⟩,
                     ⟨9, ⟨some 87, .pick, [.tmp 81, .const (.bool true), .tmp 86], none⟩, []⟩,
                     ⟨10, ⟨some 88, .mv, [.tmp 87], none⟩, []⟩,
                     ⟨11, ⟨some 89, (.faddr 1), [.tmp 6], some (88, false)⟩, []⟩,
                     ⟨12, ⟨some 90, (.ld false 1), [.tmp 89], some (88, false)⟩, []⟩,
                     ⟨13, ⟨some 91, .mv, [.tmp 0], some (88, false)⟩, []⟩,
                     ⟨14, ⟨some 92, .ixs, [.tmp 91, .const (.int .i64 1)], some (88, false)⟩, []⟩,
                     ⟨15, ⟨some 93, (.bin .lss), [.tmp 90, .tmp 92], some (88, false)⟩, []⟩,
                     ⟨16, ⟨some 94, .pick, [.tmp 88, .const (.bool true), .tmp 93], none⟩, []⟩])
                   (.cond (.tmp 94)
                    (.seq (.run [2] [⟨some 2, .mv, [.const (.bool false)], none⟩])
                     .ret)
                    .skip))
                  (.run [0] [⟨some 95, .mv, [.tmp 0], none⟩,
                    ⟨some 96, (.slc 0 true false), [.tmp 95, .const (.int .i64 2)], none⟩,
                    ⟨some 0, .mv, [.tmp 96], none⟩]))
                 (.seq (.run [0, 6, 75, 97] [⟨some 98, (.eqg false 6), [.tmp 75, .const (.int .i64 3)], none⟩,
                    ⟨some 97, .mv, [.tmp 98], none⟩])
                  (.cond (.tmp 97)
                   (.seq (.seq (.runD [0, 125] [⟨0, ⟨some 99, .mv, [.tmp 0], none⟩, []⟩,
                       ⟨1, ⟨some 100, (.len 0), [.tmp 99], none⟩, []⟩,
                       ⟨2, ⟨some 101, (.bin .lss), [.tmp 100, .const (.int .i64 3)], none⟩, []⟩,
                       ⟨3, ⟨some 102, .mv, [.tmp 101], none⟩, []⟩,
                       ⟨4, ⟨some 103, .mv, [.tmp 0], some (102, false)⟩, []⟩,
                       ⟨5, ⟨some 104, .ixs, [.tmp 103, .const (.int .i64 1)], some (102, false)⟩, []⟩,
                       ⟨6, ⟨some 105, (.faddr 0), [.tmp 6], some (102, false)⟩, []⟩,
                       ⟨7, ⟨some 106, (.ld false 1), [.tmp 105], some (102, false)⟩, []⟩,
                       ⟨8, ⟨some 107, (.bin .lss), [.tmp 104, .tmp 106], some (102, false)⟩, []⟩,
                       ⟨9, ⟨some 108, .pick, [.tmp 102, .const (.bool true), .tmp 107], none⟩, []⟩,
                       ⟨10, ⟨some 109, .mv, [.tmp 108], none⟩, []⟩,
                       ⟨11, ⟨some 110, (.faddr 1), [.tmp 6], some (109, false)⟩, []⟩,
                       ⟨12, ⟨some 111, (.ld false 1), [.tmp 110], some (109, false)⟩, []⟩,
                       ⟨13, ⟨some 112, .mv, [.tmp 0], some (109, false)⟩, []⟩,
                       ⟨14, ⟨some 113, .ixs, [.tmp 112, .const (.int .i64 1)], some (109, false)⟩, []⟩,
                       ⟨15, ⟨some 114, (.bin .lss), [.tmp 111, .tmp 113], some (109, false)⟩, []⟩,
                       ⟨16, ⟨some 115, .pick, [.tmp 109, .const (.bool true), .tmp 114], none⟩, []⟩,
                       ⟨17, ⟨some 116, .mv, [.tmp 115], none⟩, []⟩,
                       ⟨18, ⟨some 117, .mv, [.tmp 0], some (116, false)⟩, []⟩,
                       ⟨19, ⟨some 118, .ixs, [.tmp 117, .const (.int .i64 2)], some (116, false)⟩, []⟩,
                       ⟨20, ⟨some 119, (.bin .lss), [.tmp 118, .const (.int .u8 128)], some (116, false)⟩, []⟩,
                       ⟨21, ⟨some 120, .pick, [.tmp 116, .const (.bool true), .tmp 119], none⟩, []⟩,
                       ⟨22, ⟨some 121, .mv, [.tmp 120], none⟩, []⟩,
                       ⟨23, ⟨some 122, .mv, [.tmp 0], some (121, false)⟩, []⟩,
                       ⟨24, ⟨some 123, .ixs, [.tmp 122, .const (.int .i64 2)], some (121, false)⟩, []⟩,
                       ⟨25, ⟨some 124, (.bin .lss), [.const (.int .u8 191), .tmp 123], some (121, false)⟩, []⟩,
                       ⟨26, ⟨some 125, .pick, [.tmp 121, .const (.bool true), .tmp 124], none⟩, []⟩])
                     (.cond (.tmp 125)
                      (.seq (.run [2] [⟨some 2, .mv, [.const (.bool false)], none⟩])
                       .ret)
                      .skip))
                    (.run [0] [⟨some 126, .mv, [.tmp 0], none⟩,
                      ⟨some 127, (.slc 0 true false), [.tmp 126, .const (.int .i64 3)], none⟩,
                      ⟨some 0, .mv, [.tmp 127], none⟩]))
                   (.seq (.run [0, 6, 128] [⟨some 129, (.eqg false 6), [.tmp 75, .const (.int .i64 4)], none⟩,
                      ⟨some 128, .mv, [.tmp 129], none⟩])
                    (.cond (.tmp 128)
                     (.seq (.seq (.runD [0, 166] [⟨0, ⟨some 130, .mv, [.tmp 0], none⟩, []⟩,
                         ⟨1, ⟨some 131, (.len 0), [.tmp 130], none⟩, []⟩,
                         ⟨2, ⟨some 132, (.bin .lss), [.tmp 131, .const (.int .i64 4)], none⟩, []⟩,
                         ⟨3, ⟨some 133, .mv, [.tmp 132], none⟩, []⟩,
                         ⟨4, ⟨some 134, .mv, [.tmp 0], some (133, false)⟩, []⟩,
                         ⟨5, ⟨some 135, .ixs, [.tmp 134, .const (.int .i64 1)], some (133, false)⟩, []⟩,
                         ⟨6, ⟨some 136, (.faddr 0), [.tmp 6], some (133, false)⟩, []⟩,
                         ⟨7, ⟨some 137, (.ld false 1), [.tmp 136], some (133, false)⟩, []⟩,
                         ⟨8, ⟨some 138, (.bin .lss), [.tmp 135, .tmp 137], some (133, false)⟩, []⟩,
                         ⟨9, ⟨some 139, .pick, [.tmp 133, .const (.bool true), .tmp 138], none⟩, []⟩,
                         ⟨10, ⟨some 140, .mv, [.tmp 139], none⟩, []⟩,
                         ⟨11, ⟨some 141, (.faddr 1), [.tmp 6], some (140, false)⟩, []⟩,
                         ⟨12, ⟨some 142, (.ld false 1), [.tmp 141], some (140, false)⟩, []⟩,
                         ⟨13, ⟨some 143, .mv, [.tmp 0], some (140, false)⟩, []⟩,
                         ⟨14, ⟨some 144, .ixs, [.tmp 143, .const (.int .i64 1)], some (140, false)⟩, []⟩,
                         ⟨15, ⟨some 145, (.bin .lss), [.tmp 142, .tmp 144], some (140, false)⟩, []⟩,
                         ⟨16, ⟨some 146, .pick, [.tmp 140, .const (.bool true), .tmp 145], none⟩, []⟩,
                         ⟨17, ⟨some 147, .mv, [.tmp 146], none⟩, []⟩,
                         ⟨18, ⟨some 148, .mv, [.tmp 0], some (147, false)⟩, []⟩,
                         ⟨19, ⟨some 149, .ixs, [.tmp 148, .const (.int .i64 2)], some (147, false)⟩, []⟩,
                         ⟨20, ⟨some 150, (.bin .lss), [.tmp 149, .const (.int .u8 128)], some (147, false)⟩, []⟩,
                         ⟨21, ⟨some 151, .pick, [.tmp 147, .const (.bool true), .tmp 150], none⟩, []⟩,
                         ⟨22, ⟨some 152, .mv, [.tmp 151], none⟩, []⟩,
                         ⟨23, ⟨some 153, .mv, [.tmp 0], some (152, false)⟩, []⟩,
                         ⟨24, ⟨some 154, .ixs, [.tmp 153, .const (.int .i64 2)], some (152, false)⟩, []⟩,
                         ⟨25, ⟨some 155, (.bin .lss), [.const (.int .u8 191), .tmp 154], some (152, false)⟩, []⟩,
                         ⟨26, ⟨some 156, .pick, [.tmp 152, .const (.bool true), .tmp 155], none⟩, []⟩,
                         ⟨27, ⟨some 157, .mv, [.tmp 156], none⟩, []⟩,
                         ⟨28, ⟨some 158, .mv, [.tmp 0], some (157, false)⟩, []⟩,
                         ⟨29, ⟨some 159, .ixs, [.tmp 158, .const (.int .i64 3)], some (157, false)⟩, []⟩,
                         ⟨30, ⟨some 160, (.bin .lss), [.tmp 159, .const (.int .u8 128)], some (157, false)⟩, []⟩,
                         ⟨31, ⟨some 161, .pick, [.tmp 157, .const (.bool true), .tmp 160], none⟩, []⟩,
                         ⟨32, ⟨some 162, .mv, [.tmp 161], none⟩, []⟩,
                         ⟨33, ⟨some 163, .mv, [.tmp 0], some (162, false)⟩, []⟩,
                         ⟨34, ⟨some 164, .ixs, [.tmp 163, .const (.int .i64 3)], some (162, false)⟩, []⟩,
                         ⟨35, ⟨some 165, (.bin .lss), [.const (.int .u8 191), .tmp 164], some (162, false)⟩, []⟩,
                         ⟨36, ⟨some 166, .pick, [.tmp 162, .const (.bool true), .tmp 165], none⟩, []⟩])
                       (.cond (.tmp 166)
                        (.seq (.run [2] [⟨some 2, .mv, [.const (.bool false)], none⟩])
                         .ret)
                        .skip))
                      (.run [0] [⟨some 167, .mv, [.tmp 0], none⟩,
                        ⟨some 168, (.slc 0 true false), [.tmp 167, .const (.int .i64 4)], none⟩,
                        ⟨some 0, .mv, [.tmp 168], none⟩]))
                     (.seq (.run [2] [⟨some 2, .mv, [.const (.bool false)], none⟩])
                      .ret))))))))))))))))))
    (.seq (.run [2] [⟨some 2, .mv, [.const (.bool true)], none⟩])
     .ret)))⟩

theorem f56_ok : compF Go.Proofs.Tryd.prog 56 f56.body.hints = some f56 := by kernel_rfl


def f57 : AFun := ⟨31, 1, [.slot 2],
  (.seq (.run [0] [⟨some 2, .mv, [.const (.slice none 0 0)], none⟩])
   (.seq (.run [0, 3] [⟨some 3, .mv, [.const (.slice none 0 0)], none⟩])
    (.seq (.block 0 (.loop [0, 3] (.seq (.seq (.run [0, 3, 7] [⟨some 6, .mv, [.tmp 0], none⟩,
           ⟨some 7, (.eqg true 6), [.tmp 6, .const (.string ⟨#[]⟩)], none⟩])
         (.cond (.tmp 7)
          .skip
          (.exit 0)))
        (.block 1 (.seq (.run [0, 3, 4] [⟨some 9, .mv, [.tmp 0], none⟩,
            ⟨some 10, (.call 84), [.tmp 9], none⟩,
            ⟨some 8, .mv, [.tmp 10], none⟩,
            ⟨some 11, (.ext 0), [.tmp 8], none⟩,
            ⟨some 12, (.ext 1), [.tmp 8], none⟩,
            ⟨some 4, .mv, [.tmp 11], none⟩,
            ⟨some 5, .mv, [.tmp 12], none⟩])
          (.seq (.seq (.run [0, 3, 4, 14] [⟨some 13, .mv, [.tmp 4], none⟩,
              ⟨some 14, (.eqg false 6), [.tmp 13, .const (.int .i64 0)], none⟩])
            (.cond (.tmp 14)
             (.seq (.run [0, 3] [⟨some 15, .mv, [.tmp 3], none⟩,
                ⟨some 16, (.bslice 1 1 [(.int .i32 0)] [(0, 1)]), [.const (.int .i32 65533)], none⟩,
                ⟨some 17, (.app 1 4), [.tmp 15, .tmp 16], none⟩,
                ⟨some 3, .mv, [.tmp 17], none⟩])
              (.seq (.run [0, 3] [⟨some 18, .mv, [.tmp 0], none⟩,
                 ⟨some 19, (.slc 0 true false), [.tmp 18, .const (.int .i64 1)], none⟩,
                 ⟨some 0, .mv, [.tmp 19], none⟩])
               (.exit 1)))
             .skip))
           (.seq (.run [0, 3, 4] [⟨some 20, .mv, [.tmp 3], none⟩,
              ⟨some 21, .mv, [.tmp 0], none⟩,
              ⟨some 22, .mv, [.tmp 4], none⟩,
              ⟨some 23, (.slc 0 false true), [.tmp 21, .tmp 22], none⟩,
              ⟨some 24, (.call 85), [.tmp 23], none⟩,
              ⟨some 25, (.bslice 1 1 [(.int .i32 0)] [(0, 1)]), [.tmp 24], none⟩,
              ⟨some 26, (.app 1 4), [.tmp 20, .tmp 25], none⟩,
              ⟨some 3, .mv, [.tmp 26], none⟩])
            (.run [0, 3] [⟨some 27, .mv, [.tmp 0], none⟩,
              ⟨some 28, .mv, [.tmp 4], none⟩,
              ⟨some 29, (.slc 0 true false), [.tmp 27, .tmp 28], none⟩,
              ⟨some 0, .mv, [.tmp 29], none⟩]))))))))
     (.seq (.run [2] [⟨some 30, .mv, [.tmp 3], none⟩,
        ⟨some 2, .mv, [.tmp 30], none⟩])
      .ret))))⟩

theorem f57_ok : compF Go.Proofs.Tryd.prog 57 f57.body.hints = some f57 := by kernel_rfl


def f59 : AFun := ⟨7, 2, [.slot 3],
  (.seq (.run [0, 1] [⟨some 3, .mv, [.const (.bool false)], none⟩])
   (.seq (.run [3] [⟨some 4, (.ld false 1), [.tmp 1], none⟩,
      ⟨some 5, .mv, [.tmp 0], none⟩,
      ⟨some 6, (.call 60), [.tmp 4, .tmp 5], none⟩,
      ⟨some 3, .mv, [.tmp 6], none⟩])
    .ret))⟩

theorem f59_ok : compF Go.Proofs.Tryd.prog 59 f59.body.hints = some f59 := by kernel_rfl


def f60 : AFun := ⟨62, 2, [.slot 4],
  (.seq (.run [0, 1] [⟨some 4, .mv, [.const (.bool false)], none⟩])
   (.seq (.seq (.run [1, 5] [⟨some 5, .mv, [.tmp 0], none⟩])
     (.block 0 (.seq (.run [1, 5, 6] [⟨some 7, (.eqg false 6), [.tmp 5, .const (.int .i64 0)], none⟩,
         ⟨some 6, .mv, [.tmp 7], none⟩])
       (.cond (.tmp 6)
        (.seq (.run [4] [⟨some 8, .mv, [.tmp 1], none⟩,
           ⟨some 9, (.eqg false 6), [.tmp 8, .const (.int .i32 0)], none⟩,
           ⟨some 10, .mv, [.tmp 9], none⟩,
           ⟨some 11, .mv, [.tmp 1], some (10, false)⟩,
           ⟨some 12, (.call 41), [.const (.string ⟨#[60, 62, 34, 39]⟩), .tmp 11], some (10, false)⟩,
           ⟨some 13, .pick, [.tmp 10, .const (.bool true), .tmp 12], none⟩,
           ⟨some 4, .mv, [.tmp 13], none⟩])
         .ret)
        (.seq (.run [1, 5, 14] [⟨some 15, (.eqg false 6), [.tmp 5, .const (.int .i64 1)], none⟩,
           ⟨some 14, .mv, [.tmp 15], none⟩])
         (.cond (.tmp 14)
          (.seq (.run [4] [⟨some 16, .mv, [.tmp 1], none⟩,
             ⟨some 17, (.eqg false 6), [.tmp 16, .const (.int .i32 0)], none⟩,
             ⟨some 18, .mv, [.tmp 17], none⟩,
             ⟨some 19, .mv, [.tmp 1], some (18, false)⟩,
             ⟨some 20, (.call 41), [.const (.string ⟨#[60, 62, 34, 39, 96, 61]⟩), .tmp 19], some (18, false)⟩,
             ⟨some 21, .pick, [.tmp 18, .const (.bool true), .tmp 20], none⟩,
             ⟨some 4, .mv, [.tmp 21], none⟩])
           .ret)
          (.seq (.run [1, 5, 22] [⟨some 23, (.eqg false 6), [.tmp 5, .const (.int .i64 2)], none⟩,
             ⟨some 22, .mv, [.tmp 23], none⟩])
           (.cond (.tmp 22)
            (.seq (.run [4] [⟨some 24, .mv, [.tmp 1], none⟩,
               ⟨some 25, (.call 42), [.tmp 24], none⟩,
               ⟨some 26, (.un .not), [.tmp 25], none⟩,
               ⟨some 27, .mv, [.tmp 26], none⟩,
               ⟨some 28, .mv, [.tmp 1], some (27, true)⟩,
               ⟨some 29, (.eqg true 6), [.tmp 28, .const (.int .i32 37)], some (27, true)⟩,
               ⟨some 30, .pick, [.tmp 27, .tmp 29, .const (.bool false)], none⟩,
               ⟨some 31, .mv, [.tmp 30], none⟩,
               ⟨some 32, .mv, [.tmp 1], some (31, true)⟩,
               ⟨some 33, (.call 41), [.const (.string ⟨#[45, 46, 95, 126]⟩), .tmp 32], some (31, true)⟩,
               ⟨some 34, (.un .not), [.tmp 33], some (31, true)⟩,
               ⟨some 35, .pick, [.tmp 31, .tmp 34, .const (.bool false)], none⟩,
               ⟨some 4, .mv, [.tmp 35], none⟩])
             .ret)
            (.seq (.run [1, 36] [⟨some 37, (.eqg false 6), [.tmp 5, .const (.int .i64 3)], none⟩,
               ⟨some 36, .mv, [.tmp 37], none⟩])
             (.cond (.tmp 36)
              (.seq (.run [4] [⟨some 38, .mv, [.tmp 1], none⟩,
                 ⟨some 39, (.call 44), [.tmp 38], none⟩,
                 ⟨some 40, .mv, [.tmp 39], none⟩,
                 ⟨some 41, .mv, [.tmp 1], some (40, false)⟩,
                 ⟨some 42, (.call 45), [.tmp 41], some (40, false)⟩,
                 ⟨some 43, .pick, [.tmp 40, .const (.bool true), .tmp 42], none⟩,
                 ⟨some 44, .mv, [.tmp 43], none⟩,
                 ⟨some 45, .mv, [.tmp 1], some (44, false)⟩,
                 ⟨some 46, (.eqg true 6), [.tmp 45, .const (.int .i32 92)], some (44, false)⟩,
                 ⟨some 47, .mv, [.tmp 46], some (44, false)⟩,
                 ⟨some 48, .mv, [.tmp 1], some (47, true)⟩,
                 ⟨some 49, (.call 41), [.const (.string ⟨#[34, 38, 39, 47, 60, 61, 62, 92, 96]⟩), .tmp 48], some (47, true)⟩,
                 ⟨some 50, .pick, [.tmp 47, .tmp 49, .const (.bool false)], some (44, false)⟩,
                 ⟨some 51, .pick, [.tmp 44, .const (.bool true), .tmp 50], none⟩,
                 ⟨some 4, .mv, [.tmp 51], none⟩])
               .ret)
              .skip))))))))))
    (.seq (.run [4] [⟨some 52, .mv, [.tmp 1], none⟩,
       ⟨some 53, (.call 44), [.tmp 52], none⟩,
       ⟨some 54, .mv, [.tmp 53], none⟩,
       ⟨some 55, .mv, [.tmp 1], some (54, false)⟩,
       ⟨some 56, (.eqg true 6), [.tmp 55, .const (.int .i32 92)], some (54, false)⟩,
       ⟨some 57, .mv, [.tmp 56], some (54, false)⟩,
       ⟨some 58, .mv, [.tmp 1], some (57, true)⟩,
       ⟨some 59, (.call 41), [.const (.string ⟨#[34, 38, 39, 40, 41, 47, 58, 59, 60, 62, 92, 123, 125]⟩), .tmp 58], some (57, true)⟩,
       ⟨some 60, .pick, [.tmp 57, .tmp 59, .const (.bool false)], some (54, false)⟩,
       ⟨some 61, .pick, [.tmp 54, .const (.bool true), .tmp 60], none⟩,
       ⟨some 4, .mv, [.tmp 61], none⟩])
     .ret)))⟩

theorem f60_ok : compF Go.Proofs.Tryd.prog 60 f60.body.hints = some f60 := by kernel_rfl


def f61 : AFun := ⟨17, 1, [.slot 2],
  (.seq (.run [0] [⟨some 2, .mv, [.const (.bool false)], none⟩])
   (.seq (.block 0 (.loop [0] (.seq (.seq (.run [0, 6] [⟨some 5, .mv, [.tmp 0], none⟩,
          ⟨some 6, (.eqg true 6), [.tmp 5, .const (.string ⟨#[]⟩)], none⟩])
        (.cond (.tmp 6)
         .skip
         (.exit 0)))
       (.block 1 (.seq (.run [0, 3] [⟨some 8, .mv, [.tmp 0], none⟩,
           ⟨some 9, (.call 84), [.tmp 8], none⟩,
           ⟨some 7, .mv, [.tmp 9], none⟩,
           ⟨some 10, (.ext 0), [.tmp 7], none⟩,
           ⟨some 11, (.ext 1), [.tmp 7], none⟩,
           ⟨some 3, .mv, [.tmp 10], none⟩,
           ⟨some 4, .mv, [.tmp 11], none⟩])
         (.seq (.seq (.run [0, 3, 13] [⟨some 12, .mv, [.tmp 3], none⟩,
             ⟨some 13, (.eqg false 6), [.tmp 12, .const (.int .i64 0)], none⟩])
           (.cond (.tmp 13)
            (.seq (.run [2] [⟨some 2, .mv, [.const (.bool false)], none⟩])
             .ret)
            .skip))
          (.run [0] [⟨some 14, .mv, [.tmp 0], none⟩,
            ⟨some 15, .mv, [.tmp 3], none⟩,
            ⟨some 16, (.slc 0 true false), [.tmp 14, .tmp 15], none⟩,
            ⟨some 0, .mv, [.tmp 16], none⟩])))))))
    (.seq (.run [2] [⟨some 2, .mv, [.const (.bool true)], none⟩])
     .ret)))⟩

theorem f61_ok : compF Go.Proofs.Tryd.prog 61 f61.body.hints = some f61 := by kernel_rfl


def f62 : AFun := ⟨115, 2, [.slot 4],
  (.seq (.run [0, 1] [⟨some 4, .mv, [.const (.bool false)], none⟩])
   (.seq (.run [0, 1, 5] [⟨some 6, .mv, [.tmp 1], none⟩,
      ⟨some 7, (.bin .lss), [.tmp 6, .const (.int .i32 32)], none⟩,
      ⟨some 8, .mv, [.tmp 7], none⟩,
      ⟨some 9, .mv, [.tmp 1], some (8, false)⟩,
      ⟨some 10, (.eqg false 6), [.tmp 9, .const (.int .i32 127)], some (8, false)⟩,
      ⟨some 11, .pick, [.tmp 8, .const (.bool true), .tmp 10], none⟩,
      ⟨some 5, .mv, [.tmp 11], none⟩])
    (.seq (.seq (.run [1, 5, 12] [⟨some 12, .mv, [.tmp 0], none⟩])
      (.block 0 (.seq (.run [1, 5, 12, 13] [⟨some 14, (.eqg false 6), [.tmp 12, .const (.int .i64 0)], none⟩,
          ⟨some 13, .mv, [.tmp 14], none⟩])
        (.cond (.tmp 13)
         (.seq (.run [4] [⟨some 15, .mv, [.tmp 1], none⟩,
            ⟨some 16, (.eqg true 6), [.tmp 15, .const (.int .i32 0)], none⟩,
            ⟨some 17, .mv, [.tmp 16], none⟩,
            ⟨some 18, .mv, [.tmp 1], some (17, true)⟩,
            ⟨some 19, (.bin .lss), [.tmp 18, .const (.int .i32 128)], some (17, true)⟩,
            ⟨some 20, .mv, [.tmp 19], some (17, true)⟩,
            ⟨some 21, .mv, [.tmp 1], some (20, true)⟩,
            ⟨some 22, (.call 51), [.const (.string ⟨#[60, 62, 34, 39]⟩), .tmp 21], some (20, true)⟩,
            ⟨some 23, .pick, [.tmp 20, .tmp 22, .const (.bool false)], some (17, true)⟩,
            ⟨some 24, (.un .not), [.tmp 23], some (17, true)⟩,
            ⟨some 25, .pick, [.tmp 17, .tmp 24, .const (.bool false)], none⟩,
            ⟨some 4, .mv, [.tmp 25], none⟩])
          .ret)
         (.seq (.run [1, 5, 12, 26] [⟨some 27, (.eqg false 6), [.tmp 12, .const (.int .i64 1)], none⟩,
            ⟨some 26, .mv, [.tmp 27], none⟩])
          (.cond (.tmp 26)
           (.seq (.run [4] [⟨some 28, .mv, [.tmp 1], none⟩,
              ⟨some 29, (.eqg true 6), [.tmp 28, .const (.int .i32 0)], none⟩,
              ⟨some 30, .mv, [.tmp 29], none⟩,
              ⟨some 31, .mv, [.tmp 1], some (30, true)⟩,
              ⟨some 32, (.bin .lss), [.tmp 31, .const (.int .i32 128)], some (30, true)⟩,
              ⟨some 33, .mv, [.tmp 32], some (30, true)⟩,
              ⟨some 34, .mv, [.tmp 1], some (33, true)⟩,
              ⟨some 35, (.call 51), [.const (.string ⟨#[60, 62, 34, 39, 96, 61]⟩), .tmp 34], some (33, true)⟩,
              ⟨some 36, .pick, [.tmp 33, .tmp 35, .const (.bool false)], some (30, true)⟩,
              ⟨some 37, (.un .not), [.tmp 36], some (30, true)⟩,
              ⟨some 38, .pick, [.tmp 30, .tmp 37, .const (.bool false)], none⟩,
              ⟨some 4, .mv, [.tmp 38], none⟩])
            .ret)
           (.seq (.run [1, 5, 12, 39] [⟨some 40, (.eqg false 6), [.tmp 12, .const (.int .i64 2)], none⟩,
              ⟨some 39, .mv, [.tmp 40], none⟩])
            (.cond (.tmp 39)
             (.seq (.run [4] [⟨some 41, .mv, [.tmp 1], none⟩,
                ⟨some 42, (.eqg false 6), [.tmp 41, .const (.int .i32 37)], none⟩,
                ⟨some 43, .mv, [.tmp 42], none⟩,
                ⟨some 44, .mv, [.tmp 1], some (43, false)⟩,
                ⟨some 45, (.bin .geq), [.tmp 44, .const (.int .i32 65)], some (43, false)⟩,
                ⟨some 46, .mv, [.tmp 45], some (43, false)⟩,
                ⟨some 47, .mv, [.tmp 1], some (46, true)⟩,
                ⟨some 48, (.bin .leq), [.tmp 47, .const (.int .i32 90)], some (46, true)⟩,
                ⟨some 49, .pick, [.tmp 46, .tmp 48, .const (.bool false)], some (43, false)⟩,
                ⟨some 50, .pick, [.tmp 43, .const (.bool true), .tmp 49], none⟩,
                ⟨some 51, .mv, [.tmp 50], none⟩,
                ⟨some 52, .mv, [.tmp 1], some (51, false)⟩,
                ⟨some 53, (.bin .geq), [.tmp 52, .const (.int .i32 97)], some (51, false)⟩,
                ⟨some 54, .mv, [.tmp 53], some (51, false)⟩,
                ⟨some 55, .mv, [.tmp 1], some (54, true)⟩,
                ⟨some 56, (.bin .leq), [.tmp 55, .const (.int .i32 122)], some (54, true)⟩,
                ⟨some 57, .pick, [.tmp 54, .tmp 56, .const (.bool false)], some (51, false)⟩,
                ⟨some 58, .pick, [.tmp 51, .const (.bool true), .tmp 57], none⟩,
                ⟨some 59, .mv, [.tmp 58], none⟩,
                ⟨some 60, .mv, [.tmp 1], some (59, false)⟩,
                ⟨some 61, (.bin .geq), [.tmp 60, .const (.int .i32 48)], some (59, false)⟩,
                ⟨some 62, .mv, [.tmp 61], some (59, false)⟩,
                ⟨some 63, .mv, [.tmp 1], some (62, true)⟩,
                ⟨some 64, (.bin .leq), [.tmp 63, .const (.int .i32 57)], some (62, true)⟩,
                ⟨some 65, .pick, [.tmp 62, .tmp 64, .const (.bool false)], some (59, false)⟩,
                ⟨some 66, .pick, [.tmp 59, .const (.bool true), .tmp 65], none⟩,
                ⟨some 67, .mv, [.tmp 66], none⟩,
                ⟨some 68, .mv, [.tmp 1], some (67, false)⟩,
                ⟨some 69, (.eqg false 6), [.tmp 68, .const (.int .i32 45)], some (67, false)⟩,
                ⟨some 70, .pick, [.tmp 67, .const (.bool true), .tmp 69], none⟩,
                ⟨some 71, .mv, [.tmp 70], none⟩,
                ⟨some 72, .mv, [.tmp 1], some (71, false)⟩,
                ⟨some 73, (.eqg false 6), [.tmp 72, .const (.int .i32 46)], some (71, false)⟩,
                ⟨some 74, .pick, [.tmp 71, .const (.bool true), .tmp 73], none⟩,
                ⟨some 75, .mv, [.tmp 74], none⟩,
                ⟨some 76, .mv, [.tmp 1], some (75, false)⟩,
                ⟨some 77, (.eqg false 6), [.tmp 76, .const (.int .i32 95)], some (75, false)⟩,
                ⟨some 78, .pick, [.tmp 75, .const (.bool true), .tmp 77], none⟩,
                ⟨some 79, .mv, [.tmp 78], none⟩,
                ⟨some 80, .mv, [.tmp 1], some (79, false)⟩,
                ⟨some 81, (.eqg false 6), [.tmp 80, .const (.int .i32 126)], some (79, false)⟩,
                ⟨some 82, .pick, [.tmp 79, .const (.bool true), .tmp 81], none⟩,
                ⟨some 4, .mv, [.tmp 82], none⟩])
              .ret)
             (.seq (.run [1, 5, 83] [⟨some 84, (.eqg false 6), [.tmp 12, .const (.int .i64 3)], none⟩,
                ⟨some 83, .mv, [.tmp 84], none⟩])
              (.cond (.tmp 83)
               (.seq (.run [4] [⟨some 85, .mv, [.tmp 5], none⟩,
                  ⟨some 86, (.un .not), [.tmp 85], none⟩,
                  ⟨some 87, .mv, [.tmp 86], none⟩,
                  ⟨some 88, .mv, [.tmp 1], some (87, true)⟩,
                  ⟨some 89, (.eqg true 6), [.tmp 88, .const (.int .i32 8232)], some (87, true)⟩,
                  ⟨some 90, .pick, [.tmp 87, .tmp 89, .const (.bool false)], none⟩,
                  ⟨some 91, .mv, [.tmp 90], none⟩,
                  ⟨some 92, .mv, [.tmp 1], some (91, true)⟩,
                  ⟨some 93, (.eqg true 6), [.tmp 92, .const (.int .i32 8233)], some (91, true)⟩,
                  ⟨some 94, .pick, [.tmp 91, .tmp 93, .const (.bool false)], none⟩,
                  ⟨some 95, .mv, [.tmp 94], none⟩,
                  ⟨some 96, .mv, [.tmp 1], some (95, true)⟩,
                  ⟨some 97, (.bin .lss), [.tmp 96, .const (.int .i32 128)], some (95, true)⟩,
                  ⟨some 98, .mv, [.tmp 97], some (95, true)⟩,
                  ⟨some 99, .mv, [.tmp 1], some (98, true)⟩,
                  ⟨some 100, (.call 51), [.const (.string ⟨#[34, 38, 39, 47, 60, 61, 62, 96]⟩), .tmp 99], some (98, true)⟩,
                  ⟨some 101, .pick, [.tmp 98, .tmp 100, .const (.bool false)], some (95, true)⟩,
                  ⟨some 102, (.un .not), [.tmp 101], some (95, true)⟩,
                  ⟨some 103, .pick, [.tmp 95, .tmp 102, .const (.bool false)], none⟩,
                  ⟨some 4, .mv, [.tmp 103], none⟩])
                .ret)
               .skip))))))))))
     (.seq (.run [4] [⟨some 104, .mv, [.tmp 5], none⟩,
        ⟨some 105, (.un .not), [.tmp 104], none⟩,
        ⟨some 106, .mv, [.tmp 105], none⟩,
        ⟨some 107, .mv, [.tmp 1], some (106, true)⟩,
        ⟨some 108, (.bin .lss), [.tmp 107, .const (.int .i32 128)], some (106, true)⟩,
        ⟨some 109, .mv, [.tmp 108], some (106, true)⟩,
        ⟨some 110, .mv, [.tmp 1], some (109, true)⟩,
        ⟨some 111, (.call 51), [.const (.string ⟨#[34, 38, 39, 40, 41, 47, 58, 59, 60, 62, 123, 125]⟩), .tmp 110], some (109, true)⟩,
        ⟨some 112, .pick, [.tmp 109, .tmp 111, .const (.bool false)], some (106, true)⟩,
        ⟨some 113, (.un .not), [.tmp 112], some (106, true)⟩,
        ⟨some 114, .pick, [.tmp 106, .tmp 113, .const (.bool false)], none⟩,
        ⟨some 4, .mv, [.tmp 114], none⟩])
      .ret))))⟩

theorem f62_ok : compF Go.Proofs.Tryd.prog 62 f62.body.hints = some f62 := by kernel_rfl


def f64 : AFun := ⟨37, 2, [.slot 4],
  (.seq (.run [0, 1] [⟨some 4, .mv, [.const (.int .i64 0)], none⟩])
   (.seq (.seq (.run [0, 9, 10, 11] [⟨some 9, .mv, [.tmp 1], none⟩,
       ⟨some 10, (.len 1), [.tmp 9], none⟩,
       ⟨some 11, .mv, [.const (.int .i64 0)], none⟩])
     (.block 0 (.loop [0, 9, 10, 11] (.seq (.run [0, 9, 10, 11, 12] [⟨some 12, (.bin .lss), [.tmp 11, .tmp 10], none⟩])
        (.seq (.cond (.tmp 12)
          .skip
          (.exit 0))
         (.seq (.block 1 (.seq (.run [0, 6, 9, 10, 11] [⟨some 13, (.iaddr 1), [.tmp 9, .tmp 11], none⟩,
              ⟨some 14, (.ld false 1), [.tmp 13], none⟩,
              ⟨some 6, .mv, [.tmp 14], none⟩])
            (.seq (.run [0, 7, 8, 9, 10, 11] [⟨some 16, .mv, [.tmp 0], none⟩,
               ⟨some 17, .nilck, [.tmp 16], none⟩,
               ⟨some 18, (.faddr 1), [.tmp 17], none⟩,
               ⟨some 19, (.ld false 1), [.tmp 18], none⟩,
               ⟨some 20, .mv, [.tmp 6], none⟩,
               ⟨some 21, (.call 15), [.tmp 19, .tmp 20], none⟩,
               ⟨some 15, .mv, [.tmp 21], none⟩,
               ⟨some 22, (.ext 0), [.tmp 15], none⟩,
               ⟨some 23, (.ext 1), [.tmp 15], none⟩,
               ⟨some 7, .mv, [.tmp 22], none⟩,
               ⟨some 8, .mv, [.tmp 23], none⟩])
             (.seq (.seq (.run [0, 7, 8, 9, 10, 11, 25] [⟨some 24, .mv, [.tmp 8], none⟩,
                 ⟨some 25, (.eqg true 6), [.tmp 24, .const (.int .i64 0)], none⟩])
               (.cond (.tmp 25)
                (.seq (.run [4] [⟨some 26, .mv, [.tmp 8], none⟩,
                   ⟨some 4, .mv, [.tmp 26], none⟩])
                 .ret)
                .skip))
              (.run [0, 9, 10, 11] [⟨some 27, .mv, [.tmp 0], none⟩,
                ⟨some 28, .mv, [.tmp 0], none⟩,
                ⟨some 29, .nilck, [.tmp 28], none⟩,
                ⟨some 30, (.faddr 2), [.tmp 29], none⟩,
                ⟨some 31, (.ld false 1), [.tmp 30], none⟩,
                ⟨some 32, .mv, [.tmp 7], none⟩,
                ⟨some 33, (.app 1 1), [.tmp 31, .tmp 32], none⟩,
                ⟨some 34, .nilck, [.tmp 27], none⟩,
                ⟨some 35, (.faddr 2), [.tmp 34], none⟩,
                ⟨none, (.st 1), [.tmp 35, .tmp 33], none⟩])))))
          (.run [0, 9, 10, 11] [⟨some 36, (.bin .add), [.tmp 11, .const (.int .i64 1)], none⟩,
            ⟨some 11, .mv, [.tmp 36], none⟩])))))))
    (.seq (.run [4] [⟨some 4, .mv, [.const (.int .i64 0)], none⟩])
     .ret)))⟩

theorem f64_ok : compF Go.Proofs.Tryd.prog 64 f64.body.hints = some f64 := by kernel_rfl

end Go.AL.Fun
