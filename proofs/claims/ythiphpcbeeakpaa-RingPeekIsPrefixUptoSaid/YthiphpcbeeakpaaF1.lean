/- The functions of this seat's program, turned. Printed by a program; each is checked against the program. -/
import Derived.Test.YthiphpcbeeakpaaA21
import Derived.Test.YthiphpcbeeakpaaProg
import Derived.KernelRfl
namespace Go.AL.Fun
open Go.AL


def f2 : AFun := ⟨1, 0, [],
  (.run [] [⟨some 0, (.call 1), [], none⟩])⟩

theorem f2_ok : compF Go.Proofs.Try.prog 2 f2.body.hints = some f2 := by kernel_rfl


def f3 : AFun := ⟨66, 2, [.slot 4],
  (.seq (.run [0, 1] [⟨some 4, .mv, [.const (.bool false)], none⟩])
   (.seq (.seq (.run [0, 1, 12] [⟨some 9, .mv, [.tmp 0], none⟩,
       ⟨some 10, .mv, [.tmp 1], none⟩,
       ⟨some 11, (.bslice 1 1 [(.sl [] .nil)] [(0, 1)]), [.tmp 10], none⟩,
       ⟨some 12, (.call 15), [.tmp 9, .tmp 11], none⟩])
     (.cond (.tmp 12)
      (.seq (.run [4] [⟨some 13, (.call 16), [], none⟩,
         ⟨some 4, .mv, [.tmp 13], none⟩])
       .ret)
      .skip))
    (.seq (.run [0, 1, 5] [⟨some 14, .mv, [.tmp 0], none⟩,
       ⟨some 15, (.call 17), [.tmp 14], none⟩,
       ⟨some 5, .mv, [.tmp 15], none⟩])
     (.seq (.seq (.run [0, 1, 5, 17] [⟨some 16, .mv, [.tmp 5], none⟩,
         ⟨some 17, (.eqg false 1), [.tmp 16, .const (.pointer none)], none⟩])
       (.cond (.tmp 17)
        (.seq (.run [4] [⟨some 4, .mv, [.const (.bool false)], none⟩])
         .ret)
        .skip))
      (.seq (.run [0, 1, 5, 6] [⟨some 18, .mv, [.tmp 1], none⟩,
         ⟨some 6, .mv, [.tmp 18], none⟩])
       (.seq (.seq (.run [0, 1, 5, 6, 21, 22] [⟨some 19, .mv, [.tmp 0], none⟩,
           ⟨some 20, (.len 1), [.tmp 19], none⟩,
           ⟨some 21, (.bin .add), [.tmp 20, .const (.int .i64 1)], none⟩,
           ⟨some 22, .mv, [.const (.int .i64 0)], none⟩])
         (.block 0 (.loop [0, 1, 5, 6, 21, 22] (.seq (.run [0, 1, 5, 6, 21, 22, 23] [⟨some 23, (.bin .lss), [.tmp 22, .tmp 21], none⟩])
            (.seq (.cond (.tmp 23)
              .skip
              (.exit 0))
             (.seq (.block 1 (.seq (.run [0, 1, 5, 6, 7, 8, 21, 22] [⟨some 25, .mv, [.tmp 5], none⟩,
                  ⟨some 26, .mv, [.tmp 6], none⟩,
                  ⟨some 27, (.call 18), [.tmp 25, .tmp 26], none⟩,
                  ⟨some 24, .mv, [.tmp 27], none⟩,
                  ⟨some 28, (.ext 0), [.tmp 24], none⟩,
                  ⟨some 29, (.ext 1), [.tmp 24], none⟩,
                  ⟨some 7, .mv, [.tmp 28], none⟩,
                  ⟨some 8, .mv, [.tmp 29], none⟩])
                (.seq (.seq (.run [0, 1, 5, 6, 7, 8, 21, 22, 37] [⟨some 30, .mv, [.tmp 7], none⟩,
                    ⟨some 31, (.bin .lss), [.tmp 30, .const (.int .i64 0)], none⟩,
                    ⟨some 32, .mv, [.tmp 31], none⟩,
                    ⟨some 33, .mv, [.tmp 7], some (32, false)⟩,
                    ⟨some 34, .mv, [.tmp 6], some (32, false)⟩,
                    ⟨some 35, (.len 1), [.tmp 34], some (32, false)⟩,
                    ⟨some 36, (.bin .gtr), [.tmp 33, .tmp 35], some (32, false)⟩,
                    ⟨some 37, .pick, [.tmp 32, .const (.bool true), .tmp 36], none⟩])
                  (.cond (.tmp 37)
                   (.seq (.run [4] [⟨some 4, .mv, [.const (.bool false)], none⟩])
                    .ret)
                   .skip))
                 (.seq (.run [0, 1, 5, 6, 8, 21, 22] [⟨some 38, .mv, [.tmp 6], none⟩,
                    ⟨some 39, .mv, [.tmp 7], none⟩,
                    ⟨some 40, (.slc 1 true false), [.tmp 38, .tmp 39], none⟩,
                    ⟨some 6, .mv, [.tmp 40], none⟩])
                  (.seq (.run [0, 1, 5, 6, 21, 22, 42] [⟨some 41, .mv, [.tmp 8], none⟩,
                     ⟨some 42, (.eqg true 6), [.tmp 41, .const (.int .i64 0)], none⟩])
                   (.cond (.tmp 42)
                    (.exit 0)
                    .skip))))))
              (.run [0, 1, 5, 6, 21, 22] [⟨some 43, (.bin .add), [.tmp 22, .const (.int .i64 1)], none⟩,
                ⟨some 22, .mv, [.tmp 43], none⟩])))))))
        (.seq (.runD [4] [⟨0, ⟨some 44, (.call 16), [], none⟩, []⟩,
           ⟨1, ⟨some 45, .mv, [.tmp 44], none⟩, []⟩,
           ⟨2, ⟨some 46, .mv, [.tmp 5], some (45, true)⟩, []⟩,
           ⟨5, ⟨some 49, .mv, [.tmp 1], some (45, true)⟩, []⟩,
           ⟨6, ⟨some 50, .mv, [.tmp 1], some (45, true)⟩, []⟩,
           ⟨7, ⟨some 51, (.len 1), [.tmp 50], some (45, true)⟩, []⟩,
           ⟨8, ⟨some 52, .mv, [.tmp 6], some (45, true)⟩, []⟩,
           ⟨9, ⟨some 53, (.len 1), [.tmp 52], some (45, true)⟩, []⟩,
           ⟨10, ⟨some 54, (.bin .sub), [.tmp 51, .tmp 53], some (45, true)⟩, []⟩,
           ⟨11, ⟨some 55, (.slc 1 false true), [.tmp 49, .tmp 54], some (45, true)⟩, []⟩,
           ⟨12, ⟨some 56, .cvb, [.tmp 55], some (45, true)⟩, []⟩,
           ⟨3, ⟨some 47, (.call 19), [.tmp 46], some (45, true)⟩, [12]⟩,
           ⟨4, ⟨some 48, .cvb, [.tmp 47], some (45, true)⟩, []⟩,
           ⟨13, ⟨some 57, (.eqg false 6), [.tmp 48, .tmp 56], some (45, true)⟩, []⟩,
           ⟨14, ⟨some 58, .pick, [.tmp 45, .tmp 57, .const (.bool false)], none⟩, []⟩,
           ⟨15, ⟨some 59, .mv, [.tmp 58], none⟩, []⟩,
           ⟨16, ⟨some 60, .mv, [.tmp 5], some (59, true)⟩, []⟩,
           ⟨18, ⟨some 62, .mv, [.tmp 0], some (59, true)⟩, []⟩,
           ⟨19, ⟨some 63, (.len 1), [.tmp 62], some (59, true)⟩, []⟩,
           ⟨17, ⟨some 61, (.call 20), [.tmp 60], some (59, true)⟩, []⟩,
           ⟨20, ⟨some 64, (.bin .leq), [.tmp 61, .tmp 63], some (59, true)⟩, []⟩,
           ⟨21, ⟨some 65, .pick, [.tmp 59, .tmp 64, .const (.bool false)], none⟩, []⟩,
           ⟨22, ⟨some 4, .mv, [.tmp 65], none⟩, []⟩])
         .ret)))))))⟩

theorem f3_ok : compF Go.Proofs.Try.prog 3 f3.body.hints = some f3 := by kernel_rfl


def f4 : AFun := ⟨79, 1, [.slot 2],
  (.seq (.run [0] [⟨some 2, .mv, [.const (.bool false)], none⟩])
   (.seq (.seq (.run [0, 12] [⟨some 10, .mv, [.tmp 0], none⟩,
       ⟨some 11, (.len 1), [.tmp 10], none⟩,
       ⟨some 12, (.bin .gtr), [.tmp 11, .const (.int .i64 1000)], none⟩])
     (.cond (.tmp 12)
      (.seq (.run [2] [⟨some 13, (.call 16), [], none⟩,
         ⟨some 2, .mv, [.tmp 13], none⟩])
       .ret)
      .skip))
    (.seq (.run [0, 3] [⟨some 14, .mv, [.tmp 0], none⟩,
       ⟨some 15, (.call 17), [.tmp 14], none⟩,
       ⟨some 3, .mv, [.tmp 15], none⟩])
     (.seq (.seq (.run [0, 3, 17] [⟨some 16, .mv, [.tmp 3], none⟩,
         ⟨some 17, (.eqg false 1), [.tmp 16, .const (.pointer none)], none⟩])
       (.cond (.tmp 17)
        (.seq (.run [2] [⟨some 2, .mv, [.const (.bool false)], none⟩])
         .ret)
        .skip))
      (.seq (.seq (.run [3, 18, 19, 20] [⟨some 18, .mv, [.tmp 0], none⟩,
          ⟨some 19, (.len 1), [.tmp 18], none⟩,
          ⟨some 20, .mv, [.const (.int .i64 0)], none⟩])
        (.block 0 (.loop [3, 18, 19, 20] (.seq (.run [3, 18, 19, 20, 21] [⟨some 21, (.bin .lss), [.tmp 20, .tmp 19], none⟩])
           (.seq (.cond (.tmp 21)
             .skip
             (.exit 0))
            (.seq (.block 1 (.seq (.run [3, 4, 5, 18, 19, 20] [⟨some 22, .mv, [.tmp 20], none⟩,
                 ⟨some 23, (.iaddr 1), [.tmp 18, .tmp 20], none⟩,
                 ⟨some 24, (.ld false 1), [.tmp 23], none⟩,
                 ⟨some 4, .mv, [.tmp 22], none⟩,
                 ⟨some 5, .mv, [.tmp 24], none⟩])
               (.seq (.run [3, 4, 5, 6, 7, 18, 19, 20] [⟨some 26, .mv, [.tmp 3], none⟩,
                  ⟨some 27, (.call 18), [.tmp 26, .const (.slice none 0 0)], none⟩,
                  ⟨some 25, .mv, [.tmp 27], none⟩,
                  ⟨some 28, (.ext 0), [.tmp 25], none⟩,
                  ⟨some 29, (.ext 1), [.tmp 25], none⟩,
                  ⟨some 6, .mv, [.tmp 28], none⟩,
                  ⟨some 7, .mv, [.tmp 29], none⟩])
                (.seq (.seq (.run [3, 7, 18, 19, 20, 52] [⟨some 30, .mv, [.tmp 6], none⟩,
                    ⟨some 31, (.eqg true 6), [.tmp 30, .const (.int .i64 0)], none⟩,
                    ⟨some 32, .mv, [.tmp 31], none⟩,
                    ⟨some 33, .mv, [.tmp 3], some (32, false)⟩,
                    ⟨some 34, (.call 20), [.tmp 33], some (32, false)⟩,
                    ⟨some 35, .mv, [.tmp 4], some (32, false)⟩,
                    ⟨some 36, (.bin .add), [.tmp 35, .const (.int .i64 1)], some (32, false)⟩,
                    ⟨some 37, (.eqg true 6), [.tmp 34, .tmp 36], some (32, false)⟩,
                    ⟨some 38, .pick, [.tmp 32, .const (.bool true), .tmp 37], none⟩,
                    ⟨some 39, .mv, [.tmp 38], none⟩,
                    ⟨some 40, .mv, [.tmp 7], some (39, false)⟩,
                    ⟨some 41, (.eqg false 6), [.tmp 40, .const (.int .i64 9)], some (39, false)⟩,
                    ⟨some 42, .mv, [.tmp 5], some (39, false)⟩,
                    ⟨some 43, (.bin .lss), [.tmp 42, .const (.int .i64 0)], some (39, false)⟩,
                    ⟨some 44, (.eqg true 0), [.tmp 41, .tmp 43], some (39, false)⟩,
                    ⟨some 45, .pick, [.tmp 39, .const (.bool true), .tmp 44], none⟩,
                    ⟨some 46, .mv, [.tmp 45], none⟩,
                    ⟨some 47, .mv, [.tmp 7], some (46, false)⟩,
                    ⟨some 48, (.eqg false 6), [.tmp 47, .const (.int .i64 0)], some (46, false)⟩,
                    ⟨some 49, .mv, [.tmp 5], some (46, false)⟩,
                    ⟨some 50, (.bin .geq), [.tmp 49, .const (.int .i64 0)], some (46, false)⟩,
                    ⟨some 51, (.eqg true 0), [.tmp 48, .tmp 50], some (46, false)⟩,
                    ⟨some 52, .pick, [.tmp 46, .const (.bool true), .tmp 51], none⟩])
                  (.cond (.tmp 52)
                   (.seq (.run [2] [⟨some 2, .mv, [.const (.bool false)], none⟩])
                    .ret)
                   .skip))
                 (.seq (.run [3, 18, 19, 20, 54] [⟨some 53, .mv, [.tmp 7], none⟩,
                    ⟨some 54, (.eqg true 6), [.tmp 53, .const (.int .i64 0)], none⟩])
                  (.cond (.tmp 54)
                   (.seq (.run [2] [⟨some 55, (.call 16), [], none⟩,
                      ⟨some 56, .mv, [.tmp 55], none⟩,
                      ⟨some 57, .mv, [.tmp 3], some (56, true)⟩,
                      ⟨some 58, (.call 19), [.tmp 57], some (56, true)⟩,
                      ⟨some 59, (.len 1), [.tmp 58], some (56, true)⟩,
                      ⟨some 60, (.eqg false 6), [.tmp 59, .const (.int .i64 0)], some (56, true)⟩,
                      ⟨some 61, .pick, [.tmp 56, .tmp 60, .const (.bool false)], none⟩,
                      ⟨some 2, .mv, [.tmp 61], none⟩])
                    .ret)
                   .skip))))))
             (.run [3, 18, 19, 20] [⟨some 62, (.bin .add), [.tmp 20, .const (.int .i64 1)], none⟩,
               ⟨some 20, .mv, [.tmp 62], none⟩])))))))
       (.seq (.run [3, 9] [⟨some 64, .mv, [.tmp 3], none⟩,
          ⟨some 65, (.call 18), [.tmp 64, .const (.slice none 0 0)], none⟩,
          ⟨some 63, .mv, [.tmp 65], none⟩,
          ⟨some 66, (.ext 0), [.tmp 63], none⟩,
          ⟨some 67, (.ext 1), [.tmp 63], none⟩,
          ⟨some 8, .mv, [.tmp 66], none⟩,
          ⟨some 9, .mv, [.tmp 67], none⟩])
        (.seq (.run [2] [⟨some 68, (.call 16), [], none⟩,
           ⟨some 69, .mv, [.tmp 68], none⟩,
           ⟨some 70, .mv, [.tmp 9], some (69, true)⟩,
           ⟨some 71, (.eqg false 6), [.tmp 70, .const (.int .i64 10)], some (69, true)⟩,
           ⟨some 72, .pick, [.tmp 69, .tmp 71, .const (.bool false)], none⟩,
           ⟨some 73, .mv, [.tmp 72], none⟩,
           ⟨some 74, .mv, [.tmp 3], some (73, true)⟩,
           ⟨some 75, (.call 19), [.tmp 74], some (73, true)⟩,
           ⟨some 76, (.len 1), [.tmp 75], some (73, true)⟩,
           ⟨some 77, (.eqg false 6), [.tmp 76, .const (.int .i64 0)], some (73, true)⟩,
           ⟨some 78, .pick, [.tmp 73, .tmp 77, .const (.bool false)], none⟩,
           ⟨some 2, .mv, [.tmp 78], none⟩])
         .ret)))))))⟩

theorem f4_ok : compF Go.Proofs.Try.prog 4 f4.body.hints = some f4 := by kernel_rfl


def f5 : AFun := ⟨92, 2, [.slot 4],
  (.seq (.run [0, 1] [⟨some 4, .mv, [.const (.bool false)], none⟩])
   (.seq (.seq (.run [0, 1, 16] [⟨some 14, .mv, [.tmp 0], none⟩,
       ⟨some 15, .mv, [.tmp 1], none⟩,
       ⟨some 16, (.call 15), [.tmp 14, .tmp 15], none⟩])
     (.cond (.tmp 16)
      (.seq (.run [4] [⟨some 17, (.call 16), [], none⟩,
         ⟨some 4, .mv, [.tmp 17], none⟩])
       .ret)
      .skip))
    (.seq (.run [0, 1, 5] [⟨some 18, (.bslice 1 0 [(.int .i64 0)] []), [], none⟩,
       ⟨some 19, .mv, [.tmp 0], none⟩,
       ⟨some 20, (.app 1 8), [.tmp 18, .tmp 19], none⟩,
       ⟨some 21, (.bslice 1 1 [(.int .i64 0)] [(0, 1)]), [.const (.int .i64 (-1))], none⟩,
       ⟨some 22, (.app 1 8), [.tmp 20, .tmp 21], none⟩,
       ⟨some 23, (.call 17), [.tmp 22], none⟩,
       ⟨some 5, .mv, [.tmp 23], none⟩])
     (.seq (.seq (.run [0, 1, 5, 25] [⟨some 24, .mv, [.tmp 5], none⟩,
         ⟨some 25, (.eqg false 1), [.tmp 24, .const (.pointer none)], none⟩])
       (.cond (.tmp 25)
        (.seq (.run [4] [⟨some 4, .mv, [.const (.bool false)], none⟩])
         .ret)
        .skip))
      (.seq (.seq (.run [1, 5, 28, 29] [⟨some 26, .mv, [.tmp 0], none⟩,
          ⟨some 27, (.len 1), [.tmp 26], none⟩,
          ⟨some 28, (.bin .add), [.tmp 27, .const (.int .i64 1)], none⟩,
          ⟨some 29, .mv, [.const (.int .i64 0)], none⟩])
        (.block 0 (.loop [1, 5, 28, 29] (.seq (.run [1, 5, 28, 29, 30] [⟨some 30, (.bin .lss), [.tmp 29, .tmp 28], none⟩])
           (.seq (.cond (.tmp 30)
             .skip
             (.exit 0))
            (.seq (.block 1 (.run [1, 5, 28, 29] [⟨some 31, .mv, [.tmp 5], none⟩,
                ⟨some 32, (.bslice 1 1 [(.int .u8 0)] [(0, 1)]), [.const (.int .u8 120)], none⟩,
                ⟨some 33, .cvm, [.tmp 32], none⟩,
                ⟨some 34, (.call 18), [.tmp 31, .tmp 33], none⟩]))
             (.run [1, 5, 28, 29] [⟨some 35, (.bin .add), [.tmp 29, .const (.int .i64 1)], none⟩,
               ⟨some 29, .mv, [.tmp 35], none⟩])))))))
       (.seq (.runD [1, 5, 6, 7] [⟨0, ⟨some 36, .mv, [.tmp 5], none⟩, []⟩,
          ⟨3, ⟨some 39, .mv, [.tmp 5], none⟩, []⟩,
          ⟨1, ⟨some 37, (.call 19), [.tmp 36], none⟩, []⟩,
          ⟨2, ⟨some 38, .cvb, [.tmp 37], none⟩, []⟩,
          ⟨4, ⟨some 40, (.call 20), [.tmp 39], none⟩, [2]⟩,
          ⟨5, ⟨some 6, .mv, [.tmp 38], none⟩, []⟩,
          ⟨6, ⟨some 7, .mv, [.tmp 40], none⟩, []⟩])
        (.seq (.seq (.run [5, 6, 7, 41, 42, 43] [⟨some 41, .mv, [.tmp 1], none⟩,
            ⟨some 42, (.len 1), [.tmp 41], none⟩,
            ⟨some 43, .mv, [.const (.int .i64 0)], none⟩])
          (.block 2 (.loop [5, 6, 7, 41, 42, 43] (.seq (.run [5, 6, 7, 41, 42, 43, 44] [⟨some 44, (.bin .lss), [.tmp 43, .tmp 42], none⟩])
             (.seq (.cond (.tmp 44)
               .skip
               (.exit 2))
              (.seq (.block 3 (.seq (.run [5, 6, 7, 9, 41, 42, 43] [⟨some 45, (.iaddr 1), [.tmp 41, .tmp 43], none⟩,
                   ⟨some 46, (.ld false 1), [.tmp 45], none⟩,
                   ⟨some 9, .mv, [.tmp 46], none⟩])
                 (.seq (.run [5, 6, 7, 10, 11, 41, 42, 43] [⟨some 48, .mv, [.tmp 5], none⟩,
                    ⟨some 49, .mv, [.tmp 9], none⟩,
                    ⟨some 50, (.call 18), [.tmp 48, .tmp 49], none⟩,
                    ⟨some 47, .mv, [.tmp 50], none⟩,
                    ⟨some 51, (.ext 0), [.tmp 47], none⟩,
                    ⟨some 52, (.ext 1), [.tmp 47], none⟩,
                    ⟨some 10, .mv, [.tmp 51], none⟩,
                    ⟨some 11, .mv, [.tmp 52], none⟩])
                  (.seq (.run [5, 6, 7, 41, 42, 43, 58] [⟨some 53, .mv, [.tmp 10], none⟩,
                     ⟨some 54, (.eqg true 6), [.tmp 53, .const (.int .i64 0)], none⟩,
                     ⟨some 55, .mv, [.tmp 54], none⟩,
                     ⟨some 56, .mv, [.tmp 11], some (55, false)⟩,
                     ⟨some 57, (.eqg true 6), [.tmp 56, .const (.int .i64 9)], some (55, false)⟩,
                     ⟨some 58, .pick, [.tmp 55, .const (.bool true), .tmp 57], none⟩])
                   (.cond (.tmp 58)
                    (.seq (.run [4] [⟨some 4, .mv, [.const (.bool false)], none⟩])
                     .ret)
                    .skip)))))
               (.run [5, 6, 7, 41, 42, 43] [⟨some 59, (.bin .add), [.tmp 43, .const (.int .i64 1)], none⟩,
                 ⟨some 43, .mv, [.tmp 59], none⟩])))))))
         (.seq (.run [5, 6, 7] [⟨some 60, .mv, [.tmp 5], none⟩,
            ⟨some 61, (.bslice 1 2 [(.int .i64 0)] [(0, 1), (1, 1)]), [.const (.int .i64 5), .const (.int .i64 5)], none⟩,
            ⟨some 62, (.call 21), [.tmp 60, .tmp 61], none⟩])
          (.seq (.run [5, 6, 7, 12, 13] [⟨some 64, .mv, [.tmp 5], none⟩,
             ⟨some 65, (.bslice 1 1 [(.int .u8 0)] [(0, 1)]), [.const (.int .u8 121)], none⟩,
             ⟨some 66, .cvm, [.tmp 65], none⟩,
             ⟨some 67, (.call 18), [.tmp 64, .tmp 66], none⟩,
             ⟨some 63, .mv, [.tmp 67], none⟩,
             ⟨some 68, (.ext 0), [.tmp 63], none⟩,
             ⟨some 69, (.ext 1), [.tmp 63], none⟩,
             ⟨some 12, .mv, [.tmp 68], none⟩,
             ⟨some 13, .mv, [.tmp 69], none⟩])
           (.seq (.run [4] [⟨some 70, (.call 16), [], none⟩,
              ⟨some 71, .mv, [.tmp 70], none⟩,
              ⟨some 72, .mv, [.tmp 12], some (71, true)⟩,
              ⟨some 73, (.eqg false 6), [.tmp 72, .const (.int .i64 0)], some (71, true)⟩,
              ⟨some 74, .pick, [.tmp 71, .tmp 73, .const (.bool false)], none⟩,
              ⟨some 75, .mv, [.tmp 74], none⟩,
              ⟨some 76, .mv, [.tmp 13], some (75, true)⟩,
              ⟨some 77, (.eqg false 6), [.tmp 76, .const (.int .i64 9)], some (75, true)⟩,
              ⟨some 78, .pick, [.tmp 75, .tmp 77, .const (.bool false)], none⟩,
              ⟨some 79, .mv, [.tmp 78], none⟩,
              ⟨some 80, .mv, [.tmp 5], some (79, true)⟩,
              ⟨some 81, (.call 19), [.tmp 80], some (79, true)⟩,
              ⟨some 82, .cvb, [.tmp 81], some (79, true)⟩,
              ⟨some 83, .mv, [.tmp 6], some (79, true)⟩,
              ⟨some 84, (.eqg false 6), [.tmp 82, .tmp 83], some (79, true)⟩,
              ⟨some 85, .pick, [.tmp 79, .tmp 84, .const (.bool false)], none⟩,
              ⟨some 86, .mv, [.tmp 85], none⟩,
              ⟨some 87, .mv, [.tmp 5], some (86, true)⟩,
              ⟨some 88, (.call 20), [.tmp 87], some (86, true)⟩,
              ⟨some 89, .mv, [.tmp 7], some (86, true)⟩,
              ⟨some 90, (.eqg false 6), [.tmp 88, .tmp 89], some (86, true)⟩,
              ⟨some 91, .pick, [.tmp 86, .tmp 90, .const (.bool false)], none⟩,
              ⟨some 4, .mv, [.tmp 91], none⟩])
            .ret))))))))))⟩

theorem f5_ok : compF Go.Proofs.Try.prog 5 f5.body.hints = some f5 := by kernel_rfl


def f6 : AFun := ⟨91, 2, [.slot 4],
  (.seq (.run [0, 1] [⟨some 4, .mv, [.const (.bool false)], none⟩])
   (.seq (.run [0, 1, 5] [⟨some 12, .mv, [.tmp 0], none⟩,
      ⟨some 13, (.call 17), [.tmp 12], none⟩,
      ⟨some 5, .mv, [.tmp 13], none⟩])
    (.seq (.seq (.run [0, 1, 5, 15] [⟨some 14, .mv, [.tmp 5], none⟩,
        ⟨some 15, (.eqg false 1), [.tmp 14, .const (.pointer none)], none⟩])
      (.cond (.tmp 15)
       (.seq (.run [4] [⟨some 4, .mv, [.const (.bool false)], none⟩])
        .ret)
       .skip))
     (.seq (.run [0, 1, 5, 6] [⟨some 6, .mv, [.const (.int .i64 0)], none⟩])
      (.seq (.seq (.run [0, 5, 6, 16, 17, 18] [⟨some 16, .mv, [.tmp 1], none⟩,
          ⟨some 17, (.len 1), [.tmp 16], none⟩,
          ⟨some 18, .mv, [.const (.int .i64 0)], none⟩])
        (.block 0 (.loop [0, 5, 6, 16, 17, 18] (.seq (.run [0, 5, 6, 16, 17, 18, 19] [⟨some 19, (.bin .lss), [.tmp 18, .tmp 17], none⟩])
           (.seq (.cond (.tmp 19)
             .skip
             (.exit 0))
            (.seq (.block 1 (.seq (.run [0, 5, 6, 8, 16, 17, 18] [⟨some 20, (.iaddr 1), [.tmp 16, .tmp 18], none⟩,
                 ⟨some 21, (.ld false 1), [.tmp 20], none⟩,
                 ⟨some 8, .mv, [.tmp 21], none⟩])
               (.seq (.run [0, 5, 6, 8, 9, 16, 17, 18] [⟨some 22, .mv, [.tmp 5], none⟩,
                  ⟨some 23, (.call 20), [.tmp 22], none⟩,
                  ⟨some 9, .mv, [.tmp 23], none⟩])
                (.seq (.run [0, 5, 6, 8, 9, 10, 11, 16, 17, 18] [⟨some 25, .mv, [.tmp 5], none⟩,
                   ⟨some 26, .mv, [.tmp 8], none⟩,
                   ⟨some 27, (.call 18), [.tmp 25, .tmp 26], none⟩,
                   ⟨some 24, .mv, [.tmp 27], none⟩,
                   ⟨some 28, (.ext 0), [.tmp 24], none⟩,
                   ⟨some 29, (.ext 1), [.tmp 24], none⟩,
                   ⟨some 10, .mv, [.tmp 28], none⟩,
                   ⟨some 11, .mv, [.tmp 29], none⟩])
                 (.seq (.seq (.run [0, 5, 6, 9, 10, 11, 16, 17, 18, 55] [⟨some 30, .mv, [.tmp 5], none⟩,
                     ⟨some 31, (.call 20), [.tmp 30], none⟩,
                     ⟨some 32, .mv, [.tmp 5], none⟩,
                     ⟨some 33, (.call 22), [.tmp 32], none⟩,
                     ⟨some 34, (.bin .add), [.tmp 31, .tmp 33], none⟩,
                     ⟨some 35, .mv, [.tmp 0], none⟩,
                     ⟨some 36, (.len 1), [.tmp 35], none⟩,
                     ⟨some 37, (.eqg true 6), [.tmp 34, .tmp 36], none⟩,
                     ⟨some 38, .mv, [.tmp 37], none⟩,
                     ⟨some 39, .mv, [.tmp 10], some (38, false)⟩,
                     ⟨some 40, (.bin .lss), [.tmp 39, .const (.int .i64 0)], some (38, false)⟩,
                     ⟨some 41, .pick, [.tmp 38, .const (.bool true), .tmp 40], none⟩,
                     ⟨some 42, .mv, [.tmp 41], none⟩,
                     ⟨some 43, .mv, [.tmp 10], some (42, false)⟩,
                     ⟨some 44, .mv, [.tmp 8], some (42, false)⟩,
                     ⟨some 45, (.len 1), [.tmp 44], some (42, false)⟩,
                     ⟨some 46, (.bin .gtr), [.tmp 43, .tmp 45], some (42, false)⟩,
                     ⟨some 47, .pick, [.tmp 42, .const (.bool true), .tmp 46], none⟩,
                     ⟨some 48, .mv, [.tmp 47], none⟩,
                     ⟨some 49, .mv, [.tmp 11], some (48, false)⟩,
                     ⟨some 50, (.eqg true 6), [.tmp 49, .const (.int .i64 0)], some (48, false)⟩,
                     ⟨some 51, .mv, [.tmp 50], some (48, false)⟩,
                     ⟨some 52, .mv, [.tmp 10], some (51, true)⟩,
                     ⟨some 53, (.eqg true 6), [.tmp 52, .const (.int .i64 0)], some (51, true)⟩,
                     ⟨some 54, .pick, [.tmp 51, .tmp 53, .const (.bool false)], some (48, false)⟩,
                     ⟨some 55, .pick, [.tmp 48, .const (.bool true), .tmp 54], none⟩])
                   (.cond (.tmp 55)
                    (.seq (.run [4] [⟨some 4, .mv, [.const (.bool false)], none⟩])
                     .ret)
                    .skip))
                  (.seq (.seq (.run [0, 5, 6, 10, 16, 17, 18, 78] [⟨some 56, .mv, [.tmp 11], none⟩,
                      ⟨some 57, (.eqg false 6), [.tmp 56, .const (.int .i64 0)], none⟩,
                      ⟨some 58, .mv, [.tmp 57], none⟩,
                      ⟨some 59, .mv, [.tmp 5], some (58, true)⟩,
                      ⟨some 60, (.call 20), [.tmp 59], some (58, true)⟩,
                      ⟨some 61, .mv, [.tmp 9], some (58, true)⟩,
                      ⟨some 62, (.bin .add), [.tmp 61, .const (.int .i64 1)], some (58, true)⟩,
                      ⟨some 63, (.eqg true 6), [.tmp 60, .tmp 62], some (58, true)⟩,
                      ⟨some 64, .mv, [.tmp 63], some (58, true)⟩,
                      ⟨some 65, .mv, [.tmp 9], some (64, false)⟩,
                      ⟨some 66, .mv, [.tmp 0], some (64, false)⟩,
                      ⟨some 67, (.len 1), [.tmp 66], some (64, false)⟩,
                      ⟨some 68, (.bin .geq), [.tmp 65, .tmp 67], some (64, false)⟩,
                      ⟨some 69, .pick, [.tmp 64, .const (.bool true), .tmp 68], some (58, true)⟩,
                      ⟨some 70, .mv, [.tmp 69], some (58, true)⟩,
                      ⟨some 71, .mv, [.tmp 10], some (70, false)⟩,
                      ⟨some 72, .mv, [.tmp 0], some (70, false)⟩,
                      ⟨some 73, .mv, [.tmp 9], some (70, false)⟩,
                      ⟨some 74, (.iaddr 1), [.tmp 72, .tmp 73], some (70, false)⟩,
                      ⟨some 75, (.ld false 1), [.tmp 74], some (70, false)⟩,
                      ⟨some 76, (.bin .gtr), [.tmp 71, .tmp 75], some (70, false)⟩,
                      ⟨some 77, .pick, [.tmp 70, .const (.bool true), .tmp 76], some (58, true)⟩,
                      ⟨some 78, .pick, [.tmp 58, .tmp 77, .const (.bool false)], none⟩])
                    (.cond (.tmp 78)
                     (.seq (.run [4] [⟨some 4, .mv, [.const (.bool false)], none⟩])
                      .ret)
                     .skip))
                   (.run [0, 5, 6, 16, 17, 18] [⟨some 79, .mv, [.tmp 6], none⟩,
                     ⟨some 80, .mv, [.tmp 10], none⟩,
                     ⟨some 81, (.bin .add), [.tmp 79, .tmp 80], none⟩,
                     ⟨some 6, .mv, [.tmp 81], none⟩])))))))
             (.run [0, 5, 6, 16, 17, 18] [⟨some 82, (.bin .add), [.tmp 18, .const (.int .i64 1)], none⟩,
               ⟨some 18, .mv, [.tmp 82], none⟩])))))))
       (.seq (.run [4] [⟨some 83, (.call 16), [], none⟩,
          ⟨some 84, .mv, [.tmp 83], none⟩,
          ⟨some 85, .mv, [.tmp 5], some (84, true)⟩,
          ⟨some 86, (.call 19), [.tmp 85], some (84, true)⟩,
          ⟨some 87, (.len 1), [.tmp 86], some (84, true)⟩,
          ⟨some 88, .mv, [.tmp 6], some (84, true)⟩,
          ⟨some 89, (.eqg false 6), [.tmp 87, .tmp 88], some (84, true)⟩,
          ⟨some 90, .pick, [.tmp 84, .tmp 89, .const (.bool false)], none⟩,
          ⟨some 4, .mv, [.tmp 90], none⟩])
        .ret))))))⟩

theorem f6_ok : compF Go.Proofs.Try.prog 6 f6.body.hints = some f6 := by kernel_rfl


def f7 : AFun := ⟨149, 2, [.slot 4],
  (.seq (.run [0, 1] [⟨some 4, .mv, [.const (.bool false)], none⟩])
   (.seq (.run [0, 1, 5] [⟨some 5, .mv, [.const (.pointer none)], none⟩])
    (.seq (.seq (.run [0, 1, 41] [⟨some 11, .mv, [.tmp 5], none⟩,
        ⟨some 12, (.bslice 1 1 [(.int .u8 0)] [(0, 1)]), [.const (.int .u8 97)], none⟩,
        ⟨some 13, .cvm, [.tmp 12], none⟩,
        ⟨some 14, (.call 23), [.tmp 11, .tmp 13], none⟩,
        ⟨some 15, (.eqg true 6), [.tmp 14, .const (.int .i64 0)], none⟩,
        ⟨some 16, .mv, [.tmp 15], none⟩,
        ⟨some 17, .mv, [.tmp 5], some (16, false)⟩,
        ⟨some 18, (.call 24), [.tmp 17, .const (.int .i64 1)], some (16, false)⟩,
        ⟨some 19, (.len 1), [.tmp 18], some (16, false)⟩,
        ⟨some 20, (.eqg true 6), [.tmp 19, .const (.int .i64 0)], some (16, false)⟩,
        ⟨some 21, .pick, [.tmp 16, .const (.bool true), .tmp 20], none⟩,
        ⟨some 22, .mv, [.tmp 21], none⟩,
        ⟨some 23, .mv, [.tmp 5], some (22, false)⟩,
        ⟨some 24, (.call 25), [.tmp 23, .const (.int .i64 0)], some (22, false)⟩,
        ⟨some 25, (.eqg true 6), [.tmp 24, .const (.int .i64 1)], some (22, false)⟩,
        ⟨some 26, .pick, [.tmp 22, .const (.bool true), .tmp 25], none⟩,
        ⟨some 27, .mv, [.tmp 26], none⟩,
        ⟨some 28, .mv, [.tmp 5], some (27, false)⟩,
        ⟨some 29, (.call 26), [.tmp 28], some (27, false)⟩,
        ⟨some 30, (.eqg true 6), [.tmp 29, .const (.int .i64 0)], some (27, false)⟩,
        ⟨some 31, .pick, [.tmp 27, .const (.bool true), .tmp 30], none⟩,
        ⟨some 32, .mv, [.tmp 31], none⟩,
        ⟨some 33, .mv, [.tmp 5], some (32, false)⟩,
        ⟨some 34, (.call 27), [.tmp 33], some (32, false)⟩,
        ⟨some 35, (.eqg true 6), [.tmp 34, .const (.int .i64 0)], some (32, false)⟩,
        ⟨some 36, .pick, [.tmp 32, .const (.bool true), .tmp 35], none⟩,
        ⟨some 37, .mv, [.tmp 36], none⟩,
        ⟨some 38, .mv, [.tmp 5], some (37, false)⟩,
        ⟨some 39, (.call 28), [.tmp 38], some (37, false)⟩,
        ⟨some 40, (.eqg true 6), [.tmp 39, .const (.int .i64 0)], some (37, false)⟩,
        ⟨some 41, .pick, [.tmp 37, .const (.bool true), .tmp 40], none⟩])
      (.cond (.tmp 41)
       (.seq (.run [4] [⟨some 4, .mv, [.const (.bool false)], none⟩])
        .ret)
       .skip))
     (.seq (.seq (.run [0, 1, 43] [⟨some 42, .mv, [.tmp 1], none⟩,
         ⟨some 43, (.call 29), [.tmp 42], none⟩])
       (.cond (.tmp 43)
        (.seq (.run [4] [⟨some 44, (.call 30), [], none⟩,
           ⟨some 4, .mv, [.tmp 44], none⟩])
         .ret)
        .skip))
      (.seq (.run [0, 1, 6, 7] [⟨some 46, .mv, [.tmp 0], none⟩,
         ⟨some 47, (.call 32), [.tmp 46], none⟩,
         ⟨some 48, (.call 31), [.tmp 47], none⟩,
         ⟨some 45, .mv, [.tmp 48], none⟩,
         ⟨some 49, (.ext 0), [.tmp 45], none⟩,
         ⟨some 50, (.ext 1), [.tmp 45], none⟩,
         ⟨some 6, .mv, [.tmp 49], none⟩,
         ⟨some 7, .mv, [.tmp 50], none⟩])
       (.seq (.run [1, 6, 7, 8] [⟨some 51, .mv, [.tmp 0], none⟩,
          ⟨some 52, (.call 32), [.tmp 51], none⟩,
          ⟨some 53, (.build [(.sl [] .nil), (.int .i64 0)] [(1, 1)]), [.tmp 52], none⟩,
          ⟨some 54, .box, [.tmp 53], none⟩,
          ⟨some 8, .mv, [.tmp 54], none⟩])
        (.seq (.seq (.run [1, 6, 8, 60] [⟨some 55, .mv, [.tmp 7], none⟩,
            ⟨some 56, (.eqg true 6), [.tmp 55, .const (.int .i64 0)], none⟩,
            ⟨some 57, .mv, [.tmp 56], none⟩,
            ⟨some 58, .mv, [.tmp 6], some (57, false)⟩,
            ⟨some 59, (.eqg false 1), [.tmp 58, .const (.pointer none)], some (57, false)⟩,
            ⟨some 60, .pick, [.tmp 57, .const (.bool true), .tmp 59], none⟩])
          (.cond (.tmp 60)
           (.seq (.run [4] [⟨some 4, .mv, [.const (.bool false)], none⟩])
            .ret)
           .skip))
         (.seq (.seq (.run [6, 8, 61, 62, 63] [⟨some 61, .mv, [.tmp 1], none⟩,
             ⟨some 62, (.len 1), [.tmp 61], none⟩,
             ⟨some 63, .mv, [.const (.int .i64 0)], none⟩])
           (.block 0 (.loop [6, 8, 61, 62, 63] (.seq (.run [6, 8, 61, 62, 63, 64] [⟨some 64, (.bin .lss), [.tmp 63, .tmp 62], none⟩])
              (.seq (.cond (.tmp 64)
                .skip
                (.exit 0))
               (.seq (.block 1 (.seq (.run [6, 8, 10, 61, 62, 63] [⟨some 65, (.iaddr 3), [.tmp 61, .tmp 63], none⟩,
                    ⟨some 66, (.ld true 3), [.tmp 65], none⟩,
                    ⟨some 10, (.alloc [(.int .i64 0), (.sl [] .nil), (.int .i64 0)]), [], none⟩,
                    ⟨none, (.st 3), [.tmp 10, .tmp 66], none⟩])
                  (.seq (.seq (.run [6, 8, 10, 61, 62, 63, 68] [⟨some 67, (.faddr 0), [.tmp 10], none⟩,
                      ⟨some 68, (.ld false 1), [.tmp 67], none⟩])
                    (.block 2 (.seq (.run [6, 8, 10, 61, 62, 63, 68, 78] [⟨some 79, (.eqg false 6), [.tmp 68, .const (.int .i64 0)], none⟩,
                        ⟨some 78, .mv, [.tmp 79], none⟩])
                      (.cond (.tmp 78)
                       (.seq (.runD [6, 8, 61, 62, 63, 88] [⟨0, ⟨some 80, .mv, [.tmp 6], none⟩, []⟩,
                          ⟨1, ⟨some 81, (.faddr 1), [.tmp 10], none⟩, []⟩,
                          ⟨2, ⟨some 82, (.ld false 1), [.tmp 81], none⟩, []⟩,
                          ⟨4, ⟨some 84, .mv, [.tmp 8], none⟩, []⟩,
                          ⟨5, ⟨some 85, (.faddr 1), [.tmp 10], none⟩, []⟩,
                          ⟨6, ⟨some 86, (.ld false 1), [.tmp 85], none⟩, []⟩,
                          ⟨3, ⟨some 83, (.call 23), [.tmp 80, .tmp 82], none⟩, [6]⟩,
                          ⟨7, ⟨some 87, (.call 33), [.tmp 84, .tmp 86], none⟩, []⟩,
                          ⟨8, ⟨some 88, (.eqg true 6), [.tmp 83, .tmp 87], none⟩, []⟩])
                        (.cond (.tmp 88)
                         (.seq (.run [4] [⟨some 4, .mv, [.const (.bool false)], none⟩])
                          .ret)
                         .skip))
                       (.seq (.run [6, 8, 10, 61, 62, 63, 89] [⟨some 90, (.eqg false 6), [.tmp 68, .const (.int .i64 1)], none⟩,
                          ⟨some 89, .mv, [.tmp 90], none⟩])
                        (.cond (.tmp 89)
                         (.seq (.runD [6, 8, 61, 62, 63, 101] [⟨0, ⟨some 91, .mv, [.tmp 6], none⟩, []⟩,
                            ⟨1, ⟨some 92, (.faddr 2), [.tmp 10], none⟩, []⟩,
                            ⟨2, ⟨some 93, (.ld false 1), [.tmp 92], none⟩, []⟩,
                            ⟨5, ⟨some 96, .mv, [.tmp 8], none⟩, []⟩,
                            ⟨6, ⟨some 97, (.faddr 2), [.tmp 10], none⟩, []⟩,
                            ⟨7, ⟨some 98, (.ld false 1), [.tmp 97], none⟩, []⟩,
                            ⟨3, ⟨some 94, (.call 24), [.tmp 91, .tmp 93], none⟩, [7]⟩,
                            ⟨4, ⟨some 95, .cvb, [.tmp 94], none⟩, []⟩,
                            ⟨8, ⟨some 99, (.call 34), [.tmp 96, .tmp 98], none⟩, [4]⟩,
                            ⟨9, ⟨some 100, .cvb, [.tmp 99], none⟩, []⟩,
                            ⟨10, ⟨some 101, (.eqg true 6), [.tmp 95, .tmp 100], none⟩, []⟩])
                          (.cond (.tmp 101)
                           (.seq (.run [4] [⟨some 4, .mv, [.const (.bool false)], none⟩])
                            .ret)
                           .skip))
                         (.seq (.runD [6, 8, 61, 62, 63, 77] [⟨0, ⟨some 69, .mv, [.tmp 6], none⟩, []⟩,
                            ⟨1, ⟨some 70, (.faddr 2), [.tmp 10], none⟩, []⟩,
                            ⟨2, ⟨some 71, (.ld false 1), [.tmp 70], none⟩, []⟩,
                            ⟨4, ⟨some 73, .mv, [.tmp 8], none⟩, []⟩,
                            ⟨5, ⟨some 74, (.faddr 2), [.tmp 10], none⟩, []⟩,
                            ⟨6, ⟨some 75, (.ld false 1), [.tmp 74], none⟩, []⟩,
                            ⟨3, ⟨some 72, (.call 25), [.tmp 69, .tmp 71], none⟩, [6]⟩,
                            ⟨7, ⟨some 76, (.call 35), [.tmp 73, .tmp 75], none⟩, []⟩,
                            ⟨8, ⟨some 77, (.eqg true 6), [.tmp 72, .tmp 76], none⟩, []⟩])
                          (.cond (.tmp 77)
                           (.seq (.run [4] [⟨some 4, .mv, [.const (.bool false)], none⟩])
                            .ret)
                           .skip))))))))
                   (.seq (.runD [6, 8, 61, 62, 63, 146] [⟨0, ⟨some 102, .mv, [.tmp 6], none⟩, []⟩,
                      ⟨2, ⟨some 104, .mv, [.tmp 8], none⟩, []⟩,
                      ⟨3, ⟨some 105, .nilck, [.tmp 104], none⟩, []⟩,
                      ⟨4, ⟨some 106, (.faddr 0), [.tmp 105], none⟩, []⟩,
                      ⟨5, ⟨some 107, (.ld false 1), [.tmp 106], none⟩, []⟩,
                      ⟨6, ⟨some 108, (.len 1), [.tmp 107], none⟩, []⟩,
                      ⟨1, ⟨some 103, (.call 26), [.tmp 102], none⟩, [5]⟩,
                      ⟨7, ⟨some 109, (.eqg true 6), [.tmp 103, .tmp 108], none⟩, []⟩,
                      ⟨8, ⟨some 110, .mv, [.tmp 109], none⟩, []⟩,
                      ⟨9, ⟨some 111, .mv, [.tmp 6], some (110, false)⟩, []⟩,
                      ⟨11, ⟨some 113, .mv, [.tmp 8], some (110, false)⟩, []⟩,
                      ⟨12, ⟨some 114, .nilck, [.tmp 113], some (110, false)⟩, []⟩,
                      ⟨13, ⟨some 115, (.faddr 1), [.tmp 114], some (110, false)⟩, []⟩,
                      ⟨14, ⟨some 116, (.ld false 1), [.tmp 115], some (110, false)⟩, []⟩,
                      ⟨10, ⟨some 112, (.call 28), [.tmp 111], some (110, false)⟩, [14]⟩,
                      ⟨15, ⟨some 117, (.eqg true 6), [.tmp 112, .tmp 116], some (110, false)⟩, []⟩,
                      ⟨16, ⟨some 118, .pick, [.tmp 110, .const (.bool true), .tmp 117], none⟩, []⟩,
                      ⟨17, ⟨some 119, .mv, [.tmp 118], none⟩, []⟩,
                      ⟨18, ⟨some 120, .mv, [.tmp 6], some (119, false)⟩, []⟩,
                      ⟨20, ⟨some 122, .mv, [.tmp 8], some (119, false)⟩, []⟩,
                      ⟨21, ⟨some 123, .nilck, [.tmp 122], some (119, false)⟩, []⟩,
                      ⟨22, ⟨some 124, (.faddr 1), [.tmp 123], some (119, false)⟩, []⟩,
                      ⟨23, ⟨some 125, (.ld false 1), [.tmp 124], some (119, false)⟩, []⟩,
                      ⟨24, ⟨some 126, .mv, [.tmp 8], some (119, false)⟩, []⟩,
                      ⟨25, ⟨some 127, .nilck, [.tmp 126], some (119, false)⟩, []⟩,
                      ⟨26, ⟨some 128, (.faddr 0), [.tmp 127], some (119, false)⟩, []⟩,
                      ⟨27, ⟨some 129, (.ld false 1), [.tmp 128], some (119, false)⟩, []⟩,
                      ⟨28, ⟨some 130, (.len 1), [.tmp 129], some (119, false)⟩, []⟩,
                      ⟨29, ⟨some 131, (.bin .sub), [.tmp 125, .tmp 130], some (119, false)⟩, []⟩,
                      ⟨19, ⟨some 121, (.call 27), [.tmp 120], some (119, false)⟩, [23, 27]⟩,
                      ⟨30, ⟨some 132, (.eqg true 6), [.tmp 121, .tmp 131], some (119, false)⟩, []⟩,
                      ⟨31, ⟨some 133, .pick, [.tmp 119, .const (.bool true), .tmp 132], none⟩, []⟩,
                      ⟨32, ⟨some 134, .mv, [.tmp 133], none⟩, []⟩,
                      ⟨33, ⟨some 135, .mv, [.tmp 6], some (134, false)⟩, []⟩,
                      ⟨34, ⟨some 136, .mv, [.tmp 6], some (134, false)⟩, []⟩,
                      ⟨38, ⟨some 140, .mv, [.tmp 8], some (134, false)⟩, []⟩,
                      ⟨39, ⟨some 141, .nilck, [.tmp 140], some (134, false)⟩, []⟩,
                      ⟨40, ⟨some 142, (.faddr 0), [.tmp 141], some (134, false)⟩, []⟩,
                      ⟨41, ⟨some 143, (.ld false 1), [.tmp 142], some (134, false)⟩, []⟩,
                      ⟨42, ⟨some 144, .cvb, [.tmp 143], some (134, false)⟩, []⟩,
                      ⟨35, ⟨some 137, (.call 26), [.tmp 136], some (134, false)⟩, [41, 42]⟩,
                      ⟨36, ⟨some 138, (.call 24), [.tmp 135, .tmp 137], some (134, false)⟩, [41, 42]⟩,
                      ⟨37, ⟨some 139, .cvb, [.tmp 138], some (134, false)⟩, []⟩,
                      ⟨43, ⟨some 145, (.eqg true 6), [.tmp 139, .tmp 144], some (134, false)⟩, []⟩,
                      ⟨44, ⟨some 146, .pick, [.tmp 134, .const (.bool true), .tmp 145], none⟩, []⟩])
                    (.cond (.tmp 146)
                     (.seq (.run [4] [⟨some 4, .mv, [.const (.bool false)], none⟩])
                      .ret)
                     .skip)))))
                (.run [6, 8, 61, 62, 63] [⟨some 147, (.bin .add), [.tmp 63, .const (.int .i64 1)], none⟩,
                  ⟨some 63, .mv, [.tmp 147], none⟩])))))))
          (.seq (.run [4] [⟨some 148, (.call 30), [], none⟩,
             ⟨some 4, .mv, [.tmp 148], none⟩])
           .ret)))))))))⟩

theorem f7_ok : compF Go.Proofs.Try.prog 7 f7.body.hints = some f7 := by kernel_rfl


def f8 : AFun := ⟨51, 1, [.slot 2],
  (.seq (.run [0] [⟨some 2, .mv, [.const (.bool false)], none⟩])
   (.seq (.run [0, 3, 4] [⟨some 6, .mv, [.tmp 0], none⟩,
      ⟨some 7, (.call 31), [.tmp 6], none⟩,
      ⟨some 5, .mv, [.tmp 7], none⟩,
      ⟨some 8, (.ext 0), [.tmp 5], none⟩,
      ⟨some 9, (.ext 1), [.tmp 5], none⟩,
      ⟨some 3, .mv, [.tmp 8], none⟩,
      ⟨some 4, .mv, [.tmp 9], none⟩])
    (.seq (.seq (.run [0, 3, 4, 15] [⟨some 10, .mv, [.tmp 0], none⟩,
        ⟨some 11, (.bin .lss), [.tmp 10, .const (.int .i64 1)], none⟩,
        ⟨some 12, .mv, [.tmp 11], none⟩,
        ⟨some 13, .mv, [.tmp 0], some (12, false)⟩,
        ⟨some 14, (.bin .gtr), [.tmp 13, .const (.int .i64 65536)], some (12, false)⟩,
        ⟨some 15, .pick, [.tmp 12, .const (.bool true), .tmp 14], none⟩])
      (.cond (.tmp 15)
       (.seq (.run [2] [⟨some 16, (.call 30), [], none⟩,
          ⟨some 17, .mv, [.tmp 16], none⟩,
          ⟨some 18, .mv, [.tmp 3], some (17, true)⟩,
          ⟨some 19, (.eqg false 1), [.tmp 18, .const (.pointer none)], some (17, true)⟩,
          ⟨some 20, .pick, [.tmp 17, .tmp 19, .const (.bool false)], none⟩,
          ⟨some 21, .mv, [.tmp 20], none⟩,
          ⟨some 22, .mv, [.tmp 4], some (21, true)⟩,
          ⟨some 23, (.eqg false 6), [.tmp 22, .const (.int .i64 3)], some (21, true)⟩,
          ⟨some 24, .pick, [.tmp 21, .tmp 23, .const (.bool false)], none⟩,
          ⟨some 2, .mv, [.tmp 24], none⟩])
        .ret)
       .skip))
     (.seq (.run [2] [⟨some 25, (.call 30), [], none⟩,
        ⟨some 26, .mv, [.tmp 25], none⟩,
        ⟨some 27, .mv, [.tmp 4], some (26, true)⟩,
        ⟨some 28, (.eqg false 6), [.tmp 27, .const (.int .i64 0)], some (26, true)⟩,
        ⟨some 29, .pick, [.tmp 26, .tmp 28, .const (.bool false)], none⟩,
        ⟨some 30, .mv, [.tmp 29], none⟩,
        ⟨some 31, .mv, [.tmp 3], some (30, true)⟩,
        ⟨some 32, (.eqg true 1), [.tmp 31, .const (.pointer none)], some (30, true)⟩,
        ⟨some 33, .pick, [.tmp 30, .tmp 32, .const (.bool false)], none⟩,
        ⟨some 34, .mv, [.tmp 33], none⟩,
        ⟨some 35, .mv, [.tmp 3], some (34, true)⟩,
        ⟨some 36, (.call 26), [.tmp 35], some (34, true)⟩,
        ⟨some 37, (.eqg false 6), [.tmp 36, .const (.int .i64 0)], some (34, true)⟩,
        ⟨some 38, .pick, [.tmp 34, .tmp 37, .const (.bool false)], none⟩,
        ⟨some 39, .mv, [.tmp 38], none⟩,
        ⟨some 40, .mv, [.tmp 3], some (39, true)⟩,
        ⟨some 41, (.call 28), [.tmp 40], some (39, true)⟩,
        ⟨some 42, .mv, [.tmp 0], some (39, true)⟩,
        ⟨some 43, (.eqg false 6), [.tmp 41, .tmp 42], some (39, true)⟩,
        ⟨some 44, .pick, [.tmp 39, .tmp 43, .const (.bool false)], none⟩,
        ⟨some 45, .mv, [.tmp 44], none⟩,
        ⟨some 46, .mv, [.tmp 3], some (45, true)⟩,
        ⟨some 47, (.call 27), [.tmp 46], some (45, true)⟩,
        ⟨some 48, .mv, [.tmp 0], some (45, true)⟩,
        ⟨some 49, (.eqg false 6), [.tmp 47, .tmp 48], some (45, true)⟩,
        ⟨some 50, .pick, [.tmp 45, .tmp 49, .const (.bool false)], none⟩,
        ⟨some 2, .mv, [.tmp 50], none⟩])
      .ret))))⟩

theorem f8_ok : compF Go.Proofs.Try.prog 8 f8.body.hints = some f8 := by kernel_rfl


def f9 : AFun := ⟨120, 3, [.slot 6],
  (.seq (.run [0, 1, 2] [⟨some 6, .mv, [.const (.bool false)], none⟩])
   (.seq (.seq (.run [0, 1, 2, 27] [⟨some 15, .mv, [.tmp 1], none⟩,
       ⟨some 16, (.len 1), [.tmp 15], none⟩,
       ⟨some 17, (.bin .gtr), [.tmp 16, .const (.int .i64 3000)], none⟩,
       ⟨some 18, .mv, [.tmp 17], none⟩,
       ⟨some 19, .mv, [.tmp 2], some (18, false)⟩,
       ⟨some 20, (.len 1), [.tmp 19], some (18, false)⟩,
       ⟨some 21, (.bin .gtr), [.tmp 20, .const (.int .i64 300)], some (18, false)⟩,
       ⟨some 22, .pick, [.tmp 18, .const (.bool true), .tmp 21], none⟩,
       ⟨some 23, .mv, [.tmp 22], none⟩,
       ⟨some 24, .mv, [.tmp 2], some (23, false)⟩,
       ⟨some 25, (.len 1), [.tmp 24], some (23, false)⟩,
       ⟨some 26, (.eqg false 6), [.tmp 25, .const (.int .i64 0)], some (23, false)⟩,
       ⟨some 27, .pick, [.tmp 23, .const (.bool true), .tmp 26], none⟩])
     (.cond (.tmp 27)
      (.seq (.run [6] [⟨some 28, (.call 30), [], none⟩,
         ⟨some 6, .mv, [.tmp 28], none⟩])
       .ret)
      .skip))
    (.seq (.run [1, 2, 7, 8] [⟨some 30, .mv, [.tmp 0], none⟩,
       ⟨some 31, (.cvi .u64), [.tmp 30], none⟩,
       ⟨some 32, (.bin .rem), [.tmp 31, .const (.int .u64 50)], none⟩,
       ⟨some 33, (.cvi .i64), [.tmp 32], none⟩,
       ⟨some 34, (.bin .add), [.const (.int .i64 1), .tmp 33], none⟩,
       ⟨some 35, (.call 31), [.tmp 34], none⟩,
       ⟨some 29, .mv, [.tmp 35], none⟩,
       ⟨some 36, (.ext 0), [.tmp 29], none⟩,
       ⟨some 37, (.ext 1), [.tmp 29], none⟩,
       ⟨some 7, .mv, [.tmp 36], none⟩,
       ⟨some 8, .mv, [.tmp 37], none⟩])
     (.seq (.seq (.run [1, 2, 7, 43] [⟨some 38, .mv, [.tmp 8], none⟩,
         ⟨some 39, (.eqg true 6), [.tmp 38, .const (.int .i64 0)], none⟩,
         ⟨some 40, .mv, [.tmp 39], none⟩,
         ⟨some 41, .mv, [.tmp 7], some (40, false)⟩,
         ⟨some 42, (.eqg false 1), [.tmp 41, .const (.pointer none)], some (40, false)⟩,
         ⟨some 43, .pick, [.tmp 40, .const (.bool true), .tmp 42], none⟩])
       (.cond (.tmp 43)
        (.seq (.run [6] [⟨some 6, .mv, [.const (.bool false)], none⟩])
         .ret)
        .skip))
      (.seq (.run [1, 2, 7, 9, 10] [⟨some 44, .mv, [.tmp 1], none⟩,
         ⟨some 45, (.bslice 1 0 [(.int .u8 0)] []), [], none⟩,
         ⟨some 9, .mv, [.tmp 44], none⟩,
         ⟨some 10, .mv, [.tmp 45], none⟩])
       (.seq (.seq (.run [1, 2, 7, 9, 10, 11] [⟨some 11, .mv, [.const (.int .i64 0)], none⟩])
         (.block 0 (.loop [1, 2, 7, 9, 10, 11] (.seq (.seq (.run [1, 2, 7, 9, 10, 11, 50] [⟨some 46, .mv, [.tmp 10], none⟩,
               ⟨some 47, (.len 1), [.tmp 46], none⟩,
               ⟨some 48, .mv, [.tmp 1], none⟩,
               ⟨some 49, (.len 1), [.tmp 48], none⟩,
               ⟨some 50, (.bin .lss), [.tmp 47, .tmp 49], none⟩])
             (.cond (.tmp 50)
              .skip
              (.exit 0)))
            (.seq (.block 1 (.seq (.run [1, 2, 7, 9, 10, 11, 12] [⟨some 53, .mv, [.tmp 7], none⟩,
                 ⟨some 54, .mv, [.tmp 9], none⟩,
                 ⟨some 55, (.call 23), [.tmp 53, .tmp 54], none⟩,
                 ⟨some 12, .mv, [.tmp 55], none⟩])
               (.seq (.seq (.run [1, 2, 7, 9, 10, 11, 12, 75] [⟨some 56, .mv, [.tmp 12], none⟩,
                   ⟨some 57, (.bin .lss), [.tmp 56, .const (.int .i64 0)], none⟩,
                   ⟨some 58, .mv, [.tmp 57], none⟩,
                   ⟨some 59, .mv, [.tmp 12], some (58, false)⟩,
                   ⟨some 60, .mv, [.tmp 9], some (58, false)⟩,
                   ⟨some 61, (.len 1), [.tmp 60], some (58, false)⟩,
                   ⟨some 62, (.bin .gtr), [.tmp 59, .tmp 61], some (58, false)⟩,
                   ⟨some 63, .pick, [.tmp 58, .const (.bool true), .tmp 62], none⟩,
                   ⟨some 64, .mv, [.tmp 63], none⟩,
                   ⟨some 65, .mv, [.tmp 7], some (64, false)⟩,
                   ⟨some 66, (.call 26), [.tmp 65], some (64, false)⟩,
                   ⟨some 67, .mv, [.tmp 7], some (64, false)⟩,
                   ⟨some 68, (.call 28), [.tmp 67], some (64, false)⟩,
                   ⟨some 69, (.bin .gtr), [.tmp 66, .tmp 68], some (64, false)⟩,
                   ⟨some 70, .pick, [.tmp 64, .const (.bool true), .tmp 69], none⟩,
                   ⟨some 71, .mv, [.tmp 70], none⟩,
                   ⟨some 72, .mv, [.tmp 7], some (71, false)⟩,
                   ⟨some 73, (.call 26), [.tmp 72], some (71, false)⟩,
                   ⟨some 74, (.bin .lss), [.tmp 73, .const (.int .i64 1)], some (71, false)⟩,
                   ⟨some 75, .pick, [.tmp 71, .const (.bool true), .tmp 74], none⟩])
                 (.cond (.tmp 75)
                  (.seq (.run [6] [⟨some 6, .mv, [.const (.bool false)], none⟩])
                   .ret)
                  .skip))
                (.seq (.run [1, 2, 7, 9, 10, 11] [⟨some 76, .mv, [.tmp 9], none⟩,
                   ⟨some 77, .mv, [.tmp 12], none⟩,
                   ⟨some 78, (.slc 1 true false), [.tmp 76, .tmp 77], none⟩,
                   ⟨some 9, .mv, [.tmp 78], none⟩])
                 (.seq (.runD [1, 2, 7, 9, 10, 11, 13] [⟨0, ⟨some 79, .mv, [.tmp 2], none⟩, []⟩,
                    ⟨1, ⟨some 80, .mv, [.tmp 11], none⟩, []⟩,
                    ⟨2, ⟨some 81, .mv, [.tmp 2], none⟩, []⟩,
                    ⟨3, ⟨some 82, (.len 1), [.tmp 81], none⟩, []⟩,
                    ⟨4, ⟨some 83, (.bin .rem), [.tmp 80, .tmp 82], none⟩, []⟩,
                    ⟨5, ⟨some 84, (.iaddr 1), [.tmp 79, .tmp 83], none⟩, []⟩,
                    ⟨6, ⟨some 85, (.ld false 1), [.tmp 84], none⟩, []⟩,
                    ⟨7, ⟨some 86, (.cvi .i64), [.tmp 85], none⟩, []⟩,
                    ⟨8, ⟨some 87, .mv, [.tmp 7], none⟩, []⟩,
                    ⟨9, ⟨some 88, (.call 26), [.tmp 87], none⟩, [6]⟩,
                    ⟨10, ⟨some 89, (.bin .rem), [.tmp 86, .tmp 88], none⟩, []⟩,
                    ⟨11, ⟨some 90, (.bin .add), [.const (.int .i64 1), .tmp 89], none⟩, []⟩,
                    ⟨12, ⟨some 13, .mv, [.tmp 90], none⟩, []⟩])
                  (.seq (.run [1, 2, 7, 9, 10, 11, 13, 14] [⟨some 91, .mv, [.tmp 7], none⟩,
                     ⟨some 92, .mv, [.tmp 13], none⟩,
                     ⟨some 93, (.call 24), [.tmp 91, .tmp 92], none⟩,
                     ⟨some 14, .mv, [.tmp 93], none⟩])
                   (.seq (.seq (.run [1, 2, 7, 9, 10, 11, 14, 103] [⟨some 94, .mv, [.tmp 14], none⟩,
                       ⟨some 95, (.len 1), [.tmp 94], none⟩,
                       ⟨some 96, .mv, [.tmp 13], none⟩,
                       ⟨some 97, (.eqg true 6), [.tmp 95, .tmp 96], none⟩,
                       ⟨some 98, .mv, [.tmp 97], none⟩,
                       ⟨some 99, .mv, [.tmp 7], some (98, false)⟩,
                       ⟨some 100, .mv, [.tmp 13], some (98, false)⟩,
                       ⟨some 101, (.call 25), [.tmp 99, .tmp 100], some (98, false)⟩,
                       ⟨some 102, (.eqg true 6), [.tmp 101, .const (.int .i64 0)], some (98, false)⟩,
                       ⟨some 103, .pick, [.tmp 98, .const (.bool true), .tmp 102], none⟩])
                     (.cond (.tmp 103)
                      (.seq (.run [6] [⟨some 6, .mv, [.const (.bool false)], none⟩])
                       .ret)
                      .skip))
                    (.run [1, 2, 7, 9, 10, 11] [⟨some 104, .mv, [.tmp 10], none⟩,
                      ⟨some 105, .mv, [.tmp 14], none⟩,
                      ⟨some 106, (.app 1 1), [.tmp 104, .tmp 105], none⟩,
                      ⟨some 10, .mv, [.tmp 106], none⟩]))))))))
             (.run [1, 2, 7, 9, 10, 11] [⟨some 51, .mv, [.tmp 11], none⟩,
               ⟨some 52, (.bin .add), [.tmp 51, .const (.int .i64 1)], none⟩,
               ⟨some 11, .mv, [.tmp 52], none⟩]))))))
        (.seq (.run [6] [⟨some 107, (.call 30), [], none⟩,
           ⟨some 108, .mv, [.tmp 107], none⟩,
           ⟨some 109, .mv, [.tmp 10], some (108, true)⟩,
           ⟨some 110, .cvb, [.tmp 109], some (108, true)⟩,
           ⟨some 111, .mv, [.tmp 1], some (108, true)⟩,
           ⟨some 112, .cvb, [.tmp 111], some (108, true)⟩,
           ⟨some 113, (.eqg false 6), [.tmp 110, .tmp 112], some (108, true)⟩,
           ⟨some 114, .pick, [.tmp 108, .tmp 113, .const (.bool false)], none⟩,
           ⟨some 115, .mv, [.tmp 114], none⟩,
           ⟨some 116, .mv, [.tmp 7], some (115, true)⟩,
           ⟨some 117, (.call 26), [.tmp 116], some (115, true)⟩,
           ⟨some 118, (.eqg false 6), [.tmp 117, .const (.int .i64 0)], some (115, true)⟩,
           ⟨some 119, .pick, [.tmp 115, .tmp 118, .const (.bool false)], none⟩,
           ⟨some 6, .mv, [.tmp 119], none⟩])
         .ret)))))))⟩

theorem f9_ok : compF Go.Proofs.Try.prog 9 f9.body.hints = some f9 := by kernel_rfl


def f10 : AFun := ⟨68, 1, [.slot 2],
  (.seq (.run [0] [⟨some 2, .mv, [.const (.bool false)], none⟩])
   (.seq (.seq (.run [0, 11] [⟨some 9, .mv, [.tmp 0], none⟩,
       ⟨some 10, (.len 1), [.tmp 9], none⟩,
       ⟨some 11, (.bin .gtr), [.tmp 10, .const (.int .i64 3000)], none⟩])
     (.cond (.tmp 11)
      (.seq (.run [2] [⟨some 12, (.call 30), [], none⟩,
         ⟨some 2, .mv, [.tmp 12], none⟩])
       .ret)
      .skip))
    (.seq (.run [0, 3, 4] [⟨some 14, (.call 31), [.const (.int .i64 65536)], none⟩,
       ⟨some 13, .mv, [.tmp 14], none⟩,
       ⟨some 15, (.ext 0), [.tmp 13], none⟩,
       ⟨some 16, (.ext 1), [.tmp 13], none⟩,
       ⟨some 3, .mv, [.tmp 15], none⟩,
       ⟨some 4, .mv, [.tmp 16], none⟩])
     (.seq (.seq (.run [0, 3, 22] [⟨some 17, .mv, [.tmp 4], none⟩,
         ⟨some 18, (.eqg true 6), [.tmp 17, .const (.int .i64 0)], none⟩,
         ⟨some 19, .mv, [.tmp 18], none⟩,
         ⟨some 20, .mv, [.tmp 3], some (19, false)⟩,
         ⟨some 21, (.eqg false 1), [.tmp 20, .const (.pointer none)], some (19, false)⟩,
         ⟨some 22, .pick, [.tmp 19, .const (.bool true), .tmp 21], none⟩])
       (.cond (.tmp 22)
        (.seq (.run [2] [⟨some 2, .mv, [.const (.bool false)], none⟩])
         .ret)
        .skip))
      (.seq (.run [0, 3, 5] [⟨some 23, (.bslice 1 0 [(.int .u8 0)] []), [], none⟩,
         ⟨some 24, .mv, [.tmp 0], none⟩,
         ⟨some 25, (.app 1 1), [.tmp 23, .tmp 24], none⟩,
         ⟨some 5, .mv, [.tmp 25], none⟩])
       (.seq (.run [0, 3, 5] [⟨some 26, .mv, [.tmp 3], none⟩,
          ⟨some 27, .mv, [.tmp 5], none⟩,
          ⟨some 28, (.call 23), [.tmp 26, .tmp 27], none⟩])
        (.seq (.seq (.run [0, 3, 5, 30, 31] [⟨some 29, .mv, [.tmp 5], none⟩,
            ⟨some 30, (.len 1), [.tmp 29], none⟩,
            ⟨some 31, .mv, [.const (.int .i64 0)], none⟩])
          (.block 0 (.loop [0, 3, 5, 30, 31] (.seq (.run [0, 3, 5, 30, 31, 32] [⟨some 32, (.bin .lss), [.tmp 31, .tmp 30], none⟩])
             (.seq (.cond (.tmp 32)
               .skip
               (.exit 0))
              (.seq (.block 1 (.seq (.run [0, 3, 5, 6, 30, 31] [⟨some 33, .mv, [.tmp 31], none⟩,
                   ⟨some 6, .mv, [.tmp 33], none⟩])
                 (.run [0, 3, 5, 30, 31] [⟨some 34, .mv, [.tmp 5], none⟩,
                   ⟨some 35, .mv, [.tmp 6], none⟩,
                   ⟨some 36, (.iaddr 1), [.tmp 34, .tmp 35], none⟩,
                   ⟨some 37, (.ld false 1), [.tmp 36], none⟩,
                   ⟨some 38, (.bin .xor), [.tmp 37, .const (.int .u8 255)], none⟩,
                   ⟨some 39, (.iaddr 1), [.tmp 34, .tmp 35], none⟩,
                   ⟨none, (.st 1), [.tmp 39, .tmp 38], none⟩])))
               (.run [0, 3, 5, 30, 31] [⟨some 40, (.bin .add), [.tmp 31, .const (.int .i64 1)], none⟩,
                 ⟨some 31, .mv, [.tmp 40], none⟩])))))))
         (.seq (.run [0, 3, 7] [⟨some 41, .mv, [.tmp 3], none⟩,
            ⟨some 42, .mv, [.tmp 0], none⟩,
            ⟨some 43, (.len 1), [.tmp 42], none⟩,
            ⟨some 44, (.call 24), [.tmp 41, .tmp 43], none⟩,
            ⟨some 7, .mv, [.tmp 44], none⟩])
          (.seq (.seq (.run [0, 3, 7, 46, 47] [⟨some 45, .mv, [.tmp 7], none⟩,
              ⟨some 46, (.len 1), [.tmp 45], none⟩,
              ⟨some 47, .mv, [.const (.int .i64 0)], none⟩])
            (.block 2 (.loop [0, 3, 7, 46, 47] (.seq (.run [0, 3, 7, 46, 47, 48] [⟨some 48, (.bin .lss), [.tmp 47, .tmp 46], none⟩])
               (.seq (.cond (.tmp 48)
                 .skip
                 (.exit 2))
                (.seq (.block 3 (.seq (.run [0, 3, 7, 8, 46, 47] [⟨some 49, .mv, [.tmp 47], none⟩,
                     ⟨some 8, .mv, [.tmp 49], none⟩])
                   (.run [0, 3, 7, 46, 47] [⟨some 50, .mv, [.tmp 7], none⟩,
                     ⟨some 51, .mv, [.tmp 8], none⟩,
                     ⟨some 52, (.iaddr 1), [.tmp 50, .tmp 51], none⟩,
                     ⟨some 53, (.ld false 1), [.tmp 52], none⟩,
                     ⟨some 54, (.bin .xor), [.tmp 53, .const (.int .u8 255)], none⟩,
                     ⟨some 55, (.iaddr 1), [.tmp 50, .tmp 51], none⟩,
                     ⟨none, (.st 1), [.tmp 55, .tmp 54], none⟩])))
                 (.run [0, 3, 7, 46, 47] [⟨some 56, (.bin .add), [.tmp 47, .const (.int .i64 1)], none⟩,
                   ⟨some 47, .mv, [.tmp 56], none⟩])))))))
           (.seq (.runD [2] [⟨0, ⟨some 57, (.call 30), [], none⟩, []⟩,
              ⟨1, ⟨some 58, .mv, [.tmp 57], none⟩, []⟩,
              ⟨2, ⟨some 59, .mv, [.tmp 3], some (58, true)⟩, []⟩,
              ⟨3, ⟨some 60, .mv, [.tmp 0], some (58, true)⟩, []⟩,
              ⟨4, ⟨some 61, (.len 1), [.tmp 60], some (58, true)⟩, []⟩,
              ⟨7, ⟨some 64, .mv, [.tmp 0], some (58, true)⟩, []⟩,
              ⟨8, ⟨some 65, .cvb, [.tmp 64], some (58, true)⟩, []⟩,
              ⟨5, ⟨some 62, (.call 24), [.tmp 59, .tmp 61], some (58, true)⟩, [8]⟩,
              ⟨6, ⟨some 63, .cvb, [.tmp 62], some (58, true)⟩, []⟩,
              ⟨9, ⟨some 66, (.eqg false 6), [.tmp 63, .tmp 65], some (58, true)⟩, []⟩,
              ⟨10, ⟨some 67, .pick, [.tmp 58, .tmp 66, .const (.bool false)], none⟩, []⟩,
              ⟨11, ⟨some 2, .mv, [.tmp 67], none⟩, []⟩])
            .ret))))))))))⟩

theorem f10_ok : compF Go.Proofs.Try.prog 10 f10.body.hints = some f10 := by kernel_rfl


def f11 : AFun := ⟨94, 3, [.slot 6],
  (.seq (.run [0, 1, 2] [⟨some 6, .mv, [.const (.bool false)], none⟩])
   (.seq (.run [0, 1, 2, 7, 8] [⟨some 11, .mv, [.tmp 0], none⟩,
      ⟨some 12, (.call 31), [.tmp 11], none⟩,
      ⟨some 10, .mv, [.tmp 12], none⟩,
      ⟨some 13, (.ext 0), [.tmp 10], none⟩,
      ⟨some 14, (.ext 1), [.tmp 10], none⟩,
      ⟨some 7, .mv, [.tmp 13], none⟩,
      ⟨some 8, .mv, [.tmp 14], none⟩])
    (.seq (.seq (.run [0, 1, 2, 7, 8, 20] [⟨some 15, .mv, [.tmp 8], none⟩,
        ⟨some 16, (.eqg true 6), [.tmp 15, .const (.int .i64 0)], none⟩,
        ⟨some 17, .mv, [.tmp 16], none⟩,
        ⟨some 18, .mv, [.tmp 7], some (17, false)⟩,
        ⟨some 19, (.eqg false 1), [.tmp 18, .const (.pointer none)], some (17, false)⟩,
        ⟨some 20, .pick, [.tmp 17, .const (.bool true), .tmp 19], none⟩])
      (.cond (.tmp 20)
       (.seq (.run [6] [⟨some 21, (.call 30), [], none⟩,
          ⟨some 22, .mv, [.tmp 21], none⟩,
          ⟨some 23, .mv, [.tmp 8], some (22, true)⟩,
          ⟨some 24, (.eqg true 6), [.tmp 23, .const (.int .i64 0)], some (22, true)⟩,
          ⟨some 25, .pick, [.tmp 22, .tmp 24, .const (.bool false)], none⟩,
          ⟨some 6, .mv, [.tmp 25], none⟩])
        .ret)
       .skip))
     (.seq (.run [0, 1, 2, 7, 9] [⟨some 26, .mv, [.tmp 7], none⟩,
        ⟨some 27, .mv, [.tmp 1], none⟩,
        ⟨some 28, (.call 23), [.tmp 26, .tmp 27], none⟩,
        ⟨some 9, .mv, [.tmp 28], none⟩])
      (.seq (.seq (.run [0, 2, 7, 9, 54] [⟨some 29, .mv, [.tmp 9], none⟩,
          ⟨some 30, .mv, [.tmp 1], none⟩,
          ⟨some 31, (.len 1), [.tmp 30], none⟩,
          ⟨some 32, .mv, [.tmp 0], none⟩,
          ⟨some 33, .min, [.tmp 31, .tmp 32], none⟩,
          ⟨some 34, (.eqg true 6), [.tmp 29, .tmp 33], none⟩,
          ⟨some 35, .mv, [.tmp 34], none⟩,
          ⟨some 36, .mv, [.tmp 7], some (35, false)⟩,
          ⟨some 37, (.call 26), [.tmp 36], some (35, false)⟩,
          ⟨some 38, .mv, [.tmp 9], some (35, false)⟩,
          ⟨some 39, (.eqg true 6), [.tmp 37, .tmp 38], some (35, false)⟩,
          ⟨some 40, .pick, [.tmp 35, .const (.bool true), .tmp 39], none⟩,
          ⟨some 41, .mv, [.tmp 40], none⟩,
          ⟨some 42, .mv, [.tmp 7], some (41, false)⟩,
          ⟨some 43, (.call 27), [.tmp 42], some (41, false)⟩,
          ⟨some 44, .mv, [.tmp 0], some (41, false)⟩,
          ⟨some 45, .mv, [.tmp 9], some (41, false)⟩,
          ⟨some 46, (.bin .sub), [.tmp 44, .tmp 45], some (41, false)⟩,
          ⟨some 47, (.eqg true 6), [.tmp 43, .tmp 46], some (41, false)⟩,
          ⟨some 48, .pick, [.tmp 41, .const (.bool true), .tmp 47], none⟩,
          ⟨some 49, .mv, [.tmp 48], none⟩,
          ⟨some 50, .mv, [.tmp 7], some (49, false)⟩,
          ⟨some 51, (.call 28), [.tmp 50], some (49, false)⟩,
          ⟨some 52, .mv, [.tmp 0], some (49, false)⟩,
          ⟨some 53, (.eqg true 6), [.tmp 51, .tmp 52], some (49, false)⟩,
          ⟨some 54, .pick, [.tmp 49, .const (.bool true), .tmp 53], none⟩])
        (.cond (.tmp 54)
         (.seq (.run [6] [⟨some 6, .mv, [.const (.bool false)], none⟩])
          .ret)
         .skip))
       (.seq (.run [0, 2, 7, 8, 9] [⟨some 55, .mv, [.tmp 7], none⟩,
          ⟨some 56, .mv, [.tmp 2], none⟩,
          ⟨some 57, (.call 25), [.tmp 55, .tmp 56], none⟩,
          ⟨some 8, .mv, [.tmp 57], none⟩])
        (.seq (.seq (.run [0, 2, 7, 8, 9, 67] [⟨some 58, .mv, [.tmp 8], none⟩,
            ⟨some 59, (.eqg false 6), [.tmp 58, .const (.int .i64 0)], none⟩,
            ⟨some 60, .mv, [.tmp 2], none⟩,
            ⟨some 61, (.bin .geq), [.tmp 60, .const (.int .i64 0)], none⟩,
            ⟨some 62, .mv, [.tmp 61], none⟩,
            ⟨some 63, .mv, [.tmp 2], some (62, true)⟩,
            ⟨some 64, .mv, [.tmp 9], some (62, true)⟩,
            ⟨some 65, (.bin .leq), [.tmp 63, .tmp 64], some (62, true)⟩,
            ⟨some 66, .pick, [.tmp 62, .tmp 65, .const (.bool false)], none⟩,
            ⟨some 67, (.eqg true 0), [.tmp 59, .tmp 66], none⟩])
          (.cond (.tmp 67)
           (.seq (.run [6] [⟨some 6, .mv, [.const (.bool false)], none⟩])
            .ret)
           .skip))
         (.seq (.seq (.run [0, 2, 7, 9, 69] [⟨some 68, .mv, [.tmp 8], none⟩,
             ⟨some 69, (.eqg false 6), [.tmp 68, .const (.int .i64 0)], none⟩])
           (.cond (.tmp 69)
            (.run [0, 7, 9] [⟨some 70, .mv, [.tmp 9], none⟩,
              ⟨some 71, .mv, [.tmp 2], none⟩,
              ⟨some 72, (.bin .sub), [.tmp 70, .tmp 71], none⟩,
              ⟨some 9, .mv, [.tmp 72], none⟩])
            .skip))
          (.seq (.run [6] [⟨some 73, (.call 30), [], none⟩,
             ⟨some 74, .mv, [.tmp 73], none⟩,
             ⟨some 75, .mv, [.tmp 7], some (74, true)⟩,
             ⟨some 76, (.call 26), [.tmp 75], some (74, true)⟩,
             ⟨some 77, .mv, [.tmp 9], some (74, true)⟩,
             ⟨some 78, (.eqg false 6), [.tmp 76, .tmp 77], some (74, true)⟩,
             ⟨some 79, .pick, [.tmp 74, .tmp 78, .const (.bool false)], none⟩,
             ⟨some 80, .mv, [.tmp 79], none⟩,
             ⟨some 81, .mv, [.tmp 7], some (80, true)⟩,
             ⟨some 82, (.call 27), [.tmp 81], some (80, true)⟩,
             ⟨some 83, .mv, [.tmp 0], some (80, true)⟩,
             ⟨some 84, .mv, [.tmp 9], some (80, true)⟩,
             ⟨some 85, (.bin .sub), [.tmp 83, .tmp 84], some (80, true)⟩,
             ⟨some 86, (.eqg false 6), [.tmp 82, .tmp 85], some (80, true)⟩,
             ⟨some 87, .pick, [.tmp 80, .tmp 86, .const (.bool false)], none⟩,
             ⟨some 88, .mv, [.tmp 87], none⟩,
             ⟨some 89, .mv, [.tmp 7], some (88, true)⟩,
             ⟨some 90, (.call 28), [.tmp 89], some (88, true)⟩,
             ⟨some 91, .mv, [.tmp 0], some (88, true)⟩,
             ⟨some 92, (.eqg false 6), [.tmp 90, .tmp 91], some (88, true)⟩,
             ⟨some 93, .pick, [.tmp 88, .tmp 92, .const (.bool false)], none⟩,
             ⟨some 6, .mv, [.tmp 93], none⟩])
           .ret)))))))))⟩

theorem f11_ok : compF Go.Proofs.Try.prog 11 f11.body.hints = some f11 := by kernel_rfl


def f12 : AFun := ⟨96, 3, [.slot 6],
  (.seq (.run [0, 1, 2] [⟨some 6, .mv, [.const (.bool false)], none⟩])
   (.seq (.run [0, 1, 2, 7, 8] [⟨some 13, (.call 31), [.const (.int .i64 65536)], none⟩,
      ⟨some 12, .mv, [.tmp 13], none⟩,
      ⟨some 14, (.ext 0), [.tmp 12], none⟩,
      ⟨some 15, (.ext 1), [.tmp 12], none⟩,
      ⟨some 7, .mv, [.tmp 14], none⟩,
      ⟨some 8, .mv, [.tmp 15], none⟩])
    (.seq (.seq (.run [0, 1, 2, 7, 8, 26] [⟨some 16, .mv, [.tmp 8], none⟩,
        ⟨some 17, (.eqg true 6), [.tmp 16, .const (.int .i64 0)], none⟩,
        ⟨some 18, .mv, [.tmp 17], none⟩,
        ⟨some 19, .mv, [.tmp 7], some (18, false)⟩,
        ⟨some 20, (.eqg false 1), [.tmp 19, .const (.pointer none)], some (18, false)⟩,
        ⟨some 21, .pick, [.tmp 18, .const (.bool true), .tmp 20], none⟩,
        ⟨some 22, .mv, [.tmp 21], none⟩,
        ⟨some 23, .mv, [.tmp 0], some (22, false)⟩,
        ⟨some 24, (.len 1), [.tmp 23], some (22, false)⟩,
        ⟨some 25, (.bin .gtr), [.tmp 24, .const (.int .i64 65536)], some (22, false)⟩,
        ⟨some 26, .pick, [.tmp 22, .const (.bool true), .tmp 25], none⟩])
      (.cond (.tmp 26)
       (.seq (.run [6] [⟨some 27, (.call 30), [], none⟩,
          ⟨some 28, .mv, [.tmp 27], none⟩,
          ⟨some 29, .mv, [.tmp 8], some (28, true)⟩,
          ⟨some 30, (.eqg false 6), [.tmp 29, .const (.int .i64 0)], some (28, true)⟩,
          ⟨some 31, .pick, [.tmp 28, .tmp 30, .const (.bool false)], none⟩,
          ⟨some 32, .mv, [.tmp 31], none⟩,
          ⟨some 33, .mv, [.tmp 7], some (32, true)⟩,
          ⟨some 34, (.eqg true 1), [.tmp 33, .const (.pointer none)], some (32, true)⟩,
          ⟨some 35, .pick, [.tmp 32, .tmp 34, .const (.bool false)], none⟩,
          ⟨some 6, .mv, [.tmp 35], none⟩])
        .ret)
       .skip))
     (.seq (.run [0, 1, 2, 7] [⟨some 36, .mv, [.tmp 7], none⟩,
        ⟨some 37, .mv, [.tmp 0], none⟩,
        ⟨some 38, (.call 23), [.tmp 36, .tmp 37], none⟩])
      (.seq (.run [0, 1, 2, 7, 9] [⟨some 39, .mv, [.tmp 1], none⟩,
         ⟨some 40, .mv, [.tmp 2], none⟩,
         ⟨some 41, .min, [.tmp 39, .tmp 40], none⟩,
         ⟨some 42, (.cvi .i64), [.tmp 41], none⟩,
         ⟨some 9, .mv, [.tmp 42], none⟩])
       (.seq (.run [0, 7, 9, 10, 11] [⟨some 43, .mv, [.tmp 7], none⟩,
          ⟨some 44, .mv, [.tmp 9], none⟩,
          ⟨some 45, (.call 24), [.tmp 43, .tmp 44], none⟩,
          ⟨some 46, .mv, [.tmp 7], none⟩,
          ⟨some 47, .mv, [.tmp 1], none⟩,
          ⟨some 48, .mv, [.tmp 2], none⟩,
          ⟨some 49, .max, [.tmp 47, .tmp 48], none⟩,
          ⟨some 50, (.cvi .i64), [.tmp 49], none⟩,
          ⟨some 51, (.call 24), [.tmp 46, .tmp 50], none⟩,
          ⟨some 10, .mv, [.tmp 45], none⟩,
          ⟨some 11, .mv, [.tmp 51], none⟩])
        (.seq (.runD [6] [⟨0, ⟨some 52, (.call 30), [], none⟩, []⟩,
           ⟨1, ⟨some 53, .mv, [.tmp 52], none⟩, []⟩,
           ⟨2, ⟨some 54, .mv, [.tmp 10], some (53, true)⟩, []⟩,
           ⟨3, ⟨some 55, (.len 1), [.tmp 54], some (53, true)⟩, []⟩,
           ⟨4, ⟨some 56, .mv, [.tmp 9], some (53, true)⟩, []⟩,
           ⟨5, ⟨some 57, .mv, [.tmp 0], some (53, true)⟩, []⟩,
           ⟨6, ⟨some 58, (.len 1), [.tmp 57], some (53, true)⟩, []⟩,
           ⟨7, ⟨some 59, .min, [.tmp 56, .tmp 58], some (53, true)⟩, []⟩,
           ⟨8, ⟨some 60, (.eqg false 6), [.tmp 55, .tmp 59], some (53, true)⟩, []⟩,
           ⟨9, ⟨some 61, .pick, [.tmp 53, .tmp 60, .const (.bool false)], none⟩, []⟩,
           ⟨10, ⟨some 62, .mv, [.tmp 61], none⟩, []⟩,
           ⟨11, ⟨some 63, .mv, [.tmp 11], some (62, true)⟩, []⟩,
           ⟨12, ⟨some 64, (.len 1), [.tmp 63], some (62, true)⟩, []⟩,
           ⟨13, ⟨some 65, .mv, [.tmp 10], some (62, true)⟩, []⟩,
           ⟨14, ⟨some 66, (.len 1), [.tmp 65], some (62, true)⟩, []⟩,
           ⟨15, ⟨some 67, (.bin .geq), [.tmp 64, .tmp 66], some (62, true)⟩, []⟩,
           ⟨16, ⟨some 68, .pick, [.tmp 62, .tmp 67, .const (.bool false)], none⟩, []⟩,
           ⟨17, ⟨some 69, .mv, [.tmp 68], none⟩, []⟩,
           ⟨18, ⟨some 70, .mv, [.tmp 11], some (69, true)⟩, []⟩,
           ⟨19, ⟨some 71, .mv, [.tmp 10], some (69, true)⟩, []⟩,
           ⟨20, ⟨some 72, (.len 1), [.tmp 71], some (69, true)⟩, []⟩,
           ⟨21, ⟨some 73, (.slc 1 false true), [.tmp 70, .tmp 72], some (69, true)⟩, []⟩,
           ⟨22, ⟨some 74, .cvb, [.tmp 73], some (69, true)⟩, []⟩,
           ⟨23, ⟨some 75, .mv, [.tmp 10], some (69, true)⟩, []⟩,
           ⟨24, ⟨some 76, .cvb, [.tmp 75], some (69, true)⟩, []⟩,
           ⟨25, ⟨some 77, (.eqg false 6), [.tmp 74, .tmp 76], some (69, true)⟩, []⟩,
           ⟨26, ⟨some 78, .pick, [.tmp 69, .tmp 77, .const (.bool false)], none⟩, []⟩,
           ⟨27, ⟨some 79, .mv, [.tmp 78], none⟩, []⟩,
           ⟨28, ⟨some 80, .mv, [.tmp 7], some (79, true)⟩, []⟩,
           ⟨30, ⟨some 82, .mv, [.tmp 0], some (79, true)⟩, []⟩,
           ⟨31, ⟨some 83, (.len 1), [.tmp 82], some (79, true)⟩, []⟩,
           ⟨29, ⟨some 81, (.call 26), [.tmp 80], some (79, true)⟩, []⟩,
           ⟨32, ⟨some 84, (.eqg false 6), [.tmp 81, .tmp 83], some (79, true)⟩, []⟩,
           ⟨33, ⟨some 85, .pick, [.tmp 79, .tmp 84, .const (.bool false)], none⟩, []⟩,
           ⟨34, ⟨some 86, .mv, [.tmp 85], none⟩, []⟩,
           ⟨35, ⟨some 87, .mv, [.tmp 7], some (86, true)⟩, []⟩,
           ⟨36, ⟨some 88, .mv, [.tmp 0], some (86, true)⟩, []⟩,
           ⟨37, ⟨some 89, (.len 1), [.tmp 88], some (86, true)⟩, []⟩,
           ⟨40, ⟨some 92, .mv, [.tmp 0], some (86, true)⟩, []⟩,
           ⟨41, ⟨some 93, .cvb, [.tmp 92], some (86, true)⟩, []⟩,
           ⟨38, ⟨some 90, (.call 24), [.tmp 87, .tmp 89], some (86, true)⟩, [41]⟩,
           ⟨39, ⟨some 91, .cvb, [.tmp 90], some (86, true)⟩, []⟩,
           ⟨42, ⟨some 94, (.eqg false 6), [.tmp 91, .tmp 93], some (86, true)⟩, []⟩,
           ⟨43, ⟨some 95, .pick, [.tmp 86, .tmp 94, .const (.bool false)], none⟩, []⟩,
           ⟨44, ⟨some 6, .mv, [.tmp 95], none⟩, []⟩])
         .ret)))))))⟩

theorem f12_ok : compF Go.Proofs.Try.prog 12 f12.body.hints = some f12 := by kernel_rfl


def f13 : AFun := ⟨138, 3, [.slot 6],
  (.seq (.run [0, 1, 2] [⟨some 6, .mv, [.const (.bool false)], none⟩])
   (.seq (.run [0, 1, 2, 7] [⟨some 7, .mv, [.const (.pointer none)], none⟩])
    (.seq (.run [0, 1, 2, 7] [⟨some 18, .mv, [.tmp 7], none⟩,
       ⟨some 19, (.bslice 1 1 [(.int .i64 0)] [(0, 1)]), [.const (.int .i64 1)], none⟩,
       ⟨some 20, (.call 21), [.tmp 18, .tmp 19], none⟩])
     (.seq (.seq (.run [0, 1, 2, 7, 8, 9] [⟨some 22, .mv, [.tmp 7], none⟩,
         ⟨some 23, (.call 18), [.tmp 22, .const (.slice none 0 0)], none⟩,
         ⟨some 21, .mv, [.tmp 23], none⟩,
         ⟨some 24, (.ext 0), [.tmp 21], none⟩,
         ⟨some 25, (.ext 1), [.tmp 21], none⟩,
         ⟨some 8, .mv, [.tmp 24], none⟩,
         ⟨some 9, .mv, [.tmp 25], none⟩])
       (.seq (.run [0, 1, 2, 47] [⟨some 26, .mv, [.tmp 8], none⟩,
          ⟨some 27, (.eqg true 6), [.tmp 26, .const (.int .i64 0)], none⟩,
          ⟨some 28, .mv, [.tmp 27], none⟩,
          ⟨some 29, .mv, [.tmp 9], some (28, false)⟩,
          ⟨some 30, (.eqg true 6), [.tmp 29, .const (.int .i64 1)], some (28, false)⟩,
          ⟨some 31, .pick, [.tmp 28, .const (.bool true), .tmp 30], none⟩,
          ⟨some 32, .mv, [.tmp 31], none⟩,
          ⟨some 33, .mv, [.tmp 7], some (32, false)⟩,
          ⟨some 34, (.call 19), [.tmp 33], some (32, false)⟩,
          ⟨some 35, (.len 1), [.tmp 34], some (32, false)⟩,
          ⟨some 36, (.eqg true 6), [.tmp 35, .const (.int .i64 0)], some (32, false)⟩,
          ⟨some 37, .pick, [.tmp 32, .const (.bool true), .tmp 36], none⟩,
          ⟨some 38, .mv, [.tmp 37], none⟩,
          ⟨some 39, .mv, [.tmp 7], some (38, false)⟩,
          ⟨some 40, (.call 20), [.tmp 39], some (38, false)⟩,
          ⟨some 41, (.eqg true 6), [.tmp 40, .const (.int .i64 0)], some (38, false)⟩,
          ⟨some 42, .pick, [.tmp 38, .const (.bool true), .tmp 41], none⟩,
          ⟨some 43, .mv, [.tmp 42], none⟩,
          ⟨some 44, .mv, [.tmp 7], some (43, false)⟩,
          ⟨some 45, (.call 22), [.tmp 44], some (43, false)⟩,
          ⟨some 46, (.eqg true 6), [.tmp 45, .const (.int .i64 0)], some (43, false)⟩,
          ⟨some 47, .pick, [.tmp 43, .const (.bool true), .tmp 46], none⟩])
        (.cond (.tmp 47)
         (.seq (.run [6] [⟨some 6, .mv, [.const (.bool false)], none⟩])
          .ret)
         .skip)))
      (.seq (.seq (.run [0, 1, 2, 55] [⟨some 48, .mv, [.tmp 0], none⟩,
          ⟨some 49, .mv, [.tmp 1], none⟩,
          ⟨some 50, (.call 15), [.tmp 48, .tmp 49], none⟩,
          ⟨some 51, .mv, [.tmp 50], none⟩,
          ⟨some 52, .mv, [.tmp 2], some (51, false)⟩,
          ⟨some 53, (.len 1), [.tmp 52], some (51, false)⟩,
          ⟨some 54, (.bin .gtr), [.tmp 53, .const (.int .i64 300)], some (51, false)⟩,
          ⟨some 55, .pick, [.tmp 51, .const (.bool true), .tmp 54], none⟩])
        (.cond (.tmp 55)
         (.seq (.run [6] [⟨some 56, (.call 16), [], none⟩,
            ⟨some 6, .mv, [.tmp 56], none⟩])
          .ret)
         .skip))
       (.seq (.run [1, 2, 10, 11] [⟨some 57, .mv, [.tmp 0], none⟩,
          ⟨some 58, (.call 17), [.tmp 57], none⟩,
          ⟨some 59, .mv, [.tmp 0], none⟩,
          ⟨some 60, (.call 36), [.tmp 59], none⟩,
          ⟨some 10, .mv, [.tmp 58], none⟩,
          ⟨some 11, .mv, [.tmp 60], none⟩])
        (.seq (.seq (.run [1, 2, 10, 11, 62] [⟨some 61, .mv, [.tmp 10], none⟩,
            ⟨some 62, (.eqg false 1), [.tmp 61, .const (.pointer none)], none⟩])
          (.cond (.tmp 62)
           (.seq (.run [6] [⟨some 6, .mv, [.const (.bool false)], none⟩])
            .ret)
           .skip))
         (.seq (.seq (.run [1, 2, 10, 11, 63, 64, 65] [⟨some 63, .mv, [.tmp 1], none⟩,
             ⟨some 64, (.len 1), [.tmp 63], none⟩,
             ⟨some 65, .mv, [.const (.int .i64 0)], none⟩])
           (.block 0 (.loop [1, 2, 10, 11, 63, 64, 65] (.seq (.run [1, 2, 10, 11, 63, 64, 65, 66] [⟨some 66, (.bin .lss), [.tmp 65, .tmp 64], none⟩])
              (.seq (.cond (.tmp 66)
                .skip
                (.exit 0))
               (.seq (.block 1 (.seq (.run [1, 2, 10, 11, 12, 13, 63, 64, 65] [⟨some 67, .mv, [.tmp 65], none⟩,
                    ⟨some 68, (.iaddr 1), [.tmp 63, .tmp 65], none⟩,
                    ⟨some 69, (.ld false 1), [.tmp 68], none⟩,
                    ⟨some 12, .mv, [.tmp 67], none⟩,
                    ⟨some 13, .mv, [.tmp 69], none⟩])
                  (.seq (.seq (.run [1, 2, 10, 11, 13, 63, 64, 65, 74] [⟨some 70, .mv, [.tmp 12], none⟩,
                      ⟨some 71, .mv, [.tmp 1], none⟩,
                      ⟨some 72, (.len 1), [.tmp 71], none⟩,
                      ⟨some 73, (.bin .quo), [.tmp 72, .const (.int .i64 2)], none⟩,
                      ⟨some 74, (.eqg false 6), [.tmp 70, .tmp 73], none⟩])
                    (.cond (.tmp 74)
                     (.seq (.run [1, 2, 10, 11, 13, 63, 64, 65] [⟨some 75, .mv, [.tmp 10], none⟩,
                        ⟨some 76, .mv, [.tmp 2], none⟩,
                        ⟨some 77, (.call 21), [.tmp 75, .tmp 76], none⟩])
                      (.run [1, 2, 10, 11, 13, 63, 64, 65] [⟨some 78, .mv, [.tmp 11], none⟩,
                        ⟨some 79, .mv, [.tmp 2], none⟩,
                        ⟨some 80, (.call 37), [.tmp 78, .tmp 79], none⟩]))
                     .skip))
                   (.seq (.run [1, 2, 10, 11, 13, 14, 15, 63, 64, 65] [⟨some 82, .mv, [.tmp 10], none⟩,
                      ⟨some 83, .mv, [.tmp 13], none⟩,
                      ⟨some 84, (.call 18), [.tmp 82, .tmp 83], none⟩,
                      ⟨some 81, .mv, [.tmp 84], none⟩,
                      ⟨some 85, (.ext 0), [.tmp 81], none⟩,
                      ⟨some 86, (.ext 1), [.tmp 81], none⟩,
                      ⟨some 14, .mv, [.tmp 85], none⟩,
                      ⟨some 15, .mv, [.tmp 86], none⟩])
                    (.seq (.run [1, 2, 10, 11, 14, 15, 16, 17, 63, 64, 65] [⟨some 88, .mv, [.tmp 11], none⟩,
                       ⟨some 89, .mv, [.tmp 13], none⟩,
                       ⟨some 90, (.call 38), [.tmp 88, .tmp 89], none⟩,
                       ⟨some 87, .mv, [.tmp 90], none⟩,
                       ⟨some 91, (.ext 0), [.tmp 87], none⟩,
                       ⟨some 92, (.ext 1), [.tmp 87], none⟩,
                       ⟨some 16, .mv, [.tmp 91], none⟩,
                       ⟨some 17, .mv, [.tmp 92], none⟩])
                     (.seq (.runD [1, 2, 10, 11, 63, 64, 65, 135] [⟨0, ⟨some 93, .mv, [.tmp 14], none⟩, []⟩,
                        ⟨1, ⟨some 94, .mv, [.tmp 16], none⟩, []⟩,
                        ⟨2, ⟨some 95, (.eqg true 6), [.tmp 93, .tmp 94], none⟩, []⟩,
                        ⟨3, ⟨some 96, .mv, [.tmp 95], none⟩, []⟩,
                        ⟨4, ⟨some 97, .mv, [.tmp 15], some (96, false)⟩, []⟩,
                        ⟨5, ⟨some 98, .mv, [.tmp 17], some (96, false)⟩, []⟩,
                        ⟨6, ⟨some 99, (.eqg true 6), [.tmp 97, .tmp 98], some (96, false)⟩, []⟩,
                        ⟨7, ⟨some 100, .pick, [.tmp 96, .const (.bool true), .tmp 99], none⟩, []⟩,
                        ⟨8, ⟨some 101, .mv, [.tmp 100], none⟩, []⟩,
                        ⟨9, ⟨some 102, .mv, [.tmp 10], some (101, false)⟩, []⟩,
                        ⟨12, ⟨some 105, .mv, [.tmp 11], some (101, false)⟩, []⟩,
                        ⟨13, ⟨some 106, .nilck, [.tmp 105], some (101, false)⟩, []⟩,
                        ⟨14, ⟨some 107, (.faddr 1), [.tmp 106], some (101, false)⟩, []⟩,
                        ⟨15, ⟨some 108, (.ld false 1), [.tmp 107], some (101, false)⟩, []⟩,
                        ⟨16, ⟨some 109, .cvb, [.tmp 108], some (101, false)⟩, []⟩,
                        ⟨10, ⟨some 103, (.call 19), [.tmp 102], some (101, false)⟩, [15, 16]⟩,
                        ⟨11, ⟨some 104, .cvb, [.tmp 103], some (101, false)⟩, []⟩,
                        ⟨17, ⟨some 110, (.eqg true 6), [.tmp 104, .tmp 109], some (101, false)⟩, []⟩,
                        ⟨18, ⟨some 111, .pick, [.tmp 101, .const (.bool true), .tmp 110], none⟩, []⟩,
                        ⟨19, ⟨some 112, .mv, [.tmp 111], none⟩, []⟩,
                        ⟨20, ⟨some 113, .mv, [.tmp 10], some (112, false)⟩, []⟩,
                        ⟨22, ⟨some 115, .mv, [.tmp 11], some (112, false)⟩, []⟩,
                        ⟨23, ⟨some 116, .nilck, [.tmp 115], some (112, false)⟩, []⟩,
                        ⟨24, ⟨some 117, (.faddr 2), [.tmp 116], some (112, false)⟩, []⟩,
                        ⟨25, ⟨some 118, (.ld false 1), [.tmp 117], some (112, false)⟩, []⟩,
                        ⟨21, ⟨some 114, (.call 20), [.tmp 113], some (112, false)⟩, [25]⟩,
                        ⟨26, ⟨some 119, (.eqg true 6), [.tmp 114, .tmp 118], some (112, false)⟩, []⟩,
                        ⟨27, ⟨some 120, .pick, [.tmp 112, .const (.bool true), .tmp 119], none⟩, []⟩,
                        ⟨28, ⟨some 121, .mv, [.tmp 120], none⟩, []⟩,
                        ⟨29, ⟨some 122, .mv, [.tmp 10], some (121, false)⟩, []⟩,
                        ⟨31, ⟨some 124, .mv, [.tmp 11], some (121, false)⟩, []⟩,
                        ⟨32, ⟨some 125, .nilck, [.tmp 124], some (121, false)⟩, []⟩,
                        ⟨33, ⟨some 126, (.faddr 0), [.tmp 125], some (121, false)⟩, []⟩,
                        ⟨34, ⟨some 127, (.ld false 1), [.tmp 126], some (121, false)⟩, []⟩,
                        ⟨35, ⟨some 128, (.len 1), [.tmp 127], some (121, false)⟩, []⟩,
                        ⟨36, ⟨some 129, .mv, [.tmp 11], some (121, false)⟩, []⟩,
                        ⟨37, ⟨some 130, .nilck, [.tmp 129], some (121, false)⟩, []⟩,
                        ⟨38, ⟨some 131, (.faddr 2), [.tmp 130], some (121, false)⟩, []⟩,
                        ⟨39, ⟨some 132, (.ld false 1), [.tmp 131], some (121, false)⟩, []⟩,
                        ⟨40, ⟨some 133, (.bin .sub), [.tmp 128, .tmp 132], some (121, false)⟩, []⟩,
                        ⟨30, ⟨some 123, (.call 22), [.tmp 122], some (121, false)⟩, [34, 39]⟩,
                        ⟨41, ⟨some 134, (.eqg true 6), [.tmp 123, .tmp 133], some (121, false)⟩, []⟩,
                        ⟨42, ⟨some 135, .pick, [.tmp 121, .const (.bool true), .tmp 134], none⟩, []⟩])
                      (.cond (.tmp 135)
                       (.seq (.run [6] [⟨some 6, .mv, [.const (.bool false)], none⟩])
                        .ret)
                       .skip)))))))
                (.run [1, 2, 10, 11, 63, 64, 65] [⟨some 136, (.bin .add), [.tmp 65, .const (.int .i64 1)], none⟩,
                  ⟨some 65, .mv, [.tmp 136], none⟩])))))))
          (.seq (.run [6] [⟨some 137, (.call 16), [], none⟩,
             ⟨some 6, .mv, [.tmp 137], none⟩])
           .ret)))))))))⟩

theorem f13_ok : compF Go.Proofs.Try.prog 13 f13.body.hints = some f13 := by kernel_rfl


def f14 : AFun := ⟨99, 3, [.slot 6],
  (.seq (.run [0, 1, 2] [⟨some 6, .mv, [.const (.bool false)], none⟩])
   (.seq (.seq (.run [0, 1, 2, 24] [⟨some 17, .mv, [.tmp 0], none⟩,
       ⟨some 18, .mv, [.tmp 2], none⟩,
       ⟨some 19, (.call 15), [.tmp 17, .tmp 18], none⟩,
       ⟨some 20, .mv, [.tmp 19], none⟩,
       ⟨some 21, .mv, [.tmp 1], some (20, false)⟩,
       ⟨some 22, (.len 1), [.tmp 21], some (20, false)⟩,
       ⟨some 23, (.bin .gtr), [.tmp 22, .const (.int .i64 300)], some (20, false)⟩,
       ⟨some 24, .pick, [.tmp 20, .const (.bool true), .tmp 23], none⟩])
     (.cond (.tmp 24)
      (.seq (.run [6] [⟨some 25, (.call 16), [], none⟩,
         ⟨some 6, .mv, [.tmp 25], none⟩])
       .ret)
      .skip))
    (.seq (.run [0, 1, 2, 7] [⟨some 26, (.bslice 1 0 [(.int .i64 0)] []), [], none⟩,
       ⟨some 27, .mv, [.tmp 0], none⟩,
       ⟨some 28, (.app 1 8), [.tmp 26, .tmp 27], none⟩,
       ⟨some 7, .mv, [.tmp 28], none⟩])
     (.seq (.run [1, 2, 7, 8, 9] [⟨some 29, .mv, [.tmp 7], none⟩,
        ⟨some 30, (.call 17), [.tmp 29], none⟩,
        ⟨some 31, (.bslice 1 0 [(.int .i64 0)] []), [], none⟩,
        ⟨some 32, .mv, [.tmp 0], none⟩,
        ⟨some 33, (.app 1 8), [.tmp 31, .tmp 32], none⟩,
        ⟨some 34, .mv, [.tmp 1], none⟩,
        ⟨some 35, (.app 1 8), [.tmp 33, .tmp 34], none⟩,
        ⟨some 36, (.call 17), [.tmp 35], none⟩,
        ⟨some 8, .mv, [.tmp 30], none⟩,
        ⟨some 9, .mv, [.tmp 36], none⟩])
      (.seq (.seq (.run [1, 2, 7, 8, 9, 42] [⟨some 37, .mv, [.tmp 8], none⟩,
          ⟨some 38, (.eqg false 1), [.tmp 37, .const (.pointer none)], none⟩,
          ⟨some 39, .mv, [.tmp 38], none⟩,
          ⟨some 40, .mv, [.tmp 9], some (39, false)⟩,
          ⟨some 41, (.eqg false 1), [.tmp 40, .const (.pointer none)], some (39, false)⟩,
          ⟨some 42, .pick, [.tmp 39, .const (.bool true), .tmp 41], none⟩])
        (.cond (.tmp 42)
         (.seq (.run [6] [⟨some 6, .mv, [.const (.bool false)], none⟩])
          .ret)
         .skip))
       (.seq (.run [2, 7, 8, 9] [⟨some 43, .mv, [.tmp 8], none⟩,
          ⟨some 44, .mv, [.tmp 1], none⟩,
          ⟨some 45, (.call 21), [.tmp 43, .tmp 44], none⟩])
        (.seq (.seq (.run [2, 7, 8, 9, 47, 48] [⟨some 46, .mv, [.tmp 7], none⟩,
            ⟨some 47, (.len 1), [.tmp 46], none⟩,
            ⟨some 48, .mv, [.const (.int .i64 0)], none⟩])
          (.block 0 (.loop [2, 7, 8, 9, 47, 48] (.seq (.run [2, 7, 8, 9, 47, 48, 49] [⟨some 49, (.bin .lss), [.tmp 48, .tmp 47], none⟩])
             (.seq (.cond (.tmp 49)
               .skip
               (.exit 0))
              (.seq (.block 1 (.seq (.run [2, 7, 8, 9, 10, 47, 48] [⟨some 50, .mv, [.tmp 48], none⟩,
                   ⟨some 10, .mv, [.tmp 50], none⟩])
                 (.run [2, 7, 8, 9, 47, 48] [⟨some 51, .mv, [.tmp 7], none⟩,
                   ⟨some 52, .mv, [.tmp 10], none⟩,
                   ⟨some 53, (.iaddr 1), [.tmp 51, .tmp 52], none⟩,
                   ⟨none, (.st 1), [.tmp 53, .const (.int .i64 (-1))], none⟩])))
               (.run [2, 7, 8, 9, 47, 48] [⟨some 54, (.bin .add), [.tmp 48, .const (.int .i64 1)], none⟩,
                 ⟨some 48, .mv, [.tmp 54], none⟩])))))))
         (.seq (.seq (.run [8, 9, 55, 56, 57] [⟨some 55, .mv, [.tmp 2], none⟩,
             ⟨some 56, (.len 1), [.tmp 55], none⟩,
             ⟨some 57, .mv, [.const (.int .i64 0)], none⟩])
           (.block 2 (.loop [8, 9, 55, 56, 57] (.seq (.run [8, 9, 55, 56, 57, 58] [⟨some 58, (.bin .lss), [.tmp 57, .tmp 56], none⟩])
              (.seq (.cond (.tmp 58)
                .skip
                (.exit 2))
               (.seq (.block 3 (.seq (.run [8, 9, 12, 55, 56, 57] [⟨some 59, (.iaddr 1), [.tmp 55, .tmp 57], none⟩,
                    ⟨some 60, (.ld false 1), [.tmp 59], none⟩,
                    ⟨some 12, .mv, [.tmp 60], none⟩])
                  (.seq (.run [8, 9, 12, 13, 14, 55, 56, 57] [⟨some 62, .mv, [.tmp 8], none⟩,
                     ⟨some 63, .mv, [.tmp 12], none⟩,
                     ⟨some 64, (.call 18), [.tmp 62, .tmp 63], none⟩,
                     ⟨some 61, .mv, [.tmp 64], none⟩,
                     ⟨some 65, (.ext 0), [.tmp 61], none⟩,
                     ⟨some 66, (.ext 1), [.tmp 61], none⟩,
                     ⟨some 13, .mv, [.tmp 65], none⟩,
                     ⟨some 14, .mv, [.tmp 66], none⟩])
                   (.seq (.run [8, 9, 13, 14, 15, 16, 55, 56, 57] [⟨some 68, .mv, [.tmp 9], none⟩,
                      ⟨some 69, .mv, [.tmp 12], none⟩,
                      ⟨some 70, (.call 18), [.tmp 68, .tmp 69], none⟩,
                      ⟨some 67, .mv, [.tmp 70], none⟩,
                      ⟨some 71, (.ext 0), [.tmp 67], none⟩,
                      ⟨some 72, (.ext 1), [.tmp 67], none⟩,
                      ⟨some 15, .mv, [.tmp 71], none⟩,
                      ⟨some 16, .mv, [.tmp 72], none⟩])
                    (.seq (.run [8, 9, 55, 56, 57, 80] [⟨some 73, .mv, [.tmp 13], none⟩,
                       ⟨some 74, .mv, [.tmp 15], none⟩,
                       ⟨some 75, (.eqg true 6), [.tmp 73, .tmp 74], none⟩,
                       ⟨some 76, .mv, [.tmp 75], none⟩,
                       ⟨some 77, .mv, [.tmp 14], some (76, false)⟩,
                       ⟨some 78, .mv, [.tmp 16], some (76, false)⟩,
                       ⟨some 79, (.eqg true 6), [.tmp 77, .tmp 78], some (76, false)⟩,
                       ⟨some 80, .pick, [.tmp 76, .const (.bool true), .tmp 79], none⟩])
                     (.cond (.tmp 80)
                      (.seq (.run [6] [⟨some 6, .mv, [.const (.bool false)], none⟩])
                       .ret)
                      .skip))))))
                (.run [8, 9, 55, 56, 57] [⟨some 81, (.bin .add), [.tmp 57, .const (.int .i64 1)], none⟩,
                  ⟨some 57, .mv, [.tmp 81], none⟩])))))))
          (.seq (.runD [6] [⟨0, ⟨some 82, (.call 16), [], none⟩, []⟩,
             ⟨1, ⟨some 83, .mv, [.tmp 82], none⟩, []⟩,
             ⟨2, ⟨some 84, .mv, [.tmp 8], some (83, true)⟩, []⟩,
             ⟨5, ⟨some 87, .mv, [.tmp 9], some (83, true)⟩, []⟩,
             ⟨3, ⟨some 85, (.call 19), [.tmp 84], some (83, true)⟩, []⟩,
             ⟨4, ⟨some 86, .cvb, [.tmp 85], some (83, true)⟩, []⟩,
             ⟨6, ⟨some 88, (.call 19), [.tmp 87], some (83, true)⟩, [4]⟩,
             ⟨7, ⟨some 89, .cvb, [.tmp 88], some (83, true)⟩, []⟩,
             ⟨8, ⟨some 90, (.eqg false 6), [.tmp 86, .tmp 89], some (83, true)⟩, []⟩,
             ⟨9, ⟨some 91, .pick, [.tmp 83, .tmp 90, .const (.bool false)], none⟩, []⟩,
             ⟨10, ⟨some 92, .mv, [.tmp 91], none⟩, []⟩,
             ⟨11, ⟨some 93, .mv, [.tmp 8], some (92, true)⟩, []⟩,
             ⟨13, ⟨some 95, .mv, [.tmp 9], some (92, true)⟩, []⟩,
             ⟨12, ⟨some 94, (.call 22), [.tmp 93], some (92, true)⟩, []⟩,
             ⟨14, ⟨some 96, (.call 22), [.tmp 95], some (92, true)⟩, []⟩,
             ⟨15, ⟨some 97, (.eqg false 6), [.tmp 94, .tmp 96], some (92, true)⟩, []⟩,
             ⟨16, ⟨some 98, .pick, [.tmp 92, .tmp 97, .const (.bool false)], none⟩, []⟩,
             ⟨17, ⟨some 6, .mv, [.tmp 98], none⟩, []⟩])
           .ret)))))))))⟩

theorem f14_ok : compF Go.Proofs.Try.prog 14 f14.body.hints = some f14 := by kernel_rfl


def f15 : AFun := ⟨31, 2, [.slot 4],
  (.seq (.run [0, 1] [⟨some 4, .mv, [.const (.bool false)], none⟩])
   (.seq (.run [0, 1, 5] [⟨some 5, .mv, [.const (.int .i64 0)], none⟩])
    (.seq (.seq (.run [0, 1, 5, 8, 9, 10] [⟨some 8, .mv, [.tmp 1], none⟩,
        ⟨some 9, (.len 1), [.tmp 8], none⟩,
        ⟨some 10, .mv, [.const (.int .i64 0)], none⟩])
      (.block 0 (.loop [0, 1, 5, 8, 9, 10] (.seq (.run [0, 1, 5, 8, 9, 10, 11] [⟨some 11, (.bin .lss), [.tmp 10, .tmp 9], none⟩])
         (.seq (.cond (.tmp 11)
           .skip
           (.exit 0))
          (.seq (.block 1 (.seq (.run [0, 1, 5, 7, 8, 9, 10] [⟨some 12, (.iaddr 1), [.tmp 8, .tmp 10], none⟩,
               ⟨some 13, (.ld false 1), [.tmp 12], none⟩,
               ⟨some 7, .mv, [.tmp 13], none⟩])
             (.run [0, 1, 5, 8, 9, 10] [⟨some 14, .mv, [.tmp 5], none⟩,
               ⟨some 15, .mv, [.tmp 7], none⟩,
               ⟨some 16, (.len 1), [.tmp 15], none⟩,
               ⟨some 17, (.bin .add), [.tmp 14, .tmp 16], none⟩,
               ⟨some 5, .mv, [.tmp 17], none⟩])))
           (.run [0, 1, 5, 8, 9, 10] [⟨some 18, (.bin .add), [.tmp 10, .const (.int .i64 1)], none⟩,
             ⟨some 10, .mv, [.tmp 18], none⟩])))))))
     (.seq (.run [4] [⟨some 19, .mv, [.tmp 0], none⟩,
        ⟨some 20, (.len 1), [.tmp 19], none⟩,
        ⟨some 21, (.bin .gtr), [.tmp 20, .const (.int .i64 300)], none⟩,
        ⟨some 22, .mv, [.tmp 21], none⟩,
        ⟨some 23, .mv, [.tmp 1], some (22, false)⟩,
        ⟨some 24, (.len 1), [.tmp 23], some (22, false)⟩,
        ⟨some 25, (.bin .gtr), [.tmp 24, .const (.int .i64 300)], some (22, false)⟩,
        ⟨some 26, .pick, [.tmp 22, .const (.bool true), .tmp 25], none⟩,
        ⟨some 27, .mv, [.tmp 26], none⟩,
        ⟨some 28, .mv, [.tmp 5], some (27, false)⟩,
        ⟨some 29, (.bin .gtr), [.tmp 28, .const (.int .i64 20000)], some (27, false)⟩,
        ⟨some 30, .pick, [.tmp 27, .const (.bool true), .tmp 29], none⟩,
        ⟨some 4, .mv, [.tmp 30], none⟩])
      .ret))))⟩

theorem f15_ok : compF Go.Proofs.Try.prog 15 f15.body.hints = some f15 := by kernel_rfl


def f16 : AFun := ⟨67, 0, [.slot 0],
  (.seq (.run [] [⟨some 0, .mv, [.const (.bool false)], none⟩])
   (.seq (.run [1] [⟨some 10, (.bslice 1 3 [(.int .i64 0)] [(0, 1), (1, 1), (2, 1)]), [.const (.int .i64 2), .const (.int .i64 0), .const (.int .i64 (-1))], none⟩,
      ⟨some 11, (.call 17), [.tmp 10], none⟩,
      ⟨some 1, .mv, [.tmp 11], none⟩])
    (.seq (.seq (.run [1, 13] [⟨some 12, .mv, [.tmp 1], none⟩,
        ⟨some 13, (.eqg false 1), [.tmp 12, .const (.pointer none)], none⟩])
      (.cond (.tmp 13)
       (.seq (.run [0] [⟨some 0, .mv, [.const (.bool false)], none⟩])
        .ret)
       .skip))
     (.seq (.run [1, 2, 3] [⟨some 15, .mv, [.tmp 1], none⟩,
        ⟨some 16, (.bslice 1 3 [(.int .u8 0)] [(0, 1), (1, 1), (2, 1)]), [.const (.int .u8 97), .const (.int .u8 98), .const (.int .u8 99)], none⟩,
        ⟨some 17, .cvm, [.tmp 16], none⟩,
        ⟨some 18, (.call 18), [.tmp 15, .tmp 17], none⟩,
        ⟨some 14, .mv, [.tmp 18], none⟩,
        ⟨some 19, (.ext 0), [.tmp 14], none⟩,
        ⟨some 20, (.ext 1), [.tmp 14], none⟩,
        ⟨some 2, .mv, [.tmp 19], none⟩,
        ⟨some 3, .mv, [.tmp 20], none⟩])
      (.seq (.run [1, 2, 3, 4, 5] [⟨some 22, .mv, [.tmp 1], none⟩,
         ⟨some 23, (.bslice 1 3 [(.int .u8 0)] [(0, 1), (1, 1), (2, 1)]), [.const (.int .u8 97), .const (.int .u8 98), .const (.int .u8 99)], none⟩,
         ⟨some 24, .cvm, [.tmp 23], none⟩,
         ⟨some 25, (.call 18), [.tmp 22, .tmp 24], none⟩,
         ⟨some 21, .mv, [.tmp 25], none⟩,
         ⟨some 26, (.ext 0), [.tmp 21], none⟩,
         ⟨some 27, (.ext 1), [.tmp 21], none⟩,
         ⟨some 4, .mv, [.tmp 26], none⟩,
         ⟨some 5, .mv, [.tmp 27], none⟩])
       (.seq (.run [1, 2, 3, 4, 5, 7] [⟨some 29, .mv, [.tmp 1], none⟩,
          ⟨some 30, (.bslice 1 3 [(.int .u8 0)] [(0, 1), (1, 1), (2, 1)]), [.const (.int .u8 97), .const (.int .u8 98), .const (.int .u8 99)], none⟩,
          ⟨some 31, .cvm, [.tmp 30], none⟩,
          ⟨some 32, (.call 18), [.tmp 29, .tmp 31], none⟩,
          ⟨some 28, .mv, [.tmp 32], none⟩,
          ⟨some 33, (.ext 0), [.tmp 28], none⟩,
          ⟨some 34, (.ext 1), [.tmp 28], none⟩,
          ⟨some 6, .mv, [.tmp 33], none⟩,
          ⟨some 7, .mv, [.tmp 34], none⟩])
        (.seq (.run [1, 2, 3, 4, 5, 7, 9] [⟨some 36, .mv, [.tmp 1], none⟩,
           ⟨some 37, (.call 18), [.tmp 36, .const (.slice none 0 0)], none⟩,
           ⟨some 35, .mv, [.tmp 37], none⟩,
           ⟨some 38, (.ext 0), [.tmp 35], none⟩,
           ⟨some 39, (.ext 1), [.tmp 35], none⟩,
           ⟨some 8, .mv, [.tmp 38], none⟩,
           ⟨some 9, .mv, [.tmp 39], none⟩])
         (.seq (.run [0] [⟨some 40, .mv, [.tmp 2], none⟩,
            ⟨some 41, (.eqg false 6), [.tmp 40, .const (.int .i64 2)], none⟩,
            ⟨some 42, .mv, [.tmp 41], none⟩,
            ⟨some 43, .mv, [.tmp 3], some (42, true)⟩,
            ⟨some 44, (.eqg false 6), [.tmp 43, .const (.int .i64 0)], some (42, true)⟩,
            ⟨some 45, .pick, [.tmp 42, .tmp 44, .const (.bool false)], none⟩,
            ⟨some 46, .mv, [.tmp 45], none⟩,
            ⟨some 47, .mv, [.tmp 4], some (46, true)⟩,
            ⟨some 48, (.eqg false 6), [.tmp 47, .const (.int .i64 0)], some (46, true)⟩,
            ⟨some 49, .pick, [.tmp 46, .tmp 48, .const (.bool false)], none⟩,
            ⟨some 50, .mv, [.tmp 49], none⟩,
            ⟨some 51, .mv, [.tmp 5], some (50, true)⟩,
            ⟨some 52, (.eqg false 6), [.tmp 51, .const (.int .i64 0)], some (50, true)⟩,
            ⟨some 53, .pick, [.tmp 50, .tmp 52, .const (.bool false)], none⟩,
            ⟨some 54, .mv, [.tmp 53], none⟩,
            ⟨some 55, .mv, [.tmp 7], some (54, true)⟩,
            ⟨some 56, (.eqg false 6), [.tmp 55, .const (.int .i64 9)], some (54, true)⟩,
            ⟨some 57, .pick, [.tmp 54, .tmp 56, .const (.bool false)], none⟩,
            ⟨some 58, .mv, [.tmp 57], none⟩,
            ⟨some 59, .mv, [.tmp 9], some (58, true)⟩,
            ⟨some 60, (.eqg false 6), [.tmp 59, .const (.int .i64 9)], some (58, true)⟩,
            ⟨some 61, .pick, [.tmp 58, .tmp 60, .const (.bool false)], none⟩,
            ⟨some 62, .mv, [.tmp 61], none⟩,
            ⟨some 63, .mv, [.tmp 1], some (62, true)⟩,
            ⟨some 64, (.call 20), [.tmp 63], some (62, true)⟩,
            ⟨some 65, (.eqg false 6), [.tmp 64, .const (.int .i64 3)], some (62, true)⟩,
            ⟨some 66, .pick, [.tmp 62, .tmp 65, .const (.bool false)], none⟩,
            ⟨some 0, .mv, [.tmp 66], none⟩])
          .ret))))))))⟩

theorem f16_ok : compF Go.Proofs.Try.prog 16 f16.body.hints = some f16 := by kernel_rfl


def f17 : AFun := ⟨7, 1, [.slot 2],
  (.seq (.run [0] [⟨some 2, .mv, [.const (.pointer none)], none⟩])
   (.seq (.run [2] [⟨some 3, .mv, [.tmp 0], none⟩,
      ⟨some 4, (.call 39), [.tmp 3], none⟩,
      ⟨some 5, (.build [(.sl [] .nil), (.sl [] .nil), (.int .i64 0), (.int .i64 0)] [(0, 1)]), [.tmp 4], none⟩,
      ⟨some 6, .box, [.tmp 5], none⟩,
      ⟨some 2, .mv, [.tmp 6], none⟩])
    .ret))⟩

theorem f17_ok : compF Go.Proofs.Try.prog 17 f17.body.hints = some f17 := by kernel_rfl


def f18 : AFun := ⟨73, 2, [.slot 4, .slot 5],
  (.seq (.run [0, 1] [⟨some 4, .mv, [.const (.int .i64 0)], none⟩,
     ⟨some 5, .mv, [.const (.int .i64 0)], none⟩])
   (.seq (.block 0 (.seq (.run [0, 1, 7] [⟨some 8, .mv, [.tmp 0], none⟩,
        ⟨some 9, (.eqg false 1), [.tmp 8, .const (.pointer none)], none⟩,
        ⟨some 7, .mv, [.tmp 9], none⟩])
      (.cond (.tmp 7)
       (.seq (.run [4, 5] [⟨some 4, .mv, [.const (.int .i64 0)], none⟩,
          ⟨some 5, .mv, [.const (.int .i64 1)], none⟩])
        .ret)
       (.seq (.run [0, 1, 10] [⟨some 11, .mv, [.tmp 0], none⟩,
          ⟨some 12, .nilck, [.tmp 11], none⟩,
          ⟨some 13, (.faddr 3), [.tmp 12], none⟩,
          ⟨some 14, (.ld false 1), [.tmp 13], none⟩,
          ⟨some 15, (.eqg true 6), [.tmp 14, .const (.int .i64 0)], none⟩,
          ⟨some 10, .mv, [.tmp 15], none⟩])
        (.cond (.tmp 10)
         (.seq (.runD [4, 5] [⟨0, ⟨some 16, .mv, [.tmp 0], none⟩, []⟩,
            ⟨1, ⟨some 17, .nilck, [.tmp 16], none⟩, []⟩,
            ⟨2, ⟨some 18, (.faddr 3), [.tmp 17], none⟩, []⟩,
            ⟨3, ⟨some 19, (.ld false 1), [.tmp 18], none⟩, []⟩,
            ⟨4, ⟨some 4, .mv, [.const (.int .i64 0)], none⟩, []⟩,
            ⟨5, ⟨some 5, .mv, [.tmp 19], none⟩, []⟩])
          .ret)
         (.seq (.run [0, 1, 20] [⟨some 21, .mv, [.tmp 0], none⟩,
            ⟨some 22, .nilck, [.tmp 21], none⟩,
            ⟨some 23, (.faddr 0), [.tmp 22], none⟩,
            ⟨some 24, (.ld false 1), [.tmp 23], none⟩,
            ⟨some 25, (.len 1), [.tmp 24], none⟩,
            ⟨some 26, (.eqg false 6), [.tmp 25, .const (.int .i64 0)], none⟩,
            ⟨some 20, .mv, [.tmp 26], none⟩])
          (.cond (.tmp 20)
           (.seq (.run [4, 5] [⟨some 4, .mv, [.const (.int .i64 0)], none⟩,
              ⟨some 5, .mv, [.const (.int .i64 10)], none⟩])
            .ret)
           .skip)))))))
    (.seq (.run [0, 1, 6] [⟨some 27, .mv, [.tmp 0], none⟩,
       ⟨some 28, .nilck, [.tmp 27], none⟩,
       ⟨some 29, (.faddr 0), [.tmp 28], none⟩,
       ⟨some 30, (.ld false 1), [.tmp 29], none⟩,
       ⟨some 31, (.iaddr 1), [.tmp 30, .const (.int .i64 0)], none⟩,
       ⟨some 32, (.ld false 1), [.tmp 31], none⟩,
       ⟨some 6, .mv, [.tmp 32], none⟩])
     (.seq (.run [0, 1, 6] [⟨some 33, .mv, [.tmp 0], none⟩,
        ⟨some 34, .mv, [.tmp 0], none⟩,
        ⟨some 35, .nilck, [.tmp 34], none⟩,
        ⟨some 36, (.faddr 0), [.tmp 35], none⟩,
        ⟨some 37, (.ld false 1), [.tmp 36], none⟩,
        ⟨some 38, (.slc 1 true false), [.tmp 37, .const (.int .i64 1)], none⟩,
        ⟨some 39, .nilck, [.tmp 33], none⟩,
        ⟨some 40, (.faddr 0), [.tmp 39], none⟩,
        ⟨none, (.st 1), [.tmp 40, .tmp 38], none⟩])
      (.seq (.run [0, 1, 6] [⟨some 41, .mv, [.tmp 0], none⟩,
         ⟨some 42, .nilck, [.tmp 41], none⟩,
         ⟨some 43, (.faddr 2), [.tmp 42], none⟩,
         ⟨some 44, (.ld false 1), [.tmp 43], none⟩,
         ⟨some 45, (.bin .add), [.tmp 44, .const (.int .i64 1)], none⟩,
         ⟨some 46, .nilck, [.tmp 41], none⟩,
         ⟨some 47, (.faddr 2), [.tmp 46], none⟩,
         ⟨none, (.st 1), [.tmp 47, .tmp 45], none⟩])
       (.seq (.seq (.run [0, 1, 6, 49] [⟨some 48, .mv, [.tmp 6], none⟩,
           ⟨some 49, (.bin .lss), [.tmp 48, .const (.int .i64 0)], none⟩])
         (.cond (.tmp 49)
          (.seq (.run [0] [⟨some 50, .mv, [.tmp 0], none⟩,
             ⟨some 51, .nilck, [.tmp 50], none⟩,
             ⟨some 52, (.faddr 3), [.tmp 51], none⟩,
             ⟨none, (.st 1), [.tmp 52, .const (.int .i64 9)], none⟩])
           (.seq (.runD [4, 5] [⟨0, ⟨some 53, .mv, [.tmp 0], none⟩, []⟩,
              ⟨1, ⟨some 54, .nilck, [.tmp 53], none⟩, []⟩,
              ⟨2, ⟨some 55, (.faddr 3), [.tmp 54], none⟩, []⟩,
              ⟨3, ⟨some 56, (.ld false 1), [.tmp 55], none⟩, []⟩,
              ⟨4, ⟨some 4, .mv, [.const (.int .i64 0)], none⟩, []⟩,
              ⟨5, ⟨some 5, .mv, [.tmp 56], none⟩, []⟩])
            .ret))
          .skip))
        (.seq (.run [0, 1, 6] [⟨some 57, .mv, [.tmp 6], none⟩,
           ⟨some 58, .mv, [.tmp 1], none⟩,
           ⟨some 59, (.len 1), [.tmp 58], none⟩,
           ⟨some 60, .min, [.tmp 57, .tmp 59], none⟩,
           ⟨some 6, .mv, [.tmp 60], none⟩])
         (.seq (.runD [6] [⟨0, ⟨some 61, .mv, [.tmp 0], none⟩, []⟩,
            ⟨1, ⟨some 62, .mv, [.tmp 0], none⟩, []⟩,
            ⟨2, ⟨some 63, .nilck, [.tmp 62], none⟩, []⟩,
            ⟨3, ⟨some 64, (.faddr 1), [.tmp 63], none⟩, []⟩,
            ⟨4, ⟨some 65, (.ld false 1), [.tmp 64], none⟩, []⟩,
            ⟨5, ⟨some 66, .mv, [.tmp 1], none⟩, []⟩,
            ⟨6, ⟨some 67, .mv, [.tmp 6], none⟩, []⟩,
            ⟨7, ⟨some 68, (.slc 1 false true), [.tmp 66, .tmp 67], none⟩, []⟩,
            ⟨8, ⟨some 69, (.app 1 1), [.tmp 65, .tmp 68], none⟩, []⟩,
            ⟨9, ⟨some 70, .nilck, [.tmp 61], none⟩, []⟩,
            ⟨10, ⟨some 71, (.faddr 1), [.tmp 70], none⟩, []⟩,
            ⟨11, ⟨none, (.st 1), [.tmp 71, .tmp 69], none⟩, []⟩])
          (.seq (.run [4, 5] [⟨some 72, .mv, [.tmp 6], none⟩,
             ⟨some 4, .mv, [.tmp 72], none⟩,
             ⟨some 5, .mv, [.const (.int .i64 0)], none⟩])
           .ret)))))))))⟩

theorem f18_ok : compF Go.Proofs.Try.prog 18 f18.body.hints = some f18 := by kernel_rfl


def f19 : AFun := ⟨10, 1, [.slot 2],
  (.seq (.run [0] [⟨some 2, .mv, [.const (.slice none 0 0)], none⟩])
   (.seq (.seq (.run [0, 4] [⟨some 3, .mv, [.tmp 0], none⟩,
       ⟨some 4, (.eqg false 1), [.tmp 3, .const (.pointer none)], none⟩])
     (.cond (.tmp 4)
      (.seq (.run [2] [⟨some 2, .mv, [.const (.slice none 0 0)], none⟩])
       .ret)
      .skip))
    (.seq (.run [2] [⟨some 5, .mv, [.tmp 0], none⟩,
       ⟨some 6, .nilck, [.tmp 5], none⟩,
       ⟨some 7, (.faddr 1), [.tmp 6], none⟩,
       ⟨some 8, (.ld false 1), [.tmp 7], none⟩,
       ⟨some 9, (.call 40), [.tmp 8], none⟩,
       ⟨some 2, .mv, [.tmp 9], none⟩])
     .ret)))⟩

theorem f19_ok : compF Go.Proofs.Try.prog 19 f19.body.hints = some f19 := by kernel_rfl


def f20 : AFun := ⟨9, 1, [.slot 2],
  (.seq (.run [0] [⟨some 2, .mv, [.const (.int .i64 0)], none⟩])
   (.seq (.seq (.run [0, 4] [⟨some 3, .mv, [.tmp 0], none⟩,
       ⟨some 4, (.eqg false 1), [.tmp 3, .const (.pointer none)], none⟩])
     (.cond (.tmp 4)
      (.seq (.run [2] [⟨some 2, .mv, [.const (.int .i64 0)], none⟩])
       .ret)
      .skip))
    (.seq (.run [2] [⟨some 5, .mv, [.tmp 0], none⟩,
       ⟨some 6, .nilck, [.tmp 5], none⟩,
       ⟨some 7, (.faddr 2), [.tmp 6], none⟩,
       ⟨some 8, (.ld false 1), [.tmp 7], none⟩,
       ⟨some 2, .mv, [.tmp 8], none⟩])
     .ret)))⟩

theorem f20_ok : compF Go.Proofs.Try.prog 20 f20.body.hints = some f20 := by kernel_rfl


def f21 : AFun := ⟨15, 2, [],
  (.seq (.run [0, 1, 5] [⟨some 4, .mv, [.tmp 0], none⟩,
     ⟨some 5, (.eqg true 1), [.tmp 4, .const (.pointer none)], none⟩])
   (.cond (.tmp 5)
    (.run [] [⟨some 6, .mv, [.tmp 0], none⟩,
      ⟨some 7, .mv, [.tmp 0], none⟩,
      ⟨some 8, .nilck, [.tmp 7], none⟩,
      ⟨some 9, (.faddr 0), [.tmp 8], none⟩,
      ⟨some 10, (.ld false 1), [.tmp 9], none⟩,
      ⟨some 11, .mv, [.tmp 1], none⟩,
      ⟨some 12, (.app 1 8), [.tmp 10, .tmp 11], none⟩,
      ⟨some 13, .nilck, [.tmp 6], none⟩,
      ⟨some 14, (.faddr 0), [.tmp 13], none⟩,
      ⟨none, (.st 1), [.tmp 14, .tmp 12], none⟩])
    .skip))⟩

theorem f21_ok : compF Go.Proofs.Try.prog 21 f21.body.hints = some f21 := by kernel_rfl


def f22 : AFun := ⟨10, 1, [.slot 2],
  (.seq (.run [0] [⟨some 2, .mv, [.const (.int .i64 0)], none⟩])
   (.seq (.seq (.run [0, 4] [⟨some 3, .mv, [.tmp 0], none⟩,
       ⟨some 4, (.eqg false 1), [.tmp 3, .const (.pointer none)], none⟩])
     (.cond (.tmp 4)
      (.seq (.run [2] [⟨some 2, .mv, [.const (.int .i64 0)], none⟩])
       .ret)
      .skip))
    (.seq (.run [2] [⟨some 5, .mv, [.tmp 0], none⟩,
       ⟨some 6, .nilck, [.tmp 5], none⟩,
       ⟨some 7, (.faddr 0), [.tmp 6], none⟩,
       ⟨some 8, (.ld false 1), [.tmp 7], none⟩,
       ⟨some 9, (.len 1), [.tmp 8], none⟩,
       ⟨some 2, .mv, [.tmp 9], none⟩])
     .ret)))⟩

theorem f22_ok : compF Go.Proofs.Try.prog 22 f22.body.hints = some f22 := by kernel_rfl


def f23 : AFun := ⟨58, 2, [.slot 4],
  (.seq (.run [0, 1] [⟨some 4, .mv, [.const (.int .i64 0)], none⟩])
   (.seq (.seq (.run [0, 1, 9] [⟨some 8, .mv, [.tmp 0], none⟩,
       ⟨some 9, (.eqg false 1), [.tmp 8, .const (.pointer none)], none⟩])
     (.cond (.tmp 9)
      (.seq (.run [4] [⟨some 4, .mv, [.const (.int .i64 0)], none⟩])
       .ret)
      .skip))
    (.seq (.run [0, 1, 5] [⟨some 10, .mv, [.tmp 1], none⟩,
       ⟨some 11, (.len 1), [.tmp 10], none⟩,
       ⟨some 12, .mv, [.tmp 0], none⟩,
       ⟨some 13, (.call 27), [.tmp 12], none⟩,
       ⟨some 14, .min, [.tmp 11, .tmp 13], none⟩,
       ⟨some 5, .mv, [.tmp 14], none⟩])
     (.seq (.runD [0, 1, 5, 6] [⟨0, ⟨some 15, .mv, [.tmp 0], none⟩, []⟩,
        ⟨1, ⟨some 16, .nilck, [.tmp 15], none⟩, []⟩,
        ⟨2, ⟨some 17, (.faddr 1), [.tmp 16], none⟩, []⟩,
        ⟨3, ⟨some 18, (.ld false 1), [.tmp 17], none⟩, []⟩,
        ⟨4, ⟨some 19, .mv, [.tmp 0], none⟩, []⟩,
        ⟨5, ⟨some 20, .nilck, [.tmp 19], none⟩, []⟩,
        ⟨6, ⟨some 21, (.faddr 2), [.tmp 20], none⟩, []⟩,
        ⟨7, ⟨some 22, (.ld false 1), [.tmp 21], none⟩, []⟩,
        ⟨8, ⟨some 23, (.bin .add), [.tmp 18, .tmp 22], none⟩, []⟩,
        ⟨9, ⟨some 24, .mv, [.tmp 0], none⟩, []⟩,
        ⟨10, ⟨some 25, .nilck, [.tmp 24], none⟩, []⟩,
        ⟨11, ⟨some 26, (.faddr 0), [.tmp 25], none⟩, []⟩,
        ⟨12, ⟨some 27, (.ld false 1), [.tmp 26], none⟩, []⟩,
        ⟨13, ⟨some 28, (.len 1), [.tmp 27], none⟩, []⟩,
        ⟨14, ⟨some 29, (.bin .rem), [.tmp 23, .tmp 28], none⟩, []⟩,
        ⟨15, ⟨some 6, .mv, [.tmp 29], none⟩, []⟩])
      (.seq (.runD [0, 1, 5, 7] [⟨0, ⟨some 30, .mv, [.tmp 0], none⟩, []⟩,
         ⟨1, ⟨some 31, .nilck, [.tmp 30], none⟩, []⟩,
         ⟨2, ⟨some 32, (.faddr 0), [.tmp 31], none⟩, []⟩,
         ⟨3, ⟨some 33, (.ld false 1), [.tmp 32], none⟩, []⟩,
         ⟨4, ⟨some 34, .mv, [.tmp 6], none⟩, []⟩,
         ⟨5, ⟨some 35, (.slc 1 true false), [.tmp 33, .tmp 34], none⟩, []⟩,
         ⟨6, ⟨some 36, .mv, [.tmp 1], none⟩, []⟩,
         ⟨7, ⟨some 37, .mv, [.tmp 5], none⟩, []⟩,
         ⟨8, ⟨some 38, (.slc 1 false true), [.tmp 36, .tmp 37], none⟩, []⟩,
         ⟨9, ⟨some 39, (.cpy 1), [.tmp 35, .tmp 38], none⟩, []⟩,
         ⟨10, ⟨some 7, .mv, [.tmp 39], none⟩, []⟩])
       (.seq (.runD [0, 5] [⟨0, ⟨some 40, .mv, [.tmp 0], none⟩, []⟩,
          ⟨1, ⟨some 41, .nilck, [.tmp 40], none⟩, []⟩,
          ⟨2, ⟨some 42, (.faddr 0), [.tmp 41], none⟩, []⟩,
          ⟨3, ⟨some 43, (.ld false 1), [.tmp 42], none⟩, []⟩,
          ⟨4, ⟨some 44, .mv, [.tmp 1], none⟩, []⟩,
          ⟨5, ⟨some 45, .mv, [.tmp 7], none⟩, []⟩,
          ⟨6, ⟨some 46, .mv, [.tmp 5], none⟩, []⟩,
          ⟨7, ⟨some 47, (.slc 1 true true), [.tmp 44, .tmp 45, .tmp 46], none⟩, []⟩,
          ⟨8, ⟨some 48, (.cpy 1), [.tmp 43, .tmp 47], none⟩, []⟩])
        (.seq (.run [5] [⟨some 49, .mv, [.tmp 0], none⟩,
           ⟨some 50, .nilck, [.tmp 49], none⟩,
           ⟨some 51, (.faddr 2), [.tmp 50], none⟩,
           ⟨some 52, (.ld false 1), [.tmp 51], none⟩,
           ⟨some 53, .mv, [.tmp 5], none⟩,
           ⟨some 54, (.bin .add), [.tmp 52, .tmp 53], none⟩,
           ⟨some 55, .nilck, [.tmp 49], none⟩,
           ⟨some 56, (.faddr 2), [.tmp 55], none⟩,
           ⟨none, (.st 1), [.tmp 56, .tmp 54], none⟩])
         (.seq (.run [4] [⟨some 57, .mv, [.tmp 5], none⟩,
            ⟨some 4, .mv, [.tmp 57], none⟩])
          .ret))))))))⟩

theorem f23_ok : compF Go.Proofs.Try.prog 23 f23.body.hints = some f23 := by kernel_rfl


def f24 : AFun := ⟨37, 2, [.slot 4],
  (.seq (.run [0, 1] [⟨some 4, .mv, [.const (.slice none 0 0)], none⟩])
   (.seq (.seq (.run [0, 1, 8] [⟨some 7, .mv, [.tmp 0], none⟩,
       ⟨some 8, (.eqg false 1), [.tmp 7, .const (.pointer none)], none⟩])
     (.cond (.tmp 8)
      (.seq (.run [4] [⟨some 4, .mv, [.const (.slice none 0 0)], none⟩])
       .ret)
      .skip))
    (.seq (.run [0, 5] [⟨some 9, .mv, [.tmp 1], none⟩,
       ⟨some 10, .mv, [.tmp 0], none⟩,
       ⟨some 11, .nilck, [.tmp 10], none⟩,
       ⟨some 12, (.faddr 2), [.tmp 11], none⟩,
       ⟨some 13, (.ld false 1), [.tmp 12], none⟩,
       ⟨some 14, .min, [.tmp 9, .tmp 13], none⟩,
       ⟨some 15, .max, [.const (.int .i64 0), .tmp 14], none⟩,
       ⟨some 16, (.mksl 1 1 [(.int .u8 0)]), [.tmp 15, .tmp 15], none⟩,
       ⟨some 5, .mv, [.tmp 16], none⟩])
     (.seq (.runD [0, 5, 6] [⟨0, ⟨some 17, .mv, [.tmp 5], none⟩, []⟩,
        ⟨1, ⟨some 18, .mv, [.tmp 0], none⟩, []⟩,
        ⟨2, ⟨some 19, .nilck, [.tmp 18], none⟩, []⟩,
        ⟨3, ⟨some 20, (.faddr 0), [.tmp 19], none⟩, []⟩,
        ⟨4, ⟨some 21, (.ld false 1), [.tmp 20], none⟩, []⟩,
        ⟨5, ⟨some 22, .mv, [.tmp 0], none⟩, []⟩,
        ⟨6, ⟨some 23, .nilck, [.tmp 22], none⟩, []⟩,
        ⟨7, ⟨some 24, (.faddr 1), [.tmp 23], none⟩, []⟩,
        ⟨8, ⟨some 25, (.ld false 1), [.tmp 24], none⟩, []⟩,
        ⟨9, ⟨some 26, (.slc 1 true false), [.tmp 21, .tmp 25], none⟩, []⟩,
        ⟨10, ⟨some 27, (.cpy 1), [.tmp 17, .tmp 26], none⟩, []⟩,
        ⟨11, ⟨some 6, .mv, [.tmp 27], none⟩, []⟩])
      (.seq (.runD [5] [⟨0, ⟨some 28, .mv, [.tmp 5], none⟩, []⟩,
         ⟨1, ⟨some 29, .mv, [.tmp 6], none⟩, []⟩,
         ⟨2, ⟨some 30, (.slc 1 true false), [.tmp 28, .tmp 29], none⟩, []⟩,
         ⟨3, ⟨some 31, .mv, [.tmp 0], none⟩, []⟩,
         ⟨4, ⟨some 32, .nilck, [.tmp 31], none⟩, []⟩,
         ⟨5, ⟨some 33, (.faddr 0), [.tmp 32], none⟩, []⟩,
         ⟨6, ⟨some 34, (.ld false 1), [.tmp 33], none⟩, []⟩,
         ⟨7, ⟨some 35, (.cpy 1), [.tmp 30, .tmp 34], none⟩, []⟩])
       (.seq (.run [4] [⟨some 36, .mv, [.tmp 5], none⟩,
          ⟨some 4, .mv, [.tmp 36], none⟩])
        .ret))))))⟩

theorem f24_ok : compF Go.Proofs.Try.prog 24 f24.body.hints = some f24 := by kernel_rfl


def f25 : AFun := ⟨42, 2, [.slot 4],
  (.seq (.run [0, 1] [⟨some 4, .mv, [.const (.int .i64 0)], none⟩])
   (.seq (.block 0 (.seq (.run [0, 1, 5] [⟨some 6, .mv, [.tmp 0], none⟩,
        ⟨some 7, (.eqg false 1), [.tmp 6, .const (.pointer none)], none⟩,
        ⟨some 5, .mv, [.tmp 7], none⟩])
      (.cond (.tmp 5)
       (.seq (.run [4] [⟨some 4, .mv, [.const (.int .i64 1)], none⟩])
        .ret)
       (.seq (.run [0, 1, 8] [⟨some 9, .mv, [.tmp 1], none⟩,
          ⟨some 10, (.bin .lss), [.tmp 9, .const (.int .i64 0)], none⟩,
          ⟨some 11, .mv, [.tmp 10], none⟩,
          ⟨some 12, .mv, [.tmp 1], some (11, false)⟩,
          ⟨some 13, .mv, [.tmp 0], some (11, false)⟩,
          ⟨some 14, .nilck, [.tmp 13], some (11, false)⟩,
          ⟨some 15, (.faddr 2), [.tmp 14], some (11, false)⟩,
          ⟨some 16, (.ld false 1), [.tmp 15], some (11, false)⟩,
          ⟨some 17, (.bin .gtr), [.tmp 12, .tmp 16], some (11, false)⟩,
          ⟨some 18, .pick, [.tmp 11, .const (.bool true), .tmp 17], none⟩,
          ⟨some 8, .mv, [.tmp 18], none⟩])
        (.cond (.tmp 8)
         (.seq (.run [4] [⟨some 4, .mv, [.const (.int .i64 3)], none⟩])
          .ret)
         .skip)))))
    (.seq (.runD [0, 1] [⟨0, ⟨some 19, .mv, [.tmp 0], none⟩, []⟩,
       ⟨1, ⟨some 20, .mv, [.tmp 0], none⟩, []⟩,
       ⟨2, ⟨some 21, .nilck, [.tmp 20], none⟩, []⟩,
       ⟨3, ⟨some 22, (.faddr 1), [.tmp 21], none⟩, []⟩,
       ⟨4, ⟨some 23, (.ld false 1), [.tmp 22], none⟩, []⟩,
       ⟨5, ⟨some 24, .mv, [.tmp 1], none⟩, []⟩,
       ⟨6, ⟨some 25, (.bin .add), [.tmp 23, .tmp 24], none⟩, []⟩,
       ⟨7, ⟨some 26, .mv, [.tmp 0], none⟩, []⟩,
       ⟨8, ⟨some 27, .nilck, [.tmp 26], none⟩, []⟩,
       ⟨9, ⟨some 28, (.faddr 0), [.tmp 27], none⟩, []⟩,
       ⟨10, ⟨some 29, (.ld false 1), [.tmp 28], none⟩, []⟩,
       ⟨11, ⟨some 30, (.len 1), [.tmp 29], none⟩, []⟩,
       ⟨12, ⟨some 31, (.bin .rem), [.tmp 25, .tmp 30], none⟩, []⟩,
       ⟨13, ⟨some 32, .nilck, [.tmp 19], none⟩, []⟩,
       ⟨14, ⟨some 33, (.faddr 1), [.tmp 32], none⟩, []⟩,
       ⟨15, ⟨none, (.st 1), [.tmp 33, .tmp 31], none⟩, []⟩])
     (.seq (.run [] [⟨some 34, .mv, [.tmp 0], none⟩,
        ⟨some 35, .nilck, [.tmp 34], none⟩,
        ⟨some 36, (.faddr 2), [.tmp 35], none⟩,
        ⟨some 37, (.ld false 1), [.tmp 36], none⟩,
        ⟨some 38, .mv, [.tmp 1], none⟩,
        ⟨some 39, (.bin .sub), [.tmp 37, .tmp 38], none⟩,
        ⟨some 40, .nilck, [.tmp 34], none⟩,
        ⟨some 41, (.faddr 2), [.tmp 40], none⟩,
        ⟨none, (.st 1), [.tmp 41, .tmp 39], none⟩])
      (.seq (.run [4] [⟨some 4, .mv, [.const (.int .i64 0)], none⟩])
       .ret)))))⟩

theorem f25_ok : compF Go.Proofs.Try.prog 25 f25.body.hints = some f25 := by kernel_rfl


def f26 : AFun := ⟨9, 1, [.slot 2],
  (.seq (.run [0] [⟨some 2, .mv, [.const (.int .i64 0)], none⟩])
   (.seq (.seq (.run [0, 4] [⟨some 3, .mv, [.tmp 0], none⟩,
       ⟨some 4, (.eqg false 1), [.tmp 3, .const (.pointer none)], none⟩])
     (.cond (.tmp 4)
      (.seq (.run [2] [⟨some 2, .mv, [.const (.int .i64 0)], none⟩])
       .ret)
      .skip))
    (.seq (.run [2] [⟨some 5, .mv, [.tmp 0], none⟩,
       ⟨some 6, .nilck, [.tmp 5], none⟩,
       ⟨some 7, (.faddr 2), [.tmp 6], none⟩,
       ⟨some 8, (.ld false 1), [.tmp 7], none⟩,
       ⟨some 2, .mv, [.tmp 8], none⟩])
     .ret)))⟩

theorem f26_ok : compF Go.Proofs.Try.prog 26 f26.body.hints = some f26 := by kernel_rfl


def f27 : AFun := ⟨8, 1, [.slot 2],
  (.seq (.run [0] [⟨some 2, .mv, [.const (.int .i64 0)], none⟩])
   (.seq (.run [2] [⟨some 3, .mv, [.tmp 0], none⟩,
      ⟨some 4, (.call 28), [.tmp 3], none⟩,
      ⟨some 5, .mv, [.tmp 0], none⟩,
      ⟨some 6, (.call 26), [.tmp 5], none⟩,
      ⟨some 7, (.bin .sub), [.tmp 4, .tmp 6], none⟩,
      ⟨some 2, .mv, [.tmp 7], none⟩])
    .ret))⟩

theorem f27_ok : compF Go.Proofs.Try.prog 27 f27.body.hints = some f27 := by kernel_rfl


def f28 : AFun := ⟨10, 1, [.slot 2],
  (.seq (.run [0] [⟨some 2, .mv, [.const (.int .i64 0)], none⟩])
   (.seq (.seq (.run [0, 4] [⟨some 3, .mv, [.tmp 0], none⟩,
       ⟨some 4, (.eqg false 1), [.tmp 3, .const (.pointer none)], none⟩])
     (.cond (.tmp 4)
      (.seq (.run [2] [⟨some 2, .mv, [.const (.int .i64 0)], none⟩])
       .ret)
      .skip))
    (.seq (.run [2] [⟨some 5, .mv, [.tmp 0], none⟩,
       ⟨some 6, .nilck, [.tmp 5], none⟩,
       ⟨some 7, (.faddr 0), [.tmp 6], none⟩,
       ⟨some 8, (.ld false 1), [.tmp 7], none⟩,
       ⟨some 9, (.len 1), [.tmp 8], none⟩,
       ⟨some 2, .mv, [.tmp 9], none⟩])
     .ret)))⟩

theorem f28_ok : compF Go.Proofs.Try.prog 28 f28.body.hints = some f28 := by kernel_rfl


def f29 : AFun := ⟨25, 1, [.slot 2],
  (.seq (.run [0] [⟨some 2, .mv, [.const (.bool false)], none⟩])
   (.seq (.run [0, 3] [⟨some 3, .mv, [.const (.int .i64 0)], none⟩])
    (.seq (.seq (.run [0, 3, 6, 7, 8] [⟨some 6, .mv, [.tmp 0], none⟩,
        ⟨some 7, (.len 1), [.tmp 6], none⟩,
        ⟨some 8, .mv, [.const (.int .i64 0)], none⟩])
      (.block 0 (.loop [0, 3, 6, 7, 8] (.seq (.run [0, 3, 6, 7, 8, 9] [⟨some 9, (.bin .lss), [.tmp 8, .tmp 7], none⟩])
         (.seq (.cond (.tmp 9)
           .skip
           (.exit 0))
          (.seq (.block 1 (.seq (.run [0, 3, 5, 6, 7, 8] [⟨some 10, (.iaddr 3), [.tmp 6, .tmp 8], none⟩,
               ⟨some 11, (.ld true 3), [.tmp 10], none⟩,
               ⟨some 5, (.alloc [(.int .i64 0), (.sl [] .nil), (.int .i64 0)]), [], none⟩,
               ⟨none, (.st 3), [.tmp 5, .tmp 11], none⟩])
             (.run [0, 3, 6, 7, 8] [⟨some 12, .mv, [.tmp 3], none⟩,
               ⟨some 13, (.faddr 1), [.tmp 5], none⟩,
               ⟨some 14, (.ld false 1), [.tmp 13], none⟩,
               ⟨some 15, (.len 1), [.tmp 14], none⟩,
               ⟨some 16, (.bin .add), [.tmp 12, .tmp 15], none⟩,
               ⟨some 3, .mv, [.tmp 16], none⟩])))
           (.run [0, 3, 6, 7, 8] [⟨some 17, (.bin .add), [.tmp 8, .const (.int .i64 1)], none⟩,
             ⟨some 8, .mv, [.tmp 17], none⟩])))))))
     (.seq (.run [2] [⟨some 18, .mv, [.tmp 0], none⟩,
        ⟨some 19, (.len 1), [.tmp 18], none⟩,
        ⟨some 20, (.bin .gtr), [.tmp 19, .const (.int .i64 200)], none⟩,
        ⟨some 21, .mv, [.tmp 20], none⟩,
        ⟨some 22, .mv, [.tmp 3], some (21, false)⟩,
        ⟨some 23, (.bin .gtr), [.tmp 22, .const (.int .i64 20000)], some (21, false)⟩,
        ⟨some 24, .pick, [.tmp 21, .const (.bool true), .tmp 23], none⟩,
        ⟨some 2, .mv, [.tmp 24], none⟩])
      .ret))))⟩

theorem f29_ok : compF Go.Proofs.Try.prog 29 f29.body.hints = some f29 := by kernel_rfl


def f30 : AFun := ⟨36, 0, [.slot 0],
  (.seq (.run [] [⟨some 0, .mv, [.const (.bool false)], none⟩])
   (.seq (.run [1, 2] [⟨some 4, (.call 31), [.const (.int .i64 3)], none⟩,
      ⟨some 3, .mv, [.tmp 4], none⟩,
      ⟨some 5, (.ext 0), [.tmp 3], none⟩,
      ⟨some 6, (.ext 1), [.tmp 3], none⟩,
      ⟨some 1, .mv, [.tmp 5], none⟩,
      ⟨some 2, .mv, [.tmp 6], none⟩])
    (.seq (.seq (.run [1, 12] [⟨some 7, .mv, [.tmp 2], none⟩,
        ⟨some 8, (.eqg true 6), [.tmp 7, .const (.int .i64 0)], none⟩,
        ⟨some 9, .mv, [.tmp 8], none⟩,
        ⟨some 10, .mv, [.tmp 1], some (9, false)⟩,
        ⟨some 11, (.eqg false 1), [.tmp 10, .const (.pointer none)], some (9, false)⟩,
        ⟨some 12, .pick, [.tmp 9, .const (.bool true), .tmp 11], none⟩])
      (.cond (.tmp 12)
       (.seq (.run [0] [⟨some 0, .mv, [.const (.bool false)], none⟩])
        .ret)
       .skip))
     (.seq (.run [0] [⟨some 13, .mv, [.tmp 1], none⟩,
        ⟨some 14, (.bslice 1 4 [(.int .u8 0)] [(0, 1), (1, 1), (2, 1), (3, 1)]), [.const (.int .u8 97), .const (.int .u8 98), .const (.int .u8 99), .const (.int .u8 100)], none⟩,
        ⟨some 15, .cvm, [.tmp 14], none⟩,
        ⟨some 16, (.call 23), [.tmp 13, .tmp 15], none⟩,
        ⟨some 17, (.eqg false 6), [.tmp 16, .const (.int .i64 3)], none⟩,
        ⟨some 18, .mv, [.tmp 17], none⟩,
        ⟨some 19, .mv, [.tmp 1], some (18, true)⟩,
        ⟨some 20, (.call 25), [.tmp 19, .const (.int .i64 2)], some (18, true)⟩,
        ⟨some 21, (.eqg false 6), [.tmp 20, .const (.int .i64 0)], some (18, true)⟩,
        ⟨some 22, .pick, [.tmp 18, .tmp 21, .const (.bool false)], none⟩,
        ⟨some 23, .mv, [.tmp 22], none⟩,
        ⟨some 24, .mv, [.tmp 1], some (23, true)⟩,
        ⟨some 25, (.bslice 1 2 [(.int .u8 0)] [(0, 1), (1, 1)]), [.const (.int .u8 100), .const (.int .u8 101)], some (23, true)⟩,
        ⟨some 26, .cvm, [.tmp 25], some (23, true)⟩,
        ⟨some 27, (.call 23), [.tmp 24, .tmp 26], some (23, true)⟩,
        ⟨some 28, (.eqg false 6), [.tmp 27, .const (.int .i64 2)], some (23, true)⟩,
        ⟨some 29, .pick, [.tmp 23, .tmp 28, .const (.bool false)], none⟩,
        ⟨some 30, .mv, [.tmp 29], none⟩,
        ⟨some 31, .mv, [.tmp 1], some (30, true)⟩,
        ⟨some 32, (.call 24), [.tmp 31, .const (.int .i64 9)], some (30, true)⟩,
        ⟨some 33, .cvb, [.tmp 32], some (30, true)⟩,
        ⟨some 34, (.eqg false 6), [.tmp 33, .const (.string ⟨#[99, 100, 101]⟩)], some (30, true)⟩,
        ⟨some 35, .pick, [.tmp 30, .tmp 34, .const (.bool false)], none⟩,
        ⟨some 0, .mv, [.tmp 35], none⟩])
      .ret))))⟩

theorem f30_ok : compF Go.Proofs.Try.prog 30 f30.body.hints = some f30 := by kernel_rfl


def f31 : AFun := ⟨14, 1, [.slot 2, .slot 3],
  (.seq (.run [0] [⟨some 2, .mv, [.const (.pointer none)], none⟩,
     ⟨some 3, .mv, [.const (.int .i64 0)], none⟩])
   (.seq (.seq (.run [0, 9] [⟨some 4, .mv, [.tmp 0], none⟩,
       ⟨some 5, (.bin .lss), [.tmp 4, .const (.int .i64 1)], none⟩,
       ⟨some 6, .mv, [.tmp 5], none⟩,
       ⟨some 7, .mv, [.tmp 0], some (6, false)⟩,
       ⟨some 8, (.bin .gtr), [.tmp 7, .const (.int .i64 65536)], some (6, false)⟩,
       ⟨some 9, .pick, [.tmp 6, .const (.bool true), .tmp 8], none⟩])
     (.cond (.tmp 9)
      (.seq (.run [2, 3] [⟨some 2, .mv, [.const (.pointer none)], none⟩,
         ⟨some 3, .mv, [.const (.int .i64 3)], none⟩])
       .ret)
      .skip))
    (.seq (.run [2, 3] [⟨some 10, .mv, [.tmp 0], none⟩,
       ⟨some 11, (.mksl 1 1 [(.int .u8 0)]), [.tmp 10, .tmp 10], none⟩,
       ⟨some 12, (.build [(.sl [] .nil), (.int .i64 0), (.int .i64 0)] [(0, 1)]), [.tmp 11], none⟩,
       ⟨some 13, .box, [.tmp 12], none⟩,
       ⟨some 2, .mv, [.tmp 13], none⟩,
       ⟨some 3, .mv, [.const (.int .i64 0)], none⟩])
     .ret)))⟩

theorem f31_ok : compF Go.Proofs.Try.prog 31 f31.body.hints = some f31 := by kernel_rfl


def f32 : AFun := ⟨8, 1, [.slot 2],
  (.seq (.run [0] [⟨some 2, .mv, [.const (.int .i64 0)], none⟩])
   (.seq (.run [2] [⟨some 3, .mv, [.tmp 0], none⟩,
      ⟨some 4, (.cvi .u64), [.tmp 3], none⟩,
      ⟨some 5, (.bin .rem), [.tmp 4, .const (.int .u64 65536)], none⟩,
      ⟨some 6, (.cvi .i64), [.tmp 5], none⟩,
      ⟨some 7, (.bin .add), [.const (.int .i64 1), .tmp 6], none⟩,
      ⟨some 2, .mv, [.tmp 7], none⟩])
    .ret))⟩

theorem f32_ok : compF Go.Proofs.Try.prog 32 f32.body.hints = some f32 := by kernel_rfl


def f33 : AFun := ⟨36, 2, [.slot 4],
  (.seq (.run [0, 1] [⟨some 4, .mv, [.const (.int .i64 0)], none⟩])
   (.seq (.runD [0, 1, 5] [⟨0, ⟨some 6, .mv, [.tmp 0], none⟩, []⟩,
      ⟨1, ⟨some 7, .nilck, [.tmp 6], none⟩, []⟩,
      ⟨2, ⟨some 8, (.faddr 1), [.tmp 7], none⟩, []⟩,
      ⟨3, ⟨some 9, (.ld false 1), [.tmp 8], none⟩, []⟩,
      ⟨4, ⟨some 10, .mv, [.tmp 0], none⟩, []⟩,
      ⟨5, ⟨some 11, .nilck, [.tmp 10], none⟩, []⟩,
      ⟨6, ⟨some 12, (.faddr 0), [.tmp 11], none⟩, []⟩,
      ⟨7, ⟨some 13, (.ld false 1), [.tmp 12], none⟩, []⟩,
      ⟨8, ⟨some 14, (.len 1), [.tmp 13], none⟩, []⟩,
      ⟨9, ⟨some 15, (.bin .sub), [.tmp 9, .tmp 14], none⟩, []⟩,
      ⟨10, ⟨some 5, .mv, [.tmp 15], none⟩, []⟩])
    (.seq (.seq (.run [0, 1, 5, 19] [⟨some 16, .mv, [.tmp 1], none⟩,
        ⟨some 17, (.len 1), [.tmp 16], none⟩,
        ⟨some 18, .mv, [.tmp 5], none⟩,
        ⟨some 19, (.bin .lss), [.tmp 17, .tmp 18], none⟩])
      (.cond (.tmp 19)
       (.run [0, 1, 5] [⟨some 20, .mv, [.tmp 1], none⟩,
         ⟨some 21, (.len 1), [.tmp 20], none⟩,
         ⟨some 5, .mv, [.tmp 21], none⟩])
       .skip))
     (.seq (.runD [5] [⟨0, ⟨some 22, .mv, [.tmp 0], none⟩, []⟩,
        ⟨2, ⟨some 24, .mv, [.tmp 0], none⟩, []⟩,
        ⟨3, ⟨some 25, .nilck, [.tmp 24], none⟩, []⟩,
        ⟨4, ⟨some 26, (.faddr 0), [.tmp 25], none⟩, []⟩,
        ⟨5, ⟨some 27, (.ld false 1), [.tmp 26], none⟩, []⟩,
        ⟨7, ⟨some 29, .mv, [.tmp 1], none⟩, []⟩,
        ⟨8, ⟨some 30, .mv, [.tmp 5], none⟩, []⟩,
        ⟨9, ⟨some 31, (.slc 1 false true), [.tmp 29, .tmp 30], none⟩, []⟩,
        ⟨1, ⟨some 23, (.bslice 1 0 [(.int .u8 0)] []), [], none⟩, [5]⟩,
        ⟨6, ⟨some 28, (.app 1 1), [.tmp 23, .tmp 27], none⟩, []⟩,
        ⟨10, ⟨some 32, (.app 1 1), [.tmp 28, .tmp 31], none⟩, []⟩,
        ⟨11, ⟨some 33, .nilck, [.tmp 22], none⟩, []⟩,
        ⟨12, ⟨some 34, (.faddr 0), [.tmp 33], none⟩, []⟩,
        ⟨13, ⟨none, (.st 1), [.tmp 34, .tmp 32], none⟩, []⟩])
      (.seq (.run [4] [⟨some 35, .mv, [.tmp 5], none⟩,
         ⟨some 4, .mv, [.tmp 35], none⟩])
       .ret)))))⟩

theorem f33_ok : compF Go.Proofs.Try.prog 33 f33.body.hints = some f33 := by kernel_rfl


def f34 : AFun := ⟨27, 2, [.slot 4],
  (.seq (.run [0, 1] [⟨some 4, .mv, [.const (.slice none 0 0)], none⟩])
   (.seq (.seq (.run [0, 1, 6] [⟨some 5, .mv, [.tmp 1], none⟩,
       ⟨some 6, (.bin .lss), [.tmp 5, .const (.int .i64 0)], none⟩])
     (.cond (.tmp 6)
      (.run [0, 1] [⟨some 1, .mv, [.const (.int .i64 0)], none⟩])
      .skip))
    (.seq (.seq (.run [0, 1, 13] [⟨some 7, .mv, [.tmp 1], none⟩,
        ⟨some 8, .mv, [.tmp 0], none⟩,
        ⟨some 9, .nilck, [.tmp 8], none⟩,
        ⟨some 10, (.faddr 0), [.tmp 9], none⟩,
        ⟨some 11, (.ld false 1), [.tmp 10], none⟩,
        ⟨some 12, (.len 1), [.tmp 11], none⟩,
        ⟨some 13, (.bin .gtr), [.tmp 7, .tmp 12], none⟩])
      (.cond (.tmp 13)
       (.run [0, 1] [⟨some 14, .mv, [.tmp 0], none⟩,
         ⟨some 15, .nilck, [.tmp 14], none⟩,
         ⟨some 16, (.faddr 0), [.tmp 15], none⟩,
         ⟨some 17, (.ld false 1), [.tmp 16], none⟩,
         ⟨some 18, (.len 1), [.tmp 17], none⟩,
         ⟨some 1, .mv, [.tmp 18], none⟩])
       .skip))
     (.seq (.run [4] [⟨some 19, (.bslice 1 0 [(.int .u8 0)] []), [], none⟩,
        ⟨some 20, .mv, [.tmp 0], none⟩,
        ⟨some 21, .nilck, [.tmp 20], none⟩,
        ⟨some 22, (.faddr 0), [.tmp 21], none⟩,
        ⟨some 23, (.ld false 1), [.tmp 22], none⟩,
        ⟨some 24, .mv, [.tmp 1], none⟩,
        ⟨some 25, (.slc 1 false true), [.tmp 23, .tmp 24], none⟩,
        ⟨some 26, (.app 1 1), [.tmp 19, .tmp 25], none⟩,
        ⟨some 4, .mv, [.tmp 26], none⟩])
      .ret))))⟩

theorem f34_ok : compF Go.Proofs.Try.prog 34 f34.body.hints = some f34 := by kernel_rfl


def f35 : AFun := ⟨27, 2, [.slot 4],
  (.seq (.run [0, 1] [⟨some 4, .mv, [.const (.int .i64 0)], none⟩])
   (.seq (.seq (.run [0, 1, 15] [⟨some 5, .mv, [.tmp 1], none⟩,
       ⟨some 6, (.bin .lss), [.tmp 5, .const (.int .i64 0)], none⟩,
       ⟨some 7, .mv, [.tmp 6], none⟩,
       ⟨some 8, .mv, [.tmp 1], some (7, false)⟩,
       ⟨some 9, .mv, [.tmp 0], some (7, false)⟩,
       ⟨some 10, .nilck, [.tmp 9], some (7, false)⟩,
       ⟨some 11, (.faddr 0), [.tmp 10], some (7, false)⟩,
       ⟨some 12, (.ld false 1), [.tmp 11], some (7, false)⟩,
       ⟨some 13, (.len 1), [.tmp 12], some (7, false)⟩,
       ⟨some 14, (.bin .gtr), [.tmp 8, .tmp 13], some (7, false)⟩,
       ⟨some 15, .pick, [.tmp 7, .const (.bool true), .tmp 14], none⟩])
     (.cond (.tmp 15)
      (.seq (.run [4] [⟨some 4, .mv, [.const (.int .i64 3)], none⟩])
       .ret)
      .skip))
    (.seq (.run [] [⟨some 16, .mv, [.tmp 0], none⟩,
       ⟨some 17, (.bslice 1 0 [(.int .u8 0)] []), [], none⟩,
       ⟨some 18, .mv, [.tmp 0], none⟩,
       ⟨some 19, .nilck, [.tmp 18], none⟩,
       ⟨some 20, (.faddr 0), [.tmp 19], none⟩,
       ⟨some 21, (.ld false 1), [.tmp 20], none⟩,
       ⟨some 22, .mv, [.tmp 1], none⟩,
       ⟨some 23, (.slc 1 true false), [.tmp 21, .tmp 22], none⟩,
       ⟨some 24, (.app 1 1), [.tmp 17, .tmp 23], none⟩,
       ⟨some 25, .nilck, [.tmp 16], none⟩,
       ⟨some 26, (.faddr 0), [.tmp 25], none⟩,
       ⟨none, (.st 1), [.tmp 26, .tmp 24], none⟩])
     (.seq (.run [4] [⟨some 4, .mv, [.const (.int .i64 0)], none⟩])
      .ret))))⟩

theorem f35_ok : compF Go.Proofs.Try.prog 35 f35.body.hints = some f35 := by kernel_rfl


def f36 : AFun := ⟨8, 1, [.slot 2],
  (.seq (.run [0] [⟨some 2, .mv, [.const (.pointer none)], none⟩])
   (.seq (.run [2] [⟨some 3, (.bslice 1 0 [(.int .i64 0)] []), [], none⟩,
      ⟨some 4, .mv, [.tmp 0], none⟩,
      ⟨some 5, (.app 1 8), [.tmp 3, .tmp 4], none⟩,
      ⟨some 6, (.build [(.sl [] .nil), (.sl [] .nil), (.int .i64 0), (.bool false)] [(0, 1)]), [.tmp 5], none⟩,
      ⟨some 7, .box, [.tmp 6], none⟩,
      ⟨some 2, .mv, [.tmp 7], none⟩])
    .ret))⟩

theorem f36_ok : compF Go.Proofs.Try.prog 36 f36.body.hints = some f36 := by kernel_rfl


def f37 : AFun := ⟨15, 2, [],
  (.run [] [⟨some 4, .mv, [.tmp 0], none⟩,
    ⟨some 5, (.bslice 1 0 [(.int .i64 0)] []), [], none⟩,
    ⟨some 6, .mv, [.tmp 0], none⟩,
    ⟨some 7, .nilck, [.tmp 6], none⟩,
    ⟨some 8, (.faddr 0), [.tmp 7], none⟩,
    ⟨some 9, (.ld false 1), [.tmp 8], none⟩,
    ⟨some 10, (.app 1 8), [.tmp 5, .tmp 9], none⟩,
    ⟨some 11, .mv, [.tmp 1], none⟩,
    ⟨some 12, (.app 1 8), [.tmp 10, .tmp 11], none⟩,
    ⟨some 13, .nilck, [.tmp 4], none⟩,
    ⟨some 14, (.faddr 0), [.tmp 13], none⟩,
    ⟨none, (.st 1), [.tmp 14, .tmp 12], none⟩])⟩

theorem f37_ok : compF Go.Proofs.Try.prog 37 f37.body.hints = some f37 := by kernel_rfl


def f38 : AFun := ⟨63, 2, [.slot 4, .slot 5],
  (.seq (.run [0, 1] [⟨some 4, .mv, [.const (.int .i64 0)], none⟩,
     ⟨some 5, .mv, [.const (.int .i64 0)], none⟩])
   (.seq (.seq (.run [0, 1, 10] [⟨some 7, .mv, [.tmp 0], none⟩,
       ⟨some 8, .nilck, [.tmp 7], none⟩,
       ⟨some 9, (.faddr 3), [.tmp 8], none⟩,
       ⟨some 10, (.ld false 1), [.tmp 9], none⟩])
     (.cond (.tmp 10)
      (.seq (.run [4, 5] [⟨some 4, .mv, [.const (.int .i64 0)], none⟩,
         ⟨some 5, .mv, [.const (.int .i64 9)], none⟩])
       .ret)
      .skip))
    (.seq (.seq (.runD [0, 1, 20] [⟨0, ⟨some 11, .mv, [.tmp 0], none⟩, []⟩,
        ⟨1, ⟨some 12, .nilck, [.tmp 11], none⟩, []⟩,
        ⟨2, ⟨some 13, (.faddr 2), [.tmp 12], none⟩, []⟩,
        ⟨3, ⟨some 14, (.ld false 1), [.tmp 13], none⟩, []⟩,
        ⟨4, ⟨some 15, .mv, [.tmp 0], none⟩, []⟩,
        ⟨5, ⟨some 16, .nilck, [.tmp 15], none⟩, []⟩,
        ⟨6, ⟨some 17, (.faddr 0), [.tmp 16], none⟩, []⟩,
        ⟨7, ⟨some 18, (.ld false 1), [.tmp 17], none⟩, []⟩,
        ⟨8, ⟨some 19, (.len 1), [.tmp 18], none⟩, []⟩,
        ⟨9, ⟨some 20, (.bin .geq), [.tmp 14, .tmp 19], none⟩, []⟩])
      (.cond (.tmp 20)
       (.seq (.run [4, 5] [⟨some 4, .mv, [.const (.int .i64 0)], none⟩,
          ⟨some 5, .mv, [.const (.int .i64 10)], none⟩])
        .ret)
       .skip))
     (.seq (.runD [0, 1, 6] [⟨0, ⟨some 21, .mv, [.tmp 0], none⟩, []⟩,
        ⟨1, ⟨some 22, .nilck, [.tmp 21], none⟩, []⟩,
        ⟨2, ⟨some 23, (.faddr 0), [.tmp 22], none⟩, []⟩,
        ⟨3, ⟨some 24, (.ld false 1), [.tmp 23], none⟩, []⟩,
        ⟨4, ⟨some 25, .mv, [.tmp 0], none⟩, []⟩,
        ⟨5, ⟨some 26, .nilck, [.tmp 25], none⟩, []⟩,
        ⟨6, ⟨some 27, (.faddr 2), [.tmp 26], none⟩, []⟩,
        ⟨7, ⟨some 28, (.ld false 1), [.tmp 27], none⟩, []⟩,
        ⟨8, ⟨some 29, (.iaddr 1), [.tmp 24, .tmp 28], none⟩, []⟩,
        ⟨9, ⟨some 30, (.ld false 1), [.tmp 29], none⟩, []⟩,
        ⟨10, ⟨some 6, .mv, [.tmp 30], none⟩, []⟩])
      (.seq (.run [0, 1, 6] [⟨some 31, .mv, [.tmp 0], none⟩,
         ⟨some 32, .nilck, [.tmp 31], none⟩,
         ⟨some 33, (.faddr 2), [.tmp 32], none⟩,
         ⟨some 34, (.ld false 1), [.tmp 33], none⟩,
         ⟨some 35, (.bin .add), [.tmp 34, .const (.int .i64 1)], none⟩,
         ⟨some 36, .nilck, [.tmp 31], none⟩,
         ⟨some 37, (.faddr 2), [.tmp 36], none⟩,
         ⟨none, (.st 1), [.tmp 37, .tmp 35], none⟩])
       (.seq (.seq (.run [0, 1, 6, 39] [⟨some 38, .mv, [.tmp 6], none⟩,
           ⟨some 39, (.bin .lss), [.tmp 38, .const (.int .i64 0)], none⟩])
         (.cond (.tmp 39)
          (.seq (.run [] [⟨some 40, .mv, [.tmp 0], none⟩,
             ⟨some 41, .nilck, [.tmp 40], none⟩,
             ⟨some 42, (.faddr 3), [.tmp 41], none⟩,
             ⟨none, (.st 1), [.tmp 42, .const (.bool true)], none⟩])
           (.seq (.run [4, 5] [⟨some 4, .mv, [.const (.int .i64 0)], none⟩,
              ⟨some 5, .mv, [.const (.int .i64 9)], none⟩])
            .ret))
          .skip))
        (.seq (.seq (.run [0, 1, 6, 46] [⟨some 43, .mv, [.tmp 6], none⟩,
            ⟨some 44, .mv, [.tmp 1], none⟩,
            ⟨some 45, (.len 1), [.tmp 44], none⟩,
            ⟨some 46, (.bin .gtr), [.tmp 43, .tmp 45], none⟩])
          (.cond (.tmp 46)
           (.run [0, 1, 6] [⟨some 47, .mv, [.tmp 1], none⟩,
             ⟨some 48, (.len 1), [.tmp 47], none⟩,
             ⟨some 6, .mv, [.tmp 48], none⟩])
           .skip))
         (.seq (.runD [6] [⟨0, ⟨some 49, .mv, [.tmp 0], none⟩, []⟩,
            ⟨2, ⟨some 51, .mv, [.tmp 0], none⟩, []⟩,
            ⟨3, ⟨some 52, .nilck, [.tmp 51], none⟩, []⟩,
            ⟨4, ⟨some 53, (.faddr 1), [.tmp 52], none⟩, []⟩,
            ⟨5, ⟨some 54, (.ld false 1), [.tmp 53], none⟩, []⟩,
            ⟨7, ⟨some 56, .mv, [.tmp 1], none⟩, []⟩,
            ⟨8, ⟨some 57, .mv, [.tmp 6], none⟩, []⟩,
            ⟨9, ⟨some 58, (.slc 1 false true), [.tmp 56, .tmp 57], none⟩, []⟩,
            ⟨1, ⟨some 50, (.bslice 1 0 [(.int .u8 0)] []), [], none⟩, [5]⟩,
            ⟨6, ⟨some 55, (.app 1 1), [.tmp 50, .tmp 54], none⟩, []⟩,
            ⟨10, ⟨some 59, (.app 1 1), [.tmp 55, .tmp 58], none⟩, []⟩,
            ⟨11, ⟨some 60, .nilck, [.tmp 49], none⟩, []⟩,
            ⟨12, ⟨some 61, (.faddr 1), [.tmp 60], none⟩, []⟩,
            ⟨13, ⟨none, (.st 1), [.tmp 61, .tmp 59], none⟩, []⟩])
          (.seq (.run [4, 5] [⟨some 62, .mv, [.tmp 6], none⟩,
             ⟨some 4, .mv, [.tmp 62], none⟩,
             ⟨some 5, .mv, [.const (.int .i64 0)], none⟩])
           .ret)))))))))⟩

theorem f38_ok : compF Go.Proofs.Try.prog 38 f38.body.hints = some f38 := by kernel_rfl


def f39 : AFun := ⟨8, 1, [.slot 2],
  (.seq (.run [0] [⟨some 2, .mv, [.const (.slice none 0 0)], none⟩])
   (.seq (.seq (.run [0, 4] [⟨some 3, .mv, [.tmp 0], none⟩,
       ⟨some 4, (.eqg false 2), [.tmp 3, .const (.slice none 0 0)], none⟩])
     (.cond (.tmp 4)
      (.seq (.run [2] [⟨some 2, .mv, [.const (.slice none 0 0)], none⟩])
       .ret)
      .skip))
    (.seq (.run [2] [⟨some 5, (.bslice 1 0 [(.int .i64 0)] []), [], none⟩,
       ⟨some 6, .mv, [.tmp 0], none⟩,
       ⟨some 7, (.app 1 8), [.tmp 5, .tmp 6], none⟩,
       ⟨some 2, .mv, [.tmp 7], none⟩])
     .ret)))⟩

theorem f39_ok : compF Go.Proofs.Try.prog 39 f39.body.hints = some f39 := by kernel_rfl


def f40 : AFun := ⟨8, 1, [.slot 2],
  (.seq (.run [0] [⟨some 2, .mv, [.const (.slice none 0 0)], none⟩])
   (.seq (.seq (.run [0, 4] [⟨some 3, .mv, [.tmp 0], none⟩,
       ⟨some 4, (.eqg false 2), [.tmp 3, .const (.slice none 0 0)], none⟩])
     (.cond (.tmp 4)
      (.seq (.run [2] [⟨some 2, .mv, [.const (.slice none 0 0)], none⟩])
       .ret)
      .skip))
    (.seq (.run [2] [⟨some 5, (.bslice 1 0 [(.int .u8 0)] []), [], none⟩,
       ⟨some 6, .mv, [.tmp 0], none⟩,
       ⟨some 7, (.app 1 1), [.tmp 5, .tmp 6], none⟩,
       ⟨some 2, .mv, [.tmp 7], none⟩])
     .ret)))⟩

theorem f40_ok : compF Go.Proofs.Try.prog 40 f40.body.hints = some f40 := by kernel_rfl

end Go.AL.Fun
