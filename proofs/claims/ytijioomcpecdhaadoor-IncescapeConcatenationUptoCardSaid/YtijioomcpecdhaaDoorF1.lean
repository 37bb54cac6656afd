/- The functions of this seat's program, turned. Printed by a program; each is checked against the program. -/
import Derived.Test.YtijioomcpecdhaaDoorF0
import Derived.Test.YtijioomcpecdhaaDoorProg
import Derived.KernelRfl
namespace Go.AL.Fun
open Go.AL


def f58 : AFun := ⟨9, 2, [.slot 4],
  (.seq (.run [0, 1] [⟨some 4, .mv, [.const (.bool false)], none⟩])
   (.seq (.run [4] [⟨some 5, .mv, [.tmp 0], none⟩,
      ⟨some 6, .mv, [.tmp 1], none⟩,
      ⟨some 7, (.call 86), [.tmp 5, .tmp 6], none⟩,
      ⟨some 8, (.bin .geq), [.tmp 7, .const (.int .i64 0)], none⟩,
      ⟨some 4, .mv, [.tmp 8], none⟩])
    .ret))⟩

theorem f58_ok : compF Go.Proofs.Tryd.prog 58 f58.body.hints = some f58 := by kernel_rfl


def f65 : AFun := ⟨42, 2, [.slot 4],
  (.seq (.run [0, 1] [⟨some 4, .mv, [.const (.slice none 0 0)], none⟩])
   (.seq (.seq (.run [0, 1, 10] [⟨some 9, .mv, [.tmp 0], none⟩,
       ⟨some 10, (.eqg false 1), [.tmp 9, .const (.pointer none)], none⟩])
     (.cond (.tmp 10)
      (.seq (.run [4] [⟨some 4, .mv, [.const (.slice none 0 0)], none⟩])
       .ret)
      .skip))
    (.seq (.run [0, 5] [⟨some 11, .mv, [.tmp 0], none⟩,
       ⟨some 12, .nilck, [.tmp 11], none⟩,
       ⟨some 13, (.faddr 0), [.tmp 12], none⟩,
       ⟨some 14, (.ld false 1), [.tmp 13], none⟩,
       ⟨some 15, .mv, [.tmp 1], none⟩,
       ⟨some 16, (.bslice 1 2 [(.sl [] .nil)] [(0, 1), (1, 1)]), [.tmp 14, .tmp 15], none⟩,
       ⟨some 17, (.call 88), [.tmp 16], none⟩,
       ⟨some 5, .mv, [.tmp 17], none⟩])
     (.seq (.run [0, 5, 6] [⟨some 6, .mv, [.const (.slice none 0 0)], none⟩])
      (.seq (.block 0 (.loop [0, 5, 6] (.seq (.seq (.run [0, 5, 6, 24] [⟨some 18, .mv, [.tmp 5], none⟩,
             ⟨some 19, (.len 1), [.tmp 18], none⟩,
             ⟨some 20, (.bin .gtr), [.tmp 19, .const (.int .i64 0)], none⟩,
             ⟨some 21, .mv, [.tmp 20], none⟩,
             ⟨some 22, .mv, [.tmp 5], some (21, true)⟩,
             ⟨some 23, (.call 89), [.tmp 22], some (21, true)⟩,
             ⟨some 24, .pick, [.tmp 21, .tmp 23, .const (.bool false)], none⟩])
           (.cond (.tmp 24)
            .skip
            (.exit 0)))
          (.block 1 (.seq (.run [0, 5, 6, 7, 8] [⟨some 26, .mv, [.tmp 5], none⟩,
              ⟨some 27, (.call 90), [.tmp 26], none⟩,
              ⟨some 25, .mv, [.tmp 27], none⟩,
              ⟨some 28, (.ext 0), [.tmp 25], none⟩,
              ⟨some 29, (.ext 1), [.tmp 25], none⟩,
              ⟨some 7, .mv, [.tmp 28], none⟩,
              ⟨some 8, .mv, [.tmp 29], none⟩])
            (.seq (.run [0, 5, 6, 8] [⟨some 30, .mv, [.tmp 6], none⟩,
               ⟨some 31, .mv, [.tmp 7], none⟩,
               ⟨some 32, (.bslice 1 1 [(.int .i32 0)] [(0, 1)]), [.tmp 31], none⟩,
               ⟨some 33, (.app 1 4), [.tmp 30, .tmp 32], none⟩,
               ⟨some 6, .mv, [.tmp 33], none⟩])
             (.run [0, 5, 6] [⟨some 34, .mv, [.tmp 5], none⟩,
               ⟨some 35, .mv, [.tmp 8], none⟩,
               ⟨some 36, (.slc 1 true false), [.tmp 34, .tmp 35], none⟩,
               ⟨some 5, .mv, [.tmp 36], none⟩])))))))
       (.seq (.run [6] [⟨some 37, .mv, [.tmp 0], none⟩,
          ⟨some 38, .mv, [.tmp 5], none⟩,
          ⟨some 39, .nilck, [.tmp 37], none⟩,
          ⟨some 40, (.faddr 0), [.tmp 39], none⟩,
          ⟨none, (.st 1), [.tmp 40, .tmp 38], none⟩])
        (.seq (.run [4] [⟨some 41, .mv, [.tmp 6], none⟩,
           ⟨some 4, .mv, [.tmp 41], none⟩])
         .ret)))))))⟩

theorem f65_ok : compF Go.Proofs.Tryd.prog 65 f65.body.hints = some f65 := by kernel_rfl


def f66 : AFun := ⟨16, 1, [.slot 2],
  (.seq (.run [0] [⟨some 2, .mv, [.const (.slice none 0 0)], none⟩])
   (.seq (.seq (.run [0, 5] [⟨some 4, .mv, [.tmp 0], none⟩,
       ⟨some 5, (.eqg false 1), [.tmp 4, .const (.pointer none)], none⟩])
     (.cond (.tmp 5)
      (.seq (.run [2] [⟨some 2, .mv, [.const (.slice none 0 0)], none⟩])
       .ret)
      .skip))
    (.seq (.run [0, 3] [⟨some 6, .mv, [.tmp 0], none⟩,
       ⟨some 7, .nilck, [.tmp 6], none⟩,
       ⟨some 8, (.faddr 0), [.tmp 7], none⟩,
       ⟨some 9, (.ld false 1), [.tmp 8], none⟩,
       ⟨some 10, .cvb, [.tmp 9], none⟩,
       ⟨some 11, (.call 23), [.tmp 10], none⟩,
       ⟨some 3, .mv, [.tmp 11], none⟩])
     (.seq (.run [3] [⟨some 12, .mv, [.tmp 0], none⟩,
        ⟨some 13, .nilck, [.tmp 12], none⟩,
        ⟨some 14, (.faddr 0), [.tmp 13], none⟩,
        ⟨none, (.st 1), [.tmp 14, .const (.slice none 0 0)], none⟩])
      (.seq (.run [2] [⟨some 15, .mv, [.tmp 3], none⟩,
         ⟨some 2, .mv, [.tmp 15], none⟩])
       .ret)))))⟩

theorem f66_ok : compF Go.Proofs.Tryd.prog 66 f66.body.hints = some f66 := by kernel_rfl


def f67 : AFun := ⟨8, 1, [.slot 2],
  (.seq (.run [0] [⟨some 2, .mv, [.const (.slice none 0 0)], none⟩])
   (.seq (.seq (.run [0, 4] [⟨some 3, .mv, [.tmp 0], none⟩,
       ⟨some 4, (.eqg false 2), [.tmp 3, .const (.slice none 0 0)], none⟩])
     (.cond (.tmp 4)
      (.seq (.run [2] [⟨some 2, .mv, [.const (.slice none 0 0)], none⟩])
       .ret)
      .skip))
    (.seq (.run [2] [⟨some 5, (.bslice 1 0 [(.int .u8 0)] []), [], none⟩,
       ⟨some 6, .mv, [.tmp 0], none⟩,
       ⟨some 7, (.app 1 1), [.tmp 5, .tmp 6], none⟩,
       ⟨some 2, .mv, [.tmp 7], none⟩])
     .ret)))⟩

theorem f67_ok : compF Go.Proofs.Tryd.prog 67 f67.body.hints = some f67 := by kernel_rfl


def f68 : AFun := ⟨42, 1, [.slot 2],
  (.seq (.run [0] [⟨some 2, .mv, [.const (.string ⟨#[]⟩)], none⟩])
   (.seq (.run [0, 3] [⟨some 7, .mv, [.tmp 0], none⟩,
      ⟨some 8, .nilck, [.tmp 7], none⟩,
      ⟨some 9, (.faddr 1), [.tmp 8], none⟩,
      ⟨some 10, (.ld false 1), [.tmp 9], none⟩,
      ⟨some 3, .mv, [.tmp 10], none⟩])
    (.seq (.seq (.run [0, 3, 15] [⟨some 11, .mv, [.tmp 0], none⟩,
        ⟨some 12, .nilck, [.tmp 11], none⟩,
        ⟨some 13, (.faddr 3), [.tmp 12], none⟩,
        ⟨some 14, (.ld false 1), [.tmp 13], none⟩,
        ⟨some 15, (.un .not), [.tmp 14], none⟩])
      (.cond (.tmp 15)
       (.seq (.run [0, 3, 4] [⟨some 16, (.build [(.str [])] []), [], none⟩,
          ⟨some 17, .box, [.tmp 16], none⟩,
          ⟨some 4, .mv, [.tmp 17], none⟩])
        (.seq (.run [0, 3, 4] [⟨some 18, .mv, [.tmp 4], none⟩,
           ⟨some 19, .mv, [.tmp 3], none⟩,
           ⟨some 20, .sb, [.tmp 19], none⟩,
           ⟨some 21, (.call 91), [.tmp 18, .tmp 20], none⟩])
         (.run [0, 3] [⟨some 22, .mv, [.tmp 3], none⟩,
           ⟨some 23, .mv, [.tmp 3], none⟩,
           ⟨some 24, (.len 0), [.tmp 23], none⟩,
           ⟨some 25, .mv, [.tmp 4], none⟩,
           ⟨some 26, .nilck, [.tmp 25], none⟩,
           ⟨some 27, (.faddr 0), [.tmp 26], none⟩,
           ⟨some 28, (.ld false 1), [.tmp 27], none⟩,
           ⟨some 29, (.len 0), [.tmp 28], none⟩,
           ⟨some 30, (.bin .sub), [.tmp 24, .tmp 29], none⟩,
           ⟨some 31, (.slc 0 false true), [.tmp 22, .tmp 30], none⟩,
           ⟨some 3, .mv, [.tmp 31], none⟩])))
       .skip))
     (.seq (.run [5] [⟨some 33, .mv, [.tmp 0], none⟩,
        ⟨some 34, .nilck, [.tmp 33], none⟩,
        ⟨some 35, (.faddr 0), [.tmp 34], none⟩,
        ⟨some 36, (.ld false 1), [.tmp 35], none⟩,
        ⟨some 37, .mv, [.tmp 3], none⟩,
        ⟨some 38, (.call 20), [.tmp 36, .tmp 37], none⟩,
        ⟨some 32, .mv, [.tmp 38], none⟩,
        ⟨some 39, (.ext 0), [.tmp 32], none⟩,
        ⟨some 40, (.ext 1), [.tmp 32], none⟩,
        ⟨some 5, .mv, [.tmp 39], none⟩,
        ⟨some 6, .mv, [.tmp 40], none⟩])
      (.seq (.run [2] [⟨some 41, .mv, [.tmp 5], none⟩,
         ⟨some 2, .mv, [.tmp 41], none⟩])
       .ret)))))⟩

theorem f68_ok : compF Go.Proofs.Tryd.prog 68 f68.body.hints = some f68 := by kernel_rfl


def f73 : AFun := ⟨17, 1, [.slot 2],
  (.seq (.run [0] [⟨some 2, .mv, [.const (.bool false)], none⟩])
   (.seq (.block 0 (.seq (.run [0, 3] [⟨some 4, .mv, [.tmp 0], none⟩,
        ⟨some 5, (.bin .leq), [.const (.int .i32 0), .tmp 4], none⟩,
        ⟨some 6, .mv, [.tmp 5], none⟩,
        ⟨some 7, .mv, [.tmp 0], some (6, true)⟩,
        ⟨some 8, (.bin .lss), [.tmp 7, .const (.int .i32 55296)], some (6, true)⟩,
        ⟨some 9, .pick, [.tmp 6, .tmp 8, .const (.bool false)], none⟩,
        ⟨some 3, .mv, [.tmp 9], none⟩])
      (.cond (.tmp 3)
       (.seq (.run [2] [⟨some 2, .mv, [.const (.bool true)], none⟩])
        .ret)
       (.seq (.run [10] [⟨some 11, .mv, [.tmp 0], none⟩,
          ⟨some 12, (.bin .lss), [.const (.int .i32 57343), .tmp 11], none⟩,
          ⟨some 13, .mv, [.tmp 12], none⟩,
          ⟨some 14, .mv, [.tmp 0], some (13, true)⟩,
          ⟨some 15, (.bin .leq), [.tmp 14, .const (.int .i32 1114111)], some (13, true)⟩,
          ⟨some 16, .pick, [.tmp 13, .tmp 15, .const (.bool false)], none⟩,
          ⟨some 10, .mv, [.tmp 16], none⟩])
        (.cond (.tmp 10)
         (.seq (.run [2] [⟨some 2, .mv, [.const (.bool true)], none⟩])
          .ret)
         .skip)))))
    (.seq (.run [2] [⟨some 2, .mv, [.const (.bool false)], none⟩])
     .ret)))⟩

theorem f73_ok : compF Go.Proofs.Tryd.prog 73 f73.body.hints = some f73 := by kernel_rfl


def f74 : AFun := ⟨5, 1, [.slot 2],
  (.seq (.run [0] [⟨some 2, .mv, [.const (.string ⟨#[]⟩)], none⟩])
   (.seq (.run [2] [⟨some 3, .mv, [.tmp 0], none⟩,
      ⟨some 4, (.call 94), [.tmp 3], none⟩,
      ⟨some 2, .mv, [.tmp 4], none⟩])
    .ret))⟩

theorem f74_ok : compF Go.Proofs.Tryd.prog 74 f74.body.hints = some f74 := by kernel_rfl


def f75 : AFun := ⟨187, 2, [.slot 4],
  (.seq (.run [0, 1] [⟨some 4, .mv, [.const (.int .i64 0)], none⟩])
   (.block 0 (.seq (.run [0, 1, 160] [⟨some 161, .mv, [.tmp 1], none⟩,
       ⟨some 162, (.bin .leq), [.const (.int .i32 0), .tmp 161], none⟩,
       ⟨some 163, .mv, [.tmp 162], none⟩,
       ⟨some 164, .mv, [.tmp 1], some (163, true)⟩,
       ⟨some 165, (.bin .lss), [.tmp 164, .const (.int .i32 128)], some (163, true)⟩,
       ⟨some 166, .pick, [.tmp 163, .tmp 165, .const (.bool false)], none⟩,
       ⟨some 160, .mv, [.tmp 166], none⟩])
     (.cond (.tmp 160)
      (.seq (.run [4] [⟨some 167, .mv, [.tmp 0], none⟩,
         ⟨some 168, .mv, [.tmp 1], none⟩,
         ⟨some 169, (.cvi .u8), [.tmp 168], none⟩,
         ⟨some 170, (.call 95), [.tmp 167, .tmp 169], none⟩,
         ⟨some 4, .mv, [.tmp 170], none⟩])
       .ret)
      (.seq (.run [0, 1, 171] [⟨some 172, .mv, [.tmp 1], none⟩,
         ⟨some 173, (.eqg false 6), [.tmp 172, .const (.int .i32 65533)], none⟩,
         ⟨some 171, .mv, [.tmp 173], none⟩])
       (.cond (.tmp 171)
        (.seq (.seq (.run [175] [⟨some 174, .mv, [.tmp 0], none⟩,
            ⟨some 175, .rngs, [.tmp 174], none⟩])
          (.block 9 (.loop [175] (.seq (.run [175, 176, 177] [⟨some 176, .nxts, [.tmp 175], none⟩,
               ⟨some 177, (.ext 0), [.tmp 176], none⟩])
             (.seq (.cond (.tmp 177)
               .skip
               (.exit 9))
              (.block 10 (.seq (.run [5, 6, 175] [⟨some 178, (.ext 1), [.tmp 176], none⟩,
                  ⟨some 179, (.ext 2), [.tmp 176], none⟩,
                  ⟨some 5, .mv, [.tmp 178], none⟩,
                  ⟨some 6, .mv, [.tmp 179], none⟩])
                (.seq (.run [5, 175, 181] [⟨some 180, .mv, [.tmp 6], none⟩,
                   ⟨some 181, (.eqg false 6), [.tmp 180, .const (.int .i32 65533)], none⟩])
                 (.cond (.tmp 181)
                  (.seq (.run [4] [⟨some 182, .mv, [.tmp 5], none⟩,
                     ⟨some 4, .mv, [.tmp 182], none⟩])
                   .ret)
                  .skip)))))))))
         (.seq (.run [4] [⟨some 4, .mv, [.const (.int .i64 (-1))], none⟩])
          .ret))
        (.seq (.run [0, 1, 183] [⟨some 184, .mv, [.tmp 1], none⟩,
           ⟨some 185, (.call 73), [.tmp 184], none⟩,
           ⟨some 186, (.un .not), [.tmp 185], none⟩,
           ⟨some 183, .mv, [.tmp 186], none⟩])
         (.cond (.tmp 183)
          (.seq (.run [4] [⟨some 4, .mv, [.const (.int .i64 (-1))], none⟩])
           .ret)
          (.seq (.run [0, 7] [⟨some 17, .mv, [.tmp 1], none⟩,
             ⟨some 18, .cvc, [.tmp 17], none⟩,
             ⟨some 7, .mv, [.tmp 18], none⟩])
           (.seq (.run [0, 7, 8] [⟨some 19, .mv, [.tmp 7], none⟩,
              ⟨some 20, (.len 0), [.tmp 19], none⟩,
              ⟨some 21, (.bin .sub), [.tmp 20, .const (.int .i64 1)], none⟩,
              ⟨some 8, .mv, [.tmp 21], none⟩])
            (.seq (.run [0, 7, 8, 9] [⟨some 22, .mv, [.tmp 8], none⟩,
               ⟨some 9, .mv, [.tmp 22], none⟩])
             (.seq (.run [0, 7, 8, 9] [⟨some 10, .mv, [.const (.int .i64 0)], none⟩])
              (.seq (.block 1 (.loop [0, 7, 8, 9] (.seq (.seq (.run [0, 7, 8, 9, 26] [⟨some 23, .mv, [.tmp 9], none⟩,
                     ⟨some 24, .mv, [.tmp 0], none⟩,
                     ⟨some 25, (.len 0), [.tmp 24], none⟩,
                     ⟨some 26, (.bin .lss), [.tmp 23, .tmp 25], none⟩])
                   (.cond (.tmp 26)
                    .skip
                    (.exit 1)))
                  (.block 2 (.seq (.seq (.runD [0, 7, 8, 9, 33] [⟨0, ⟨some 27, .mv, [.tmp 0], none⟩, []⟩,
                       ⟨1, ⟨some 28, .mv, [.tmp 9], none⟩, []⟩,
                       ⟨2, ⟨some 29, .ixs, [.tmp 27, .tmp 28], none⟩, []⟩,
                       ⟨3, ⟨some 30, .mv, [.tmp 7], none⟩, []⟩,
                       ⟨4, ⟨some 31, .mv, [.tmp 8], none⟩, []⟩,
                       ⟨5, ⟨some 32, .ixs, [.tmp 30, .tmp 31], none⟩, []⟩,
                       ⟨6, ⟨some 33, (.eqg true 6), [.tmp 29, .tmp 32], none⟩, []⟩])
                     (.cond (.tmp 33)
                      (.seq (.runD [0, 7, 8, 9, 11] [⟨0, ⟨some 34, .mv, [.tmp 0], none⟩, []⟩,
                         ⟨1, ⟨some 35, .mv, [.tmp 9], none⟩, []⟩,
                         ⟨2, ⟨some 36, (.bin .add), [.tmp 35, .const (.int .i64 1)], none⟩, []⟩,
                         ⟨3, ⟨some 37, (.slc 0 true false), [.tmp 34, .tmp 36], none⟩, []⟩,
                         ⟨4, ⟨some 38, .mv, [.tmp 7], none⟩, []⟩,
                         ⟨5, ⟨some 39, .mv, [.tmp 8], none⟩, []⟩,
                         ⟨6, ⟨some 40, .ixs, [.tmp 38, .tmp 39], none⟩, []⟩,
                         ⟨7, ⟨some 41, (.call 95), [.tmp 37, .tmp 40], none⟩, []⟩,
                         ⟨8, ⟨some 11, .mv, [.tmp 41], none⟩, []⟩])
                       (.seq (.seq (.run [0, 7, 8, 9, 11, 43] [⟨some 42, .mv, [.tmp 11], none⟩,
                           ⟨some 43, (.bin .lss), [.tmp 42, .const (.int .i64 0)], none⟩])
                         (.cond (.tmp 43)
                          (.seq (.run [4] [⟨some 4, .mv, [.const (.int .i64 (-1))], none⟩])
                           .ret)
                          .skip))
                        (.run [0, 7, 8, 9] [⟨some 44, .mv, [.tmp 9], none⟩,
                          ⟨some 45, .mv, [.tmp 11], none⟩,
                          ⟨some 46, (.bin .add), [.tmp 45, .const (.int .i64 1)], none⟩,
                          ⟨some 47, (.bin .add), [.tmp 44, .tmp 46], none⟩,
                          ⟨some 9, .mv, [.tmp 47], none⟩])))
                      .skip))
                    (.seq (.seq (.run [0, 7, 8, 9, 12] [⟨some 12, .mv, [.const (.int .i64 1)], none⟩])
                      (.block 3 (.loop [0, 7, 8, 9, 12] (.seq (.seq (.run [0, 7, 8, 9, 12, 51] [⟨some 48, .mv, [.tmp 12], none⟩,
                            ⟨some 49, .mv, [.tmp 7], none⟩,
                            ⟨some 50, (.len 0), [.tmp 49], none⟩,
                            ⟨some 51, (.bin .lss), [.tmp 48, .tmp 50], none⟩])
                          (.cond (.tmp 51)
                           .skip
                           (.exit 3)))
                         (.seq (.block 4 (.seq (.runD [0, 7, 8, 9, 12, 64] [⟨0, ⟨some 54, .mv, [.tmp 0], none⟩, []⟩,
                              ⟨1, ⟨some 55, .mv, [.tmp 9], none⟩, []⟩,
                              ⟨2, ⟨some 56, .mv, [.tmp 12], none⟩, []⟩,
                              ⟨3, ⟨some 57, (.bin .sub), [.tmp 55, .tmp 56], none⟩, []⟩,
                              ⟨4, ⟨some 58, .ixs, [.tmp 54, .tmp 57], none⟩, []⟩,
                              ⟨5, ⟨some 59, .mv, [.tmp 7], none⟩, []⟩,
                              ⟨6, ⟨some 60, .mv, [.tmp 8], none⟩, []⟩,
                              ⟨7, ⟨some 61, .mv, [.tmp 12], none⟩, []⟩,
                              ⟨8, ⟨some 62, (.bin .sub), [.tmp 60, .tmp 61], none⟩, []⟩,
                              ⟨9, ⟨some 63, .ixs, [.tmp 59, .tmp 62], none⟩, []⟩,
                              ⟨10, ⟨some 64, (.eqg true 6), [.tmp 58, .tmp 63], none⟩, []⟩])
                            (.cond (.tmp 64)
                             .stuck
                             .skip)))
                          (.run [0, 7, 8, 9, 12] [⟨some 52, .mv, [.tmp 12], none⟩,
                            ⟨some 53, (.bin .add), [.tmp 52, .const (.int .i64 1)], none⟩,
                            ⟨some 12, .mv, [.tmp 53], none⟩]))))))
                     (.seq (.seq (.run [4] [⟨some 65, .mv, [.tmp 9], none⟩,
                         ⟨some 66, .mv, [.tmp 8], none⟩,
                         ⟨some 67, (.bin .sub), [.tmp 65, .tmp 66], none⟩,
                         ⟨some 4, .mv, [.tmp 67], none⟩])
                       .ret)
                      (.seq .skip
                       (.seq (.run [0, 7, 8, 9, 10] [⟨some 68, .mv, [.tmp 10], none⟩,
                          ⟨some 69, (.bin .add), [.tmp 68, .const (.int .i64 1)], none⟩,
                          ⟨some 10, .mv, [.tmp 69], none⟩])
                        (.seq (.run [0, 7, 8, 9, 10] [⟨some 70, .mv, [.tmp 9], none⟩,
                           ⟨some 71, (.bin .add), [.tmp 70, .const (.int .i64 1)], none⟩,
                           ⟨some 9, .mv, [.tmp 71], none⟩])
                         (.seq (.run [0, 7, 8, 9, 98] [⟨some 72, .mv, [.const (.bool true)], none⟩,
                            ⟨some 73, .mv, [.tmp 10], some (72, true)⟩,
                            ⟨some 74, .mv, [.tmp 9], some (72, true)⟩,
                            ⟨some 75, (.call 96), [.tmp 74], some (72, true)⟩,
                            ⟨some 76, (.bin .gtr), [.tmp 73, .tmp 75], some (72, true)⟩,
                            ⟨some 77, .pick, [.tmp 72, .tmp 76, .const (.bool false)], none⟩,
                            ⟨some 78, .mv, [.tmp 77], none⟩,
                            ⟨some 79, .mv, [.tmp 9], some (78, true)⟩,
                            ⟨some 80, .mv, [.tmp 0], some (78, true)⟩,
                            ⟨some 81, (.len 0), [.tmp 80], some (78, true)⟩,
                            ⟨some 82, (.bin .lss), [.tmp 79, .tmp 81], some (78, true)⟩,
                            ⟨some 83, .pick, [.tmp 78, .tmp 82, .const (.bool false)], none⟩,
                            ⟨some 84, .mv, [.tmp 83], none⟩,
                            ⟨some 85, .mv, [.const (.bool false)], some (84, false)⟩,
                            ⟨some 86, .mv, [.tmp 10], some (85, true)⟩,
                            ⟨some 87, .mv, [.tmp 9], some (85, true)⟩,
                            ⟨some 88, (.bin .shr), [.tmp 87, .const (.int .u64 4)], some (85, true)⟩,
                            ⟨some 89, (.bin .add), [.const (.int .i64 4), .tmp 88], some (85, true)⟩,
                            ⟨some 90, (.bin .geq), [.tmp 86, .tmp 89], some (85, true)⟩,
                            ⟨some 91, .pick, [.tmp 85, .tmp 90, .const (.bool false)], some (84, false)⟩,
                            ⟨some 92, .mv, [.tmp 91], some (84, false)⟩,
                            ⟨some 93, .mv, [.tmp 9], some (92, true)⟩,
                            ⟨some 94, .mv, [.tmp 0], some (92, true)⟩,
                            ⟨some 95, (.len 0), [.tmp 94], some (92, true)⟩,
                            ⟨some 96, (.bin .lss), [.tmp 93, .tmp 95], some (92, true)⟩,
                            ⟨some 97, .pick, [.tmp 92, .tmp 96, .const (.bool false)], some (84, false)⟩,
                            ⟨some 98, .pick, [.tmp 84, .const (.bool true), .tmp 97], none⟩])
                          (.cond (.tmp 98)
                           .stuck
                           .skip))))))))))))
               (.seq (.seq (.run [4] [⟨some 4, .mv, [.const (.int .i64 (-1))], none⟩])
                 .ret)
                (.seq .skip
                 (.seq (.cond (.const (.bool true))
                   (.seq (.run [8, 9, 13] [⟨some 99, .mv, [.tmp 0], none⟩,
                      ⟨some 100, .mv, [.tmp 9], none⟩,
                      ⟨some 101, .mv, [.tmp 8], none⟩,
                      ⟨some 102, (.bin .sub), [.tmp 100, .tmp 101], none⟩,
                      ⟨some 103, (.slc 0 true false), [.tmp 99, .tmp 102], none⟩,
                      ⟨some 104, .mv, [.tmp 1], none⟩,
                      ⟨some 105, .cvc, [.tmp 104], none⟩,
                      ⟨some 106, (.call 97), [.tmp 103, .tmp 105], none⟩,
                      ⟨some 13, .mv, [.tmp 106], none⟩])
                    (.seq (.run [8, 9, 13, 108] [⟨some 107, .mv, [.tmp 13], none⟩,
                       ⟨some 108, (.bin .geq), [.tmp 107, .const (.int .i64 0)], none⟩])
                     (.cond (.tmp 108)
                      (.seq (.run [4] [⟨some 109, .mv, [.tmp 9], none⟩,
                         ⟨some 110, .mv, [.tmp 13], none⟩,
                         ⟨some 111, (.bin .add), [.tmp 109, .tmp 110], none⟩,
                         ⟨some 112, .mv, [.tmp 8], none⟩,
                         ⟨some 113, (.bin .sub), [.tmp 111, .tmp 112], none⟩,
                         ⟨some 4, .mv, [.tmp 113], none⟩])
                       .ret)
                      .skip)))
                   (.seq (.run [0, 7, 8, 9, 14] [⟨some 114, .mv, [.tmp 7], none⟩,
                      ⟨some 115, .mv, [.tmp 8], none⟩,
                      ⟨some 116, .ixs, [.tmp 114, .tmp 115], none⟩,
                      ⟨some 14, .mv, [.tmp 116], none⟩])
                    (.seq (.run [0, 7, 8, 9, 14, 15] [⟨some 117, .mv, [.tmp 7], none⟩,
                       ⟨some 118, .mv, [.tmp 8], none⟩,
                       ⟨some 119, (.bin .sub), [.tmp 118, .const (.int .i64 1)], none⟩,
                       ⟨some 120, .ixs, [.tmp 117, .tmp 119], none⟩,
                       ⟨some 15, .mv, [.tmp 120], none⟩])
                     (.seq .skip
                      (.block 5 (.loop [0, 7, 8, 9, 14, 15] (.seq (.seq (.run [0, 7, 8, 9, 14, 15, 124] [⟨some 121, .mv, [.tmp 9], none⟩,
                            ⟨some 122, .mv, [.tmp 0], none⟩,
                            ⟨some 123, (.len 0), [.tmp 122], none⟩,
                            ⟨some 124, (.bin .lss), [.tmp 121, .tmp 123], none⟩])
                          (.cond (.tmp 124)
                           .skip
                           (.exit 5)))
                         (.seq (.block 6 (.seq (.run [0, 7, 8, 9, 14, 15, 139] [⟨some 127, .mv, [.tmp 0], none⟩,
                              ⟨some 128, .mv, [.tmp 9], none⟩,
                              ⟨some 129, .ixs, [.tmp 127, .tmp 128], none⟩,
                              ⟨some 130, .mv, [.tmp 14], none⟩,
                              ⟨some 131, (.eqg false 6), [.tmp 129, .tmp 130], none⟩,
                              ⟨some 132, .mv, [.tmp 131], none⟩,
                              ⟨some 133, .mv, [.tmp 0], some (132, true)⟩,
                              ⟨some 134, .mv, [.tmp 9], some (132, true)⟩,
                              ⟨some 135, (.bin .sub), [.tmp 134, .const (.int .i64 1)], some (132, true)⟩,
                              ⟨some 136, .ixs, [.tmp 133, .tmp 135], some (132, true)⟩,
                              ⟨some 137, .mv, [.tmp 15], some (132, true)⟩,
                              ⟨some 138, (.eqg false 6), [.tmp 136, .tmp 137], some (132, true)⟩,
                              ⟨some 139, .pick, [.tmp 132, .tmp 138, .const (.bool false)], none⟩])
                            (.cond (.tmp 139)
                             (.seq (.seq (.run [0, 7, 8, 9, 14, 15, 16] [⟨some 16, .mv, [.const (.int .i64 2)], none⟩])
                               (.block 7 (.loop [0, 7, 8, 9, 14, 15, 16] (.seq (.seq (.run [0, 7, 8, 9, 14, 15, 16, 143] [⟨some 140, .mv, [.tmp 16], none⟩,
                                     ⟨some 141, .mv, [.tmp 7], none⟩,
                                     ⟨some 142, (.len 0), [.tmp 141], none⟩,
                                     ⟨some 143, (.bin .lss), [.tmp 140, .tmp 142], none⟩])
                                   (.cond (.tmp 143)
                                    .skip
                                    (.exit 7)))
                                  (.seq (.block 8 (.seq (.runD [0, 7, 8, 9, 14, 15, 16, 156] [⟨0, ⟨some 146, .mv, [.tmp 0], none⟩, []⟩,
                                       ⟨1, ⟨some 147, .mv, [.tmp 9], none⟩, []⟩,
                                       ⟨2, ⟨some 148, .mv, [.tmp 16], none⟩, []⟩,
                                       ⟨3, ⟨some 149, (.bin .sub), [.tmp 147, .tmp 148], none⟩, []⟩,
                                       ⟨4, ⟨some 150, .ixs, [.tmp 146, .tmp 149], none⟩, []⟩,
                                       ⟨5, ⟨some 151, .mv, [.tmp 7], none⟩, []⟩,
                                       ⟨6, ⟨some 152, .mv, [.tmp 8], none⟩, []⟩,
                                       ⟨7, ⟨some 153, .mv, [.tmp 16], none⟩, []⟩,
                                       ⟨8, ⟨some 154, (.bin .sub), [.tmp 152, .tmp 153], none⟩, []⟩,
                                       ⟨9, ⟨some 155, .ixs, [.tmp 151, .tmp 154], none⟩, []⟩,
                                       ⟨10, ⟨some 156, (.eqg true 6), [.tmp 150, .tmp 155], none⟩, []⟩])
                                     (.cond (.tmp 156)
                                      (.exit 6)
                                      .skip)))
                                   (.run [0, 7, 8, 9, 14, 15, 16] [⟨some 144, .mv, [.tmp 16], none⟩,
                                     ⟨some 145, (.bin .add), [.tmp 144, .const (.int .i64 1)], none⟩,
                                     ⟨some 16, .mv, [.tmp 145], none⟩]))))))
                              (.seq (.run [4] [⟨some 157, .mv, [.tmp 9], none⟩,
                                 ⟨some 158, .mv, [.tmp 8], none⟩,
                                 ⟨some 159, (.bin .sub), [.tmp 157, .tmp 158], none⟩,
                                 ⟨some 4, .mv, [.tmp 159], none⟩])
                               .ret))
                             .skip)))
                          (.run [0, 7, 8, 9, 14, 15] [⟨some 125, .mv, [.tmp 9], none⟩,
                            ⟨some 126, (.bin .add), [.tmp 125, .const (.int .i64 1)], none⟩,
                            ⟨some 9, .mv, [.tmp 126], none⟩])))))))))
                  (.seq (.run [4] [⟨some 4, .mv, [.const (.int .i64 (-1))], none⟩])
                   .ret)))))))))))))))))⟩

theorem f75_ok : compF Go.Proofs.Tryd.prog 75 f75.body.hints = some f75 := by kernel_rfl


def f76 : AFun := ⟨16, 2, [.slot 4],
  (.seq (.run [0, 1] [⟨some 4, .mv, [.const (.slice none 0 0)], none⟩])
   (.seq (.seq (.run [0, 1, 7] [⟨some 5, .mv, [.tmp 1], none⟩,
       ⟨some 6, (.cvi .u32), [.tmp 5], none⟩,
       ⟨some 7, (.bin .leq), [.tmp 6, .const (.int .u32 127)], none⟩])
     (.cond (.tmp 7)
      (.seq (.run [4] [⟨some 8, .mv, [.tmp 0], none⟩,
         ⟨some 9, .mv, [.tmp 1], none⟩,
         ⟨some 10, (.cvi .u8), [.tmp 9], none⟩,
         ⟨some 11, (.bslice 1 1 [(.int .u8 0)] [(0, 1)]), [.tmp 10], none⟩,
         ⟨some 12, (.app 1 1), [.tmp 8, .tmp 11], none⟩,
         ⟨some 4, .mv, [.tmp 12], none⟩])
       .ret)
      .skip))
    (.seq (.run [4] [⟨some 13, .mv, [.tmp 0], none⟩,
       ⟨some 14, .mv, [.tmp 1], none⟩,
       ⟨some 15, (.call 98), [.tmp 13, .tmp 14], none⟩,
       ⟨some 4, .mv, [.tmp 15], none⟩])
     .ret)))⟩

theorem f76_ok : compF Go.Proofs.Tryd.prog 76 f76.body.hints = some f76 := by kernel_rfl


def f77 : AFun := ⟨54, 2, [.slot 4],
  (.seq (.run [0, 1] [⟨some 4, .mv, [.const (.string ⟨#[]⟩)], none⟩])
   (.seq (.seq (.run [0, 1, 11] [⟨some 10, .mv, [.tmp 1], none⟩,
       ⟨some 11, (.eqg false 6), [.tmp 10, .const (.int .i64 10)], none⟩])
     (.cond (.tmp 11)
      (.seq (.seq (.run [0, 17] [⟨some 12, .mv, [.tmp 0], none⟩,
          ⟨some 13, (.bin .leq), [.const (.int .i64 0), .tmp 12], none⟩,
          ⟨some 14, .mv, [.tmp 13], none⟩,
          ⟨some 15, .mv, [.tmp 0], some (14, true)⟩,
          ⟨some 16, (.bin .lss), [.tmp 15, .const (.int .i64 100)], some (14, true)⟩,
          ⟨some 17, .pick, [.tmp 14, .tmp 16, .const (.bool false)], none⟩])
        (.cond (.tmp 17)
         (.seq (.run [4] [⟨some 18, .mv, [.tmp 0], none⟩,
            ⟨some 19, (.call 99), [.tmp 18], none⟩,
            ⟨some 4, .mv, [.tmp 19], none⟩])
          .ret)
         .skip))
       (.seq (.run [0, 5] [⟨some 5, (.alloc [(.int .u8 0), (.int .u8 0), (.int .u8 0), (.int .u8 0), (.int .u8 0), (.int .u8 0), (.int .u8 0), (.int .u8 0), (.int .u8 0), (.int .u8 0), (.int .u8 0), (.int .u8 0), (.int .u8 0), (.int .u8 0), (.int .u8 0), (.int .u8 0), (.int .u8 0), (.int .u8 0), (.int .u8 0), (.int .u8 0), (.int .u8 0), (.int .u8 0), (.int .u8 0), (.int .u8 0)]), [], none⟩])
        (.seq (.run [0, 5, 6] [⟨some 20, .mv, [.tmp 0], none⟩,
           ⟨some 21, (.cvi .u64), [.tmp 20], none⟩,
           ⟨some 6, .mv, [.tmp 21], none⟩])
         (.seq (.seq (.run [0, 5, 6, 23] [⟨some 22, .mv, [.tmp 0], none⟩,
             ⟨some 23, (.bin .lss), [.tmp 22, .const (.int .i64 0)], none⟩])
           (.cond (.tmp 23)
            (.run [0, 5, 6] [⟨some 24, .mv, [.tmp 6], none⟩,
              ⟨some 25, (.un .neg), [.tmp 24], none⟩,
              ⟨some 6, .mv, [.tmp 25], none⟩])
            .skip))
          (.seq (.run [0, 5, 6, 7] [⟨some 26, .mv, [.tmp 6], none⟩,
             ⟨some 27, (.call 100), [.tmp 26], none⟩,
             ⟨some 7, .mv, [.tmp 27], none⟩])
           (.seq (.run [0, 5, 7] [⟨some 28, .mv, [.tmp 7], none⟩,
              ⟨some 29, (.bin .add), [.const (.int .i64 1), .tmp 28], none⟩,
              ⟨some 30, (.slp 1 24 true true), [.tmp 5, .const (.int .i64 1), .tmp 29], none⟩,
              ⟨some 31, .mv, [.tmp 6], none⟩,
              ⟨some 32, (.call 101), [.tmp 30, .tmp 31], none⟩])
            (.seq (.seq (.run [5, 7, 34] [⟨some 33, .mv, [.tmp 0], none⟩,
                ⟨some 34, (.bin .lss), [.tmp 33, .const (.int .i64 0)], none⟩])
              (.cond (.tmp 34)
               (.seq (.run [5, 7] [⟨some 35, (.aaddr 1 24), [.tmp 5, .const (.int .i64 0)], none⟩,
                  ⟨none, (.st 1), [.tmp 35, .const (.int .u8 45)], none⟩])
                (.seq (.run [4] [⟨some 36, .mv, [.tmp 7], none⟩,
                   ⟨some 37, (.bin .add), [.const (.int .i64 1), .tmp 36], none⟩,
                   ⟨some 38, (.slp 1 24 false true), [.tmp 5, .tmp 37], none⟩,
                   ⟨some 39, .cvb, [.tmp 38], none⟩,
                   ⟨some 4, .mv, [.tmp 39], none⟩])
                 .ret))
               .skip))
             (.seq (.run [4] [⟨some 40, .mv, [.tmp 7], none⟩,
                ⟨some 41, (.bin .add), [.const (.int .i64 1), .tmp 40], none⟩,
                ⟨some 42, (.slp 1 24 true true), [.tmp 5, .const (.int .i64 1), .tmp 41], none⟩,
                ⟨some 43, .cvb, [.tmp 42], none⟩,
                ⟨some 4, .mv, [.tmp 43], none⟩])
              .ret))))))))
      .skip))
    (.seq (.run [9] [⟨some 45, .mv, [.tmp 0], none⟩,
       ⟨some 46, (.cvi .u64), [.tmp 45], none⟩,
       ⟨some 47, .mv, [.tmp 1], none⟩,
       ⟨some 48, .mv, [.tmp 0], none⟩,
       ⟨some 49, (.bin .lss), [.tmp 48, .const (.int .i64 0)], none⟩,
       ⟨some 50, (.call 102), [.const (.slice none 0 0), .tmp 46, .tmp 47, .tmp 49, .const (.bool false)], none⟩,
       ⟨some 44, .mv, [.tmp 50], none⟩,
       ⟨some 51, (.ext 0), [.tmp 44], none⟩,
       ⟨some 52, (.ext 1), [.tmp 44], none⟩,
       ⟨some 8, .mv, [.tmp 51], none⟩,
       ⟨some 9, .mv, [.tmp 52], none⟩])
     (.seq (.run [4] [⟨some 53, .mv, [.tmp 9], none⟩,
        ⟨some 4, .mv, [.tmp 53], none⟩])
      .ret))))⟩

theorem f77_ok : compF Go.Proofs.Tryd.prog 77 f77.body.hints = some f77 := by kernel_rfl


def f81 : AFun := ⟨75, 1, [.slot 2],
  (.seq (.run [0] [⟨some 2, .mv, [.const (.string ⟨#[]⟩)], none⟩])
   (.seq (.seq (.run [0, 16] [⟨some 3, .mv, [.tmp 0], none⟩,
       ⟨some 4, (.bin .lss), [.tmp 3, .const (.int .i32 0)], none⟩,
       ⟨some 5, .mv, [.tmp 4], none⟩,
       ⟨some 6, .mv, [.tmp 0], some (5, false)⟩,
       ⟨some 7, (.bin .gtr), [.tmp 6, .const (.int .i32 1114111)], some (5, false)⟩,
       ⟨some 8, .pick, [.tmp 5, .const (.bool true), .tmp 7], none⟩,
       ⟨some 9, .mv, [.tmp 8], none⟩,
       ⟨some 10, .mv, [.tmp 0], some (9, false)⟩,
       ⟨some 11, (.bin .geq), [.tmp 10, .const (.int .i32 55296)], some (9, false)⟩,
       ⟨some 12, .mv, [.tmp 11], some (9, false)⟩,
       ⟨some 13, .mv, [.tmp 0], some (12, true)⟩,
       ⟨some 14, (.bin .leq), [.tmp 13, .const (.int .i32 57343)], some (12, true)⟩,
       ⟨some 15, .pick, [.tmp 12, .tmp 14, .const (.bool false)], some (9, false)⟩,
       ⟨some 16, .pick, [.tmp 9, .const (.bool true), .tmp 15], none⟩])
     (.cond (.tmp 16)
      (.run [0] [⟨some 0, .mv, [.const (.int .i32 65533)], none⟩])
      .skip))
    (.seq (.block 0 (.seq (.run [0, 17] [⟨some 18, .mv, [.tmp 0], none⟩,
         ⟨some 19, (.bin .lss), [.tmp 18, .const (.int .i32 128)], none⟩,
         ⟨some 17, .mv, [.tmp 19], none⟩])
       (.cond (.tmp 17)
        (.seq (.run [2] [⟨some 20, .mv, [.tmp 0], none⟩,
           ⟨some 21, (.cvi .u8), [.tmp 20], none⟩,
           ⟨some 22, (.bslice 1 1 [(.int .u8 0)] [(0, 1)]), [.tmp 21], none⟩,
           ⟨some 23, .cvb, [.tmp 22], none⟩,
           ⟨some 2, .mv, [.tmp 23], none⟩])
         .ret)
        (.seq (.run [0, 24] [⟨some 25, .mv, [.tmp 0], none⟩,
           ⟨some 26, (.bin .lss), [.tmp 25, .const (.int .i32 2048)], none⟩,
           ⟨some 24, .mv, [.tmp 26], none⟩])
         (.cond (.tmp 24)
          (.seq (.run [2] [⟨some 27, .mv, [.tmp 0], none⟩,
             ⟨some 28, (.bin .shr), [.tmp 27, .const (.int .u64 6)], none⟩,
             ⟨some 29, (.bin .add), [.const (.int .i32 192), .tmp 28], none⟩,
             ⟨some 30, (.cvi .u8), [.tmp 29], none⟩,
             ⟨some 31, .mv, [.tmp 0], none⟩,
             ⟨some 32, (.bin .and), [.tmp 31, .const (.int .i32 63)], none⟩,
             ⟨some 33, (.bin .add), [.const (.int .i32 128), .tmp 32], none⟩,
             ⟨some 34, (.cvi .u8), [.tmp 33], none⟩,
             ⟨some 35, (.bslice 1 2 [(.int .u8 0)] [(0, 1), (1, 1)]), [.tmp 30, .tmp 34], none⟩,
             ⟨some 36, .cvb, [.tmp 35], none⟩,
             ⟨some 2, .mv, [.tmp 36], none⟩])
           .ret)
          (.seq (.run [0, 37] [⟨some 38, .mv, [.tmp 0], none⟩,
             ⟨some 39, (.bin .lss), [.tmp 38, .const (.int .i32 65536)], none⟩,
             ⟨some 37, .mv, [.tmp 39], none⟩])
           (.cond (.tmp 37)
            (.seq (.run [2] [⟨some 40, .mv, [.tmp 0], none⟩,
               ⟨some 41, (.bin .shr), [.tmp 40, .const (.int .u64 12)], none⟩,
               ⟨some 42, (.bin .add), [.const (.int .i32 224), .tmp 41], none⟩,
               ⟨some 43, (.cvi .u8), [.tmp 42], none⟩,
               ⟨some 44, .mv, [.tmp 0], none⟩,
               ⟨some 45, (.bin .shr), [.tmp 44, .const (.int .u64 6)], none⟩,
               ⟨some 46, (.bin .and), [.tmp 45, .const (.int .i32 63)], none⟩,
               ⟨some 47, (.bin .add), [.const (.int .i32 128), .tmp 46], none⟩,
               ⟨some 48, (.cvi .u8), [.tmp 47], none⟩,
               ⟨some 49, .mv, [.tmp 0], none⟩,
               ⟨some 50, (.bin .and), [.tmp 49, .const (.int .i32 63)], none⟩,
               ⟨some 51, (.bin .add), [.const (.int .i32 128), .tmp 50], none⟩,
               ⟨some 52, (.cvi .u8), [.tmp 51], none⟩,
               ⟨some 53, (.bslice 1 3 [(.int .u8 0)] [(0, 1), (1, 1), (2, 1)]), [.tmp 43, .tmp 48, .tmp 52], none⟩,
               ⟨some 54, .cvb, [.tmp 53], none⟩,
               ⟨some 2, .mv, [.tmp 54], none⟩])
             .ret)
            .skip)))))))
     (.seq (.run [2] [⟨some 55, .mv, [.tmp 0], none⟩,
        ⟨some 56, (.bin .shr), [.tmp 55, .const (.int .u64 18)], none⟩,
        ⟨some 57, (.bin .add), [.const (.int .i32 240), .tmp 56], none⟩,
        ⟨some 58, (.cvi .u8), [.tmp 57], none⟩,
        ⟨some 59, .mv, [.tmp 0], none⟩,
        ⟨some 60, (.bin .shr), [.tmp 59, .const (.int .u64 12)], none⟩,
        ⟨some 61, (.bin .and), [.tmp 60, .const (.int .i32 63)], none⟩,
        ⟨some 62, (.bin .add), [.const (.int .i32 128), .tmp 61], none⟩,
        ⟨some 63, (.cvi .u8), [.tmp 62], none⟩,
        ⟨some 64, .mv, [.tmp 0], none⟩,
        ⟨some 65, (.bin .shr), [.tmp 64, .const (.int .u64 6)], none⟩,
        ⟨some 66, (.bin .and), [.tmp 65, .const (.int .i32 63)], none⟩,
        ⟨some 67, (.bin .add), [.const (.int .i32 128), .tmp 66], none⟩,
        ⟨some 68, (.cvi .u8), [.tmp 67], none⟩,
        ⟨some 69, .mv, [.tmp 0], none⟩,
        ⟨some 70, (.bin .and), [.tmp 69, .const (.int .i32 63)], none⟩,
        ⟨some 71, (.bin .add), [.const (.int .i32 128), .tmp 70], none⟩,
        ⟨some 72, (.cvi .u8), [.tmp 71], none⟩,
        ⟨some 73, (.bslice 1 4 [(.int .u8 0)] [(0, 1), (1, 1), (2, 1), (3, 1)]), [.tmp 58, .tmp 63, .tmp 68, .tmp 72], none⟩,
        ⟨some 74, .cvb, [.tmp 73], none⟩,
        ⟨some 2, .mv, [.tmp 74], none⟩])
      .ret))))⟩

theorem f81_ok : compF Go.Proofs.Tryd.prog 81 f81.body.hints = some f81 := by kernel_rfl


def f83 : AFun := ⟨59, 1, [.slot 2],
  (.seq (.run [0] [⟨some 2, .mv, [.const (.int .u64 0)], none⟩])
   (.seq (.cond (.const (.bool false))
     (.seq (.runD [2] [⟨0, ⟨some 3, .mv, [.tmp 0], none⟩, []⟩,
        ⟨1, ⟨some 4, .ixs, [.tmp 3, .const (.int .i64 0)], none⟩, []⟩,
        ⟨2, ⟨some 5, (.cvi .u64), [.tmp 4], none⟩, []⟩,
        ⟨3, ⟨some 6, .mv, [.tmp 0], none⟩, []⟩,
        ⟨4, ⟨some 7, .ixs, [.tmp 6, .const (.int .i64 1)], none⟩, []⟩,
        ⟨5, ⟨some 8, (.cvi .u64), [.tmp 7], none⟩, []⟩,
        ⟨6, ⟨some 9, (.bin .shl), [.tmp 8, .const (.int .u64 8)], none⟩, []⟩,
        ⟨7, ⟨some 10, (.bin .or), [.tmp 5, .tmp 9], none⟩, []⟩,
        ⟨8, ⟨some 11, .mv, [.tmp 0], none⟩, []⟩,
        ⟨9, ⟨some 12, .ixs, [.tmp 11, .const (.int .i64 2)], none⟩, []⟩,
        ⟨10, ⟨some 13, (.cvi .u64), [.tmp 12], none⟩, []⟩,
        ⟨11, ⟨some 14, (.bin .shl), [.tmp 13, .const (.int .u64 16)], none⟩, []⟩,
        ⟨12, ⟨some 15, (.bin .or), [.tmp 10, .tmp 14], none⟩, []⟩,
        ⟨13, ⟨some 16, .mv, [.tmp 0], none⟩, []⟩,
        ⟨14, ⟨some 17, .ixs, [.tmp 16, .const (.int .i64 3)], none⟩, []⟩,
        ⟨15, ⟨some 18, (.cvi .u64), [.tmp 17], none⟩, []⟩,
        ⟨16, ⟨some 19, (.bin .shl), [.tmp 18, .const (.int .u64 24)], none⟩, []⟩,
        ⟨17, ⟨some 20, (.bin .or), [.tmp 15, .tmp 19], none⟩, []⟩,
        ⟨18, ⟨some 2, .mv, [.tmp 20], none⟩, []⟩])
      .ret)
     .skip)
    (.seq (.runD [2] [⟨0, ⟨some 21, .mv, [.tmp 0], none⟩, []⟩,
       ⟨1, ⟨some 22, .ixs, [.tmp 21, .const (.int .i64 0)], none⟩, []⟩,
       ⟨2, ⟨some 23, (.cvi .u64), [.tmp 22], none⟩, []⟩,
       ⟨3, ⟨some 24, .mv, [.tmp 0], none⟩, []⟩,
       ⟨4, ⟨some 25, .ixs, [.tmp 24, .const (.int .i64 1)], none⟩, []⟩,
       ⟨5, ⟨some 26, (.cvi .u64), [.tmp 25], none⟩, []⟩,
       ⟨6, ⟨some 27, (.bin .shl), [.tmp 26, .const (.int .u64 8)], none⟩, []⟩,
       ⟨7, ⟨some 28, (.bin .or), [.tmp 23, .tmp 27], none⟩, []⟩,
       ⟨8, ⟨some 29, .mv, [.tmp 0], none⟩, []⟩,
       ⟨9, ⟨some 30, .ixs, [.tmp 29, .const (.int .i64 2)], none⟩, []⟩,
       ⟨10, ⟨some 31, (.cvi .u64), [.tmp 30], none⟩, []⟩,
       ⟨11, ⟨some 32, (.bin .shl), [.tmp 31, .const (.int .u64 16)], none⟩, []⟩,
       ⟨12, ⟨some 33, (.bin .or), [.tmp 28, .tmp 32], none⟩, []⟩,
       ⟨13, ⟨some 34, .mv, [.tmp 0], none⟩, []⟩,
       ⟨14, ⟨some 35, .ixs, [.tmp 34, .const (.int .i64 3)], none⟩, []⟩,
       ⟨15, ⟨some 36, (.cvi .u64), [.tmp 35], none⟩, []⟩,
       ⟨16, ⟨some 37, (.bin .shl), [.tmp 36, .const (.int .u64 24)], none⟩, []⟩,
       ⟨17, ⟨some 38, (.bin .or), [.tmp 33, .tmp 37], none⟩, []⟩,
       ⟨18, ⟨some 39, .mv, [.tmp 0], none⟩, []⟩,
       ⟨19, ⟨some 40, .ixs, [.tmp 39, .const (.int .i64 4)], none⟩, []⟩,
       ⟨20, ⟨some 41, (.cvi .u64), [.tmp 40], none⟩, []⟩,
       ⟨21, ⟨some 42, (.bin .shl), [.tmp 41, .const (.int .u64 32)], none⟩, []⟩,
       ⟨22, ⟨some 43, (.bin .or), [.tmp 38, .tmp 42], none⟩, []⟩,
       ⟨23, ⟨some 44, .mv, [.tmp 0], none⟩, []⟩,
       ⟨24, ⟨some 45, .ixs, [.tmp 44, .const (.int .i64 5)], none⟩, []⟩,
       ⟨25, ⟨some 46, (.cvi .u64), [.tmp 45], none⟩, []⟩,
       ⟨26, ⟨some 47, (.bin .shl), [.tmp 46, .const (.int .u64 40)], none⟩, []⟩,
       ⟨27, ⟨some 48, (.bin .or), [.tmp 43, .tmp 47], none⟩, []⟩,
       ⟨28, ⟨some 49, .mv, [.tmp 0], none⟩, []⟩,
       ⟨29, ⟨some 50, .ixs, [.tmp 49, .const (.int .i64 6)], none⟩, []⟩,
       ⟨30, ⟨some 51, (.cvi .u64), [.tmp 50], none⟩, []⟩,
       ⟨31, ⟨some 52, (.bin .shl), [.tmp 51, .const (.int .u64 48)], none⟩, []⟩,
       ⟨32, ⟨some 53, (.bin .or), [.tmp 48, .tmp 52], none⟩, []⟩,
       ⟨33, ⟨some 54, .mv, [.tmp 0], none⟩, []⟩,
       ⟨34, ⟨some 55, .ixs, [.tmp 54, .const (.int .i64 7)], none⟩, []⟩,
       ⟨35, ⟨some 56, (.cvi .u64), [.tmp 55], none⟩, []⟩,
       ⟨36, ⟨some 57, (.bin .shl), [.tmp 56, .const (.int .u64 56)], none⟩, []⟩,
       ⟨37, ⟨some 58, (.bin .or), [.tmp 53, .tmp 57], none⟩, []⟩,
       ⟨38, ⟨some 2, .mv, [.tmp 58], none⟩, []⟩])
     .ret)))⟩

theorem f83_ok : compF Go.Proofs.Tryd.prog 83 f83.body.hints = some f83 := by kernel_rfl


def f84 : AFun := ⟨67, 1, [.slot 2, .slot 3],
  (.seq (.run [0] [⟨some 2, .mv, [.const (.int .i64 0)], none⟩,
     ⟨some 3, .mv, [.const (.bool false)], none⟩])
   (.seq (.seq (.run [0, 10] [⟨some 9, .mv, [.tmp 0], none⟩,
       ⟨some 10, (.eqg false 6), [.tmp 9, .const (.string ⟨#[]⟩)], none⟩])
     (.cond (.tmp 10)
      (.seq (.run [2, 3] [⟨some 2, .mv, [.const (.int .i64 0)], none⟩,
         ⟨some 3, .mv, [.const (.bool false)], none⟩])
       .ret)
      .skip))
    (.seq (.run [0, 4] [⟨some 11, .mv, [.tmp 0], none⟩,
       ⟨some 12, .ixs, [.tmp 11, .const (.int .i64 0)], none⟩,
       ⟨some 4, .mv, [.tmp 12], none⟩])
     (.seq (.seq (.run [0, 4, 14] [⟨some 13, .mv, [.tmp 4], none⟩,
         ⟨some 14, (.bin .lss), [.tmp 13, .const (.int .u8 128)], none⟩])
       (.cond (.tmp 14)
        (.seq (.run [2, 3] [⟨some 2, .mv, [.const (.int .i64 1)], none⟩,
           ⟨some 3, .mv, [.const (.bool false)], none⟩])
         .ret)
        .skip))
      (.seq (.run [0, 4] [⟨some 5, .mv, [.const (.int .i64 0)], none⟩])
       (.seq (.run [0, 4, 6] [⟨some 6, .mv, [.const (.int .u8 128)], none⟩])
        (.seq (.run [0, 4, 6, 7] [⟨some 7, .mv, [.const (.int .u8 191)], none⟩])
         (.seq (.block 0 (.seq (.run [0, 4, 6, 7, 15] [⟨some 16, .mv, [.tmp 4], none⟩,
              ⟨some 17, (.bin .geq), [.tmp 16, .const (.int .u8 194)], none⟩,
              ⟨some 18, .mv, [.tmp 17], none⟩,
              ⟨some 19, .mv, [.tmp 4], some (18, true)⟩,
              ⟨some 20, (.bin .leq), [.tmp 19, .const (.int .u8 223)], some (18, true)⟩,
              ⟨some 21, .pick, [.tmp 18, .tmp 20, .const (.bool false)], none⟩,
              ⟨some 15, .mv, [.tmp 21], none⟩])
            (.cond (.tmp 15)
             (.run [0, 4, 5, 6, 7] [⟨some 5, .mv, [.const (.int .i64 2)], none⟩])
             (.seq (.run [0, 4, 6, 7, 22] [⟨some 23, .mv, [.tmp 4], none⟩,
                ⟨some 24, (.bin .geq), [.tmp 23, .const (.int .u8 224)], none⟩,
                ⟨some 25, .mv, [.tmp 24], none⟩,
                ⟨some 26, .mv, [.tmp 4], some (25, true)⟩,
                ⟨some 27, (.bin .leq), [.tmp 26, .const (.int .u8 239)], some (25, true)⟩,
                ⟨some 28, .pick, [.tmp 25, .tmp 27, .const (.bool false)], none⟩,
                ⟨some 22, .mv, [.tmp 28], none⟩])
              (.cond (.tmp 22)
               (.run [0, 4, 5, 6, 7] [⟨some 5, .mv, [.const (.int .i64 3)], none⟩])
               (.seq (.run [0, 4, 6, 7, 29] [⟨some 30, .mv, [.tmp 4], none⟩,
                  ⟨some 31, (.bin .geq), [.tmp 30, .const (.int .u8 240)], none⟩,
                  ⟨some 32, .mv, [.tmp 31], none⟩,
                  ⟨some 33, .mv, [.tmp 4], some (32, true)⟩,
                  ⟨some 34, (.bin .leq), [.tmp 33, .const (.int .u8 244)], some (32, true)⟩,
                  ⟨some 35, .pick, [.tmp 32, .tmp 34, .const (.bool false)], none⟩,
                  ⟨some 29, .mv, [.tmp 35], none⟩])
                (.cond (.tmp 29)
                 (.run [0, 4, 5, 6, 7] [⟨some 5, .mv, [.const (.int .i64 4)], none⟩])
                 (.seq (.run [2, 3] [⟨some 2, .mv, [.const (.int .i64 0)], none⟩,
                    ⟨some 3, .mv, [.const (.bool false)], none⟩])
                  .ret))))))))
          (.seq (.seq (.run [0, 5, 6, 7, 36] [⟨some 36, .mv, [.tmp 4], none⟩])
            (.block 1 (.seq (.run [0, 5, 6, 7, 36, 37] [⟨some 38, (.eqg false 6), [.tmp 36, .const (.int .u8 224)], none⟩,
                ⟨some 37, .mv, [.tmp 38], none⟩])
              (.cond (.tmp 37)
               (.run [0, 5, 6, 7] [⟨some 6, .mv, [.const (.int .u8 160)], none⟩])
               (.seq (.run [0, 5, 6, 7, 36, 39] [⟨some 40, (.eqg false 6), [.tmp 36, .const (.int .u8 237)], none⟩,
                  ⟨some 39, .mv, [.tmp 40], none⟩])
                (.cond (.tmp 39)
                 (.run [0, 5, 6, 7] [⟨some 7, .mv, [.const (.int .u8 159)], none⟩])
                 (.seq (.run [0, 5, 6, 7, 36, 41] [⟨some 42, (.eqg false 6), [.tmp 36, .const (.int .u8 240)], none⟩,
                    ⟨some 41, .mv, [.tmp 42], none⟩])
                  (.cond (.tmp 41)
                   (.run [0, 5, 6, 7] [⟨some 6, .mv, [.const (.int .u8 144)], none⟩])
                   (.seq (.run [0, 5, 6, 7, 43] [⟨some 44, (.eqg false 6), [.tmp 36, .const (.int .u8 244)], none⟩,
                      ⟨some 43, .mv, [.tmp 44], none⟩])
                    (.cond (.tmp 43)
                     (.run [0, 5, 6, 7] [⟨some 7, .mv, [.const (.int .u8 143)], none⟩])
                     .skip))))))))))
           (.seq (.seq (.run [0, 5, 6, 7, 8] [⟨some 8, .mv, [.const (.int .i64 1)], none⟩])
             (.block 2 (.loop [0, 5, 6, 7, 8] (.seq (.seq (.run [0, 5, 6, 7, 8, 47] [⟨some 45, .mv, [.tmp 8], none⟩,
                   ⟨some 46, .mv, [.tmp 5], none⟩,
                   ⟨some 47, (.bin .lss), [.tmp 45, .tmp 46], none⟩])
                 (.cond (.tmp 47)
                  .skip
                  (.exit 2)))
                (.seq (.block 3 (.seq (.seq (.run [0, 5, 6, 7, 8, 53] [⟨some 50, .mv, [.tmp 8], none⟩,
                      ⟨some 51, .mv, [.tmp 0], none⟩,
                      ⟨some 52, (.len 0), [.tmp 51], none⟩,
                      ⟨some 53, (.bin .geq), [.tmp 50, .tmp 52], none⟩])
                    (.cond (.tmp 53)
                     (.seq (.run [2, 3] [⟨some 2, .mv, [.const (.int .i64 0)], none⟩,
                        ⟨some 3, .mv, [.const (.bool true)], none⟩])
                      .ret)
                     .skip))
                   (.seq (.seq (.run [0, 5, 8, 65] [⟨some 54, .mv, [.tmp 0], none⟩,
                       ⟨some 55, .mv, [.tmp 8], none⟩,
                       ⟨some 56, .ixs, [.tmp 54, .tmp 55], none⟩,
                       ⟨some 57, .mv, [.tmp 6], none⟩,
                       ⟨some 58, (.bin .lss), [.tmp 56, .tmp 57], none⟩,
                       ⟨some 59, .mv, [.tmp 58], none⟩,
                       ⟨some 60, .mv, [.tmp 0], some (59, false)⟩,
                       ⟨some 61, .mv, [.tmp 8], some (59, false)⟩,
                       ⟨some 62, .ixs, [.tmp 60, .tmp 61], some (59, false)⟩,
                       ⟨some 63, .mv, [.tmp 7], some (59, false)⟩,
                       ⟨some 64, (.bin .gtr), [.tmp 62, .tmp 63], some (59, false)⟩,
                       ⟨some 65, .pick, [.tmp 59, .const (.bool true), .tmp 64], none⟩])
                     (.cond (.tmp 65)
                      (.seq (.run [2, 3] [⟨some 2, .mv, [.const (.int .i64 0)], none⟩,
                         ⟨some 3, .mv, [.const (.bool false)], none⟩])
                       .ret)
                      .skip))
                    (.seq (.run [0, 5, 6, 8] [⟨some 6, .mv, [.const (.int .u8 128)], none⟩])
                     (.run [0, 5, 6, 7, 8] [⟨some 7, .mv, [.const (.int .u8 191)], none⟩])))))
                 (.run [0, 5, 6, 7, 8] [⟨some 48, .mv, [.tmp 8], none⟩,
                   ⟨some 49, (.bin .add), [.tmp 48, .const (.int .i64 1)], none⟩,
                   ⟨some 8, .mv, [.tmp 49], none⟩]))))))
            (.seq (.run [2, 3] [⟨some 66, .mv, [.tmp 5], none⟩,
               ⟨some 2, .mv, [.tmp 66], none⟩,
               ⟨some 3, .mv, [.const (.bool false)], none⟩])
             .ret)))))))))))⟩

theorem f84_ok : compF Go.Proofs.Tryd.prog 84 f84.body.hints = some f84 := by kernel_rfl


def f85 : AFun := ⟨62, 1, [.slot 2],
  (.seq (.run [0] [⟨some 2, .mv, [.const (.int .i32 0)], none⟩])
   (.seq (.seq (.run [0, 4] [⟨some 3, .mv, [.tmp 0], none⟩,
       ⟨some 4, (.len 0), [.tmp 3], none⟩])
     (.block 0 (.seq (.run [0, 4, 5] [⟨some 6, (.eqg false 6), [.tmp 4, .const (.int .i64 1)], none⟩,
         ⟨some 5, .mv, [.tmp 6], none⟩])
       (.cond (.tmp 5)
        (.seq (.run [2] [⟨some 7, .mv, [.tmp 0], none⟩,
           ⟨some 8, .ixs, [.tmp 7, .const (.int .i64 0)], none⟩,
           ⟨some 9, (.cvi .i32), [.tmp 8], none⟩,
           ⟨some 2, .mv, [.tmp 9], none⟩])
         .ret)
        (.seq (.run [0, 4, 10] [⟨some 11, (.eqg false 6), [.tmp 4, .const (.int .i64 2)], none⟩,
           ⟨some 10, .mv, [.tmp 11], none⟩])
         (.cond (.tmp 10)
          (.seq (.runD [2] [⟨0, ⟨some 12, .mv, [.tmp 0], none⟩, []⟩,
             ⟨1, ⟨some 13, .ixs, [.tmp 12, .const (.int .i64 0)], none⟩, []⟩,
             ⟨2, ⟨some 14, (.bin .sub), [.tmp 13, .const (.int .u8 192)], none⟩, []⟩,
             ⟨3, ⟨some 15, (.cvi .i32), [.tmp 14], none⟩, []⟩,
             ⟨4, ⟨some 16, (.bin .shl), [.tmp 15, .const (.int .u64 6)], none⟩, []⟩,
             ⟨5, ⟨some 17, .mv, [.tmp 0], none⟩, []⟩,
             ⟨6, ⟨some 18, .ixs, [.tmp 17, .const (.int .i64 1)], none⟩, []⟩,
             ⟨7, ⟨some 19, (.bin .sub), [.tmp 18, .const (.int .u8 128)], none⟩, []⟩,
             ⟨8, ⟨some 20, (.cvi .i32), [.tmp 19], none⟩, []⟩,
             ⟨9, ⟨some 21, (.bin .add), [.tmp 16, .tmp 20], none⟩, []⟩,
             ⟨10, ⟨some 2, .mv, [.tmp 21], none⟩, []⟩])
           .ret)
          (.seq (.run [0, 22] [⟨some 23, (.eqg false 6), [.tmp 4, .const (.int .i64 3)], none⟩,
             ⟨some 22, .mv, [.tmp 23], none⟩])
           (.cond (.tmp 22)
            (.seq (.runD [2] [⟨0, ⟨some 24, .mv, [.tmp 0], none⟩, []⟩,
               ⟨1, ⟨some 25, .ixs, [.tmp 24, .const (.int .i64 0)], none⟩, []⟩,
               ⟨2, ⟨some 26, (.bin .sub), [.tmp 25, .const (.int .u8 224)], none⟩, []⟩,
               ⟨3, ⟨some 27, (.cvi .i32), [.tmp 26], none⟩, []⟩,
               ⟨4, ⟨some 28, (.bin .shl), [.tmp 27, .const (.int .u64 12)], none⟩, []⟩,
               ⟨5, ⟨some 29, .mv, [.tmp 0], none⟩, []⟩,
               ⟨6, ⟨some 30, .ixs, [.tmp 29, .const (.int .i64 1)], none⟩, []⟩,
               ⟨7, ⟨some 31, (.bin .sub), [.tmp 30, .const (.int .u8 128)], none⟩, []⟩,
               ⟨8, ⟨some 32, (.cvi .i32), [.tmp 31], none⟩, []⟩,
               ⟨9, ⟨some 33, (.bin .shl), [.tmp 32, .const (.int .u64 6)], none⟩, []⟩,
               ⟨10, ⟨some 34, (.bin .add), [.tmp 28, .tmp 33], none⟩, []⟩,
               ⟨11, ⟨some 35, .mv, [.tmp 0], none⟩, []⟩,
               ⟨12, ⟨some 36, .ixs, [.tmp 35, .const (.int .i64 2)], none⟩, []⟩,
               ⟨13, ⟨some 37, (.bin .sub), [.tmp 36, .const (.int .u8 128)], none⟩, []⟩,
               ⟨14, ⟨some 38, (.cvi .i32), [.tmp 37], none⟩, []⟩,
               ⟨15, ⟨some 39, (.bin .add), [.tmp 34, .tmp 38], none⟩, []⟩,
               ⟨16, ⟨some 2, .mv, [.tmp 39], none⟩, []⟩])
             .ret)
            .skip))))))))
    (.seq (.runD [2] [⟨0, ⟨some 40, .mv, [.tmp 0], none⟩, []⟩,
       ⟨1, ⟨some 41, .ixs, [.tmp 40, .const (.int .i64 0)], none⟩, []⟩,
       ⟨2, ⟨some 42, (.bin .sub), [.tmp 41, .const (.int .u8 240)], none⟩, []⟩,
       ⟨3, ⟨some 43, (.cvi .i32), [.tmp 42], none⟩, []⟩,
       ⟨4, ⟨some 44, (.bin .shl), [.tmp 43, .const (.int .u64 18)], none⟩, []⟩,
       ⟨5, ⟨some 45, .mv, [.tmp 0], none⟩, []⟩,
       ⟨6, ⟨some 46, .ixs, [.tmp 45, .const (.int .i64 1)], none⟩, []⟩,
       ⟨7, ⟨some 47, (.bin .sub), [.tmp 46, .const (.int .u8 128)], none⟩, []⟩,
       ⟨8, ⟨some 48, (.cvi .i32), [.tmp 47], none⟩, []⟩,
       ⟨9, ⟨some 49, (.bin .shl), [.tmp 48, .const (.int .u64 12)], none⟩, []⟩,
       ⟨10, ⟨some 50, (.bin .add), [.tmp 44, .tmp 49], none⟩, []⟩,
       ⟨11, ⟨some 51, .mv, [.tmp 0], none⟩, []⟩,
       ⟨12, ⟨some 52, .ixs, [.tmp 51, .const (.int .i64 2)], none⟩, []⟩,
       ⟨13, ⟨some 53, (.bin .sub), [.tmp 52, .const (.int .u8 128)], none⟩, []⟩,
       ⟨14, ⟨some 54, (.cvi .i32), [.tmp 53], none⟩, []⟩,
       ⟨15, ⟨some 55, (.bin .shl), [.tmp 54, .const (.int .u64 6)], none⟩, []⟩,
       ⟨16, ⟨some 56, (.bin .add), [.tmp 50, .tmp 55], none⟩, []⟩,
       ⟨17, ⟨some 57, .mv, [.tmp 0], none⟩, []⟩,
       ⟨18, ⟨some 58, .ixs, [.tmp 57, .const (.int .i64 3)], none⟩, []⟩,
       ⟨19, ⟨some 59, (.bin .sub), [.tmp 58, .const (.int .u8 128)], none⟩, []⟩,
       ⟨20, ⟨some 60, (.cvi .i32), [.tmp 59], none⟩, []⟩,
       ⟨21, ⟨some 61, (.bin .add), [.tmp 56, .tmp 60], none⟩, []⟩,
       ⟨22, ⟨some 2, .mv, [.tmp 61], none⟩, []⟩])
     .ret)))⟩

theorem f85_ok : compF Go.Proofs.Tryd.prog 85 f85.body.hints = some f85 := by kernel_rfl


def f86 : AFun := ⟨8, 2, [.slot 4],
  (.seq (.run [0, 1] [⟨some 4, .mv, [.const (.int .i64 0)], none⟩])
   (.seq (.run [4] [⟨some 5, .mv, [.tmp 0], none⟩,
      ⟨some 6, .mv, [.tmp 1], none⟩,
      ⟨some 7, (.call 107), [.tmp 5, .tmp 6, .const (.bool true)], none⟩,
      ⟨some 4, .mv, [.tmp 7], none⟩])
    .ret))⟩

theorem f86_ok : compF Go.Proofs.Tryd.prog 86 f86.body.hints = some f86 := by kernel_rfl


def f88 : AFun := ⟨36, 1, [.slot 2],
  (.seq (.run [0] [⟨some 2, .mv, [.const (.slice none 0 0)], none⟩])
   (.seq (.run [0, 3] [⟨some 3, .mv, [.const (.int .i64 0)], none⟩])
    (.seq (.seq (.run [0, 3, 9, 10, 11] [⟨some 9, .mv, [.tmp 0], none⟩,
        ⟨some 10, (.len 1), [.tmp 9], none⟩,
        ⟨some 11, .mv, [.const (.int .i64 0)], none⟩])
      (.block 0 (.loop [0, 3, 9, 10, 11] (.seq (.run [0, 3, 9, 10, 11, 12] [⟨some 12, (.bin .lss), [.tmp 11, .tmp 10], none⟩])
         (.seq (.cond (.tmp 12)
           .skip
           (.exit 0))
          (.seq (.block 1 (.seq (.run [0, 3, 5, 9, 10, 11] [⟨some 13, (.iaddr 1), [.tmp 9, .tmp 11], none⟩,
               ⟨some 14, (.ld false 1), [.tmp 13], none⟩,
               ⟨some 5, .mv, [.tmp 14], none⟩])
             (.seq (.run [0, 3, 9, 10, 11] [⟨some 15, .mv, [.tmp 3], none⟩,
                ⟨some 16, .mv, [.tmp 5], none⟩,
                ⟨some 17, (.len 1), [.tmp 16], none⟩,
                ⟨some 18, (.bin .add), [.tmp 15, .tmp 17], none⟩,
                ⟨some 3, .mv, [.tmp 18], none⟩])
              (.seq (.run [0, 3, 9, 10, 11, 20] [⟨some 19, .mv, [.tmp 3], none⟩,
                 ⟨some 20, (.bin .lss), [.tmp 19, .const (.int .i64 0)], none⟩])
               (.cond (.tmp 20)
                (.run [0, 3, 9, 10, 11] [⟨some 21, (.mkif 9), [.const (.string ⟨#[108, 101, 110, 32, 111, 117, 116, 32, 111, 102, 32, 114, 97, 110, 103, 101]⟩)], none⟩,
                  ⟨none, .stuck, [], none⟩])
                .skip)))))
           (.run [0, 3, 9, 10, 11] [⟨some 22, (.bin .add), [.tmp 11, .const (.int .i64 1)], none⟩,
             ⟨some 11, .mv, [.tmp 22], none⟩])))))))
     (.seq (.run [0, 6] [⟨some 23, .mv, [.tmp 3], none⟩,
        ⟨some 24, (.call 110), [.const (.slice none 0 0), .tmp 23], none⟩,
        ⟨some 6, .mv, [.tmp 24], none⟩])
      (.seq (.seq (.run [6, 25, 26, 27] [⟨some 25, .mv, [.tmp 0], none⟩,
          ⟨some 26, (.len 1), [.tmp 25], none⟩,
          ⟨some 27, .mv, [.const (.int .i64 0)], none⟩])
        (.block 2 (.loop [6, 25, 26, 27] (.seq (.run [6, 25, 26, 27, 28] [⟨some 28, (.bin .lss), [.tmp 27, .tmp 26], none⟩])
           (.seq (.cond (.tmp 28)
             .skip
             (.exit 2))
            (.seq (.block 3 (.seq (.run [6, 8, 25, 26, 27] [⟨some 29, (.iaddr 1), [.tmp 25, .tmp 27], none⟩,
                 ⟨some 30, (.ld false 1), [.tmp 29], none⟩,
                 ⟨some 8, .mv, [.tmp 30], none⟩])
               (.run [6, 25, 26, 27] [⟨some 31, .mv, [.tmp 6], none⟩,
                 ⟨some 32, .mv, [.tmp 8], none⟩,
                 ⟨some 33, (.app 1 1), [.tmp 31, .tmp 32], none⟩,
                 ⟨some 6, .mv, [.tmp 33], none⟩])))
             (.run [6, 25, 26, 27] [⟨some 34, (.bin .add), [.tmp 27, .const (.int .i64 1)], none⟩,
               ⟨some 27, .mv, [.tmp 34], none⟩])))))))
       (.seq (.run [2] [⟨some 35, .mv, [.tmp 6], none⟩,
          ⟨some 2, .mv, [.tmp 35], none⟩])
        .ret))))))⟩

theorem f88_ok : compF Go.Proofs.Tryd.prog 88 f88.body.hints = some f88 := by kernel_rfl


def f89 : AFun := ⟨56, 1, [.slot 2],
  (.seq (.run [0] [⟨some 2, .mv, [.const (.bool false)], none⟩])
   (.seq (.run [0, 3] [⟨some 6, .mv, [.tmp 0], none⟩,
      ⟨some 7, (.len 1), [.tmp 6], none⟩,
      ⟨some 3, .mv, [.tmp 7], none⟩])
    (.seq (.seq (.run [0, 3, 9] [⟨some 8, .mv, [.tmp 3], none⟩,
        ⟨some 9, (.eqg false 6), [.tmp 8, .const (.int .i64 0)], none⟩])
      (.cond (.tmp 9)
       (.seq (.run [2] [⟨some 2, .mv, [.const (.bool false)], none⟩])
        .ret)
       .skip))
     (.seq (.run [0, 3, 4] [⟨some 10, .mv, [.tmp 0], none⟩,
        ⟨some 11, (.iaddr 1), [.tmp 10, .const (.int .i64 0)], none⟩,
        ⟨some 12, (.ld false 1), [.tmp 11], none⟩,
        ⟨some 13, (.aaddr 1 256), [.global 0, .tmp 12], none⟩,
        ⟨some 14, (.ld false 1), [.tmp 13], none⟩,
        ⟨some 4, .mv, [.tmp 14], none⟩])
      (.seq (.seq (.run [0, 3, 4, 19] [⟨some 15, .mv, [.tmp 3], none⟩,
          ⟨some 16, .mv, [.tmp 4], none⟩,
          ⟨some 17, (.bin .and), [.tmp 16, .const (.int .u8 7)], none⟩,
          ⟨some 18, (.cvi .i64), [.tmp 17], none⟩,
          ⟨some 19, (.bin .geq), [.tmp 15, .tmp 18], none⟩])
        (.cond (.tmp 19)
         (.seq (.run [2] [⟨some 2, .mv, [.const (.bool true)], none⟩])
          .ret)
         .skip))
       (.seq (.run [0, 3, 5] [⟨some 20, .mv, [.tmp 4], none⟩,
          ⟨some 21, (.bin .shr), [.tmp 20, .const (.int .u64 4)], none⟩,
          ⟨some 22, (.aaddr 2 16), [.global 1, .tmp 21], none⟩,
          ⟨some 23, (.ld true 2), [.tmp 22], none⟩,
          ⟨some 5, (.alloc [(.int .u8 0), (.int .u8 0)]), [], none⟩,
          ⟨none, (.st 2), [.tmp 5, .tmp 23], none⟩])
        (.seq (.seq (.runD [0, 3, 41] [⟨0, ⟨some 24, .mv, [.tmp 3], none⟩, []⟩,
            ⟨1, ⟨some 25, (.bin .gtr), [.tmp 24, .const (.int .i64 1)], none⟩, []⟩,
            ⟨2, ⟨some 26, .mv, [.tmp 25], none⟩, []⟩,
            ⟨3, ⟨some 27, .mv, [.tmp 0], some (26, true)⟩, []⟩,
            ⟨4, ⟨some 28, (.iaddr 1), [.tmp 27, .const (.int .i64 1)], some (26, true)⟩, []⟩,
            ⟨5, ⟨some 29, (.ld false 1), [.tmp 28], some (26, true)⟩, []⟩,
            ⟨6, ⟨some 30, (.faddr 0), [.tmp 5], some (26, true)⟩, []⟩,
            ⟨7, ⟨some 31, (.ld false 1), [.tmp 30], some (26, true)⟩, []⟩,
            ⟨8, ⟨some 32, (.bin .lss), [.tmp 29, .tmp 31], some (26, true)⟩, []⟩,
            ⟨9, ⟨some 33, .mv, [.tmp 32], some (26, true)⟩, []⟩,
            ⟨10, ⟨some 34, (.faddr 1), [.tmp 5], some (33, false)⟩, []⟩,
            ⟨11, ⟨some 35, (.ld false 1), [.tmp 34], some (33, false)⟩, []⟩,
            ⟨12, ⟨some 36, .mv, [.tmp 0], some (33, false)⟩, []⟩,
            ⟨13, ⟨some 37, (.iaddr 1), [.tmp 36, .const (.int .i64 1)], some (33, false)⟩, []⟩,
            ⟨14, ⟨some 38, (.ld false 1), [.tmp 37], some (33, false)⟩, []⟩,
            ⟨15, ⟨some 39, (.bin .lss), [.tmp 35, .tmp 38], some (33, false)⟩, []⟩,
            ⟨16, ⟨some 40, .pick, [.tmp 33, .const (.bool true), .tmp 39], some (26, true)⟩, []⟩,
            ⟨17, ⟨some 41, .pick, [.tmp 26, .tmp 40, .const (.bool false)], none⟩, []⟩])
          (.cond (.tmp 41)
           (.seq (.run [2] [⟨some 2, .mv, [.const (.bool true)], none⟩])
            .ret)
           (.seq (.run [55] [⟨some 42, .mv, [.tmp 3], none⟩,
              ⟨some 43, (.bin .gtr), [.tmp 42, .const (.int .i64 2)], none⟩,
              ⟨some 44, .mv, [.tmp 43], none⟩,
              ⟨some 45, .mv, [.tmp 0], some (44, true)⟩,
              ⟨some 46, (.iaddr 1), [.tmp 45, .const (.int .i64 2)], some (44, true)⟩,
              ⟨some 47, (.ld false 1), [.tmp 46], some (44, true)⟩,
              ⟨some 48, (.bin .lss), [.tmp 47, .const (.int .u8 128)], some (44, true)⟩,
              ⟨some 49, .mv, [.tmp 48], some (44, true)⟩,
              ⟨some 50, .mv, [.tmp 0], some (49, false)⟩,
              ⟨some 51, (.iaddr 1), [.tmp 50, .const (.int .i64 2)], some (49, false)⟩,
              ⟨some 52, (.ld false 1), [.tmp 51], some (49, false)⟩,
              ⟨some 53, (.bin .lss), [.const (.int .u8 191), .tmp 52], some (49, false)⟩,
              ⟨some 54, .pick, [.tmp 49, .const (.bool true), .tmp 53], some (44, true)⟩,
              ⟨some 55, .pick, [.tmp 44, .tmp 54, .const (.bool false)], none⟩])
            (.cond (.tmp 55)
             (.seq (.run [2] [⟨some 2, .mv, [.const (.bool true)], none⟩])
              .ret)
             .skip))))
         (.seq (.run [2] [⟨some 2, .mv, [.const (.bool false)], none⟩])
          .ret))))))))⟩

theorem f89_ok : compF Go.Proofs.Tryd.prog 89 f89.body.hints = some f89 := by kernel_rfl


def f90 : AFun := ⟨22, 1, [.slot 2, .slot 3],
  (.seq (.run [0] [⟨some 2, .mv, [.const (.int .i32 0)], none⟩,
     ⟨some 3, .mv, [.const (.int .i64 0)], none⟩])
   (.seq (.seq (.run [0, 6, 7, 8] [⟨some 6, .mv, [.tmp 0], none⟩,
       ⟨some 7, (.len 1), [.tmp 6], none⟩,
       ⟨some 8, .mv, [.const (.int .i64 0)], none⟩])
     (.block 0 (.loop [0, 6, 7, 8] (.seq (.run [0, 6, 8, 9] [⟨some 9, (.bin .lss), [.tmp 8, .tmp 7], none⟩])
        (.seq (.cond (.tmp 9)
          .skip
          (.exit 0))
         (.seq (.block 1 (.seq (.run [0, 5] [⟨some 10, (.iaddr 1), [.tmp 6, .tmp 8], none⟩,
              ⟨some 11, (.ld false 1), [.tmp 10], none⟩,
              ⟨some 5, .mv, [.tmp 11], none⟩])
            (.seq (.seq (.run [0, 5, 13] [⟨some 12, .mv, [.tmp 5], none⟩,
                ⟨some 13, (.bin .lss), [.tmp 12, .const (.int .u8 128)], none⟩])
              (.cond (.tmp 13)
               (.seq (.run [2, 3] [⟨some 14, .mv, [.tmp 5], none⟩,
                  ⟨some 15, (.cvi .i32), [.tmp 14], none⟩,
                  ⟨some 2, .mv, [.tmp 15], none⟩,
                  ⟨some 3, .mv, [.const (.int .i64 1)], none⟩])
                .ret)
               .skip))
             (.exit 0))))
          (.run [0, 6, 7, 8] [⟨some 16, (.bin .add), [.tmp 8, .const (.int .i64 1)], none⟩,
            ⟨some 8, .mv, [.tmp 16], none⟩])))))))
    (.seq (.run [2, 3] [⟨some 18, .mv, [.tmp 0], none⟩,
       ⟨some 19, (.call 111), [.tmp 18], none⟩,
       ⟨some 17, .mv, [.tmp 19], none⟩,
       ⟨some 20, (.ext 0), [.tmp 17], none⟩,
       ⟨some 21, (.ext 1), [.tmp 17], none⟩,
       ⟨some 2, .mv, [.tmp 20], none⟩,
       ⟨some 3, .mv, [.tmp 21], none⟩])
     .ret)))⟩

theorem f90_ok : compF Go.Proofs.Tryd.prog 90 f90.body.hints = some f90 := by kernel_rfl


def f91 : AFun := ⟨43, 2, [.slot 4],
  (.seq (.run [0, 1] [⟨some 4, .mv, [.const (.slice none 0 0)], none⟩])
   (.seq (.runD [0, 5] [⟨0, ⟨some 9, .mv, [.tmp 0], none⟩, []⟩,
      ⟨1, ⟨some 10, .nilck, [.tmp 9], none⟩, []⟩,
      ⟨2, ⟨some 11, (.faddr 0), [.tmp 10], none⟩, []⟩,
      ⟨3, ⟨some 12, (.ld false 1), [.tmp 11], none⟩, []⟩,
      ⟨4, ⟨some 13, .mv, [.tmp 1], none⟩, []⟩,
      ⟨5, ⟨some 14, .cvb, [.tmp 13], none⟩, []⟩,
      ⟨6, ⟨some 15, (.bin .add), [.tmp 12, .tmp 14], none⟩, []⟩,
      ⟨7, ⟨some 5, .mv, [.tmp 15], none⟩, []⟩])
    (.seq (.run [0, 5, 6] [⟨some 6, .mv, [.const (.int .i64 0)], none⟩])
     (.seq (.block 0 (.loop [0, 5, 6] (.seq (.seq (.run [0, 5, 6, 19] [⟨some 16, .mv, [.tmp 6], none⟩,
            ⟨some 17, .mv, [.tmp 5], none⟩,
            ⟨some 18, (.len 0), [.tmp 17], none⟩,
            ⟨some 19, (.bin .lss), [.tmp 16, .tmp 18], none⟩])
          (.cond (.tmp 19)
           .skip
           (.exit 0)))
         (.block 1 (.seq (.run [0, 5, 6, 7, 8] [⟨some 21, .mv, [.tmp 5], none⟩,
             ⟨some 22, .mv, [.tmp 6], none⟩,
             ⟨some 23, (.slc 0 true false), [.tmp 21, .tmp 22], none⟩,
             ⟨some 24, (.call 84), [.tmp 23], none⟩,
             ⟨some 20, .mv, [.tmp 24], none⟩,
             ⟨some 25, (.ext 0), [.tmp 20], none⟩,
             ⟨some 26, (.ext 1), [.tmp 20], none⟩,
             ⟨some 7, .mv, [.tmp 25], none⟩,
             ⟨some 8, .mv, [.tmp 26], none⟩])
           (.seq (.seq (.run [0, 5, 6, 7, 27] [⟨some 27, .mv, [.tmp 8], none⟩])
             (.cond (.tmp 27)
              (.exit 0)
              .skip))
            (.seq (.seq (.run [0, 5, 6, 7, 29] [⟨some 28, .mv, [.tmp 7], none⟩,
                ⟨some 29, (.eqg false 6), [.tmp 28, .const (.int .i64 0)], none⟩])
              (.cond (.tmp 29)
               (.run [0, 5, 6, 7] [⟨some 7, .mv, [.const (.int .i64 1)], none⟩])
               .skip))
             (.run [0, 5, 6] [⟨some 30, .mv, [.tmp 6], none⟩,
               ⟨some 31, .mv, [.tmp 7], none⟩,
               ⟨some 32, (.bin .add), [.tmp 30, .tmp 31], none⟩,
               ⟨some 6, .mv, [.tmp 32], none⟩]))))))))
      (.seq (.run [5, 6] [⟨some 33, .mv, [.tmp 0], none⟩,
         ⟨some 34, .mv, [.tmp 5], none⟩,
         ⟨some 35, .mv, [.tmp 6], none⟩,
         ⟨some 36, (.slc 0 true false), [.tmp 34, .tmp 35], none⟩,
         ⟨some 37, .nilck, [.tmp 33], none⟩,
         ⟨some 38, (.faddr 0), [.tmp 37], none⟩,
         ⟨none, (.st 1), [.tmp 38, .tmp 36], none⟩])
       (.seq (.run [4] [⟨some 39, .mv, [.tmp 5], none⟩,
          ⟨some 40, .mv, [.tmp 6], none⟩,
          ⟨some 41, (.slc 0 false true), [.tmp 39, .tmp 40], none⟩,
          ⟨some 42, (.call 57), [.tmp 41], none⟩,
          ⟨some 4, .mv, [.tmp 42], none⟩])
        .ret))))))⟩

theorem f91_ok : compF Go.Proofs.Tryd.prog 91 f91.body.hints = some f91 := by kernel_rfl


def f94 : AFun := ⟨5, 1, [.slot 2],
  (.seq (.run [0] [⟨some 2, .mv, [.const (.string ⟨#[]⟩)], none⟩])
   (.seq (.run [2] [⟨some 3, .mv, [.tmp 0], none⟩,
      ⟨some 4, (.call 77), [.tmp 3, .const (.int .i64 10)], none⟩,
      ⟨some 2, .mv, [.tmp 4], none⟩])
    .ret))⟩

theorem f94_ok : compF Go.Proofs.Tryd.prog 94 f94.body.hints = some f94 := by kernel_rfl


def f98 : AFun := ⟨78, 2, [.slot 4],
  (.seq (.run [0, 1] [⟨some 4, .mv, [.const (.slice none 0 0)], none⟩])
   (.seq (.run [0, 1, 5] [⟨some 6, .mv, [.tmp 1], none⟩,
      ⟨some 7, (.cvi .u32), [.tmp 6], none⟩,
      ⟨some 5, .mv, [.tmp 7], none⟩])
    (.block 0 (.seq (.run [0, 1, 5, 11] [⟨some 12, .mv, [.tmp 5], none⟩,
        ⟨some 13, (.bin .leq), [.tmp 12, .const (.int .u32 2047)], none⟩,
        ⟨some 11, .mv, [.tmp 13], none⟩])
      (.cond (.tmp 11)
       (.seq (.run [4] [⟨some 14, .mv, [.tmp 0], none⟩,
          ⟨some 15, .mv, [.tmp 1], none⟩,
          ⟨some 16, (.bin .shr), [.tmp 15, .const (.int .u64 6)], none⟩,
          ⟨some 17, (.cvi .u8), [.tmp 16], none⟩,
          ⟨some 18, (.bin .or), [.const (.int .u8 192), .tmp 17], none⟩,
          ⟨some 19, .mv, [.tmp 1], none⟩,
          ⟨some 20, (.cvi .u8), [.tmp 19], none⟩,
          ⟨some 21, (.bin .and), [.tmp 20, .const (.int .u8 63)], none⟩,
          ⟨some 22, (.bin .or), [.const (.int .u8 128), .tmp 21], none⟩,
          ⟨some 23, (.bslice 1 2 [(.int .u8 0)] [(0, 1), (1, 1)]), [.tmp 18, .tmp 22], none⟩,
          ⟨some 24, (.app 1 1), [.tmp 14, .tmp 23], none⟩,
          ⟨some 4, .mv, [.tmp 24], none⟩])
        .ret)
       (.seq (.seq (.run [0, 1, 5, 25] [⟨some 26, .mv, [.tmp 5], none⟩,
           ⟨some 27, (.bin .lss), [.tmp 26, .const (.int .u32 55296)], none⟩,
           ⟨some 25, .mv, [.tmp 27], none⟩])
         (.cond (.tmp 25)
          .skip
          (.run [0, 1, 5, 25] [⟨some 28, .mv, [.tmp 5], none⟩,
            ⟨some 29, (.bin .lss), [.const (.int .u32 57343), .tmp 28], none⟩,
            ⟨some 30, .mv, [.tmp 29], none⟩,
            ⟨some 31, .mv, [.tmp 5], some (30, true)⟩,
            ⟨some 32, (.bin .leq), [.tmp 31, .const (.int .u32 65535)], some (30, true)⟩,
            ⟨some 33, .pick, [.tmp 30, .tmp 32, .const (.bool false)], none⟩,
            ⟨some 25, .mv, [.tmp 33], none⟩])))
        (.cond (.tmp 25)
         (.seq (.run [4] [⟨some 34, .mv, [.tmp 0], none⟩,
            ⟨some 35, .mv, [.tmp 1], none⟩,
            ⟨some 36, (.bin .shr), [.tmp 35, .const (.int .u64 12)], none⟩,
            ⟨some 37, (.cvi .u8), [.tmp 36], none⟩,
            ⟨some 38, (.bin .or), [.const (.int .u8 224), .tmp 37], none⟩,
            ⟨some 39, .mv, [.tmp 1], none⟩,
            ⟨some 40, (.bin .shr), [.tmp 39, .const (.int .u64 6)], none⟩,
            ⟨some 41, (.cvi .u8), [.tmp 40], none⟩,
            ⟨some 42, (.bin .and), [.tmp 41, .const (.int .u8 63)], none⟩,
            ⟨some 43, (.bin .or), [.const (.int .u8 128), .tmp 42], none⟩,
            ⟨some 44, .mv, [.tmp 1], none⟩,
            ⟨some 45, (.cvi .u8), [.tmp 44], none⟩,
            ⟨some 46, (.bin .and), [.tmp 45, .const (.int .u8 63)], none⟩,
            ⟨some 47, (.bin .or), [.const (.int .u8 128), .tmp 46], none⟩,
            ⟨some 48, (.bslice 1 3 [(.int .u8 0)] [(0, 1), (1, 1), (2, 1)]), [.tmp 38, .tmp 43, .tmp 47], none⟩,
            ⟨some 49, (.app 1 1), [.tmp 34, .tmp 48], none⟩,
            ⟨some 4, .mv, [.tmp 49], none⟩])
          .ret)
         (.seq (.run [0, 1, 50] [⟨some 51, .mv, [.tmp 5], none⟩,
            ⟨some 52, (.bin .gtr), [.tmp 51, .const (.int .u32 65535)], none⟩,
            ⟨some 53, .mv, [.tmp 52], none⟩,
            ⟨some 54, .mv, [.tmp 5], some (53, true)⟩,
            ⟨some 55, (.bin .leq), [.tmp 54, .const (.int .u32 1114111)], some (53, true)⟩,
            ⟨some 56, .pick, [.tmp 53, .tmp 55, .const (.bool false)], none⟩,
            ⟨some 50, .mv, [.tmp 56], none⟩])
          (.cond (.tmp 50)
           (.seq (.run [4] [⟨some 57, .mv, [.tmp 0], none⟩,
              ⟨some 58, .mv, [.tmp 1], none⟩,
              ⟨some 59, (.bin .shr), [.tmp 58, .const (.int .u64 18)], none⟩,
              ⟨some 60, (.cvi .u8), [.tmp 59], none⟩,
              ⟨some 61, (.bin .or), [.const (.int .u8 240), .tmp 60], none⟩,
              ⟨some 62, .mv, [.tmp 1], none⟩,
              ⟨some 63, (.bin .shr), [.tmp 62, .const (.int .u64 12)], none⟩,
              ⟨some 64, (.cvi .u8), [.tmp 63], none⟩,
              ⟨some 65, (.bin .and), [.tmp 64, .const (.int .u8 63)], none⟩,
              ⟨some 66, (.bin .or), [.const (.int .u8 128), .tmp 65], none⟩,
              ⟨some 67, .mv, [.tmp 1], none⟩,
              ⟨some 68, (.bin .shr), [.tmp 67, .const (.int .u64 6)], none⟩,
              ⟨some 69, (.cvi .u8), [.tmp 68], none⟩,
              ⟨some 70, (.bin .and), [.tmp 69, .const (.int .u8 63)], none⟩,
              ⟨some 71, (.bin .or), [.const (.int .u8 128), .tmp 70], none⟩,
              ⟨some 72, .mv, [.tmp 1], none⟩,
              ⟨some 73, (.cvi .u8), [.tmp 72], none⟩,
              ⟨some 74, (.bin .and), [.tmp 73, .const (.int .u8 63)], none⟩,
              ⟨some 75, (.bin .or), [.const (.int .u8 128), .tmp 74], none⟩,
              ⟨some 76, (.bslice 1 4 [(.int .u8 0)] [(0, 1), (1, 1), (2, 1), (3, 1)]), [.tmp 61, .tmp 66, .tmp 71, .tmp 75], none⟩,
              ⟨some 77, (.app 1 1), [.tmp 57, .tmp 76], none⟩,
              ⟨some 4, .mv, [.tmp 77], none⟩])
            .ret)
           (.seq (.run [4] [⟨some 8, .mv, [.tmp 0], none⟩,
              ⟨some 9, (.bslice 1 3 [(.int .u8 0)] [(0, 1), (1, 1), (2, 1)]), [.const (.int .u8 239), .const (.int .u8 191), .const (.int .u8 189)], none⟩,
              ⟨some 10, (.app 1 1), [.tmp 8, .tmp 9], none⟩,
              ⟨some 4, .mv, [.tmp 10], none⟩])
            .ret))))))))))⟩

theorem f98_ok : compF Go.Proofs.Tryd.prog 98 f98.body.hints = some f98 := by kernel_rfl


def f99 : AFun := ⟨15, 1, [.slot 2],
  (.seq (.run [0] [⟨some 2, .mv, [.const (.string ⟨#[]⟩)], none⟩])
   (.seq (.seq (.run [0, 4] [⟨some 3, .mv, [.tmp 0], none⟩,
       ⟨some 4, (.bin .lss), [.tmp 3, .const (.int .i64 10)], none⟩])
     (.cond (.tmp 4)
      (.seq (.run [2] [⟨some 5, .mv, [.tmp 0], none⟩,
         ⟨some 6, .mv, [.tmp 0], none⟩,
         ⟨some 7, (.bin .add), [.tmp 6, .const (.int .i64 1)], none⟩,
         ⟨some 8, (.slc 0 true true), [.const (.string ⟨#[48, 49, 50, 51, 52, 53, 54, 55, 56, 57, 97, 98, 99, 100, 101, 102, 103, 104, 105, 106, 107, 108, 109, 110, 111, 112, 113, 114, 115, 116, 117, 118, 119, 120, 121, 122]⟩), .tmp 5, .tmp 7], none⟩,
         ⟨some 2, .mv, [.tmp 8], none⟩])
       .ret)
      .skip))
    (.seq (.run [2] [⟨some 9, .mv, [.tmp 0], none⟩,
       ⟨some 10, (.bin .mul), [.tmp 9, .const (.int .i64 2)], none⟩,
       ⟨some 11, .mv, [.tmp 0], none⟩,
       ⟨some 12, (.bin .mul), [.tmp 11, .const (.int .i64 2)], none⟩,
       ⟨some 13, (.bin .add), [.tmp 12, .const (.int .i64 2)], none⟩,
       ⟨some 14, (.slc 0 true true), [.const (.string ⟨#[48, 48, 48, 49, 48, 50, 48, 51, 48, 52, 48, 53, 48, 54, 48, 55, 48, 56, 48, 57, 49, 48, 49, 49, 49, 50, 49, 51, 49, 52, 49, 53, 49, 54, 49, 55, 49, 56, 49, 57, 50, 48, 50, 49, 50, 50, 50, 51, 50, 52, 50, 53, 50, 54, 50, 55, 50, 56, 50, 57, 51, 48, 51, 49, 51, 50, 51, 51, 51, 52, 51, 53, 51, 54, 51, 55, 51, 56, 51, 57, 52, 48, 52, 49, 52, 50, 52, 51, 52, 52, 52, 53, 52, 54, 52, 55, 52, 56, 52, 57, 53, 48, 53, 49, 53, 50, 53, 51, 53, 52, 53, 53, 53, 54, 53, 55, 53, 56, 53, 57, 54, 48, 54, 49, 54, 50, 54, 51, 54, 52, 54, 53, 54, 54, 54, 55, 54, 56, 54, 57, 55, 48, 55, 49, 55, 50, 55, 51, 55, 52, 55, 53, 55, 54, 55, 55, 55, 56, 55, 57, 56, 48, 56, 49, 56, 50, 56, 51, 56, 52, 56, 53, 56, 54, 56, 55, 56, 56, 56, 57, 57, 48, 57, 49, 57, 50, 57, 51, 57, 52, 57, 53, 57, 54, 57, 55, 57, 56, 57, 57]⟩), .tmp 10, .tmp 13], none⟩,
       ⟨some 2, .mv, [.tmp 14], none⟩])
     .ret)))⟩

theorem f99_ok : compF Go.Proofs.Tryd.prog 99 f99.body.hints = some f99 := by kernel_rfl


def f102 : AFun := ⟨102, 5, [.slot 10, .slot 11],
  (.seq (.run [0, 1, 2, 3, 4, 10, 11] [⟨some 10, .mv, [.const (.slice none 0 0)], none⟩,
     ⟨some 11, .mv, [.const (.string ⟨#[]⟩)], none⟩])
   (.seq (.seq (.run [0, 1, 2, 3, 4, 10, 11, 28] [⟨some 19, .mv, [.tmp 2], none⟩,
       ⟨some 20, (.bin .lss), [.tmp 19, .const (.int .i64 2)], none⟩,
       ⟨some 21, .mv, [.tmp 20], none⟩,
       ⟨some 22, .mv, [.tmp 2], some (21, false)⟩,
       ⟨some 23, (.eqg false 6), [.tmp 22, .const (.int .i64 10)], some (21, false)⟩,
       ⟨some 24, .pick, [.tmp 21, .const (.bool true), .tmp 23], none⟩,
       ⟨some 25, .mv, [.tmp 24], none⟩,
       ⟨some 26, .mv, [.tmp 2], some (25, false)⟩,
       ⟨some 27, (.bin .gtr), [.tmp 26, .const (.int .i64 36)], some (25, false)⟩,
       ⟨some 28, .pick, [.tmp 25, .const (.bool true), .tmp 27], none⟩])
     (.cond (.tmp 28)
      (.run [0, 1, 2, 3, 4, 10, 11] [⟨some 29, (.mkif 9), [.const (.string ⟨#[115, 116, 114, 99, 111, 110, 118, 58, 32, 105, 108, 108, 101, 103, 97, 108, 32, 65, 112, 112, 101, 110, 100, 73, 110, 116, 47, 70, 111, 114, 109, 97, 116, 73, 110, 116, 32, 98, 97, 115, 101]⟩)], none⟩,
        ⟨none, .stuck, [], none⟩])
      .skip))
    (.seq (.run [0, 1, 2, 3, 4, 10, 11, 12] [⟨some 12, (.alloc [(.int .u8 0), (.int .u8 0), (.int .u8 0), (.int .u8 0), (.int .u8 0), (.int .u8 0), (.int .u8 0), (.int .u8 0), (.int .u8 0), (.int .u8 0), (.int .u8 0), (.int .u8 0), (.int .u8 0), (.int .u8 0), (.int .u8 0), (.int .u8 0), (.int .u8 0), (.int .u8 0), (.int .u8 0), (.int .u8 0), (.int .u8 0), (.int .u8 0), (.int .u8 0), (.int .u8 0), (.int .u8 0), (.int .u8 0), (.int .u8 0), (.int .u8 0), (.int .u8 0), (.int .u8 0), (.int .u8 0), (.int .u8 0), (.int .u8 0), (.int .u8 0), (.int .u8 0), (.int .u8 0), (.int .u8 0), (.int .u8 0), (.int .u8 0), (.int .u8 0), (.int .u8 0), (.int .u8 0), (.int .u8 0), (.int .u8 0), (.int .u8 0), (.int .u8 0), (.int .u8 0), (.int .u8 0), (.int .u8 0), (.int .u8 0), (.int .u8 0), (.int .u8 0), (.int .u8 0), (.int .u8 0), (.int .u8 0), (.int .u8 0), (.int .u8 0), (.int .u8 0), (.int .u8 0), (.int .u8 0), (.int .u8 0), (.int .u8 0), (.int .u8 0), (.int .u8 0), (.int .u8 0)]), [], none⟩])
     (.seq (.run [0, 1, 2, 3, 4, 10, 11, 12, 13] [⟨some 13, .mv, [.const (.int .i64 65)], none⟩])
      (.seq (.seq (.run [0, 1, 2, 3, 4, 10, 11, 12, 13, 30] [⟨some 30, .mv, [.tmp 3], none⟩])
        (.cond (.tmp 30)
         (.run [0, 1, 2, 3, 4, 10, 11, 12, 13] [⟨some 31, .mv, [.tmp 1], none⟩,
           ⟨some 32, (.un .neg), [.tmp 31], none⟩,
           ⟨some 1, .mv, [.tmp 32], none⟩])
         .skip))
       (.seq (.seq (.run [0, 1, 2, 3, 4, 10, 11, 12, 13, 34] [⟨some 33, .mv, [.tmp 2], none⟩,
           ⟨some 34, (.call 116), [.tmp 33], none⟩])
         (.cond (.tmp 34)
          (.seq (.run [0, 1, 2, 3, 4, 10, 11, 12, 13, 14] [⟨some 35, .mv, [.tmp 2], none⟩,
             ⟨some 36, (.cvi .u64), [.tmp 35], none⟩,
             ⟨some 37, (.call 117), [.tmp 36], none⟩,
             ⟨some 38, (.cvi .u64), [.tmp 37], none⟩,
             ⟨some 14, .mv, [.tmp 38], none⟩])
           (.seq (.run [0, 1, 2, 3, 4, 10, 11, 12, 13, 14, 15] [⟨some 39, .mv, [.tmp 2], none⟩,
              ⟨some 40, (.cvi .u64), [.tmp 39], none⟩,
              ⟨some 15, .mv, [.tmp 40], none⟩])
            (.seq (.run [0, 1, 3, 4, 10, 11, 12, 13, 14, 15, 16] [⟨some 41, .mv, [.tmp 2], none⟩,
               ⟨some 42, (.cvi .u64), [.tmp 41], none⟩,
               ⟨some 43, (.bin .sub), [.tmp 42, .const (.int .u64 1)], none⟩,
               ⟨some 16, .mv, [.tmp 43], none⟩])
             (.seq (.block 0 (.loop [0, 1, 3, 4, 10, 11, 12, 13, 14, 15, 16] (.seq (.seq (.run [0, 1, 3, 4, 10, 11, 12, 13, 14, 15, 16, 46] [⟨some 44, .mv, [.tmp 1], none⟩,
                    ⟨some 45, .mv, [.tmp 15], none⟩,
                    ⟨some 46, (.bin .geq), [.tmp 44, .tmp 45], none⟩])
                  (.cond (.tmp 46)
                   .skip
                   (.exit 0)))
                 (.block 1 (.seq (.run [0, 1, 3, 4, 10, 11, 12, 13, 14, 15, 16] [⟨some 47, .mv, [.tmp 13], none⟩,
                     ⟨some 48, (.bin .sub), [.tmp 47, .const (.int .i64 1)], none⟩,
                     ⟨some 13, .mv, [.tmp 48], none⟩])
                   (.seq (.run [0, 1, 3, 4, 10, 11, 12, 13, 14, 15, 16] [⟨some 49, .mv, [.tmp 13], none⟩,
                      ⟨some 50, .mv, [.tmp 1], none⟩,
                      ⟨some 51, .mv, [.tmp 16], none⟩,
                      ⟨some 52, (.bin .and), [.tmp 50, .tmp 51], none⟩,
                      ⟨some 53, .ixs, [.const (.string ⟨#[48, 49, 50, 51, 52, 53, 54, 55, 56, 57, 97, 98, 99, 100, 101, 102, 103, 104, 105, 106, 107, 108, 109, 110, 111, 112, 113, 114, 115, 116, 117, 118, 119, 120, 121, 122]⟩), .tmp 52], none⟩,
                      ⟨some 54, (.aaddr 1 65), [.tmp 12, .tmp 49], none⟩,
                      ⟨none, (.st 1), [.tmp 54, .tmp 53], none⟩])
                    (.run [0, 1, 3, 4, 10, 11, 12, 13, 14, 15, 16] [⟨some 55, .mv, [.tmp 1], none⟩,
                      ⟨some 56, .mv, [.tmp 14], none⟩,
                      ⟨some 57, (.bin .shr), [.tmp 55, .tmp 56], none⟩,
                      ⟨some 1, .mv, [.tmp 57], none⟩])))))))
              (.seq (.run [0, 1, 3, 4, 10, 11, 12, 13] [⟨some 58, .mv, [.tmp 13], none⟩,
                 ⟨some 59, (.bin .sub), [.tmp 58, .const (.int .i64 1)], none⟩,
                 ⟨some 13, .mv, [.tmp 59], none⟩])
               (.run [0, 3, 4, 10, 11, 12, 13] [⟨some 60, .mv, [.tmp 13], none⟩,
                 ⟨some 61, .mv, [.tmp 1], none⟩,
                 ⟨some 62, .ixs, [.const (.string ⟨#[48, 49, 50, 51, 52, 53, 54, 55, 56, 57, 97, 98, 99, 100, 101, 102, 103, 104, 105, 106, 107, 108, 109, 110, 111, 112, 113, 114, 115, 116, 117, 118, 119, 120, 121, 122]⟩), .tmp 61], none⟩,
                 ⟨some 63, (.aaddr 1 65), [.tmp 12, .tmp 60], none⟩,
                 ⟨none, (.st 1), [.tmp 63, .tmp 62], none⟩]))))))
          (.seq (.run [0, 1, 3, 4, 10, 11, 12, 13, 17] [⟨some 64, .mv, [.tmp 2], none⟩,
             ⟨some 65, (.cvi .u64), [.tmp 64], none⟩,
             ⟨some 17, .mv, [.tmp 65], none⟩])
           (.seq (.block 2 (.loop [0, 1, 3, 4, 10, 11, 12, 13, 17] (.seq (.seq (.run [0, 1, 3, 4, 10, 11, 12, 13, 17, 68] [⟨some 66, .mv, [.tmp 1], none⟩,
                  ⟨some 67, .mv, [.tmp 17], none⟩,
                  ⟨some 68, (.bin .geq), [.tmp 66, .tmp 67], none⟩])
                (.cond (.tmp 68)
                 .skip
                 (.exit 2)))
               (.block 3 (.seq (.run [0, 1, 3, 4, 10, 11, 12, 13, 17] [⟨some 69, .mv, [.tmp 13], none⟩,
                   ⟨some 70, (.bin .sub), [.tmp 69, .const (.int .i64 1)], none⟩,
                   ⟨some 13, .mv, [.tmp 70], none⟩])
                 (.seq (.run [0, 1, 3, 4, 10, 11, 12, 13, 17, 18] [⟨some 71, .mv, [.tmp 1], none⟩,
                    ⟨some 72, .mv, [.tmp 17], none⟩,
                    ⟨some 73, (.bin .quo), [.tmp 71, .tmp 72], none⟩,
                    ⟨some 18, .mv, [.tmp 73], none⟩])
                  (.seq (.run [0, 3, 4, 10, 11, 12, 13, 17, 18] [⟨some 74, .mv, [.tmp 13], none⟩,
                     ⟨some 75, .mv, [.tmp 1], none⟩,
                     ⟨some 76, .mv, [.tmp 18], none⟩,
                     ⟨some 77, .mv, [.tmp 17], none⟩,
                     ⟨some 78, (.bin .mul), [.tmp 76, .tmp 77], none⟩,
                     ⟨some 79, (.bin .sub), [.tmp 75, .tmp 78], none⟩,
                     ⟨some 80, .ixs, [.const (.string ⟨#[48, 49, 50, 51, 52, 53, 54, 55, 56, 57, 97, 98, 99, 100, 101, 102, 103, 104, 105, 106, 107, 108, 109, 110, 111, 112, 113, 114, 115, 116, 117, 118, 119, 120, 121, 122]⟩), .tmp 79], none⟩,
                     ⟨some 81, (.aaddr 1 65), [.tmp 12, .tmp 74], none⟩,
                     ⟨none, (.st 1), [.tmp 81, .tmp 80], none⟩])
                   (.run [0, 1, 3, 4, 10, 11, 12, 13, 17] [⟨some 82, .mv, [.tmp 18], none⟩,
                     ⟨some 1, .mv, [.tmp 82], none⟩]))))))))
            (.seq (.run [0, 1, 3, 4, 10, 11, 12, 13] [⟨some 83, .mv, [.tmp 13], none⟩,
               ⟨some 84, (.bin .sub), [.tmp 83, .const (.int .i64 1)], none⟩,
               ⟨some 13, .mv, [.tmp 84], none⟩])
             (.run [0, 3, 4, 10, 11, 12, 13] [⟨some 85, .mv, [.tmp 13], none⟩,
               ⟨some 86, .mv, [.tmp 1], none⟩,
               ⟨some 87, .ixs, [.const (.string ⟨#[48, 49, 50, 51, 52, 53, 54, 55, 56, 57, 97, 98, 99, 100, 101, 102, 103, 104, 105, 106, 107, 108, 109, 110, 111, 112, 113, 114, 115, 116, 117, 118, 119, 120, 121, 122]⟩), .tmp 86], none⟩,
               ⟨some 88, (.aaddr 1 65), [.tmp 12, .tmp 85], none⟩,
               ⟨none, (.st 1), [.tmp 88, .tmp 87], none⟩]))))))
        (.seq (.seq (.run [0, 4, 10, 11, 12, 13, 89] [⟨some 89, .mv, [.tmp 3], none⟩])
          (.cond (.tmp 89)
           (.seq (.run [0, 4, 10, 11, 12, 13] [⟨some 90, .mv, [.tmp 13], none⟩,
              ⟨some 91, (.bin .sub), [.tmp 90, .const (.int .i64 1)], none⟩,
              ⟨some 13, .mv, [.tmp 91], none⟩])
            (.run [0, 4, 10, 11, 12, 13] [⟨some 92, .mv, [.tmp 13], none⟩,
              ⟨some 93, (.aaddr 1 65), [.tmp 12, .tmp 92], none⟩,
              ⟨none, (.st 1), [.tmp 93, .const (.int .u8 45)], none⟩]))
           .skip))
         (.seq (.seq (.run [0, 10, 11, 12, 13, 94] [⟨some 94, .mv, [.tmp 4], none⟩])
           (.cond (.tmp 94)
            (.seq (.run [10, 11] [⟨some 95, .mv, [.tmp 0], none⟩,
               ⟨some 96, .mv, [.tmp 13], none⟩,
               ⟨some 97, (.slp 1 65 true false), [.tmp 12, .tmp 96], none⟩,
               ⟨some 98, (.app 1 1), [.tmp 95, .tmp 97], none⟩,
               ⟨some 10, .mv, [.tmp 98], none⟩])
             .ret)
            .skip))
          (.seq (.run [10, 11] [⟨some 99, .mv, [.tmp 13], none⟩,
             ⟨some 100, (.slp 1 65 true false), [.tmp 12, .tmp 99], none⟩,
             ⟨some 101, .cvb, [.tmp 100], none⟩,
             ⟨some 11, .mv, [.tmp 101], none⟩])
           .ret)))))))))⟩

theorem f102_ok : compF Go.Proofs.Tryd.prog 102 f102.body.hints = some f102 := by kernel_rfl


def f107 : AFun := ⟨21, 3, [.slot 6],
  (.seq (.run [0, 1, 2] [⟨some 6, .mv, [.const (.int .i64 0)], none⟩])
   (.seq (.seq (.run [1, 2, 10] [⟨some 9, .mv, [.tmp 0], none⟩,
       ⟨some 10, .rngs, [.tmp 9], none⟩])
     (.block 0 (.loop [1, 2, 10] (.seq (.run [1, 2, 10, 11, 12] [⟨some 11, .nxts, [.tmp 10], none⟩,
          ⟨some 12, (.ext 0), [.tmp 11], none⟩])
        (.seq (.cond (.tmp 12)
          .skip
          (.exit 0))
         (.block 1 (.seq (.run [1, 2, 7, 8, 10] [⟨some 13, (.ext 1), [.tmp 11], none⟩,
             ⟨some 14, (.ext 2), [.tmp 11], none⟩,
             ⟨some 7, .mv, [.tmp 13], none⟩,
             ⟨some 8, .mv, [.tmp 14], none⟩])
           (.seq (.run [1, 2, 7, 10, 19] [⟨some 15, .mv, [.tmp 1], none⟩,
              ⟨some 16, .mv, [.tmp 8], none⟩,
              ⟨some 17, .callv, [.tmp 15, .tmp 16], none⟩,
              ⟨some 18, .mv, [.tmp 2], none⟩,
              ⟨some 19, (.eqg false 0), [.tmp 17, .tmp 18], none⟩])
            (.cond (.tmp 19)
             (.seq (.run [6] [⟨some 20, .mv, [.tmp 7], none⟩,
                ⟨some 6, .mv, [.tmp 20], none⟩])
              .ret)
             .skip)))))))))
    (.seq (.run [6] [⟨some 6, .mv, [.const (.int .i64 (-1))], none⟩])
     .ret)))⟩

theorem f107_ok : compF Go.Proofs.Tryd.prog 107 f107.body.hints = some f107 := by kernel_rfl


def f111 : AFun := ⟨122, 1, [.slot 2, .slot 3],
  (.seq (.run [0] [⟨some 2, .mv, [.const (.int .i32 0)], none⟩,
     ⟨some 3, .mv, [.const (.int .i64 0)], none⟩])
   (.seq (.run [0, 4] [⟨some 13, .mv, [.tmp 0], none⟩,
      ⟨some 14, (.len 1), [.tmp 13], none⟩,
      ⟨some 4, .mv, [.tmp 14], none⟩])
    (.seq (.seq (.run [0, 4, 16] [⟨some 15, .mv, [.tmp 4], none⟩,
        ⟨some 16, (.bin .lss), [.tmp 15, .const (.int .i64 1)], none⟩])
      (.cond (.tmp 16)
       (.seq (.run [2, 3] [⟨some 2, .mv, [.const (.int .i32 65533)], none⟩,
          ⟨some 3, .mv, [.const (.int .i64 0)], none⟩])
        .ret)
       .skip))
     (.seq (.run [0, 4, 5] [⟨some 17, .mv, [.tmp 0], none⟩,
        ⟨some 18, (.iaddr 1), [.tmp 17, .const (.int .i64 0)], none⟩,
        ⟨some 19, (.ld false 1), [.tmp 18], none⟩,
        ⟨some 5, .mv, [.tmp 19], none⟩])
      (.seq (.run [0, 4, 5, 6] [⟨some 20, .mv, [.tmp 5], none⟩,
         ⟨some 21, (.aaddr 1 256), [.global 0, .tmp 20], none⟩,
         ⟨some 22, (.ld false 1), [.tmp 21], none⟩,
         ⟨some 6, .mv, [.tmp 22], none⟩])
       (.seq (.seq (.run [0, 4, 5, 6, 24] [⟨some 23, .mv, [.tmp 6], none⟩,
           ⟨some 24, (.bin .geq), [.tmp 23, .const (.int .u8 240)], none⟩])
         (.cond (.tmp 24)
          (.seq (.run [0, 7] [⟨some 25, .mv, [.tmp 6], none⟩,
             ⟨some 26, (.cvi .i32), [.tmp 25], none⟩,
             ⟨some 27, (.bin .shl), [.tmp 26, .const (.int .u64 31)], none⟩,
             ⟨some 28, (.bin .shr), [.tmp 27, .const (.int .u64 31)], none⟩,
             ⟨some 7, .mv, [.tmp 28], none⟩])
           (.seq (.run [2, 3] [⟨some 29, .mv, [.tmp 0], none⟩,
              ⟨some 30, (.iaddr 1), [.tmp 29, .const (.int .i64 0)], none⟩,
              ⟨some 31, (.ld false 1), [.tmp 30], none⟩,
              ⟨some 32, (.cvi .i32), [.tmp 31], none⟩,
              ⟨some 33, .mv, [.tmp 7], none⟩,
              ⟨some 34, (.bin .andNot), [.tmp 32, .tmp 33], none⟩,
              ⟨some 35, .mv, [.tmp 7], none⟩,
              ⟨some 36, (.bin .and), [.const (.int .i32 65533), .tmp 35], none⟩,
              ⟨some 37, (.bin .or), [.tmp 34, .tmp 36], none⟩,
              ⟨some 2, .mv, [.tmp 37], none⟩,
              ⟨some 3, .mv, [.const (.int .i64 1)], none⟩])
            .ret))
          .skip))
        (.seq (.run [0, 4, 5, 6, 8] [⟨some 38, .mv, [.tmp 6], none⟩,
           ⟨some 39, (.bin .and), [.tmp 38, .const (.int .u8 7)], none⟩,
           ⟨some 40, (.cvi .i64), [.tmp 39], none⟩,
           ⟨some 8, .mv, [.tmp 40], none⟩])
         (.seq (.run [0, 4, 5, 8, 9] [⟨some 41, .mv, [.tmp 6], none⟩,
            ⟨some 42, (.bin .shr), [.tmp 41, .const (.int .u64 4)], none⟩,
            ⟨some 43, (.aaddr 2 16), [.global 1, .tmp 42], none⟩,
            ⟨some 44, (.ld true 2), [.tmp 43], none⟩,
            ⟨some 9, (.alloc [(.int .u8 0), (.int .u8 0)]), [], none⟩,
            ⟨none, (.st 2), [.tmp 9, .tmp 44], none⟩])
          (.seq (.seq (.run [0, 5, 8, 9, 47] [⟨some 45, .mv, [.tmp 4], none⟩,
              ⟨some 46, .mv, [.tmp 8], none⟩,
              ⟨some 47, (.bin .lss), [.tmp 45, .tmp 46], none⟩])
            (.cond (.tmp 47)
             (.seq (.run [2, 3] [⟨some 2, .mv, [.const (.int .i32 65533)], none⟩,
                ⟨some 3, .mv, [.const (.int .i64 1)], none⟩])
              .ret)
             .skip))
           (.seq (.run [0, 5, 8, 9, 10] [⟨some 48, .mv, [.tmp 0], none⟩,
              ⟨some 49, (.iaddr 1), [.tmp 48, .const (.int .i64 1)], none⟩,
              ⟨some 50, (.ld false 1), [.tmp 49], none⟩,
              ⟨some 10, .mv, [.tmp 50], none⟩])
            (.seq (.seq (.run [0, 5, 8, 10, 60] [⟨some 51, .mv, [.tmp 10], none⟩,
                ⟨some 52, (.faddr 0), [.tmp 9], none⟩,
                ⟨some 53, (.ld false 1), [.tmp 52], none⟩,
                ⟨some 54, (.bin .lss), [.tmp 51, .tmp 53], none⟩,
                ⟨some 55, .mv, [.tmp 54], none⟩,
                ⟨some 56, (.faddr 1), [.tmp 9], some (55, false)⟩,
                ⟨some 57, (.ld false 1), [.tmp 56], some (55, false)⟩,
                ⟨some 58, .mv, [.tmp 10], some (55, false)⟩,
                ⟨some 59, (.bin .lss), [.tmp 57, .tmp 58], some (55, false)⟩,
                ⟨some 60, .pick, [.tmp 55, .const (.bool true), .tmp 59], none⟩])
              (.cond (.tmp 60)
               (.seq (.run [2, 3] [⟨some 2, .mv, [.const (.int .i32 65533)], none⟩,
                  ⟨some 3, .mv, [.const (.int .i64 1)], none⟩])
                .ret)
               .skip))
             (.seq (.seq (.run [0, 5, 8, 10, 62] [⟨some 61, .mv, [.tmp 8], none⟩,
                 ⟨some 62, (.bin .leq), [.tmp 61, .const (.int .i64 2)], none⟩])
               (.cond (.tmp 62)
                (.seq (.run [2, 3] [⟨some 63, .mv, [.tmp 5], none⟩,
                   ⟨some 64, (.bin .and), [.tmp 63, .const (.int .u8 31)], none⟩,
                   ⟨some 65, (.cvi .i32), [.tmp 64], none⟩,
                   ⟨some 66, (.bin .shl), [.tmp 65, .const (.int .u64 6)], none⟩,
                   ⟨some 67, .mv, [.tmp 10], none⟩,
                   ⟨some 68, (.bin .and), [.tmp 67, .const (.int .u8 63)], none⟩,
                   ⟨some 69, (.cvi .i32), [.tmp 68], none⟩,
                   ⟨some 70, (.bin .or), [.tmp 66, .tmp 69], none⟩,
                   ⟨some 2, .mv, [.tmp 70], none⟩,
                   ⟨some 3, .mv, [.const (.int .i64 2)], none⟩])
                 .ret)
                .skip))
              (.seq (.run [0, 5, 8, 10, 11] [⟨some 71, .mv, [.tmp 0], none⟩,
                 ⟨some 72, (.iaddr 1), [.tmp 71, .const (.int .i64 2)], none⟩,
                 ⟨some 73, (.ld false 1), [.tmp 72], none⟩,
                 ⟨some 11, .mv, [.tmp 73], none⟩])
               (.seq (.seq (.run [0, 5, 8, 10, 11, 79] [⟨some 74, .mv, [.tmp 11], none⟩,
                   ⟨some 75, (.bin .lss), [.tmp 74, .const (.int .u8 128)], none⟩,
                   ⟨some 76, .mv, [.tmp 75], none⟩,
                   ⟨some 77, .mv, [.tmp 11], some (76, false)⟩,
                   ⟨some 78, (.bin .lss), [.const (.int .u8 191), .tmp 77], some (76, false)⟩,
                   ⟨some 79, .pick, [.tmp 76, .const (.bool true), .tmp 78], none⟩])
                 (.cond (.tmp 79)
                  (.seq (.run [2, 3] [⟨some 2, .mv, [.const (.int .i32 65533)], none⟩,
                     ⟨some 3, .mv, [.const (.int .i64 1)], none⟩])
                   .ret)
                  .skip))
                (.seq (.seq (.run [0, 5, 10, 11, 81] [⟨some 80, .mv, [.tmp 8], none⟩,
                    ⟨some 81, (.bin .leq), [.tmp 80, .const (.int .i64 3)], none⟩])
                  (.cond (.tmp 81)
                   (.seq (.run [2, 3] [⟨some 82, .mv, [.tmp 5], none⟩,
                      ⟨some 83, (.bin .and), [.tmp 82, .const (.int .u8 15)], none⟩,
                      ⟨some 84, (.cvi .i32), [.tmp 83], none⟩,
                      ⟨some 85, (.bin .shl), [.tmp 84, .const (.int .u64 12)], none⟩,
                      ⟨some 86, .mv, [.tmp 10], none⟩,
                      ⟨some 87, (.bin .and), [.tmp 86, .const (.int .u8 63)], none⟩,
                      ⟨some 88, (.cvi .i32), [.tmp 87], none⟩,
                      ⟨some 89, (.bin .shl), [.tmp 88, .const (.int .u64 6)], none⟩,
                      ⟨some 90, (.bin .or), [.tmp 85, .tmp 89], none⟩,
                      ⟨some 91, .mv, [.tmp 11], none⟩,
                      ⟨some 92, (.bin .and), [.tmp 91, .const (.int .u8 63)], none⟩,
                      ⟨some 93, (.cvi .i32), [.tmp 92], none⟩,
                      ⟨some 94, (.bin .or), [.tmp 90, .tmp 93], none⟩,
                      ⟨some 2, .mv, [.tmp 94], none⟩,
                      ⟨some 3, .mv, [.const (.int .i64 3)], none⟩])
                    .ret)
                   .skip))
                 (.seq (.run [5, 10, 11, 12] [⟨some 95, .mv, [.tmp 0], none⟩,
                    ⟨some 96, (.iaddr 1), [.tmp 95, .const (.int .i64 3)], none⟩,
                    ⟨some 97, (.ld false 1), [.tmp 96], none⟩,
                    ⟨some 12, .mv, [.tmp 97], none⟩])
                  (.seq (.seq (.run [5, 10, 11, 12, 103] [⟨some 98, .mv, [.tmp 12], none⟩,
                      ⟨some 99, (.bin .lss), [.tmp 98, .const (.int .u8 128)], none⟩,
                      ⟨some 100, .mv, [.tmp 99], none⟩,
                      ⟨some 101, .mv, [.tmp 12], some (100, false)⟩,
                      ⟨some 102, (.bin .lss), [.const (.int .u8 191), .tmp 101], some (100, false)⟩,
                      ⟨some 103, .pick, [.tmp 100, .const (.bool true), .tmp 102], none⟩])
                    (.cond (.tmp 103)
                     (.seq (.run [2, 3] [⟨some 2, .mv, [.const (.int .i32 65533)], none⟩,
                        ⟨some 3, .mv, [.const (.int .i64 1)], none⟩])
                      .ret)
                     .skip))
                   (.seq (.run [2, 3] [⟨some 104, .mv, [.tmp 5], none⟩,
                      ⟨some 105, (.bin .and), [.tmp 104, .const (.int .u8 7)], none⟩,
                      ⟨some 106, (.cvi .i32), [.tmp 105], none⟩,
                      ⟨some 107, (.bin .shl), [.tmp 106, .const (.int .u64 18)], none⟩,
                      ⟨some 108, .mv, [.tmp 10], none⟩,
                      ⟨some 109, (.bin .and), [.tmp 108, .const (.int .u8 63)], none⟩,
                      ⟨some 110, (.cvi .i32), [.tmp 109], none⟩,
                      ⟨some 111, (.bin .shl), [.tmp 110, .const (.int .u64 12)], none⟩,
                      ⟨some 112, (.bin .or), [.tmp 107, .tmp 111], none⟩,
                      ⟨some 113, .mv, [.tmp 11], none⟩,
                      ⟨some 114, (.bin .and), [.tmp 113, .const (.int .u8 63)], none⟩,
                      ⟨some 115, (.cvi .i32), [.tmp 114], none⟩,
                      ⟨some 116, (.bin .shl), [.tmp 115, .const (.int .u64 6)], none⟩,
                      ⟨some 117, (.bin .or), [.tmp 112, .tmp 116], none⟩,
                      ⟨some 118, .mv, [.tmp 12], none⟩,
                      ⟨some 119, (.bin .and), [.tmp 118, .const (.int .u8 63)], none⟩,
                      ⟨some 120, (.cvi .i32), [.tmp 119], none⟩,
                      ⟨some 121, (.bin .or), [.tmp 117, .tmp 120], none⟩,
                      ⟨some 2, .mv, [.tmp 121], none⟩,
                      ⟨some 3, .mv, [.const (.int .i64 4)], none⟩])
                    .ret))))))))))))))))))⟩

theorem f111_ok : compF Go.Proofs.Tryd.prog 111 f111.body.hints = some f111 := by kernel_rfl


def f116 : AFun := ⟨8, 1, [.slot 2],
  (.seq (.run [0] [⟨some 2, .mv, [.const (.bool false)], none⟩])
   (.seq (.run [2] [⟨some 3, .mv, [.tmp 0], none⟩,
      ⟨some 4, .mv, [.tmp 0], none⟩,
      ⟨some 5, (.bin .sub), [.tmp 4, .const (.int .i64 1)], none⟩,
      ⟨some 6, (.bin .and), [.tmp 3, .tmp 5], none⟩,
      ⟨some 7, (.eqg false 6), [.tmp 6, .const (.int .i64 0)], none⟩,
      ⟨some 2, .mv, [.tmp 7], none⟩])
    .ret))⟩

theorem f116_ok : compF Go.Proofs.Tryd.prog 116 f116.body.hints = some f116 := by kernel_rfl


def f117 : AFun := ⟨8, 1, [.slot 2],
  (.seq (.run [0] [⟨some 2, .mv, [.const (.int .i64 0)], none⟩])
   (.seq (.cond (.const (.bool false))
     (.seq (.run [2] [⟨some 3, .mv, [.tmp 0], none⟩,
        ⟨some 4, (.cvi .u32), [.tmp 3], none⟩,
        ⟨some 5, (.call 120), [.tmp 4], none⟩,
        ⟨some 2, .mv, [.tmp 5], none⟩])
      .ret)
     .skip)
    (.seq (.run [2] [⟨some 6, .mv, [.tmp 0], none⟩,
       ⟨some 7, (.call 121), [.tmp 6], none⟩,
       ⟨some 2, .mv, [.tmp 7], none⟩])
     .ret)))⟩

theorem f117_ok : compF Go.Proofs.Tryd.prog 117 f117.body.hints = some f117 := by kernel_rfl


def f121 : AFun := ⟨14, 1, [.slot 2],
  (.seq (.run [0] [⟨some 2, .mv, [.const (.int .i64 0)], none⟩])
   (.seq (.seq (.run [0, 4] [⟨some 3, .mv, [.tmp 0], none⟩,
       ⟨some 4, (.eqg false 6), [.tmp 3, .const (.int .u64 0)], none⟩])
     (.cond (.tmp 4)
      (.seq (.run [2] [⟨some 2, .mv, [.const (.int .i64 64)], none⟩])
       .ret)
      .skip))
    (.seq (.run [2] [⟨some 5, .mv, [.tmp 0], none⟩,
       ⟨some 6, .mv, [.tmp 0], none⟩,
       ⟨some 7, (.un .neg), [.tmp 6], none⟩,
       ⟨some 8, (.bin .and), [.tmp 5, .tmp 7], none⟩,
       ⟨some 9, (.bin .mul), [.tmp 8, .const (.int .u64 285870213051353865)], none⟩,
       ⟨some 10, (.bin .shr), [.tmp 9, .const (.int .u64 58)], none⟩,
       ⟨some 11, (.aaddr 1 64), [.global 5, .tmp 10], none⟩,
       ⟨some 12, (.ld false 1), [.tmp 11], none⟩,
       ⟨some 13, (.cvi .i64), [.tmp 12], none⟩,
       ⟨some 2, .mv, [.tmp 13], none⟩])
     .ret)))⟩

theorem f121_ok : compF Go.Proofs.Tryd.prog 121 f121.body.hints = some f121 := by kernel_rfl

end Go.AL.Fun
