/- The functions of this seat's program, turned. Printed by a program; each is checked against the program. -/
import Derived.Test.YtcmgeflfapffoaaDoorB3
import Derived.Test.YtcmgeflfapffoaaDoorProg
import Derived.KernelRfl
namespace Go.AL.Fun
open Go.AL


def f11 : AFun := ⟨16, 0, [.slot 0],
  (.seq (.run [] [⟨some 0, .mv, [.const (.bool false)], none⟩])
   (.seq (.run [1, 2] [⟨some 4, (.bslice 1 3 [(.int .u8 0)] [(0, 1), (1, 1), (2, 1)]), [.const (.int .u8 97), .const (.int .u8 98), .const (.int .u8 99)], none⟩,
      ⟨some 5, .cvm, [.tmp 4], none⟩,
      ⟨some 6, (.call 12), [.tmp 5, .const (.int .i64 2)], none⟩,
      ⟨some 3, .mv, [.tmp 6], none⟩,
      ⟨some 7, (.ext 0), [.tmp 3], none⟩,
      ⟨some 8, (.ext 1), [.tmp 3], none⟩,
      ⟨some 1, .mv, [.tmp 7], none⟩,
      ⟨some 2, .mv, [.tmp 8], none⟩])
    (.seq (.run [0] [⟨some 9, .mv, [.tmp 2], none⟩,
       ⟨some 10, (.eqg false 6), [.tmp 9, .const (.int .i64 0)], none⟩,
       ⟨some 11, .mv, [.tmp 10], none⟩,
       ⟨some 12, .mv, [.tmp 1], some (11, true)⟩,
       ⟨some 13, .cvb, [.tmp 12], some (11, true)⟩,
       ⟨some 14, (.eqg false 6), [.tmp 13, .const (.string ⟨#[50, 13, 10, 97, 98, 13, 10, 49, 13, 10, 99, 13, 10, 48, 13, 10, 13, 10]⟩)], some (11, true)⟩,
       ⟨some 15, .pick, [.tmp 11, .tmp 14, .const (.bool false)], none⟩,
       ⟨some 0, .mv, [.tmp 15], none⟩])
     .ret)))⟩

theorem f11_ok : compF Go.Proofs.Tryd.prog 11 f11.body.hints = some f11 := by kernel_rfl


def f13 : AFun := ⟨36, 2, [.slot 4, .slot 5],
  (.seq (.run [0, 1] [⟨some 4, .mv, [.const (.slice none 0 0)], none⟩,
     ⟨some 5, .mv, [.const (.int .i64 0)], none⟩])
   (.seq (.seq (.run [0, 1, 13] [⟨some 8, .mv, [.tmp 1], none⟩,
       ⟨some 9, (.bin .lss), [.tmp 8, .const (.int .i64 1)], none⟩,
       ⟨some 10, .mv, [.tmp 9], none⟩,
       ⟨some 11, .mv, [.tmp 1], some (10, false)⟩,
       ⟨some 12, (.bin .gtr), [.tmp 11, .const (.int .i64 65536)], some (10, false)⟩,
       ⟨some 13, .pick, [.tmp 10, .const (.bool true), .tmp 12], none⟩])
     (.cond (.tmp 13)
      (.seq (.run [4, 5] [⟨some 4, .mv, [.const (.slice none 0 0)], none⟩,
         ⟨some 5, .mv, [.const (.int .i64 3)], none⟩])
       .ret)
      .skip))
    (.seq (.run [0, 1, 6] [⟨some 6, .mv, [.const (.slice none 0 0)], none⟩])
     (.seq (.block 0 (.loop [0, 1, 6] (.seq (.seq (.run [0, 1, 6, 16] [⟨some 14, .mv, [.tmp 0], none⟩,
            ⟨some 15, (.len 1), [.tmp 14], none⟩,
            ⟨some 16, (.bin .gtr), [.tmp 15, .const (.int .i64 0)], none⟩])
          (.cond (.tmp 16)
           .skip
           (.exit 0)))
         (.block 1 (.seq (.run [0, 1, 6, 7] [⟨some 17, .mv, [.tmp 1], none⟩,
             ⟨some 7, .mv, [.tmp 17], none⟩])
           (.seq (.seq (.run [0, 1, 6, 7, 21] [⟨some 18, .mv, [.tmp 7], none⟩,
               ⟨some 19, .mv, [.tmp 0], none⟩,
               ⟨some 20, (.len 1), [.tmp 19], none⟩,
               ⟨some 21, (.bin .gtr), [.tmp 18, .tmp 20], none⟩])
             (.cond (.tmp 21)
              (.run [0, 1, 6, 7] [⟨some 22, .mv, [.tmp 0], none⟩,
                ⟨some 23, (.len 1), [.tmp 22], none⟩,
                ⟨some 7, .mv, [.tmp 23], none⟩])
              .skip))
            (.seq (.run [0, 1, 6, 7] [⟨some 24, .mv, [.tmp 6], none⟩,
               ⟨some 25, .mv, [.tmp 0], none⟩,
               ⟨some 26, .mv, [.tmp 7], none⟩,
               ⟨some 27, (.slc 1 false true), [.tmp 25, .tmp 26], none⟩,
               ⟨some 28, (.call 17), [.tmp 27], none⟩,
               ⟨some 29, (.app 1 1), [.tmp 24, .tmp 28], none⟩,
               ⟨some 6, .mv, [.tmp 29], none⟩])
             (.run [0, 1, 6] [⟨some 30, .mv, [.tmp 0], none⟩,
               ⟨some 31, .mv, [.tmp 7], none⟩,
               ⟨some 32, (.slc 1 true false), [.tmp 30, .tmp 31], none⟩,
               ⟨some 0, .mv, [.tmp 32], none⟩]))))))))
      (.seq (.run [4, 5] [⟨some 33, .mv, [.tmp 6], none⟩,
         ⟨some 34, (.call 17), [.const (.slice none 0 0)], none⟩,
         ⟨some 35, (.app 1 1), [.tmp 33, .tmp 34], none⟩,
         ⟨some 4, .mv, [.tmp 35], none⟩,
         ⟨some 5, .mv, [.const (.int .i64 0)], none⟩])
       .ret)))))⟩

theorem f13_ok : compF Go.Proofs.Tryd.prog 13 f13.body.hints = some f13 := by kernel_rfl


def f14 : AFun := ⟨13, 1, [.slot 2, .slot 3],
  (.seq (.run [0] [⟨some 2, .mv, [.const (.pointer none)], none⟩,
     ⟨some 3, .mv, [.const (.int .i64 0)], none⟩])
   (.seq (.seq (.run [0, 9] [⟨some 4, .mv, [.tmp 0], none⟩,
       ⟨some 5, (.bin .lss), [.tmp 4, .const (.int .i64 1)], none⟩,
       ⟨some 6, .mv, [.tmp 5], none⟩,
       ⟨some 7, .mv, [.tmp 0], some (6, false)⟩,
       ⟨some 8, (.bin .gtr), [.tmp 7, .const (.int .i64 65536)], some (6, false)⟩,
       ⟨some 9, .pick, [.tmp 6, .const (.bool true), .tmp 8], none⟩])
     (.cond (.tmp 9)
      (.seq (.run [2, 3] [⟨some 2, .mv, [.const (.pointer none)], none⟩,
         ⟨some 3, .mv, [.const (.int .i64 3)], none⟩])
       .ret)
      .skip))
    (.seq (.run [2, 3] [⟨some 10, .mv, [.tmp 0], none⟩,
       ⟨some 11, (.build [(.int .i64 0), (.sl [] .nil), (.bool false)] [(0, 1)]), [.tmp 10], none⟩,
       ⟨some 12, .box, [.tmp 11], none⟩,
       ⟨some 2, .mv, [.tmp 12], none⟩,
       ⟨some 3, .mv, [.const (.int .i64 0)], none⟩])
     .ret)))⟩

theorem f14_ok : compF Go.Proofs.Tryd.prog 14 f14.body.hints = some f14 := by kernel_rfl


def f15 : AFun := ⟨26, 2, [.slot 4],
  (.seq (.run [0, 1] [⟨some 4, .mv, [.const (.int .i64 0)], none⟩])
   (.seq (.seq (.run [0, 1, 5] [⟨some 6, .mv, [.tmp 0], none⟩,
       ⟨some 7, (.call 36), [.tmp 6], none⟩,
       ⟨some 5, .mv, [.tmp 7], none⟩])
     (.seq (.run [0, 1, 5, 9] [⟨some 8, .mv, [.tmp 5], none⟩,
        ⟨some 9, (.eqg true 6), [.tmp 8, .const (.int .i64 0)], none⟩])
      (.cond (.tmp 9)
       (.seq (.run [4] [⟨some 10, .mv, [.tmp 5], none⟩,
          ⟨some 4, .mv, [.tmp 10], none⟩])
        .ret)
       .skip)))
    (.seq (.seq (.run [0, 1, 22] [⟨some 11, .mv, [.tmp 1], none⟩,
        ⟨some 12, (.len 1), [.tmp 11], none⟩,
        ⟨some 13, (.eqg false 6), [.tmp 12, .const (.int .i64 0)], none⟩,
        ⟨some 14, .mv, [.tmp 13], none⟩,
        ⟨some 15, .mv, [.tmp 1], some (14, false)⟩,
        ⟨some 16, (.len 1), [.tmp 15], some (14, false)⟩,
        ⟨some 17, .mv, [.tmp 0], some (14, false)⟩,
        ⟨some 18, .nilck, [.tmp 17], some (14, false)⟩,
        ⟨some 19, (.faddr 0), [.tmp 18], some (14, false)⟩,
        ⟨some 20, (.ld false 1), [.tmp 19], some (14, false)⟩,
        ⟨some 21, (.bin .gtr), [.tmp 16, .tmp 20], some (14, false)⟩,
        ⟨some 22, .pick, [.tmp 14, .const (.bool true), .tmp 21], none⟩])
      (.cond (.tmp 22)
       (.seq (.run [4] [⟨some 4, .mv, [.const (.int .i64 3)], none⟩])
        .ret)
       .skip))
     (.seq (.run [4] [⟨some 23, .mv, [.tmp 0], none⟩,
        ⟨some 24, .mv, [.tmp 1], none⟩,
        ⟨some 25, (.call 37), [.tmp 23, .tmp 24], none⟩,
        ⟨some 4, .mv, [.tmp 25], none⟩])
      .ret))))⟩

theorem f15_ok : compF Go.Proofs.Tryd.prog 15 f15.body.hints = some f15 := by kernel_rfl


def f16 : AFun := ⟨10, 1, [.slot 2],
  (.seq (.run [0] [⟨some 2, .mv, [.const (.slice none 0 0)], none⟩])
   (.seq (.seq (.run [0, 4] [⟨some 3, .mv, [.tmp 0], none⟩,
       ⟨some 4, (.eqg false 1), [.tmp 3, .const (.pointer none)], none⟩])
     (.cond (.tmp 4)
      (.seq (.run [2] [⟨some 2, .mv, [.const (.slice none 0 0)], none⟩])
       .ret)
      .skip))
    (.seq (.run [2] [⟨some 5, .mv, [.tmp 0], none⟩,
       ⟨some 6, .nilck, [.tmp 5], none⟩,
       ⟨some 7, (.faddr 1), [.tmp 6], none⟩,
       ⟨some 8, (.ld false 1), [.tmp 7], none⟩,
       ⟨some 9, (.call 38), [.tmp 8], none⟩,
       ⟨some 2, .mv, [.tmp 9], none⟩])
     .ret)))⟩

theorem f16_ok : compF Go.Proofs.Tryd.prog 16 f16.body.hints = some f16 := by kernel_rfl


def f17 : AFun := ⟨20, 1, [.slot 2],
  (.seq (.run [0] [⟨some 2, .mv, [.const (.slice none 0 0)], none⟩])
   (.seq (.run [0, 3] [⟨some 7, .mv, [.tmp 0], none⟩,
      ⟨some 8, (.len 1), [.tmp 7], none⟩,
      ⟨some 9, (.call 39), [.tmp 8], none⟩,
      ⟨some 6, .mv, [.tmp 9], none⟩,
      ⟨some 10, (.ext 0), [.tmp 6], none⟩,
      ⟨some 11, (.ext 1), [.tmp 6], none⟩,
      ⟨some 3, .mv, [.tmp 10], none⟩,
      ⟨some 4, .mv, [.tmp 11], none⟩])
    (.seq (.run [5] [⟨some 12, (.bslice 1 0 [(.int .u8 0)] []), [], none⟩,
       ⟨some 13, .mv, [.tmp 3], none⟩,
       ⟨some 14, (.app 1 1), [.tmp 12, .tmp 13], none⟩,
       ⟨some 15, .mv, [.tmp 0], none⟩,
       ⟨some 16, (.app 1 1), [.tmp 14, .tmp 15], none⟩,
       ⟨some 5, .mv, [.tmp 16], none⟩])
     (.seq (.run [2] [⟨some 17, .mv, [.tmp 5], none⟩,
        ⟨some 18, (.bslice 1 2 [(.int .u8 0)] [(0, 1), (1, 1)]), [.const (.int .u8 13), .const (.int .u8 10)], none⟩,
        ⟨some 19, (.app 1 1), [.tmp 17, .tmp 18], none⟩,
        ⟨some 2, .mv, [.tmp 19], none⟩])
      .ret))))⟩

theorem f17_ok : compF Go.Proofs.Tryd.prog 17 f17.body.hints = some f17 := by kernel_rfl


def f18 : AFun := ⟨11, 1, [.slot 2],
  (.seq (.run [0] [⟨some 2, .mv, [.const (.int .i64 0)], none⟩])
   (.seq (.run [0, 3] [⟨some 3, .mv, [.const (.int .i64 0)], none⟩])
    (.seq (.block 0 (.loop [0, 3] (.seq (.seq (.run [0, 3, 5] [⟨some 4, .mv, [.tmp 0], none⟩,
           ⟨some 5, (.bin .gtr), [.tmp 4, .const (.int .i64 0)], none⟩])
         (.cond (.tmp 5)
          .skip
          (.exit 0)))
        (.seq (.block 1 (.run [0, 3] [⟨some 8, .mv, [.tmp 3], none⟩,
            ⟨some 9, (.bin .add), [.tmp 8, .const (.int .i64 1)], none⟩,
            ⟨some 3, .mv, [.tmp 9], none⟩]))
         (.run [0, 3] [⟨some 6, .mv, [.tmp 0], none⟩,
           ⟨some 7, (.bin .quo), [.tmp 6, .const (.int .i64 16)], none⟩,
           ⟨some 0, .mv, [.tmp 7], none⟩])))))
     (.seq (.run [2] [⟨some 10, .mv, [.tmp 3], none⟩,
        ⟨some 2, .mv, [.tmp 10], none⟩])
      .ret))))⟩

theorem f18_ok : compF Go.Proofs.Tryd.prog 18 f18.body.hints = some f18 := by kernel_rfl


def f19 : AFun := ⟨14, 1, [.slot 2],
  (.seq (.run [0] [⟨some 2, .mv, [.const (.int .i64 0)], none⟩])
   (.seq (.seq (.run [0, 3] [⟨some 4, .mv, [.tmp 0], none⟩,
       ⟨some 5, (.call 36), [.tmp 4], none⟩,
       ⟨some 3, .mv, [.tmp 5], none⟩])
     (.seq (.run [0, 3, 7] [⟨some 6, .mv, [.tmp 3], none⟩,
        ⟨some 7, (.eqg true 6), [.tmp 6, .const (.int .i64 0)], none⟩])
      (.cond (.tmp 7)
       (.seq (.run [2] [⟨some 8, .mv, [.tmp 3], none⟩,
          ⟨some 2, .mv, [.tmp 8], none⟩])
        .ret)
       .skip)))
    (.seq (.run [0] [⟨some 9, .mv, [.tmp 0], none⟩,
       ⟨some 10, .nilck, [.tmp 9], none⟩,
       ⟨some 11, (.faddr 2), [.tmp 10], none⟩,
       ⟨none, (.st 1), [.tmp 11, .const (.bool true)], none⟩])
     (.seq (.run [2] [⟨some 12, .mv, [.tmp 0], none⟩,
        ⟨some 13, (.call 37), [.tmp 12, .const (.slice none 0 0)], none⟩,
        ⟨some 2, .mv, [.tmp 13], none⟩])
      .ret))))⟩

theorem f19_ok : compF Go.Proofs.Tryd.prog 19 f19.body.hints = some f19 := by kernel_rfl


def f20 : AFun := ⟨29, 2, [.slot 4],
  (.seq (.run [0, 1] [⟨some 4, .mv, [.const (.int .i64 0)], none⟩])
   (.seq (.block 0 (.seq (.run [0, 1, 5] [⟨some 6, .mv, [.tmp 0], none⟩,
        ⟨some 7, (.eqg false 1), [.tmp 6, .const (.pointer none)], none⟩,
        ⟨some 5, .mv, [.tmp 7], none⟩])
      (.cond (.tmp 5)
       (.seq (.run [4] [⟨some 4, .mv, [.const (.int .i64 1)], none⟩])
        .ret)
       (.seq (.run [0, 1, 8] [⟨some 9, .mv, [.tmp 1], none⟩,
          ⟨some 10, (.bin .lss), [.tmp 9, .const (.int .i64 0)], none⟩,
          ⟨some 11, .mv, [.tmp 10], none⟩,
          ⟨some 12, .mv, [.tmp 1], some (11, false)⟩,
          ⟨some 13, .mv, [.tmp 0], some (11, false)⟩,
          ⟨some 14, .nilck, [.tmp 13], some (11, false)⟩,
          ⟨some 15, (.faddr 1), [.tmp 14], some (11, false)⟩,
          ⟨some 16, (.ld false 1), [.tmp 15], some (11, false)⟩,
          ⟨some 17, (.len 1), [.tmp 16], some (11, false)⟩,
          ⟨some 18, (.bin .gtr), [.tmp 12, .tmp 17], some (11, false)⟩,
          ⟨some 19, .pick, [.tmp 11, .const (.bool true), .tmp 18], none⟩,
          ⟨some 8, .mv, [.tmp 19], none⟩])
        (.cond (.tmp 8)
         (.seq (.run [4] [⟨some 4, .mv, [.const (.int .i64 3)], none⟩])
          .ret)
         .skip)))))
    (.seq (.run [] [⟨some 20, .mv, [.tmp 0], none⟩,
       ⟨some 21, .mv, [.tmp 0], none⟩,
       ⟨some 22, .nilck, [.tmp 21], none⟩,
       ⟨some 23, (.faddr 1), [.tmp 22], none⟩,
       ⟨some 24, (.ld false 1), [.tmp 23], none⟩,
       ⟨some 25, .mv, [.tmp 1], none⟩,
       ⟨some 26, (.slc 1 true false), [.tmp 24, .tmp 25], none⟩,
       ⟨some 27, .nilck, [.tmp 20], none⟩,
       ⟨some 28, (.faddr 1), [.tmp 27], none⟩,
       ⟨none, (.st 1), [.tmp 28, .tmp 26], none⟩])
     (.seq (.run [4] [⟨some 4, .mv, [.const (.int .i64 0)], none⟩])
      .ret))))⟩

theorem f20_ok : compF Go.Proofs.Tryd.prog 20 f20.body.hints = some f20 := by kernel_rfl


def f21 : AFun := ⟨19, 1, [.slot 2],
  (.seq (.run [0] [⟨some 2, .mv, [.const (.bool false)], none⟩])
   (.seq (.run [2] [⟨some 3, .mv, [.tmp 0], none⟩,
      ⟨some 4, (.eqg true 1), [.tmp 3, .const (.pointer none)], none⟩,
      ⟨some 5, .mv, [.tmp 4], none⟩,
      ⟨some 6, .mv, [.tmp 0], some (5, true)⟩,
      ⟨some 7, .nilck, [.tmp 6], some (5, true)⟩,
      ⟨some 8, (.faddr 2), [.tmp 7], some (5, true)⟩,
      ⟨some 9, (.ld false 1), [.tmp 8], some (5, true)⟩,
      ⟨some 10, .pick, [.tmp 5, .tmp 9, .const (.bool false)], none⟩,
      ⟨some 11, .mv, [.tmp 10], none⟩,
      ⟨some 12, .mv, [.tmp 0], some (11, true)⟩,
      ⟨some 13, .nilck, [.tmp 12], some (11, true)⟩,
      ⟨some 14, (.faddr 1), [.tmp 13], some (11, true)⟩,
      ⟨some 15, (.ld false 1), [.tmp 14], some (11, true)⟩,
      ⟨some 16, (.len 1), [.tmp 15], some (11, true)⟩,
      ⟨some 17, (.eqg false 6), [.tmp 16, .const (.int .i64 0)], some (11, true)⟩,
      ⟨some 18, .pick, [.tmp 11, .tmp 17, .const (.bool false)], none⟩,
      ⟨some 2, .mv, [.tmp 18], none⟩])
    .ret))⟩

theorem f21_ok : compF Go.Proofs.Tryd.prog 21 f21.body.hints = some f21 := by kernel_rfl


def f22 : AFun := ⟨8, 1, [.slot 2],
  (.seq (.run [0] [⟨some 2, .mv, [.const (.int .i64 0)], none⟩])
   (.seq (.run [2] [⟨some 3, .mv, [.tmp 0], none⟩,
      ⟨some 4, (.cvi .u64), [.tmp 3], none⟩,
      ⟨some 5, (.bin .rem), [.tmp 4, .const (.int .u64 65536)], none⟩,
      ⟨some 6, (.cvi .i64), [.tmp 5], none⟩,
      ⟨some 7, (.bin .add), [.const (.int .i64 1), .tmp 6], none⟩,
      ⟨some 2, .mv, [.tmp 7], none⟩])
    .ret))⟩

theorem f22_ok : compF Go.Proofs.Tryd.prog 22 f22.body.hints = some f22 := by kernel_rfl


def f23 : AFun := ⟨34, 2, [.slot 4],
  (.seq (.run [0, 1] [⟨some 4, .mv, [.const (.int .i64 0)], none⟩])
   (.seq (.seq (.run [0, 1, 16] [⟨some 5, .mv, [.tmp 0], none⟩,
       ⟨some 6, .nilck, [.tmp 5], none⟩,
       ⟨some 7, (.faddr 1), [.tmp 6], none⟩,
       ⟨some 8, (.ld false 1), [.tmp 7], none⟩,
       ⟨some 9, (.len 1), [.tmp 8], none⟩,
       ⟨some 10, (.bin .gtr), [.tmp 9, .const (.int .i64 0)], none⟩,
       ⟨some 11, .mv, [.tmp 10], none⟩,
       ⟨some 12, .mv, [.tmp 0], some (11, false)⟩,
       ⟨some 13, .nilck, [.tmp 12], some (11, false)⟩,
       ⟨some 14, (.faddr 2), [.tmp 13], some (11, false)⟩,
       ⟨some 15, (.ld false 1), [.tmp 14], some (11, false)⟩,
       ⟨some 16, .pick, [.tmp 11, .const (.bool true), .tmp 15], none⟩])
     (.cond (.tmp 16)
      (.seq (.run [4] [⟨some 4, .mv, [.const (.int .i64 4)], none⟩])
       .ret)
      .skip))
    (.seq (.seq (.run [0, 1, 28] [⟨some 17, .mv, [.tmp 1], none⟩,
        ⟨some 18, (.len 1), [.tmp 17], none⟩,
        ⟨some 19, (.eqg false 6), [.tmp 18, .const (.int .i64 0)], none⟩,
        ⟨some 20, .mv, [.tmp 19], none⟩,
        ⟨some 21, .mv, [.tmp 1], some (20, false)⟩,
        ⟨some 22, (.len 1), [.tmp 21], some (20, false)⟩,
        ⟨some 23, .mv, [.tmp 0], some (20, false)⟩,
        ⟨some 24, .nilck, [.tmp 23], some (20, false)⟩,
        ⟨some 25, (.faddr 0), [.tmp 24], some (20, false)⟩,
        ⟨some 26, (.ld false 1), [.tmp 25], some (20, false)⟩,
        ⟨some 27, (.bin .gtr), [.tmp 22, .tmp 26], some (20, false)⟩,
        ⟨some 28, .pick, [.tmp 20, .const (.bool true), .tmp 27], none⟩])
      (.cond (.tmp 28)
       (.seq (.run [4] [⟨some 4, .mv, [.const (.int .i64 3)], none⟩])
        .ret)
       .skip))
     (.seq (.run [] [⟨some 29, .mv, [.tmp 0], none⟩,
        ⟨some 30, .mv, [.tmp 1], none⟩,
        ⟨some 31, (.call 17), [.tmp 30], none⟩,
        ⟨some 32, .nilck, [.tmp 29], none⟩,
        ⟨some 33, (.faddr 1), [.tmp 32], none⟩,
        ⟨none, (.st 1), [.tmp 33, .tmp 31], none⟩])
      (.seq (.run [4] [⟨some 4, .mv, [.const (.int .i64 0)], none⟩])
       .ret)))))⟩

theorem f23_ok : compF Go.Proofs.Tryd.prog 23 f23.body.hints = some f23 := by kernel_rfl


def f24 : AFun := ⟨22, 1, [.slot 2],
  (.seq (.run [0] [⟨some 2, .mv, [.const (.int .i64 0)], none⟩])
   (.seq (.seq (.run [0, 14] [⟨some 3, .mv, [.tmp 0], none⟩,
       ⟨some 4, .nilck, [.tmp 3], none⟩,
       ⟨some 5, (.faddr 1), [.tmp 4], none⟩,
       ⟨some 6, (.ld false 1), [.tmp 5], none⟩,
       ⟨some 7, (.len 1), [.tmp 6], none⟩,
       ⟨some 8, (.bin .gtr), [.tmp 7, .const (.int .i64 0)], none⟩,
       ⟨some 9, .mv, [.tmp 8], none⟩,
       ⟨some 10, .mv, [.tmp 0], some (9, false)⟩,
       ⟨some 11, .nilck, [.tmp 10], some (9, false)⟩,
       ⟨some 12, (.faddr 2), [.tmp 11], some (9, false)⟩,
       ⟨some 13, (.ld false 1), [.tmp 12], some (9, false)⟩,
       ⟨some 14, .pick, [.tmp 9, .const (.bool true), .tmp 13], none⟩])
     (.cond (.tmp 14)
      (.seq (.run [2] [⟨some 2, .mv, [.const (.int .i64 4)], none⟩])
       .ret)
      .skip))
    (.seq (.run [0] [⟨some 15, .mv, [.tmp 0], none⟩,
       ⟨some 16, (.call 17), [.const (.slice none 0 0)], none⟩,
       ⟨some 17, .nilck, [.tmp 15], none⟩,
       ⟨some 18, (.faddr 1), [.tmp 17], none⟩,
       ⟨none, (.st 1), [.tmp 18, .tmp 16], none⟩])
     (.seq (.run [] [⟨some 19, .mv, [.tmp 0], none⟩,
        ⟨some 20, .nilck, [.tmp 19], none⟩,
        ⟨some 21, (.faddr 2), [.tmp 20], none⟩,
        ⟨none, (.st 1), [.tmp 21, .const (.bool true)], none⟩])
      (.seq (.run [2] [⟨some 2, .mv, [.const (.int .i64 0)], none⟩])
       .ret)))))⟩

theorem f24_ok : compF Go.Proofs.Tryd.prog 24 f24.body.hints = some f24 := by kernel_rfl


def f25 : AFun := ⟨25, 2, [.slot 4],
  (.seq (.run [0, 1] [⟨some 4, .mv, [.const (.int .i64 0)], none⟩])
   (.seq (.seq (.run [0, 1, 15] [⟨some 5, .mv, [.tmp 1], none⟩,
       ⟨some 6, (.bin .lss), [.tmp 5, .const (.int .i64 0)], none⟩,
       ⟨some 7, .mv, [.tmp 6], none⟩,
       ⟨some 8, .mv, [.tmp 1], some (7, false)⟩,
       ⟨some 9, .mv, [.tmp 0], some (7, false)⟩,
       ⟨some 10, .nilck, [.tmp 9], some (7, false)⟩,
       ⟨some 11, (.faddr 1), [.tmp 10], some (7, false)⟩,
       ⟨some 12, (.ld false 1), [.tmp 11], some (7, false)⟩,
       ⟨some 13, (.len 1), [.tmp 12], some (7, false)⟩,
       ⟨some 14, (.bin .gtr), [.tmp 8, .tmp 13], some (7, false)⟩,
       ⟨some 15, .pick, [.tmp 7, .const (.bool true), .tmp 14], none⟩])
     (.cond (.tmp 15)
      (.seq (.run [4] [⟨some 4, .mv, [.const (.int .i64 3)], none⟩])
       .ret)
      .skip))
    (.seq (.run [] [⟨some 16, .mv, [.tmp 0], none⟩,
       ⟨some 17, .mv, [.tmp 0], none⟩,
       ⟨some 18, .nilck, [.tmp 17], none⟩,
       ⟨some 19, (.faddr 1), [.tmp 18], none⟩,
       ⟨some 20, (.ld false 1), [.tmp 19], none⟩,
       ⟨some 21, .mv, [.tmp 1], none⟩,
       ⟨some 22, (.slc 1 true false), [.tmp 20, .tmp 21], none⟩,
       ⟨some 23, .nilck, [.tmp 16], none⟩,
       ⟨some 24, (.faddr 1), [.tmp 23], none⟩,
       ⟨none, (.st 1), [.tmp 24, .tmp 22], none⟩])
     (.seq (.run [4] [⟨some 4, .mv, [.const (.int .i64 0)], none⟩])
      .ret))))⟩

theorem f25_ok : compF Go.Proofs.Tryd.prog 25 f25.body.hints = some f25 := by kernel_rfl


def f34 : AFun := ⟨18, 4, [.slot 5],
  (.seq (.run [0, 1, 2, 3] [⟨some 5, .mv, [.const (.int .i64 0)], none⟩])
   (.seq (.run [0, 2, 3, 6] [⟨some 7, (.ld false 1), [.tmp 1], none⟩,
      ⟨some 8, .callv, [.tmp 7], none⟩,
      ⟨some 6, .mv, [.tmp 8], none⟩])
    (.seq (.run [0, 3, 6] [⟨some 9, (.ld false 1), [.tmp 2], none⟩,
       ⟨some 10, .mv, [.tmp 6], none⟩,
       ⟨some 11, (.app 1 1), [.tmp 9, .tmp 10], none⟩,
       ⟨none, (.st 1), [.tmp 2, .tmp 11], none⟩])
     (.seq (.run [5] [⟨some 12, .mv, [.tmp 0], none⟩,
        ⟨some 13, (.ld false 1), [.tmp 3], none⟩,
        ⟨some 14, .mv, [.tmp 6], none⟩,
        ⟨some 15, (.len 1), [.tmp 14], none⟩,
        ⟨some 16, (.call 20), [.tmp 13, .tmp 15], none⟩,
        ⟨some 17, .max, [.tmp 12, .tmp 16], none⟩,
        ⟨some 5, .mv, [.tmp 17], none⟩])
      .ret))))⟩

theorem f34_ok : compF Go.Proofs.Tryd.prog 34 f34.body.hints = some f34 := by kernel_rfl


def f36 : AFun := ⟨19, 1, [.slot 2],
  (.seq (.run [0] [⟨some 2, .mv, [.const (.int .i64 0)], none⟩])
   (.seq (.block 0 (.seq (.run [0, 3] [⟨some 4, .mv, [.tmp 0], none⟩,
        ⟨some 5, (.eqg false 1), [.tmp 4, .const (.pointer none)], none⟩,
        ⟨some 3, .mv, [.tmp 5], none⟩])
      (.cond (.tmp 3)
       (.seq (.run [2] [⟨some 2, .mv, [.const (.int .i64 1)], none⟩])
        .ret)
       (.seq (.run [6] [⟨some 7, .mv, [.tmp 0], none⟩,
          ⟨some 8, .nilck, [.tmp 7], none⟩,
          ⟨some 9, (.faddr 1), [.tmp 8], none⟩,
          ⟨some 10, (.ld false 1), [.tmp 9], none⟩,
          ⟨some 11, (.len 1), [.tmp 10], none⟩,
          ⟨some 12, (.bin .gtr), [.tmp 11, .const (.int .i64 0)], none⟩,
          ⟨some 13, .mv, [.tmp 12], none⟩,
          ⟨some 14, .mv, [.tmp 0], some (13, false)⟩,
          ⟨some 15, .nilck, [.tmp 14], some (13, false)⟩,
          ⟨some 16, (.faddr 2), [.tmp 15], some (13, false)⟩,
          ⟨some 17, (.ld false 1), [.tmp 16], some (13, false)⟩,
          ⟨some 18, .pick, [.tmp 13, .const (.bool true), .tmp 17], none⟩,
          ⟨some 6, .mv, [.tmp 18], none⟩])
        (.cond (.tmp 6)
         (.seq (.run [2] [⟨some 2, .mv, [.const (.int .i64 4)], none⟩])
          .ret)
         .skip)))))
    (.seq (.run [2] [⟨some 2, .mv, [.const (.int .i64 0)], none⟩])
     .ret)))⟩

theorem f36_ok : compF Go.Proofs.Tryd.prog 36 f36.body.hints = some f36 := by kernel_rfl


def f37 : AFun := ⟨23, 2, [.slot 4],
  (.seq (.run [0, 1] [⟨some 4, .mv, [.const (.int .i64 0)], none⟩])
   (.seq (.run [0, 1, 5, 6] [⟨some 8, .mv, [.tmp 1], none⟩,
      ⟨some 9, (.len 1), [.tmp 8], none⟩,
      ⟨some 10, (.call 42), [.tmp 9], none⟩,
      ⟨some 7, .mv, [.tmp 10], none⟩,
      ⟨some 11, (.ext 0), [.tmp 7], none⟩,
      ⟨some 12, (.ext 1), [.tmp 7], none⟩,
      ⟨some 5, .mv, [.tmp 11], none⟩,
      ⟨some 6, .mv, [.tmp 12], none⟩])
    (.seq (.run [6] [⟨some 13, .mv, [.tmp 0], none⟩,
       ⟨some 14, .mv, [.tmp 5], none⟩,
       ⟨some 15, .mv, [.tmp 1], none⟩,
       ⟨some 16, (.bslice 1 2 [(.int .u8 0)] [(0, 1), (1, 1)]), [.const (.int .u8 13), .const (.int .u8 10)], none⟩,
       ⟨some 17, .cvm, [.tmp 16], none⟩,
       ⟨some 18, (.bslice 1 3 [(.sl [] .nil)] [(0, 1), (1, 1), (2, 1)]), [.tmp 14, .tmp 15, .tmp 17], none⟩,
       ⟨some 19, (.call 43), [.tmp 18], none⟩,
       ⟨some 20, .nilck, [.tmp 13], none⟩,
       ⟨some 21, (.faddr 1), [.tmp 20], none⟩,
       ⟨none, (.st 1), [.tmp 21, .tmp 19], none⟩])
     (.seq (.run [4] [⟨some 22, .mv, [.tmp 6], none⟩,
        ⟨some 4, .mv, [.tmp 22], none⟩])
      .ret))))⟩

theorem f37_ok : compF Go.Proofs.Tryd.prog 37 f37.body.hints = some f37 := by kernel_rfl


def f38 : AFun := ⟨8, 1, [.slot 2],
  (.seq (.run [0] [⟨some 2, .mv, [.const (.slice none 0 0)], none⟩])
   (.seq (.seq (.run [0, 4] [⟨some 3, .mv, [.tmp 0], none⟩,
       ⟨some 4, (.eqg false 2), [.tmp 3, .const (.slice none 0 0)], none⟩])
     (.cond (.tmp 4)
      (.seq (.run [2] [⟨some 2, .mv, [.const (.slice none 0 0)], none⟩])
       .ret)
      .skip))
    (.seq (.run [2] [⟨some 5, (.bslice 1 0 [(.int .u8 0)] []), [], none⟩,
       ⟨some 6, .mv, [.tmp 0], none⟩,
       ⟨some 7, (.app 1 1), [.tmp 5, .tmp 6], none⟩,
       ⟨some 2, .mv, [.tmp 7], none⟩])
     .ret)))⟩

theorem f38_ok : compF Go.Proofs.Tryd.prog 38 f38.body.hints = some f38 := by kernel_rfl


def f39 : AFun := ⟨14, 1, [.slot 2, .slot 3],
  (.seq (.run [0] [⟨some 2, .mv, [.const (.slice none 0 0)], none⟩,
     ⟨some 3, .mv, [.const (.int .i64 0)], none⟩])
   (.seq (.seq (.run [0, 9] [⟨some 4, .mv, [.tmp 0], none⟩,
       ⟨some 5, (.bin .lss), [.tmp 4, .const (.int .i64 0)], none⟩,
       ⟨some 6, .mv, [.tmp 5], none⟩,
       ⟨some 7, .mv, [.tmp 0], some (6, false)⟩,
       ⟨some 8, (.bin .gtr), [.tmp 7, .const (.int .i64 65536)], some (6, false)⟩,
       ⟨some 9, .pick, [.tmp 6, .const (.bool true), .tmp 8], none⟩])
     (.cond (.tmp 9)
      (.seq (.run [2, 3] [⟨some 2, .mv, [.const (.slice none 0 0)], none⟩,
         ⟨some 3, .mv, [.const (.int .i64 3)], none⟩])
       .ret)
      .skip))
    (.seq (.run [2, 3] [⟨some 10, .mv, [.tmp 0], none⟩,
       ⟨some 11, (.call 44), [.tmp 10], none⟩,
       ⟨some 12, (.bin .add), [.tmp 11, .const (.string ⟨#[13, 10]⟩)], none⟩,
       ⟨some 13, .sb, [.tmp 12], none⟩,
       ⟨some 2, .mv, [.tmp 13], none⟩,
       ⟨some 3, .mv, [.const (.int .i64 0)], none⟩])
     .ret)))⟩

theorem f39_ok : compF Go.Proofs.Tryd.prog 39 f39.body.hints = some f39 := by kernel_rfl


def f42 : AFun := ⟨13, 1, [.slot 2, .slot 3],
  (.seq (.run [0] [⟨some 2, .mv, [.const (.slice none 0 0)], none⟩,
     ⟨some 3, .mv, [.const (.int .i64 0)], none⟩])
   (.seq (.seq (.run [0, 9] [⟨some 4, .mv, [.tmp 0], none⟩,
       ⟨some 5, (.bin .lss), [.tmp 4, .const (.int .i64 0)], none⟩,
       ⟨some 6, .mv, [.tmp 5], none⟩,
       ⟨some 7, .mv, [.tmp 0], some (6, false)⟩,
       ⟨some 8, (.bin .gtr), [.tmp 7, .const (.int .i64 65536)], some (6, false)⟩,
       ⟨some 9, .pick, [.tmp 6, .const (.bool true), .tmp 8], none⟩])
     (.cond (.tmp 9)
      (.seq (.run [2, 3] [⟨some 2, .mv, [.const (.slice none 0 0)], none⟩,
         ⟨some 3, .mv, [.const (.int .i64 3)], none⟩])
       .ret)
      .skip))
    (.seq (.run [2, 3] [⟨some 10, .mv, [.tmp 0], none⟩,
       ⟨some 11, (.call 47), [.const (.slice none 0 0), .tmp 10, .const (.int .i64 16)], none⟩,
       ⟨some 12, (.app 1 1), [.tmp 11, .const (.string ⟨#[13, 10]⟩)], none⟩,
       ⟨some 2, .mv, [.tmp 12], none⟩,
       ⟨some 3, .mv, [.const (.int .i64 0)], none⟩])
     .ret)))⟩

theorem f42_ok : compF Go.Proofs.Tryd.prog 42 f42.body.hints = some f42 := by kernel_rfl


def f43 : AFun := ⟨36, 1, [.slot 2],
  (.seq (.run [0] [⟨some 2, .mv, [.const (.slice none 0 0)], none⟩])
   (.seq (.run [0, 3] [⟨some 3, .mv, [.const (.int .i64 0)], none⟩])
    (.seq (.seq (.run [0, 3, 9, 10, 11] [⟨some 9, .mv, [.tmp 0], none⟩,
        ⟨some 10, (.len 1), [.tmp 9], none⟩,
        ⟨some 11, .mv, [.const (.int .i64 0)], none⟩])
      (.block 0 (.loop [0, 3, 9, 10, 11] (.seq (.run [0, 3, 9, 10, 11, 12] [⟨some 12, (.bin .lss), [.tmp 11, .tmp 10], none⟩])
         (.seq (.cond (.tmp 12)
           .skip
           (.exit 0))
          (.seq (.block 1 (.seq (.run [0, 3, 5, 9, 10, 11] [⟨some 13, (.iaddr 1), [.tmp 9, .tmp 11], none⟩,
               ⟨some 14, (.ld false 1), [.tmp 13], none⟩,
               ⟨some 5, .mv, [.tmp 14], none⟩])
             (.seq (.run [0, 3, 9, 10, 11] [⟨some 15, .mv, [.tmp 3], none⟩,
                ⟨some 16, .mv, [.tmp 5], none⟩,
                ⟨some 17, (.len 1), [.tmp 16], none⟩,
                ⟨some 18, (.bin .add), [.tmp 15, .tmp 17], none⟩,
                ⟨some 3, .mv, [.tmp 18], none⟩])
              (.seq (.run [0, 3, 9, 10, 11, 20] [⟨some 19, .mv, [.tmp 3], none⟩,
                 ⟨some 20, (.bin .lss), [.tmp 19, .const (.int .i64 0)], none⟩])
               (.cond (.tmp 20)
                (.run [0, 3, 9, 10, 11] [⟨some 21, (.mkif 9), [.const (.string ⟨#[108, 101, 110, 32, 111, 117, 116, 32, 111, 102, 32, 114, 97, 110, 103, 101]⟩)], none⟩,
                  ⟨none, .stuck, [], none⟩])
                .skip)))))
           (.run [0, 3, 9, 10, 11] [⟨some 22, (.bin .add), [.tmp 11, .const (.int .i64 1)], none⟩,
             ⟨some 11, .mv, [.tmp 22], none⟩])))))))
     (.seq (.run [0, 6] [⟨some 23, .mv, [.tmp 3], none⟩,
        ⟨some 24, (.call 48), [.const (.slice none 0 0), .tmp 23], none⟩,
        ⟨some 6, .mv, [.tmp 24], none⟩])
      (.seq (.seq (.run [6, 25, 26, 27] [⟨some 25, .mv, [.tmp 0], none⟩,
          ⟨some 26, (.len 1), [.tmp 25], none⟩,
          ⟨some 27, .mv, [.const (.int .i64 0)], none⟩])
        (.block 2 (.loop [6, 25, 26, 27] (.seq (.run [6, 25, 26, 27, 28] [⟨some 28, (.bin .lss), [.tmp 27, .tmp 26], none⟩])
           (.seq (.cond (.tmp 28)
             .skip
             (.exit 2))
            (.seq (.block 3 (.seq (.run [6, 8, 25, 26, 27] [⟨some 29, (.iaddr 1), [.tmp 25, .tmp 27], none⟩,
                 ⟨some 30, (.ld false 1), [.tmp 29], none⟩,
                 ⟨some 8, .mv, [.tmp 30], none⟩])
               (.run [6, 25, 26, 27] [⟨some 31, .mv, [.tmp 6], none⟩,
                 ⟨some 32, .mv, [.tmp 8], none⟩,
                 ⟨some 33, (.app 1 1), [.tmp 31, .tmp 32], none⟩,
                 ⟨some 6, .mv, [.tmp 33], none⟩])))
             (.run [6, 25, 26, 27] [⟨some 34, (.bin .add), [.tmp 27, .const (.int .i64 1)], none⟩,
               ⟨some 27, .mv, [.tmp 34], none⟩])))))))
       (.seq (.run [2] [⟨some 35, .mv, [.tmp 6], none⟩,
          ⟨some 2, .mv, [.tmp 35], none⟩])
        .ret))))))⟩

theorem f43_ok : compF Go.Proofs.Tryd.prog 43 f43.body.hints = some f43 := by kernel_rfl


def f44 : AFun := ⟨21, 1, [.slot 2],
  (.seq (.run [0] [⟨some 2, .mv, [.const (.string ⟨#[]⟩)], none⟩])
   (.seq (.run [0, 3] [⟨some 3, .mv, [.const (.string ⟨#[]⟩)], none⟩])
    (.seq (.block 0 (.loop [0, 3] (.seq (.seq (.run [0, 3, 5] [⟨some 4, .mv, [.tmp 0], none⟩,
           ⟨some 5, (.bin .geq), [.tmp 4, .const (.int .i64 16)], none⟩])
         (.cond (.tmp 5)
          .skip
          (.exit 0)))
        (.block 1 (.seq (.run [0, 3] [⟨some 6, .mv, [.tmp 0], none⟩,
            ⟨some 7, (.bin .rem), [.tmp 6, .const (.int .i64 16)], none⟩,
            ⟨some 8, .ixs, [.const (.string ⟨#[48, 49, 50, 51, 52, 53, 54, 55, 56, 57, 97, 98, 99, 100, 101, 102]⟩), .tmp 7], none⟩,
            ⟨some 9, (.bslice 1 1 [(.int .u8 0)] [(0, 1)]), [.tmp 8], none⟩,
            ⟨some 10, .cvb, [.tmp 9], none⟩,
            ⟨some 11, .mv, [.tmp 3], none⟩,
            ⟨some 12, (.bin .add), [.tmp 10, .tmp 11], none⟩,
            ⟨some 3, .mv, [.tmp 12], none⟩])
          (.run [0, 3] [⟨some 13, .mv, [.tmp 0], none⟩,
            ⟨some 14, (.bin .quo), [.tmp 13, .const (.int .i64 16)], none⟩,
            ⟨some 0, .mv, [.tmp 14], none⟩]))))))
     (.seq (.run [2] [⟨some 15, .mv, [.tmp 0], none⟩,
        ⟨some 16, .ixs, [.const (.string ⟨#[48, 49, 50, 51, 52, 53, 54, 55, 56, 57, 97, 98, 99, 100, 101, 102]⟩), .tmp 15], none⟩,
        ⟨some 17, (.bslice 1 1 [(.int .u8 0)] [(0, 1)]), [.tmp 16], none⟩,
        ⟨some 18, .cvb, [.tmp 17], none⟩,
        ⟨some 19, .mv, [.tmp 3], none⟩,
        ⟨some 20, (.bin .add), [.tmp 18, .tmp 19], none⟩,
        ⟨some 2, .mv, [.tmp 20], none⟩])
      .ret))))⟩

theorem f44_ok : compF Go.Proofs.Tryd.prog 44 f44.body.hints = some f44 := by kernel_rfl


def f47 : AFun := ⟨11, 3, [.slot 6],
  (.seq (.run [0, 1, 2] [⟨some 6, .mv, [.const (.slice none 0 0)], none⟩])
   (.seq (.run [6] [⟨some 7, .mv, [.tmp 0], none⟩,
      ⟨some 8, .mv, [.tmp 1], none⟩,
      ⟨some 9, .mv, [.tmp 2], none⟩,
      ⟨some 10, (.call 50), [.tmp 7, .tmp 8, .tmp 9], none⟩,
      ⟨some 6, .mv, [.tmp 10], none⟩])
    .ret))⟩

theorem f47_ok : compF Go.Proofs.Tryd.prog 47 f47.body.hints = some f47 := by kernel_rfl


def f48 : AFun := ⟨27, 2, [.slot 4],
  (.seq (.run [0, 1] [⟨some 4, .mv, [.const (.slice none 0 0)], none⟩])
   (.seq (.seq (.run [0, 1, 6] [⟨some 5, .mv, [.tmp 1], none⟩,
       ⟨some 6, (.bin .lss), [.tmp 5, .const (.int .i64 0)], none⟩])
     (.cond (.tmp 6)
      (.run [0, 1] [⟨some 7, (.mkif 9), [.const (.string ⟨#[99, 97, 110, 110, 111, 116, 32, 98, 101, 32, 110, 101, 103, 97, 116, 105, 118, 101]⟩)], none⟩,
        ⟨none, .stuck, [], none⟩])
      .skip))
    (.seq (.seq (.run [0, 1] [⟨some 8, .mv, [.tmp 1], none⟩,
        ⟨some 9, .mv, [.tmp 0], none⟩,
        ⟨some 10, .stuck, [], none⟩,
        ⟨some 11, .mv, [.tmp 0], none⟩,
        ⟨some 12, (.len 1), [.tmp 11], none⟩,
        ⟨some 13, (.bin .sub), [.tmp 10, .tmp 12], none⟩,
        ⟨some 14, (.bin .sub), [.tmp 8, .tmp 13], none⟩,
        ⟨some 1, .mv, [.tmp 14], none⟩])
      (.seq (.run [0, 1, 16] [⟨some 15, .mv, [.tmp 1], none⟩,
         ⟨some 16, (.bin .gtr), [.tmp 15, .const (.int .i64 0)], none⟩])
       (.cond (.tmp 16)
        (.run [0] [⟨some 17, .mv, [.tmp 0], none⟩,
          ⟨some 18, .mv, [.tmp 0], none⟩,
          ⟨some 19, .stuck, [], none⟩,
          ⟨some 20, (.slc 1 false true), [.tmp 17, .tmp 19], none⟩,
          ⟨some 21, .mv, [.tmp 1], none⟩,
          ⟨some 22, .stuck, [], none⟩,
          ⟨some 23, .mv, [.tmp 0], none⟩,
          ⟨some 24, (.len 1), [.tmp 23], none⟩,
          ⟨some 25, (.slc 1 false true), [.tmp 22, .tmp 24], none⟩,
          ⟨some 0, .mv, [.tmp 25], none⟩])
        .skip)))
     (.seq (.run [4] [⟨some 26, .mv, [.tmp 0], none⟩,
        ⟨some 4, .mv, [.tmp 26], none⟩])
      .ret))))⟩

theorem f48_ok : compF Go.Proofs.Tryd.prog 48 f48.body.hints = some f48 := by kernel_rfl


def f50 : AFun := ⟨21, 3, [.slot 6],
  (.seq (.run [0, 1, 2] [⟨some 6, .mv, [.const (.slice none 0 0)], none⟩])
   (.seq (.run [0, 1, 2, 7] [⟨some 8, .mv, [.tmp 1], none⟩,
      ⟨some 9, (.cvi .u64), [.tmp 8], none⟩,
      ⟨some 7, .mv, [.tmp 9], none⟩])
    (.seq (.seq (.run [0, 2, 7, 11] [⟨some 10, .mv, [.tmp 1], none⟩,
        ⟨some 11, (.bin .lss), [.tmp 10, .const (.int .i64 0)], none⟩])
      (.cond (.tmp 11)
       (.seq (.run [0, 2, 7] [⟨some 12, .mv, [.tmp 0], none⟩,
          ⟨some 13, (.bslice 1 1 [(.int .u8 0)] [(0, 1)]), [.const (.int .u8 45)], none⟩,
          ⟨some 14, (.app 1 1), [.tmp 12, .tmp 13], none⟩,
          ⟨some 0, .mv, [.tmp 14], none⟩])
        (.run [0, 2, 7] [⟨some 15, .mv, [.tmp 7], none⟩,
          ⟨some 16, (.un .neg), [.tmp 15], none⟩,
          ⟨some 7, .mv, [.tmp 16], none⟩]))
       .skip))
     (.seq (.run [6] [⟨some 17, .mv, [.tmp 0], none⟩,
        ⟨some 18, .mv, [.tmp 7], none⟩,
        ⟨some 19, .mv, [.tmp 2], none⟩,
        ⟨some 20, (.call 55), [.tmp 17, .tmp 18, .tmp 19], none⟩,
        ⟨some 6, .mv, [.tmp 20], none⟩])
      .ret))))⟩

theorem f50_ok : compF Go.Proofs.Tryd.prog 50 f50.body.hints = some f50 := by kernel_rfl


def f55 : AFun := ⟨36, 3, [.slot 6],
  (.seq (.run [0, 1, 2] [⟨some 6, .mv, [.const (.slice none 0 0)], none⟩])
   (.seq (.seq (.run [0, 1, 2, 10] [⟨some 9, .mv, [.tmp 2], none⟩,
       ⟨some 10, (.eqg false 6), [.tmp 9, .const (.int .i64 10)], none⟩])
     (.cond (.tmp 10)
      (.seq (.seq (.run [0, 1, 12] [⟨some 11, .mv, [.tmp 1], none⟩,
          ⟨some 12, (.bin .lss), [.tmp 11, .const (.int .u64 100)], none⟩])
        (.cond (.tmp 12)
         (.seq (.run [6] [⟨some 13, .mv, [.tmp 0], none⟩,
            ⟨some 14, .mv, [.tmp 1], none⟩,
            ⟨some 15, (.cvi .i64), [.tmp 14], none⟩,
            ⟨some 16, (.call 59), [.tmp 15], none⟩,
            ⟨some 17, (.app 1 1), [.tmp 13, .tmp 16], none⟩,
            ⟨some 6, .mv, [.tmp 17], none⟩])
          .ret)
         .skip))
       (.seq (.run [0, 1, 7] [⟨some 7, (.alloc [(.int .u8 0), (.int .u8 0), (.int .u8 0), (.int .u8 0), (.int .u8 0), (.int .u8 0), (.int .u8 0), (.int .u8 0), (.int .u8 0), (.int .u8 0), (.int .u8 0), (.int .u8 0), (.int .u8 0), (.int .u8 0), (.int .u8 0), (.int .u8 0), (.int .u8 0), (.int .u8 0), (.int .u8 0), (.int .u8 0), (.int .u8 0), (.int .u8 0), (.int .u8 0), (.int .u8 0)]), [], none⟩])
        (.seq (.run [0, 1, 7, 8] [⟨some 18, .mv, [.tmp 1], none⟩,
           ⟨some 19, (.call 60), [.tmp 18], none⟩,
           ⟨some 8, .mv, [.tmp 19], none⟩])
         (.seq (.run [0, 7, 8] [⟨some 20, .mv, [.tmp 8], none⟩,
            ⟨some 21, (.slp 1 24 false true), [.tmp 7, .tmp 20], none⟩,
            ⟨some 22, .mv, [.tmp 1], none⟩,
            ⟨some 23, (.call 61), [.tmp 21, .tmp 22], none⟩])
          (.seq (.run [6] [⟨some 24, .mv, [.tmp 0], none⟩,
             ⟨some 25, .mv, [.tmp 8], none⟩,
             ⟨some 26, (.slp 1 24 false true), [.tmp 7, .tmp 25], none⟩,
             ⟨some 27, (.app 1 1), [.tmp 24, .tmp 26], none⟩,
             ⟨some 6, .mv, [.tmp 27], none⟩])
           .ret)))))
      .skip))
    (.seq (.run [0] [⟨some 29, .mv, [.tmp 0], none⟩,
       ⟨some 30, .mv, [.tmp 1], none⟩,
       ⟨some 31, .mv, [.tmp 2], none⟩,
       ⟨some 32, (.call 62), [.tmp 29, .tmp 30, .tmp 31, .const (.bool false), .const (.bool true)], none⟩,
       ⟨some 28, .mv, [.tmp 32], none⟩,
       ⟨some 33, (.ext 0), [.tmp 28], none⟩,
       ⟨some 34, (.ext 1), [.tmp 28], none⟩,
       ⟨some 0, .mv, [.tmp 33], none⟩])
     (.seq (.run [6] [⟨some 35, .mv, [.tmp 0], none⟩,
        ⟨some 6, .mv, [.tmp 35], none⟩])
      .ret))))⟩

theorem f55_ok : compF Go.Proofs.Tryd.prog 55 f55.body.hints = some f55 := by kernel_rfl


def f62 : AFun := ⟨102, 5, [.slot 10, .slot 11],
  (.seq (.run [0, 1, 2, 3, 4, 10, 11] [⟨some 10, .mv, [.const (.slice none 0 0)], none⟩,
     ⟨some 11, .mv, [.const (.string ⟨#[]⟩)], none⟩])
   (.seq (.seq (.run [0, 1, 2, 3, 4, 10, 11, 28] [⟨some 19, .mv, [.tmp 2], none⟩,
       ⟨some 20, (.bin .lss), [.tmp 19, .const (.int .i64 2)], none⟩,
       ⟨some 21, .mv, [.tmp 20], none⟩,
       ⟨some 22, .mv, [.tmp 2], some (21, false)⟩,
       ⟨some 23, (.eqg false 6), [.tmp 22, .const (.int .i64 10)], some (21, false)⟩,
       ⟨some 24, .pick, [.tmp 21, .const (.bool true), .tmp 23], none⟩,
       ⟨some 25, .mv, [.tmp 24], none⟩,
       ⟨some 26, .mv, [.tmp 2], some (25, false)⟩,
       ⟨some 27, (.bin .gtr), [.tmp 26, .const (.int .i64 36)], some (25, false)⟩,
       ⟨some 28, .pick, [.tmp 25, .const (.bool true), .tmp 27], none⟩])
     (.cond (.tmp 28)
      (.run [0, 1, 2, 3, 4, 10, 11] [⟨some 29, (.mkif 9), [.const (.string ⟨#[115, 116, 114, 99, 111, 110, 118, 58, 32, 105, 108, 108, 101, 103, 97, 108, 32, 65, 112, 112, 101, 110, 100, 73, 110, 116, 47, 70, 111, 114, 109, 97, 116, 73, 110, 116, 32, 98, 97, 115, 101]⟩)], none⟩,
        ⟨none, .stuck, [], none⟩])
      .skip))
    (.seq (.run [0, 1, 2, 3, 4, 10, 11, 12] [⟨some 12, (.alloc [(.int .u8 0), (.int .u8 0), (.int .u8 0), (.int .u8 0), (.int .u8 0), (.int .u8 0), (.int .u8 0), (.int .u8 0), (.int .u8 0), (.int .u8 0), (.int .u8 0), (.int .u8 0), (.int .u8 0), (.int .u8 0), (.int .u8 0), (.int .u8 0), (.int .u8 0), (.int .u8 0), (.int .u8 0), (.int .u8 0), (.int .u8 0), (.int .u8 0), (.int .u8 0), (.int .u8 0), (.int .u8 0), (.int .u8 0), (.int .u8 0), (.int .u8 0), (.int .u8 0), (.int .u8 0), (.int .u8 0), (.int .u8 0), (.int .u8 0), (.int .u8 0), (.int .u8 0), (.int .u8 0), (.int .u8 0), (.int .u8 0), (.int .u8 0), (.int .u8 0), (.int .u8 0), (.int .u8 0), (.int .u8 0), (.int .u8 0), (.int .u8 0), (.int .u8 0), (.int .u8 0), (.int .u8 0), (.int .u8 0), (.int .u8 0), (.int .u8 0), (.int .u8 0), (.int .u8 0), (.int .u8 0), (.int .u8 0), (.int .u8 0), (.int .u8 0), (.int .u8 0), (.int .u8 0), (.int .u8 0), (.int .u8 0), (.int .u8 0), (.int .u8 0), (.int .u8 0), (.int .u8 0)]), [], none⟩])
     (.seq (.run [0, 1, 2, 3, 4, 10, 11, 12, 13] [⟨some 13, .mv, [.const (.int .i64 65)], none⟩])
      (.seq (.seq (.run [0, 1, 2, 3, 4, 10, 11, 12, 13, 30] [⟨some 30, .mv, [.tmp 3], none⟩])
        (.cond (.tmp 30)
         (.run [0, 1, 2, 3, 4, 10, 11, 12, 13] [⟨some 31, .mv, [.tmp 1], none⟩,
           ⟨some 32, (.un .neg), [.tmp 31], none⟩,
           ⟨some 1, .mv, [.tmp 32], none⟩])
         .skip))
       (.seq (.seq (.run [0, 1, 2, 3, 4, 10, 11, 12, 13, 34] [⟨some 33, .mv, [.tmp 2], none⟩,
           ⟨some 34, (.call 71), [.tmp 33], none⟩])
         (.cond (.tmp 34)
          (.seq (.run [0, 1, 2, 3, 4, 10, 11, 12, 13, 14] [⟨some 35, .mv, [.tmp 2], none⟩,
             ⟨some 36, (.cvi .u64), [.tmp 35], none⟩,
             ⟨some 37, (.call 72), [.tmp 36], none⟩,
             ⟨some 38, (.cvi .u64), [.tmp 37], none⟩,
             ⟨some 14, .mv, [.tmp 38], none⟩])
           (.seq (.run [0, 1, 2, 3, 4, 10, 11, 12, 13, 14, 15] [⟨some 39, .mv, [.tmp 2], none⟩,
              ⟨some 40, (.cvi .u64), [.tmp 39], none⟩,
              ⟨some 15, .mv, [.tmp 40], none⟩])
            (.seq (.run [0, 1, 3, 4, 10, 11, 12, 13, 14, 15, 16] [⟨some 41, .mv, [.tmp 2], none⟩,
               ⟨some 42, (.cvi .u64), [.tmp 41], none⟩,
               ⟨some 43, (.bin .sub), [.tmp 42, .const (.int .u64 1)], none⟩,
               ⟨some 16, .mv, [.tmp 43], none⟩])
             (.seq (.block 0 (.loop [0, 1, 3, 4, 10, 11, 12, 13, 14, 15, 16] (.seq (.seq (.run [0, 1, 3, 4, 10, 11, 12, 13, 14, 15, 16, 46] [⟨some 44, .mv, [.tmp 1], none⟩,
                    ⟨some 45, .mv, [.tmp 15], none⟩,
                    ⟨some 46, (.bin .geq), [.tmp 44, .tmp 45], none⟩])
                  (.cond (.tmp 46)
                   .skip
                   (.exit 0)))
                 (.block 1 (.seq (.run [0, 1, 3, 4, 10, 11, 12, 13, 14, 15, 16] [⟨some 47, .mv, [.tmp 13], none⟩,
                     ⟨some 48, (.bin .sub), [.tmp 47, .const (.int .i64 1)], none⟩,
                     ⟨some 13, .mv, [.tmp 48], none⟩])
                   (.seq (.run [0, 1, 3, 4, 10, 11, 12, 13, 14, 15, 16] [⟨some 49, .mv, [.tmp 13], none⟩,
                      ⟨some 50, .mv, [.tmp 1], none⟩,
                      ⟨some 51, .mv, [.tmp 16], none⟩,
                      ⟨some 52, (.bin .and), [.tmp 50, .tmp 51], none⟩,
                      ⟨some 53, .ixs, [.const (.string ⟨#[48, 49, 50, 51, 52, 53, 54, 55, 56, 57, 97, 98, 99, 100, 101, 102, 103, 104, 105, 106, 107, 108, 109, 110, 111, 112, 113, 114, 115, 116, 117, 118, 119, 120, 121, 122]⟩), .tmp 52], none⟩,
                      ⟨some 54, (.aaddr 1 65), [.tmp 12, .tmp 49], none⟩,
                      ⟨none, (.st 1), [.tmp 54, .tmp 53], none⟩])
                    (.run [0, 1, 3, 4, 10, 11, 12, 13, 14, 15, 16] [⟨some 55, .mv, [.tmp 1], none⟩,
                      ⟨some 56, .mv, [.tmp 14], none⟩,
                      ⟨some 57, (.bin .shr), [.tmp 55, .tmp 56], none⟩,
                      ⟨some 1, .mv, [.tmp 57], none⟩])))))))
              (.seq (.run [0, 1, 3, 4, 10, 11, 12, 13] [⟨some 58, .mv, [.tmp 13], none⟩,
                 ⟨some 59, (.bin .sub), [.tmp 58, .const (.int .i64 1)], none⟩,
                 ⟨some 13, .mv, [.tmp 59], none⟩])
               (.run [0, 3, 4, 10, 11, 12, 13] [⟨some 60, .mv, [.tmp 13], none⟩,
                 ⟨some 61, .mv, [.tmp 1], none⟩,
                 ⟨some 62, .ixs, [.const (.string ⟨#[48, 49, 50, 51, 52, 53, 54, 55, 56, 57, 97, 98, 99, 100, 101, 102, 103, 104, 105, 106, 107, 108, 109, 110, 111, 112, 113, 114, 115, 116, 117, 118, 119, 120, 121, 122]⟩), .tmp 61], none⟩,
                 ⟨some 63, (.aaddr 1 65), [.tmp 12, .tmp 60], none⟩,
                 ⟨none, (.st 1), [.tmp 63, .tmp 62], none⟩]))))))
          (.seq (.run [0, 1, 3, 4, 10, 11, 12, 13, 17] [⟨some 64, .mv, [.tmp 2], none⟩,
             ⟨some 65, (.cvi .u64), [.tmp 64], none⟩,
             ⟨some 17, .mv, [.tmp 65], none⟩])
           (.seq (.block 2 (.loop [0, 1, 3, 4, 10, 11, 12, 13, 17] (.seq (.seq (.run [0, 1, 3, 4, 10, 11, 12, 13, 17, 68] [⟨some 66, .mv, [.tmp 1], none⟩,
                  ⟨some 67, .mv, [.tmp 17], none⟩,
                  ⟨some 68, (.bin .geq), [.tmp 66, .tmp 67], none⟩])
                (.cond (.tmp 68)
                 .skip
                 (.exit 2)))
               (.block 3 (.seq (.run [0, 1, 3, 4, 10, 11, 12, 13, 17] [⟨some 69, .mv, [.tmp 13], none⟩,
                   ⟨some 70, (.bin .sub), [.tmp 69, .const (.int .i64 1)], none⟩,
                   ⟨some 13, .mv, [.tmp 70], none⟩])
                 (.seq (.run [0, 1, 3, 4, 10, 11, 12, 13, 17, 18] [⟨some 71, .mv, [.tmp 1], none⟩,
                    ⟨some 72, .mv, [.tmp 17], none⟩,
                    ⟨some 73, (.bin .quo), [.tmp 71, .tmp 72], none⟩,
                    ⟨some 18, .mv, [.tmp 73], none⟩])
                  (.seq (.run [0, 3, 4, 10, 11, 12, 13, 17, 18] [⟨some 74, .mv, [.tmp 13], none⟩,
                     ⟨some 75, .mv, [.tmp 1], none⟩,
                     ⟨some 76, .mv, [.tmp 18], none⟩,
                     ⟨some 77, .mv, [.tmp 17], none⟩,
                     ⟨some 78, (.bin .mul), [.tmp 76, .tmp 77], none⟩,
                     ⟨some 79, (.bin .sub), [.tmp 75, .tmp 78], none⟩,
                     ⟨some 80, .ixs, [.const (.string ⟨#[48, 49, 50, 51, 52, 53, 54, 55, 56, 57, 97, 98, 99, 100, 101, 102, 103, 104, 105, 106, 107, 108, 109, 110, 111, 112, 113, 114, 115, 116, 117, 118, 119, 120, 121, 122]⟩), .tmp 79], none⟩,
                     ⟨some 81, (.aaddr 1 65), [.tmp 12, .tmp 74], none⟩,
                     ⟨none, (.st 1), [.tmp 81, .tmp 80], none⟩])
                   (.run [0, 1, 3, 4, 10, 11, 12, 13, 17] [⟨some 82, .mv, [.tmp 18], none⟩,
                     ⟨some 1, .mv, [.tmp 82], none⟩]))))))))
            (.seq (.run [0, 1, 3, 4, 10, 11, 12, 13] [⟨some 83, .mv, [.tmp 13], none⟩,
               ⟨some 84, (.bin .sub), [.tmp 83, .const (.int .i64 1)], none⟩,
               ⟨some 13, .mv, [.tmp 84], none⟩])
             (.run [0, 3, 4, 10, 11, 12, 13] [⟨some 85, .mv, [.tmp 13], none⟩,
               ⟨some 86, .mv, [.tmp 1], none⟩,
               ⟨some 87, .ixs, [.const (.string ⟨#[48, 49, 50, 51, 52, 53, 54, 55, 56, 57, 97, 98, 99, 100, 101, 102, 103, 104, 105, 106, 107, 108, 109, 110, 111, 112, 113, 114, 115, 116, 117, 118, 119, 120, 121, 122]⟩), .tmp 86], none⟩,
               ⟨some 88, (.aaddr 1 65), [.tmp 12, .tmp 85], none⟩,
               ⟨none, (.st 1), [.tmp 88, .tmp 87], none⟩]))))))
        (.seq (.seq (.run [0, 4, 10, 11, 12, 13, 89] [⟨some 89, .mv, [.tmp 3], none⟩])
          (.cond (.tmp 89)
           (.seq (.run [0, 4, 10, 11, 12, 13] [⟨some 90, .mv, [.tmp 13], none⟩,
              ⟨some 91, (.bin .sub), [.tmp 90, .const (.int .i64 1)], none⟩,
              ⟨some 13, .mv, [.tmp 91], none⟩])
            (.run [0, 4, 10, 11, 12, 13] [⟨some 92, .mv, [.tmp 13], none⟩,
              ⟨some 93, (.aaddr 1 65), [.tmp 12, .tmp 92], none⟩,
              ⟨none, (.st 1), [.tmp 93, .const (.int .u8 45)], none⟩]))
           .skip))
         (.seq (.seq (.run [0, 10, 11, 12, 13, 94] [⟨some 94, .mv, [.tmp 4], none⟩])
           (.cond (.tmp 94)
            (.seq (.run [10, 11] [⟨some 95, .mv, [.tmp 0], none⟩,
               ⟨some 96, .mv, [.tmp 13], none⟩,
               ⟨some 97, (.slp 1 65 true false), [.tmp 12, .tmp 96], none⟩,
               ⟨some 98, (.app 1 1), [.tmp 95, .tmp 97], none⟩,
               ⟨some 10, .mv, [.tmp 98], none⟩])
             .ret)
            .skip))
          (.seq (.run [10, 11] [⟨some 99, .mv, [.tmp 13], none⟩,
             ⟨some 100, (.slp 1 65 true false), [.tmp 12, .tmp 99], none⟩,
             ⟨some 101, .cvb, [.tmp 100], none⟩,
             ⟨some 11, .mv, [.tmp 101], none⟩])
           .ret)))))))))⟩

theorem f62_ok : compF Go.Proofs.Tryd.prog 62 f62.body.hints = some f62 := by kernel_rfl


def f63 : AFun := ⟨22, 1, [.slot 2, .slot 3],
  (.seq (.run [0] [⟨some 2, .mv, [.const (.int .i32 0)], none⟩,
     ⟨some 3, .mv, [.const (.int .i64 0)], none⟩])
   (.seq (.seq (.run [0, 6, 7, 8] [⟨some 6, .mv, [.tmp 0], none⟩,
       ⟨some 7, (.len 1), [.tmp 6], none⟩,
       ⟨some 8, .mv, [.const (.int .i64 0)], none⟩])
     (.block 0 (.loop [0, 6, 7, 8] (.seq (.run [0, 6, 8, 9] [⟨some 9, (.bin .lss), [.tmp 8, .tmp 7], none⟩])
        (.seq (.cond (.tmp 9)
          .skip
          (.exit 0))
         (.seq (.block 1 (.seq (.run [0, 5] [⟨some 10, (.iaddr 1), [.tmp 6, .tmp 8], none⟩,
              ⟨some 11, (.ld false 1), [.tmp 10], none⟩,
              ⟨some 5, .mv, [.tmp 11], none⟩])
            (.seq (.seq (.run [0, 5, 13] [⟨some 12, .mv, [.tmp 5], none⟩,
                ⟨some 13, (.bin .lss), [.tmp 12, .const (.int .u8 128)], none⟩])
              (.cond (.tmp 13)
               (.seq (.run [2, 3] [⟨some 14, .mv, [.tmp 5], none⟩,
                  ⟨some 15, (.cvi .i32), [.tmp 14], none⟩,
                  ⟨some 2, .mv, [.tmp 15], none⟩,
                  ⟨some 3, .mv, [.const (.int .i64 1)], none⟩])
                .ret)
               .skip))
             (.exit 0))))
          (.run [0, 6, 7, 8] [⟨some 16, (.bin .add), [.tmp 8, .const (.int .i64 1)], none⟩,
            ⟨some 8, .mv, [.tmp 16], none⟩])))))))
    (.seq (.run [2, 3] [⟨some 18, .mv, [.tmp 0], none⟩,
       ⟨some 19, (.call 73), [.tmp 18], none⟩,
       ⟨some 17, .mv, [.tmp 19], none⟩,
       ⟨some 20, (.ext 0), [.tmp 17], none⟩,
       ⟨some 21, (.ext 1), [.tmp 17], none⟩,
       ⟨some 2, .mv, [.tmp 20], none⟩,
       ⟨some 3, .mv, [.tmp 21], none⟩])
     .ret)))⟩

theorem f63_ok : compF Go.Proofs.Tryd.prog 63 f63.body.hints = some f63 := by kernel_rfl


def f71 : AFun := ⟨8, 1, [.slot 2],
  (.seq (.run [0] [⟨some 2, .mv, [.const (.bool false)], none⟩])
   (.seq (.run [2] [⟨some 3, .mv, [.tmp 0], none⟩,
      ⟨some 4, .mv, [.tmp 0], none⟩,
      ⟨some 5, (.bin .sub), [.tmp 4, .const (.int .i64 1)], none⟩,
      ⟨some 6, (.bin .and), [.tmp 3, .tmp 5], none⟩,
      ⟨some 7, (.eqg false 6), [.tmp 6, .const (.int .i64 0)], none⟩,
      ⟨some 2, .mv, [.tmp 7], none⟩])
    .ret))⟩

theorem f71_ok : compF Go.Proofs.Tryd.prog 71 f71.body.hints = some f71 := by kernel_rfl


def f72 : AFun := ⟨8, 1, [.slot 2],
  (.seq (.run [0] [⟨some 2, .mv, [.const (.int .i64 0)], none⟩])
   (.seq (.cond (.const (.bool false))
     (.seq (.run [2] [⟨some 3, .mv, [.tmp 0], none⟩,
        ⟨some 4, (.cvi .u32), [.tmp 3], none⟩,
        ⟨some 5, (.call 74), [.tmp 4], none⟩,
        ⟨some 2, .mv, [.tmp 5], none⟩])
      .ret)
     .skip)
    (.seq (.run [2] [⟨some 6, .mv, [.tmp 0], none⟩,
       ⟨some 7, (.call 75), [.tmp 6], none⟩,
       ⟨some 2, .mv, [.tmp 7], none⟩])
     .ret)))⟩

theorem f72_ok : compF Go.Proofs.Tryd.prog 72 f72.body.hints = some f72 := by kernel_rfl


def f73 : AFun := ⟨122, 1, [.slot 2, .slot 3],
  (.seq (.run [0] [⟨some 2, .mv, [.const (.int .i32 0)], none⟩,
     ⟨some 3, .mv, [.const (.int .i64 0)], none⟩])
   (.seq (.run [0, 4] [⟨some 13, .mv, [.tmp 0], none⟩,
      ⟨some 14, (.len 1), [.tmp 13], none⟩,
      ⟨some 4, .mv, [.tmp 14], none⟩])
    (.seq (.seq (.run [0, 4, 16] [⟨some 15, .mv, [.tmp 4], none⟩,
        ⟨some 16, (.bin .lss), [.tmp 15, .const (.int .i64 1)], none⟩])
      (.cond (.tmp 16)
       (.seq (.run [2, 3] [⟨some 2, .mv, [.const (.int .i32 65533)], none⟩,
          ⟨some 3, .mv, [.const (.int .i64 0)], none⟩])
        .ret)
       .skip))
     (.seq (.run [0, 4, 5] [⟨some 17, .mv, [.tmp 0], none⟩,
        ⟨some 18, (.iaddr 1), [.tmp 17, .const (.int .i64 0)], none⟩,
        ⟨some 19, (.ld false 1), [.tmp 18], none⟩,
        ⟨some 5, .mv, [.tmp 19], none⟩])
      (.seq (.run [0, 4, 5, 6] [⟨some 20, .mv, [.tmp 5], none⟩,
         ⟨some 21, (.aaddr 1 256), [.global 2, .tmp 20], none⟩,
         ⟨some 22, (.ld false 1), [.tmp 21], none⟩,
         ⟨some 6, .mv, [.tmp 22], none⟩])
       (.seq (.seq (.run [0, 4, 5, 6, 24] [⟨some 23, .mv, [.tmp 6], none⟩,
           ⟨some 24, (.bin .geq), [.tmp 23, .const (.int .u8 240)], none⟩])
         (.cond (.tmp 24)
          (.seq (.run [0, 7] [⟨some 25, .mv, [.tmp 6], none⟩,
             ⟨some 26, (.cvi .i32), [.tmp 25], none⟩,
             ⟨some 27, (.bin .shl), [.tmp 26, .const (.int .u64 31)], none⟩,
             ⟨some 28, (.bin .shr), [.tmp 27, .const (.int .u64 31)], none⟩,
             ⟨some 7, .mv, [.tmp 28], none⟩])
           (.seq (.run [2, 3] [⟨some 29, .mv, [.tmp 0], none⟩,
              ⟨some 30, (.iaddr 1), [.tmp 29, .const (.int .i64 0)], none⟩,
              ⟨some 31, (.ld false 1), [.tmp 30], none⟩,
              ⟨some 32, (.cvi .i32), [.tmp 31], none⟩,
              ⟨some 33, .mv, [.tmp 7], none⟩,
              ⟨some 34, (.bin .andNot), [.tmp 32, .tmp 33], none⟩,
              ⟨some 35, .mv, [.tmp 7], none⟩,
              ⟨some 36, (.bin .and), [.const (.int .i32 65533), .tmp 35], none⟩,
              ⟨some 37, (.bin .or), [.tmp 34, .tmp 36], none⟩,
              ⟨some 2, .mv, [.tmp 37], none⟩,
              ⟨some 3, .mv, [.const (.int .i64 1)], none⟩])
            .ret))
          .skip))
        (.seq (.run [0, 4, 5, 6, 8] [⟨some 38, .mv, [.tmp 6], none⟩,
           ⟨some 39, (.bin .and), [.tmp 38, .const (.int .u8 7)], none⟩,
           ⟨some 40, (.cvi .i64), [.tmp 39], none⟩,
           ⟨some 8, .mv, [.tmp 40], none⟩])
         (.seq (.run [0, 4, 5, 8, 9] [⟨some 41, .mv, [.tmp 6], none⟩,
            ⟨some 42, (.bin .shr), [.tmp 41, .const (.int .u64 4)], none⟩,
            ⟨some 43, (.aaddr 2 16), [.global 3, .tmp 42], none⟩,
            ⟨some 44, (.ld true 2), [.tmp 43], none⟩,
            ⟨some 9, (.alloc [(.int .u8 0), (.int .u8 0)]), [], none⟩,
            ⟨none, (.st 2), [.tmp 9, .tmp 44], none⟩])
          (.seq (.seq (.run [0, 5, 8, 9, 47] [⟨some 45, .mv, [.tmp 4], none⟩,
              ⟨some 46, .mv, [.tmp 8], none⟩,
              ⟨some 47, (.bin .lss), [.tmp 45, .tmp 46], none⟩])
            (.cond (.tmp 47)
             (.seq (.run [2, 3] [⟨some 2, .mv, [.const (.int .i32 65533)], none⟩,
                ⟨some 3, .mv, [.const (.int .i64 1)], none⟩])
              .ret)
             .skip))
           (.seq (.run [0, 5, 8, 9, 10] [⟨some 48, .mv, [.tmp 0], none⟩,
              ⟨some 49, (.iaddr 1), [.tmp 48, .const (.int .i64 1)], none⟩,
              ⟨some 50, (.ld false 1), [.tmp 49], none⟩,
              ⟨some 10, .mv, [.tmp 50], none⟩])
            (.seq (.seq (.run [0, 5, 8, 10, 60] [⟨some 51, .mv, [.tmp 10], none⟩,
                ⟨some 52, (.faddr 0), [.tmp 9], none⟩,
                ⟨some 53, (.ld false 1), [.tmp 52], none⟩,
                ⟨some 54, (.bin .lss), [.tmp 51, .tmp 53], none⟩,
                ⟨some 55, .mv, [.tmp 54], none⟩,
                ⟨some 56, (.faddr 1), [.tmp 9], some (55, false)⟩,
                ⟨some 57, (.ld false 1), [.tmp 56], some (55, false)⟩,
                ⟨some 58, .mv, [.tmp 10], some (55, false)⟩,
                ⟨some 59, (.bin .lss), [.tmp 57, .tmp 58], some (55, false)⟩,
                ⟨some 60, .pick, [.tmp 55, .const (.bool true), .tmp 59], none⟩])
              (.cond (.tmp 60)
               (.seq (.run [2, 3] [⟨some 2, .mv, [.const (.int .i32 65533)], none⟩,
                  ⟨some 3, .mv, [.const (.int .i64 1)], none⟩])
                .ret)
               .skip))
             (.seq (.seq (.run [0, 5, 8, 10, 62] [⟨some 61, .mv, [.tmp 8], none⟩,
                 ⟨some 62, (.bin .leq), [.tmp 61, .const (.int .i64 2)], none⟩])
               (.cond (.tmp 62)
                (.seq (.run [2, 3] [⟨some 63, .mv, [.tmp 5], none⟩,
                   ⟨some 64, (.bin .and), [.tmp 63, .const (.int .u8 31)], none⟩,
                   ⟨some 65, (.cvi .i32), [.tmp 64], none⟩,
                   ⟨some 66, (.bin .shl), [.tmp 65, .const (.int .u64 6)], none⟩,
                   ⟨some 67, .mv, [.tmp 10], none⟩,
                   ⟨some 68, (.bin .and), [.tmp 67, .const (.int .u8 63)], none⟩,
                   ⟨some 69, (.cvi .i32), [.tmp 68], none⟩,
                   ⟨some 70, (.bin .or), [.tmp 66, .tmp 69], none⟩,
                   ⟨some 2, .mv, [.tmp 70], none⟩,
                   ⟨some 3, .mv, [.const (.int .i64 2)], none⟩])
                 .ret)
                .skip))
              (.seq (.run [0, 5, 8, 10, 11] [⟨some 71, .mv, [.tmp 0], none⟩,
                 ⟨some 72, (.iaddr 1), [.tmp 71, .const (.int .i64 2)], none⟩,
                 ⟨some 73, (.ld false 1), [.tmp 72], none⟩,
                 ⟨some 11, .mv, [.tmp 73], none⟩])
               (.seq (.seq (.run [0, 5, 8, 10, 11, 79] [⟨some 74, .mv, [.tmp 11], none⟩,
                   ⟨some 75, (.bin .lss), [.tmp 74, .const (.int .u8 128)], none⟩,
                   ⟨some 76, .mv, [.tmp 75], none⟩,
                   ⟨some 77, .mv, [.tmp 11], some (76, false)⟩,
                   ⟨some 78, (.bin .lss), [.const (.int .u8 191), .tmp 77], some (76, false)⟩,
                   ⟨some 79, .pick, [.tmp 76, .const (.bool true), .tmp 78], none⟩])
                 (.cond (.tmp 79)
                  (.seq (.run [2, 3] [⟨some 2, .mv, [.const (.int .i32 65533)], none⟩,
                     ⟨some 3, .mv, [.const (.int .i64 1)], none⟩])
                   .ret)
                  .skip))
                (.seq (.seq (.run [0, 5, 10, 11, 81] [⟨some 80, .mv, [.tmp 8], none⟩,
                    ⟨some 81, (.bin .leq), [.tmp 80, .const (.int .i64 3)], none⟩])
                  (.cond (.tmp 81)
                   (.seq (.run [2, 3] [⟨some 82, .mv, [.tmp 5], none⟩,
                      ⟨some 83, (.bin .and), [.tmp 82, .const (.int .u8 15)], none⟩,
                      ⟨some 84, (.cvi .i32), [.tmp 83], none⟩,
                      ⟨some 85, (.bin .shl), [.tmp 84, .const (.int .u64 12)], none⟩,
                      ⟨some 86, .mv, [.tmp 10], none⟩,
                      ⟨some 87, (.bin .and), [.tmp 86, .const (.int .u8 63)], none⟩,
                      ⟨some 88, (.cvi .i32), [.tmp 87], none⟩,
                      ⟨some 89, (.bin .shl), [.tmp 88, .const (.int .u64 6)], none⟩,
                      ⟨some 90, (.bin .or), [.tmp 85, .tmp 89], none⟩,
                      ⟨some 91, .mv, [.tmp 11], none⟩,
                      ⟨some 92, (.bin .and), [.tmp 91, .const (.int .u8 63)], none⟩,
                      ⟨some 93, (.cvi .i32), [.tmp 92], none⟩,
                      ⟨some 94, (.bin .or), [.tmp 90, .tmp 93], none⟩,
                      ⟨some 2, .mv, [.tmp 94], none⟩,
                      ⟨some 3, .mv, [.const (.int .i64 3)], none⟩])
                    .ret)
                   .skip))
                 (.seq (.run [5, 10, 11, 12] [⟨some 95, .mv, [.tmp 0], none⟩,
                    ⟨some 96, (.iaddr 1), [.tmp 95, .const (.int .i64 3)], none⟩,
                    ⟨some 97, (.ld false 1), [.tmp 96], none⟩,
                    ⟨some 12, .mv, [.tmp 97], none⟩])
                  (.seq (.seq (.run [5, 10, 11, 12, 103] [⟨some 98, .mv, [.tmp 12], none⟩,
                      ⟨some 99, (.bin .lss), [.tmp 98, .const (.int .u8 128)], none⟩,
                      ⟨some 100, .mv, [.tmp 99], none⟩,
                      ⟨some 101, .mv, [.tmp 12], some (100, false)⟩,
                      ⟨some 102, (.bin .lss), [.const (.int .u8 191), .tmp 101], some (100, false)⟩,
                      ⟨some 103, .pick, [.tmp 100, .const (.bool true), .tmp 102], none⟩])
                    (.cond (.tmp 103)
                     (.seq (.run [2, 3] [⟨some 2, .mv, [.const (.int .i32 65533)], none⟩,
                        ⟨some 3, .mv, [.const (.int .i64 1)], none⟩])
                      .ret)
                     .skip))
                   (.seq (.run [2, 3] [⟨some 104, .mv, [.tmp 5], none⟩,
                      ⟨some 105, (.bin .and), [.tmp 104, .const (.int .u8 7)], none⟩,
                      ⟨some 106, (.cvi .i32), [.tmp 105], none⟩,
                      ⟨some 107, (.bin .shl), [.tmp 106, .const (.int .u64 18)], none⟩,
                      ⟨some 108, .mv, [.tmp 10], none⟩,
                      ⟨some 109, (.bin .and), [.tmp 108, .const (.int .u8 63)], none⟩,
                      ⟨some 110, (.cvi .i32), [.tmp 109], none⟩,
                      ⟨some 111, (.bin .shl), [.tmp 110, .const (.int .u64 12)], none⟩,
                      ⟨some 112, (.bin .or), [.tmp 107, .tmp 111], none⟩,
                      ⟨some 113, .mv, [.tmp 11], none⟩,
                      ⟨some 114, (.bin .and), [.tmp 113, .const (.int .u8 63)], none⟩,
                      ⟨some 115, (.cvi .i32), [.tmp 114], none⟩,
                      ⟨some 116, (.bin .shl), [.tmp 115, .const (.int .u64 6)], none⟩,
                      ⟨some 117, (.bin .or), [.tmp 112, .tmp 116], none⟩,
                      ⟨some 118, .mv, [.tmp 12], none⟩,
                      ⟨some 119, (.bin .and), [.tmp 118, .const (.int .u8 63)], none⟩,
                      ⟨some 120, (.cvi .i32), [.tmp 119], none⟩,
                      ⟨some 121, (.bin .or), [.tmp 117, .tmp 120], none⟩,
                      ⟨some 2, .mv, [.tmp 121], none⟩,
                      ⟨some 3, .mv, [.const (.int .i64 4)], none⟩])
                    .ret))))))))))))))))))⟩

theorem f73_ok : compF Go.Proofs.Tryd.prog 73 f73.body.hints = some f73 := by kernel_rfl


def f75 : AFun := ⟨14, 1, [.slot 2],
  (.seq (.run [0] [⟨some 2, .mv, [.const (.int .i64 0)], none⟩])
   (.seq (.seq (.run [0, 4] [⟨some 3, .mv, [.tmp 0], none⟩,
       ⟨some 4, (.eqg false 6), [.tmp 3, .const (.int .u64 0)], none⟩])
     (.cond (.tmp 4)
      (.seq (.run [2] [⟨some 2, .mv, [.const (.int .i64 64)], none⟩])
       .ret)
      .skip))
    (.seq (.run [2] [⟨some 5, .mv, [.tmp 0], none⟩,
       ⟨some 6, .mv, [.tmp 0], none⟩,
       ⟨some 7, (.un .neg), [.tmp 6], none⟩,
       ⟨some 8, (.bin .and), [.tmp 5, .tmp 7], none⟩,
       ⟨some 9, (.bin .mul), [.tmp 8, .const (.int .u64 285870213051353865)], none⟩,
       ⟨some 10, (.bin .shr), [.tmp 9, .const (.int .u64 58)], none⟩,
       ⟨some 11, (.aaddr 1 64), [.global 5, .tmp 10], none⟩,
       ⟨some 12, (.ld false 1), [.tmp 11], none⟩,
       ⟨some 13, (.cvi .i64), [.tmp 12], none⟩,
       ⟨some 2, .mv, [.tmp 13], none⟩])
     .ret)))⟩

theorem f75_ok : compF Go.Proofs.Tryd.prog 75 f75.body.hints = some f75 := by kernel_rfl

end Go.AL.Fun
