/- The functions of this seat's program, turned. Printed by a program; each is checked against the program. -/
import Derived.Test.YtcmgeflfapffoaaDoorF1
import Derived.Test.YtcmgeflfapffoaaDoorProg
import Derived.KernelRfl
namespace Go.AL.Fun
open Go.AL


def f26 : AFun := ⟨36, 0, [.slot 0],
  (.seq (.run [] [⟨some 0, .mv, [.const (.bool false)], none⟩])
   (.seq (.run [1, 2, 3] [⟨some 8, (.bslice 1 4 [(.int .u8 0)] [(0, 1), (1, 1), (2, 1), (3, 1)]), [.const (.int .u8 49), .const (.int .u8 13), .const (.int .u8 10), .const (.int .u8 97)], none⟩,
      ⟨some 9, .cvm, [.tmp 8], none⟩,
      ⟨some 10, (.call 27), [.tmp 9], none⟩,
      ⟨some 7, .mv, [.tmp 10], none⟩,
      ⟨some 11, (.ext 0), [.tmp 7], none⟩,
      ⟨some 12, (.ext 1), [.tmp 7], none⟩,
      ⟨some 13, (.ext 2), [.tmp 7], none⟩,
      ⟨some 1, .mv, [.tmp 11], none⟩,
      ⟨some 2, .mv, [.tmp 12], none⟩,
      ⟨some 3, .mv, [.tmp 13], none⟩])
    (.seq (.run [1, 2, 3, 6] [⟨some 15, (.bslice 1 6 [(.int .u8 0)] [(0, 1), (1, 1), (2, 1), (3, 1), (4, 1), (5, 1)]), [.const (.int .u8 48), .const (.int .u8 13), .const (.int .u8 10), .const (.int .u8 13), .const (.int .u8 10), .const (.int .u8 120)], none⟩,
       ⟨some 16, .cvm, [.tmp 15], none⟩,
       ⟨some 17, (.call 27), [.tmp 16], none⟩,
       ⟨some 14, .mv, [.tmp 17], none⟩,
       ⟨some 18, (.ext 0), [.tmp 14], none⟩,
       ⟨some 19, (.ext 1), [.tmp 14], none⟩,
       ⟨some 20, (.ext 2), [.tmp 14], none⟩,
       ⟨some 4, .mv, [.tmp 18], none⟩,
       ⟨some 5, .mv, [.tmp 19], none⟩,
       ⟨some 6, .mv, [.tmp 20], none⟩])
     (.seq (.run [0] [⟨some 21, .mv, [.tmp 1], none⟩,
        ⟨some 22, .cvb, [.tmp 21], none⟩,
        ⟨some 23, (.eqg false 6), [.tmp 22, .const (.string ⟨#[97]⟩)], none⟩,
        ⟨some 24, .mv, [.tmp 23], none⟩,
        ⟨some 25, .mv, [.tmp 2], some (24, true)⟩,
        ⟨some 26, (.un .not), [.tmp 25], some (24, true)⟩,
        ⟨some 27, .pick, [.tmp 24, .tmp 26, .const (.bool false)], none⟩,
        ⟨some 28, .mv, [.tmp 27], none⟩,
        ⟨some 29, .mv, [.tmp 3], some (28, true)⟩,
        ⟨some 30, (.eqg false 6), [.tmp 29, .const (.int .i64 0)], some (28, true)⟩,
        ⟨some 31, .pick, [.tmp 28, .tmp 30, .const (.bool false)], none⟩,
        ⟨some 32, .mv, [.tmp 31], none⟩,
        ⟨some 33, .mv, [.tmp 6], some (32, true)⟩,
        ⟨some 34, (.eqg false 6), [.tmp 33, .const (.int .i64 8)], some (32, true)⟩,
        ⟨some 35, .pick, [.tmp 32, .tmp 34, .const (.bool false)], none⟩,
        ⟨some 0, .mv, [.tmp 35], none⟩])
      .ret))))⟩

theorem f26_ok : compF Go.Proofs.Tryd.prog 26 f26.body.hints = some f26 := by kernel_rfl


def f27 : AFun := ⟨20, 1, [.slot 2, .slot 3, .slot 4],
  (.seq (.run [0] [⟨some 2, .mv, [.const (.slice none 0 0)], none⟩,
     ⟨some 3, .mv, [.const (.bool false)], none⟩,
     ⟨some 4, .mv, [.const (.int .i64 0)], none⟩])
   (.seq (.run [0, 5] [⟨some 7, (.call 28), [], none⟩,
      ⟨some 5, .mv, [.tmp 7], none⟩])
    (.seq (.seq (.run [5, 6] [⟨some 8, .mv, [.tmp 5], none⟩,
        ⟨some 9, .mv, [.tmp 0], none⟩,
        ⟨some 10, (.call 29), [.tmp 8, .tmp 9], none⟩,
        ⟨some 6, .mv, [.tmp 10], none⟩])
      (.seq (.run [5, 6, 12] [⟨some 11, .mv, [.tmp 6], none⟩,
         ⟨some 12, (.eqg true 6), [.tmp 11, .const (.int .i64 0)], none⟩])
       (.cond (.tmp 12)
        (.seq (.run [2, 3, 4] [⟨some 13, .mv, [.tmp 6], none⟩,
           ⟨some 2, .mv, [.const (.slice none 0 0)], none⟩,
           ⟨some 3, .mv, [.const (.bool false)], none⟩,
           ⟨some 4, .mv, [.tmp 13], none⟩])
         .ret)
        .skip)))
     (.seq (.runD [2, 3, 4] [⟨0, ⟨some 14, .mv, [.tmp 5], none⟩, []⟩,
        ⟨1, ⟨some 15, .nilck, [.tmp 14], none⟩, []⟩,
        ⟨2, ⟨some 16, (.faddr 3), [.tmp 15], none⟩, []⟩,
        ⟨3, ⟨some 17, (.ld false 1), [.tmp 16], none⟩, []⟩,
        ⟨4, ⟨some 18, .mv, [.tmp 5], none⟩, []⟩,
        ⟨5, ⟨some 19, (.call 30), [.tmp 18], none⟩, [3]⟩,
        ⟨6, ⟨some 2, .mv, [.tmp 17], none⟩, []⟩,
        ⟨7, ⟨some 3, .mv, [.tmp 19], none⟩, []⟩,
        ⟨8, ⟨some 4, .mv, [.const (.int .i64 0)], none⟩, []⟩])
      .ret))))⟩

theorem f27_ok : compF Go.Proofs.Tryd.prog 27 f27.body.hints = some f27 := by kernel_rfl


def f28 : AFun := ⟨3, 0, [.slot 0],
  (.seq (.run [] [⟨some 0, .mv, [.const (.pointer none)], none⟩])
   (.seq (.run [0] [⟨some 1, (.build [(.int .i64 0), (.sl [] .nil), (.int .i64 0), (.sl [] .nil), (.sl [] .nil), (.int .i64 0), (.int .i64 0)] []), [], none⟩,
      ⟨some 2, .box, [.tmp 1], none⟩,
      ⟨some 0, .mv, [.tmp 2], none⟩])
    .ret))⟩

theorem f28_ok : compF Go.Proofs.Tryd.prog 28 f28.body.hints = some f28 := by kernel_rfl


def f29 : AFun := ⟨43, 2, [.slot 4],
  (.seq (.run [0, 1] [⟨some 4, .mv, [.const (.int .i64 0)], none⟩])
   (.seq (.seq (.run [0, 1, 8] [⟨some 7, .mv, [.tmp 0], none⟩,
       ⟨some 8, (.eqg false 1), [.tmp 7, .const (.pointer none)], none⟩])
     (.cond (.tmp 8)
      (.seq (.run [4] [⟨some 4, .mv, [.const (.int .i64 1)], none⟩])
       .ret)
      .skip))
    (.seq (.seq (.run [0, 9, 10, 11] [⟨some 9, .mv, [.tmp 1], none⟩,
        ⟨some 10, (.len 1), [.tmp 9], none⟩,
        ⟨some 11, .mv, [.const (.int .i64 0)], none⟩])
      (.block 0 (.loop [0, 9, 10, 11] (.seq (.run [0, 9, 10, 11, 12] [⟨some 12, (.bin .lss), [.tmp 11, .tmp 10], none⟩])
         (.seq (.cond (.tmp 12)
           .skip
           (.exit 0))
          (.seq (.block 1 (.seq (.run [0, 6, 9, 10, 11] [⟨some 13, (.iaddr 1), [.tmp 9, .tmp 11], none⟩,
               ⟨some 14, (.ld false 1), [.tmp 13], none⟩,
               ⟨some 6, .mv, [.tmp 14], none⟩])
             (.seq (.seq (.run [0, 6, 9, 10, 11, 19] [⟨some 15, .mv, [.tmp 0], none⟩,
                 ⟨some 16, .nilck, [.tmp 15], none⟩,
                 ⟨some 17, (.faddr 6), [.tmp 16], none⟩,
                 ⟨some 18, (.ld false 1), [.tmp 17], none⟩,
                 ⟨some 19, (.eqg true 6), [.tmp 18, .const (.int .i64 0)], none⟩])
               (.cond (.tmp 19)
                (.exit 0)
                .skip))
              (.seq (.run [0, 9, 10, 11] [⟨some 20, .mv, [.tmp 0], none⟩,
                 ⟨some 21, .mv, [.tmp 0], none⟩,
                 ⟨some 22, .mv, [.tmp 6], none⟩,
                 ⟨some 23, (.call 40), [.tmp 21, .tmp 22], none⟩,
                 ⟨some 24, .nilck, [.tmp 20], none⟩,
                 ⟨some 25, (.faddr 6), [.tmp 24], none⟩,
                 ⟨none, (.st 1), [.tmp 25, .tmp 23], none⟩])
               (.seq (.run [0, 9, 10, 11, 30] [⟨some 26, .mv, [.tmp 0], none⟩,
                  ⟨some 27, .nilck, [.tmp 26], none⟩,
                  ⟨some 28, (.faddr 6), [.tmp 27], none⟩,
                  ⟨some 29, (.ld false 1), [.tmp 28], none⟩,
                  ⟨some 30, (.eqg false 6), [.tmp 29, .const (.int .i64 0)], none⟩])
                (.cond (.tmp 30)
                 (.run [0, 9, 10, 11] [⟨some 31, .mv, [.tmp 0], none⟩,
                   ⟨some 32, .nilck, [.tmp 31], none⟩,
                   ⟨some 33, (.faddr 5), [.tmp 32], none⟩,
                   ⟨some 34, (.ld false 1), [.tmp 33], none⟩,
                   ⟨some 35, (.bin .add), [.tmp 34, .const (.int .i64 1)], none⟩,
                   ⟨some 36, .nilck, [.tmp 31], none⟩,
                   ⟨some 37, (.faddr 5), [.tmp 36], none⟩,
                   ⟨none, (.st 1), [.tmp 37, .tmp 35], none⟩])
                 .skip))))))
           (.run [0, 9, 10, 11] [⟨some 38, (.bin .add), [.tmp 11, .const (.int .i64 1)], none⟩,
             ⟨some 11, .mv, [.tmp 38], none⟩])))))))
     (.seq (.run [4] [⟨some 39, .mv, [.tmp 0], none⟩,
        ⟨some 40, .nilck, [.tmp 39], none⟩,
        ⟨some 41, (.faddr 6), [.tmp 40], none⟩,
        ⟨some 42, (.ld false 1), [.tmp 41], none⟩,
        ⟨some 4, .mv, [.tmp 42], none⟩])
      .ret))))⟩

theorem f29_ok : compF Go.Proofs.Tryd.prog 29 f29.body.hints = some f29 := by kernel_rfl


def f30 : AFun := ⟨12, 1, [.slot 2],
  (.seq (.run [0] [⟨some 2, .mv, [.const (.bool false)], none⟩])
   (.seq (.run [2] [⟨some 3, .mv, [.tmp 0], none⟩,
      ⟨some 4, (.eqg true 1), [.tmp 3, .const (.pointer none)], none⟩,
      ⟨some 5, .mv, [.tmp 4], none⟩,
      ⟨some 6, .mv, [.tmp 0], some (5, true)⟩,
      ⟨some 7, .nilck, [.tmp 6], some (5, true)⟩,
      ⟨some 8, (.faddr 0), [.tmp 7], some (5, true)⟩,
      ⟨some 9, (.ld false 1), [.tmp 8], some (5, true)⟩,
      ⟨some 10, (.eqg false 6), [.tmp 9, .const (.int .i64 4)], some (5, true)⟩,
      ⟨some 11, .pick, [.tmp 5, .tmp 10, .const (.bool false)], none⟩,
      ⟨some 2, .mv, [.tmp 11], none⟩])
    .ret))⟩

theorem f30_ok : compF Go.Proofs.Tryd.prog 30 f30.body.hints = some f30 := by kernel_rfl


def f31 : AFun := ⟨27, 1, [.slot 2],
  (.seq (.run [0] [⟨some 2, .mv, [.const (.bool false)], none⟩])
   (.seq (.run [2] [⟨some 3, .mv, [.tmp 0], none⟩,
      ⟨some 4, (.eqg true 1), [.tmp 3, .const (.pointer none)], none⟩,
      ⟨some 5, .mv, [.tmp 4], none⟩,
      ⟨some 6, .mv, [.tmp 0], some (5, true)⟩,
      ⟨some 7, .nilck, [.tmp 6], some (5, true)⟩,
      ⟨some 8, (.faddr 0), [.tmp 7], some (5, true)⟩,
      ⟨some 9, (.ld false 1), [.tmp 8], some (5, true)⟩,
      ⟨some 10, (.eqg false 6), [.tmp 9, .const (.int .i64 4)], some (5, true)⟩,
      ⟨some 11, .mv, [.tmp 10], some (5, true)⟩,
      ⟨some 12, .mv, [.tmp 0], some (11, false)⟩,
      ⟨some 13, .nilck, [.tmp 12], some (11, false)⟩,
      ⟨some 14, (.faddr 0), [.tmp 13], some (11, false)⟩,
      ⟨some 15, (.ld false 1), [.tmp 14], some (11, false)⟩,
      ⟨some 16, (.eqg false 6), [.tmp 15, .const (.int .i64 0)], some (11, false)⟩,
      ⟨some 17, .mv, [.tmp 16], some (11, false)⟩,
      ⟨some 18, .mv, [.tmp 0], some (17, true)⟩,
      ⟨some 19, .nilck, [.tmp 18], some (17, true)⟩,
      ⟨some 20, (.faddr 1), [.tmp 19], some (17, true)⟩,
      ⟨some 21, (.ld false 1), [.tmp 20], some (17, true)⟩,
      ⟨some 22, (.len 1), [.tmp 21], some (17, true)⟩,
      ⟨some 23, (.eqg false 6), [.tmp 22, .const (.int .i64 0)], some (17, true)⟩,
      ⟨some 24, .pick, [.tmp 17, .tmp 23, .const (.bool false)], some (11, false)⟩,
      ⟨some 25, .pick, [.tmp 11, .const (.bool true), .tmp 24], some (5, true)⟩,
      ⟨some 26, .pick, [.tmp 5, .tmp 25, .const (.bool false)], none⟩,
      ⟨some 2, .mv, [.tmp 26], none⟩])
    .ret))⟩

theorem f31_ok : compF Go.Proofs.Tryd.prog 31 f31.body.hints = some f31 := by kernel_rfl


def f32 : AFun := ⟨10, 1, [.slot 2],
  (.seq (.run [0] [⟨some 2, .mv, [.const (.slice none 0 0)], none⟩])
   (.seq (.seq (.run [0, 4] [⟨some 3, .mv, [.tmp 0], none⟩,
       ⟨some 4, (.eqg false 1), [.tmp 3, .const (.pointer none)], none⟩])
     (.cond (.tmp 4)
      (.seq (.run [2] [⟨some 2, .mv, [.const (.slice none 0 0)], none⟩])
       .ret)
      .skip))
    (.seq (.run [2] [⟨some 5, .mv, [.tmp 0], none⟩,
       ⟨some 6, .nilck, [.tmp 5], none⟩,
       ⟨some 7, (.faddr 3), [.tmp 6], none⟩,
       ⟨some 8, (.ld false 1), [.tmp 7], none⟩,
       ⟨some 9, (.call 38), [.tmp 8], none⟩,
       ⟨some 2, .mv, [.tmp 9], none⟩])
     .ret)))⟩

theorem f32_ok : compF Go.Proofs.Tryd.prog 32 f32.body.hints = some f32 := by kernel_rfl


def f33 : AFun := ⟨9, 1, [.slot 2],
  (.seq (.run [0] [⟨some 2, .mv, [.const (.int .i64 0)], none⟩])
   (.seq (.seq (.run [0, 4] [⟨some 3, .mv, [.tmp 0], none⟩,
       ⟨some 4, (.eqg false 1), [.tmp 3, .const (.pointer none)], none⟩])
     (.cond (.tmp 4)
      (.seq (.run [2] [⟨some 2, .mv, [.const (.int .i64 0)], none⟩])
       .ret)
      .skip))
    (.seq (.run [2] [⟨some 5, .mv, [.tmp 0], none⟩,
       ⟨some 6, .nilck, [.tmp 5], none⟩,
       ⟨some 7, (.faddr 5), [.tmp 6], none⟩,
       ⟨some 8, (.ld false 1), [.tmp 7], none⟩,
       ⟨some 2, .mv, [.tmp 8], none⟩])
     .ret)))⟩

theorem f33_ok : compF Go.Proofs.Tryd.prog 33 f33.body.hints = some f33 := by kernel_rfl


def f40 : AFun := ⟨66, 2, [.slot 4],
  (.seq (.run [0, 1] [⟨some 4, .mv, [.const (.int .i64 0)], none⟩])
   (.seq (.seq (.run [0, 1, 9] [⟨some 6, .mv, [.tmp 0], none⟩,
       ⟨some 7, .nilck, [.tmp 6], none⟩,
       ⟨some 8, (.faddr 0), [.tmp 7], none⟩,
       ⟨some 9, (.ld false 1), [.tmp 8], none⟩])
     (.block 0 (.seq (.run [0, 1, 9, 10] [⟨some 11, (.eqg false 6), [.tmp 9, .const (.int .i64 0)], none⟩,
         ⟨some 10, .mv, [.tmp 11], none⟩])
       (.cond (.tmp 10)
        (.seq (.run [4] [⟨some 12, .mv, [.tmp 0], none⟩,
           ⟨some 13, .mv, [.tmp 1], none⟩,
           ⟨some 14, (.call 45), [.tmp 12, .tmp 13], none⟩,
           ⟨some 4, .mv, [.tmp 14], none⟩])
         .ret)
        (.seq (.run [0, 1, 9, 15] [⟨some 16, (.eqg false 6), [.tmp 9, .const (.int .i64 1)], none⟩,
           ⟨some 15, .mv, [.tmp 16], none⟩])
         (.cond (.tmp 15)
          (.seq (.run [0] [⟨some 17, .mv, [.tmp 0], none⟩,
             ⟨some 18, .mv, [.tmp 0], none⟩,
             ⟨some 19, .nilck, [.tmp 18], none⟩,
             ⟨some 20, (.faddr 3), [.tmp 19], none⟩,
             ⟨some 21, (.ld false 1), [.tmp 20], none⟩,
             ⟨some 22, .mv, [.tmp 1], none⟩,
             ⟨some 23, (.bslice 1 1 [(.int .u8 0)] [(0, 1)]), [.tmp 22], none⟩,
             ⟨some 24, (.app 1 1), [.tmp 21, .tmp 23], none⟩,
             ⟨some 25, .nilck, [.tmp 17], none⟩,
             ⟨some 26, (.faddr 3), [.tmp 25], none⟩,
             ⟨none, (.st 1), [.tmp 26, .tmp 24], none⟩])
           (.seq (.run [0] [⟨some 27, .mv, [.tmp 0], none⟩,
              ⟨some 28, .nilck, [.tmp 27], none⟩,
              ⟨some 29, (.faddr 2), [.tmp 28], none⟩,
              ⟨some 30, (.ld false 1), [.tmp 29], none⟩,
              ⟨some 31, (.bin .sub), [.tmp 30, .const (.int .i64 1)], none⟩,
              ⟨some 32, .nilck, [.tmp 27], none⟩,
              ⟨some 33, (.faddr 2), [.tmp 32], none⟩,
              ⟨none, (.st 1), [.tmp 33, .tmp 31], none⟩])
            (.seq (.seq (.run [0, 38] [⟨some 34, .mv, [.tmp 0], none⟩,
                ⟨some 35, .nilck, [.tmp 34], none⟩,
                ⟨some 36, (.faddr 2), [.tmp 35], none⟩,
                ⟨some 37, (.ld false 1), [.tmp 36], none⟩,
                ⟨some 38, (.eqg false 6), [.tmp 37, .const (.int .i64 0)], none⟩])
              (.cond (.tmp 38)
               (.run [] [⟨some 39, .mv, [.tmp 0], none⟩,
                 ⟨some 40, .nilck, [.tmp 39], none⟩,
                 ⟨some 41, (.faddr 0), [.tmp 40], none⟩,
                 ⟨none, (.st 1), [.tmp 41, .const (.int .i64 2)], none⟩])
               .skip))
             (.seq (.run [4] [⟨some 4, .mv, [.const (.int .i64 0)], none⟩])
              .ret))))
          (.seq (.run [0, 1, 9, 42] [⟨some 43, (.eqg false 6), [.tmp 9, .const (.int .i64 2)], none⟩,
             ⟨some 42, .mv, [.tmp 43], none⟩])
           (.cond (.tmp 42)
            (.seq (.run [4] [⟨some 44, .mv, [.tmp 0], none⟩,
               ⟨some 45, .mv, [.tmp 1], none⟩,
               ⟨some 46, (.call 46), [.tmp 44, .tmp 45, .const (.int .u8 13), .const (.int .i64 3)], none⟩,
               ⟨some 4, .mv, [.tmp 46], none⟩])
             .ret)
            (.seq (.run [0, 1, 47] [⟨some 48, (.eqg false 6), [.tmp 9, .const (.int .i64 3)], none⟩,
               ⟨some 47, .mv, [.tmp 48], none⟩])
             (.cond (.tmp 47)
              (.seq (.run [0, 1, 5] [⟨some 5, .mv, [.const (.int .i64 0)], none⟩])
               (.seq (.seq (.runD [0, 1, 5, 61] [⟨0, ⟨some 49, .mv, [.tmp 0], none⟩, []⟩,
                   ⟨1, ⟨some 50, .nilck, [.tmp 49], none⟩, []⟩,
                   ⟨2, ⟨some 51, (.faddr 4), [.tmp 50], none⟩, []⟩,
                   ⟨3, ⟨some 52, (.ld false 1), [.tmp 51], none⟩, []⟩,
                   ⟨4, ⟨some 53, .mv, [.tmp 0], none⟩, []⟩,
                   ⟨5, ⟨some 54, .nilck, [.tmp 53], none⟩, []⟩,
                   ⟨6, ⟨some 55, (.faddr 4), [.tmp 54], none⟩, []⟩,
                   ⟨7, ⟨some 56, (.ld false 1), [.tmp 55], none⟩, []⟩,
                   ⟨8, ⟨some 57, (.len 1), [.tmp 56], none⟩, []⟩,
                   ⟨9, ⟨some 58, (.bin .sub), [.tmp 57, .const (.int .i64 1)], none⟩, []⟩,
                   ⟨10, ⟨some 59, (.iaddr 1), [.tmp 52, .tmp 58], none⟩, []⟩,
                   ⟨11, ⟨some 60, (.ld false 1), [.tmp 59], none⟩, []⟩,
                   ⟨12, ⟨some 61, (.eqg false 6), [.tmp 60, .const (.int .i64 0)], none⟩, []⟩])
                 (.cond (.tmp 61)
                  (.run [0, 1, 5] [⟨some 5, .mv, [.const (.int .i64 4)], none⟩])
                  .skip))
                (.seq (.run [4] [⟨some 62, .mv, [.tmp 0], none⟩,
                   ⟨some 63, .mv, [.tmp 1], none⟩,
                   ⟨some 64, .mv, [.tmp 5], none⟩,
                   ⟨some 65, (.call 46), [.tmp 62, .tmp 63, .const (.int .u8 10), .tmp 64], none⟩,
                   ⟨some 4, .mv, [.tmp 65], none⟩])
                 .ret)))
              .skip))))))))))
    (.seq (.run [4] [⟨some 4, .mv, [.const (.int .i64 8)], none⟩])
     .ret)))⟩

theorem f40_ok : compF Go.Proofs.Tryd.prog 40 f40.body.hints = some f40 := by kernel_rfl


def f45 : AFun := ⟨57, 2, [.slot 4],
  (.seq (.run [0, 1] [⟨some 4, .mv, [.const (.int .i64 0)], none⟩])
   (.seq (.run [0, 5] [⟨some 9, .mv, [.tmp 0], none⟩,
      ⟨some 10, .nilck, [.tmp 9], none⟩,
      ⟨some 11, (.faddr 1), [.tmp 10], none⟩,
      ⟨some 12, (.ld false 1), [.tmp 11], none⟩,
      ⟨some 13, .mv, [.tmp 1], none⟩,
      ⟨some 14, (.bslice 1 1 [(.int .u8 0)] [(0, 1)]), [.tmp 13], none⟩,
      ⟨some 15, (.app 1 1), [.tmp 12, .tmp 14], none⟩,
      ⟨some 5, .mv, [.tmp 15], none⟩])
    (.seq (.run [0, 5, 6, 8] [⟨some 17, .mv, [.tmp 5], none⟩,
       ⟨some 18, (.call 49), [.tmp 17], none⟩,
       ⟨some 16, .mv, [.tmp 18], none⟩,
       ⟨some 19, (.ext 0), [.tmp 16], none⟩,
       ⟨some 20, (.ext 1), [.tmp 16], none⟩,
       ⟨some 21, (.ext 2), [.tmp 16], none⟩,
       ⟨some 6, .mv, [.tmp 19], none⟩,
       ⟨some 7, .mv, [.tmp 20], none⟩,
       ⟨some 8, .mv, [.tmp 21], none⟩])
     (.seq (.seq (.run [0, 5, 6, 8, 22] [⟨some 22, .mv, [.tmp 8], none⟩])
       (.block 0 (.seq (.run [0, 5, 6, 8, 22, 23] [⟨some 24, (.eqg false 6), [.tmp 22, .const (.int .i64 7)], none⟩,
           ⟨some 23, .mv, [.tmp 24], none⟩])
         (.cond (.tmp 23)
          (.seq (.run [] [⟨some 25, .mv, [.tmp 0], none⟩,
             ⟨some 26, .mv, [.tmp 5], none⟩,
             ⟨some 27, .nilck, [.tmp 25], none⟩,
             ⟨some 28, (.faddr 1), [.tmp 27], none⟩,
             ⟨none, (.st 1), [.tmp 28, .tmp 26], none⟩])
           (.seq (.run [4] [⟨some 4, .mv, [.const (.int .i64 0)], none⟩])
            .ret))
          (.seq (.run [0, 6, 8, 29] [⟨some 30, (.eqg false 6), [.tmp 22, .const (.int .i64 0)], none⟩,
             ⟨some 29, .mv, [.tmp 30], none⟩])
           (.cond (.tmp 29)
            (.seq (.run [0, 6, 8] [⟨some 31, .mv, [.tmp 0], none⟩,
               ⟨some 32, .mv, [.tmp 0], none⟩,
               ⟨some 33, .mv, [.tmp 0], none⟩,
               ⟨some 34, .mv, [.tmp 6], none⟩,
               ⟨some 35, .nilck, [.tmp 31], none⟩,
               ⟨some 36, (.faddr 1), [.tmp 35], none⟩,
               ⟨none, (.st 1), [.tmp 36, .const (.slice none 0 0)], none⟩,
               ⟨some 37, .nilck, [.tmp 32], none⟩,
               ⟨some 38, (.faddr 2), [.tmp 37], none⟩,
               ⟨none, (.st 1), [.tmp 38, .tmp 34], none⟩,
               ⟨some 39, .nilck, [.tmp 33], none⟩,
               ⟨some 40, (.faddr 0), [.tmp 39], none⟩,
               ⟨none, (.st 1), [.tmp 40, .const (.int .i64 1)], none⟩])
             (.seq (.run [0, 6, 8] [⟨some 41, .mv, [.tmp 0], none⟩,
                ⟨some 42, .mv, [.tmp 0], none⟩,
                ⟨some 43, .nilck, [.tmp 42], none⟩,
                ⟨some 44, (.faddr 4), [.tmp 43], none⟩,
                ⟨some 45, (.ld false 1), [.tmp 44], none⟩,
                ⟨some 46, .mv, [.tmp 6], none⟩,
                ⟨some 47, (.bslice 1 1 [(.int .i64 0)] [(0, 1)]), [.tmp 46], none⟩,
                ⟨some 48, (.app 1 8), [.tmp 45, .tmp 47], none⟩,
                ⟨some 49, .nilck, [.tmp 41], none⟩,
                ⟨some 50, (.faddr 4), [.tmp 49], none⟩,
                ⟨none, (.st 1), [.tmp 50, .tmp 48], none⟩])
              (.seq (.run [0, 8, 52] [⟨some 51, .mv, [.tmp 6], none⟩,
                 ⟨some 52, (.eqg false 6), [.tmp 51, .const (.int .i64 0)], none⟩])
               (.cond (.tmp 52)
                (.run [8] [⟨some 53, .mv, [.tmp 0], none⟩,
                  ⟨some 54, .nilck, [.tmp 53], none⟩,
                  ⟨some 55, (.faddr 0), [.tmp 54], none⟩,
                  ⟨none, (.st 1), [.tmp 55, .const (.int .i64 2)], none⟩])
                .skip))))
            .skip))))))
      (.seq (.run [4] [⟨some 56, .mv, [.tmp 8], none⟩,
         ⟨some 4, .mv, [.tmp 56], none⟩])
       .ret)))))⟩

theorem f45_ok : compF Go.Proofs.Tryd.prog 45 f45.body.hints = some f45 := by kernel_rfl


def f46 : AFun := ⟨16, 4, [.slot 8],
  (.seq (.run [0, 1, 2, 3] [⟨some 8, .mv, [.const (.int .i64 0)], none⟩])
   (.seq (.seq (.run [0, 3, 11] [⟨some 9, .mv, [.tmp 1], none⟩,
       ⟨some 10, .mv, [.tmp 2], none⟩,
       ⟨some 11, (.eqg true 6), [.tmp 9, .tmp 10], none⟩])
     (.cond (.tmp 11)
      (.seq (.run [8] [⟨some 8, .mv, [.const (.int .i64 5)], none⟩])
       .ret)
      .skip))
    (.seq (.run [] [⟨some 12, .mv, [.tmp 0], none⟩,
       ⟨some 13, .mv, [.tmp 3], none⟩,
       ⟨some 14, .nilck, [.tmp 12], none⟩,
       ⟨some 15, (.faddr 0), [.tmp 14], none⟩,
       ⟨none, (.st 1), [.tmp 15, .tmp 13], none⟩])
     (.seq (.run [8] [⟨some 8, .mv, [.const (.int .i64 0)], none⟩])
      .ret))))⟩

theorem f46_ok : compF Go.Proofs.Tryd.prog 46 f46.body.hints = some f46 := by kernel_rfl


def f49 : AFun := ⟨77, 1, [.slot 2, .slot 3, .slot 4],
  (.seq (.run [0] [⟨some 2, .mv, [.const (.int .i64 0)], none⟩,
     ⟨some 3, .mv, [.const (.int .i64 0)], none⟩,
     ⟨some 4, .mv, [.const (.int .i64 0)], none⟩])
   (.seq (.run [0, 5] [⟨some 11, .mv, [.tmp 0], none⟩,
      ⟨some 12, (.call 51), [.tmp 11, .func 52], none⟩,
      ⟨some 5, .mv, [.tmp 12], none⟩])
    (.seq (.run [0, 5, 6] [⟨some 13, .mv, [.tmp 0], none⟩,
       ⟨some 6, .mv, [.tmp 13], none⟩])
     (.seq (.seq (.run [0, 5, 6, 15] [⟨some 14, .mv, [.tmp 5], none⟩,
         ⟨some 15, (.bin .geq), [.tmp 14, .const (.int .i64 0)], none⟩])
       (.cond (.tmp 15)
        (.run [0, 6] [⟨some 16, .mv, [.tmp 0], none⟩,
          ⟨some 17, .mv, [.tmp 5], none⟩,
          ⟨some 18, (.slc 1 false true), [.tmp 16, .tmp 17], none⟩,
          ⟨some 6, .mv, [.tmp 18], none⟩])
        .skip))
      (.seq (.run [0, 6, 7] [⟨some 7, .mv, [.const (.int .i64 0)], none⟩])
       (.seq (.seq (.run [0, 6, 7, 19, 20, 21] [⟨some 19, .mv, [.tmp 6], none⟩,
           ⟨some 20, (.len 1), [.tmp 19], none⟩,
           ⟨some 21, .mv, [.const (.int .i64 0)], none⟩])
         (.block 0 (.loop [0, 6, 7, 19, 20, 21] (.seq (.run [0, 6, 7, 19, 20, 21, 22] [⟨some 22, (.bin .lss), [.tmp 21, .tmp 20], none⟩])
            (.seq (.cond (.tmp 22)
              .skip
              (.exit 0))
             (.seq (.block 1 (.seq (.run [0, 6, 7, 9, 19, 20, 21] [⟨some 23, (.iaddr 1), [.tmp 19, .tmp 21], none⟩,
                  ⟨some 24, (.ld false 1), [.tmp 23], none⟩,
                  ⟨some 9, .mv, [.tmp 24], none⟩])
                (.seq (.run [0, 6, 7, 19, 20, 21] [⟨some 25, .mv, [.tmp 7], none⟩,
                   ⟨some 26, (.bin .mul), [.tmp 25, .const (.int .i64 16)], none⟩,
                   ⟨some 27, .mv, [.tmp 9], none⟩,
                   ⟨some 28, (.call 54), [.const (.string ⟨#[48, 49, 50, 51, 52, 53, 54, 55, 56, 57, 97, 98, 99, 100, 101, 102]⟩), .tmp 27], none⟩,
                   ⟨some 29, (.bin .add), [.tmp 26, .tmp 28], none⟩,
                   ⟨some 7, .mv, [.tmp 29], none⟩])
                 (.seq (.run [0, 6, 7, 19, 20, 21, 42] [⟨some 30, .mv, [.tmp 7], none⟩,
                    ⟨some 31, (.bin .gtr), [.tmp 30, .const (.int .i64 65536)], none⟩,
                    ⟨some 32, .mv, [.tmp 31], none⟩,
                    ⟨some 33, .mv, [.tmp 6], some (32, false)⟩,
                    ⟨some 34, (.len 1), [.tmp 33], some (32, false)⟩,
                    ⟨some 35, (.bin .gtr), [.tmp 34, .const (.int .i64 1)], some (32, false)⟩,
                    ⟨some 36, .mv, [.tmp 35], some (32, false)⟩,
                    ⟨some 37, .mv, [.tmp 6], some (36, true)⟩,
                    ⟨some 38, (.iaddr 1), [.tmp 37, .const (.int .i64 0)], some (36, true)⟩,
                    ⟨some 39, (.ld false 1), [.tmp 38], some (36, true)⟩,
                    ⟨some 40, (.eqg false 6), [.tmp 39, .const (.int .u8 48)], some (36, true)⟩,
                    ⟨some 41, .pick, [.tmp 36, .tmp 40, .const (.bool false)], some (32, false)⟩,
                    ⟨some 42, .pick, [.tmp 32, .const (.bool true), .tmp 41], none⟩])
                  (.cond (.tmp 42)
                   (.seq (.run [2, 3, 4] [⟨some 2, .mv, [.const (.int .i64 0)], none⟩,
                      ⟨some 3, .mv, [.const (.int .i64 0)], none⟩,
                      ⟨some 4, .mv, [.const (.int .i64 5)], none⟩])
                    .ret)
                   .skip)))))
              (.run [0, 6, 7, 19, 20, 21] [⟨some 43, (.bin .add), [.tmp 21, .const (.int .i64 1)], none⟩,
                ⟨some 21, .mv, [.tmp 43], none⟩])))))))
        (.seq (.run [6, 7, 10] [⟨some 44, .mv, [.tmp 0], none⟩,
           ⟨some 45, .mv, [.tmp 6], none⟩,
           ⟨some 46, (.len 1), [.tmp 45], none⟩,
           ⟨some 47, (.slc 1 true false), [.tmp 44, .tmp 46], none⟩,
           ⟨some 10, .mv, [.tmp 47], none⟩])
         (.seq (.block 2 (.seq (.run [6, 7, 10, 48] [⟨some 49, .mv, [.tmp 10], none⟩,
              ⟨some 50, (.len 1), [.tmp 49], none⟩,
              ⟨some 51, (.eqg false 6), [.tmp 50, .const (.int .i64 0)], none⟩,
              ⟨some 48, .mv, [.tmp 51], none⟩])
            (.cond (.tmp 48)
             (.seq (.run [2, 3, 4] [⟨some 2, .mv, [.const (.int .i64 0)], none⟩,
                ⟨some 3, .mv, [.const (.int .i64 0)], none⟩,
                ⟨some 4, .mv, [.const (.int .i64 7)], none⟩])
              .ret)
             (.seq (.runD [6, 7, 10, 52] [⟨0, ⟨some 53, .mv, [.tmp 6], none⟩, []⟩,
                ⟨1, ⟨some 54, (.len 1), [.tmp 53], none⟩, []⟩,
                ⟨2, ⟨some 55, (.eqg false 6), [.tmp 54, .const (.int .i64 0)], none⟩, []⟩,
                ⟨3, ⟨some 56, .mv, [.tmp 55], none⟩, []⟩,
                ⟨4, ⟨some 57, .mv, [.tmp 10], some (56, false)⟩, []⟩,
                ⟨5, ⟨some 58, (.iaddr 1), [.tmp 57, .const (.int .i64 0)], some (56, false)⟩, []⟩,
                ⟨6, ⟨some 59, (.ld false 1), [.tmp 58], some (56, false)⟩, []⟩,
                ⟨7, ⟨some 60, .ixs, [.const (.string ⟨#[13, 10]⟩), .const (.int .i64 0)], some (56, false)⟩, []⟩,
                ⟨8, ⟨some 61, (.eqg true 6), [.tmp 59, .tmp 60], some (56, false)⟩, []⟩,
                ⟨9, ⟨some 62, .pick, [.tmp 56, .const (.bool true), .tmp 61], none⟩, []⟩,
                ⟨10, ⟨some 52, .mv, [.tmp 62], none⟩, []⟩])
              (.cond (.tmp 52)
               (.seq (.run [2, 3, 4] [⟨some 2, .mv, [.const (.int .i64 0)], none⟩,
                  ⟨some 3, .mv, [.const (.int .i64 0)], none⟩,
                  ⟨some 4, .mv, [.const (.int .i64 5)], none⟩])
                .ret)
               (.seq (.run [6, 7, 10, 63] [⟨some 64, .mv, [.tmp 10], none⟩,
                  ⟨some 65, (.len 1), [.tmp 64], none⟩,
                  ⟨some 66, (.eqg false 6), [.tmp 65, .const (.int .i64 1)], none⟩,
                  ⟨some 63, .mv, [.tmp 66], none⟩])
                (.cond (.tmp 63)
                 (.seq (.run [2, 3, 4] [⟨some 2, .mv, [.const (.int .i64 0)], none⟩,
                    ⟨some 3, .mv, [.const (.int .i64 0)], none⟩,
                    ⟨some 4, .mv, [.const (.int .i64 7)], none⟩])
                  .ret)
                 (.seq (.runD [6, 7, 67] [⟨0, ⟨some 68, .mv, [.tmp 10], none⟩, []⟩,
                    ⟨1, ⟨some 69, (.iaddr 1), [.tmp 68, .const (.int .i64 1)], none⟩, []⟩,
                    ⟨2, ⟨some 70, (.ld false 1), [.tmp 69], none⟩, []⟩,
                    ⟨3, ⟨some 71, .ixs, [.const (.string ⟨#[13, 10]⟩), .const (.int .i64 1)], none⟩, []⟩,
                    ⟨4, ⟨some 72, (.eqg true 6), [.tmp 70, .tmp 71], none⟩, []⟩,
                    ⟨5, ⟨some 67, .mv, [.tmp 72], none⟩, []⟩])
                  (.cond (.tmp 67)
                   (.seq (.run [2, 3, 4] [⟨some 2, .mv, [.const (.int .i64 0)], none⟩,
                      ⟨some 3, .mv, [.const (.int .i64 0)], none⟩,
                      ⟨some 4, .mv, [.const (.int .i64 5)], none⟩])
                    .ret)
                   .skip)))))))))
          (.seq (.run [2, 3, 4] [⟨some 73, .mv, [.tmp 7], none⟩,
             ⟨some 74, .mv, [.tmp 6], none⟩,
             ⟨some 75, (.len 1), [.tmp 74], none⟩,
             ⟨some 76, (.bin .add), [.tmp 75, .const (.int .i64 2)], none⟩,
             ⟨some 2, .mv, [.tmp 73], none⟩,
             ⟨some 3, .mv, [.tmp 76], none⟩,
             ⟨some 4, .mv, [.const (.int .i64 0)], none⟩])
           .ret)))))))))⟩

theorem f49_ok : compF Go.Proofs.Tryd.prog 49 f49.body.hints = some f49 := by kernel_rfl


def f51 : AFun := ⟨8, 2, [.slot 4],
  (.seq (.run [0, 1] [⟨some 4, .mv, [.const (.int .i64 0)], none⟩])
   (.seq (.run [4] [⟨some 5, .mv, [.tmp 0], none⟩,
      ⟨some 6, .mv, [.tmp 1], none⟩,
      ⟨some 7, (.call 56), [.tmp 5, .tmp 6, .const (.bool true)], none⟩,
      ⟨some 4, .mv, [.tmp 7], none⟩])
    .ret))⟩

theorem f51_ok : compF Go.Proofs.Tryd.prog 51 f51.body.hints = some f51 := by kernel_rfl


def f52 : AFun := ⟨6, 1, [.slot 2],
  (.seq (.run [0] [⟨some 2, .mv, [.const (.bool false)], none⟩])
   (.seq (.run [2] [⟨some 3, .mv, [.tmp 0], none⟩,
      ⟨some 4, (.call 53), [.const (.string ⟨#[48, 49, 50, 51, 52, 53, 54, 55, 56, 57, 97, 98, 99, 100, 101, 102]⟩), .tmp 3], none⟩,
      ⟨some 5, (.un .not), [.tmp 4], none⟩,
      ⟨some 2, .mv, [.tmp 5], none⟩])
    .ret))⟩

theorem f52_ok : compF Go.Proofs.Tryd.prog 52 f52.body.hints = some f52 := by kernel_rfl


def f53 : AFun := ⟨9, 2, [.slot 4],
  (.seq (.run [0, 1] [⟨some 4, .mv, [.const (.bool false)], none⟩])
   (.seq (.run [4] [⟨some 5, .mv, [.tmp 0], none⟩,
      ⟨some 6, .mv, [.tmp 1], none⟩,
      ⟨some 7, (.call 57), [.tmp 5, .tmp 6], none⟩,
      ⟨some 8, (.bin .geq), [.tmp 7, .const (.int .i64 0)], none⟩,
      ⟨some 4, .mv, [.tmp 8], none⟩])
    .ret))⟩

theorem f53_ok : compF Go.Proofs.Tryd.prog 53 f53.body.hints = some f53 := by kernel_rfl


def f54 : AFun := ⟨8, 2, [.slot 4],
  (.seq (.run [0, 1] [⟨some 4, .mv, [.const (.int .i64 0)], none⟩])
   (.seq (.run [4] [⟨some 5, .mv, [.tmp 0], none⟩,
      ⟨some 6, .mv, [.tmp 1], none⟩,
      ⟨some 7, (.call 58), [.tmp 5, .tmp 6], none⟩,
      ⟨some 4, .mv, [.tmp 7], none⟩])
    .ret))⟩

theorem f54_ok : compF Go.Proofs.Tryd.prog 54 f54.body.hints = some f54 := by kernel_rfl


def f56 : AFun := ⟨30, 3, [.slot 6],
  (.seq (.run [0, 1, 2] [⟨some 6, .mv, [.const (.int .i64 0)], none⟩])
   (.seq (.run [0, 1, 2, 7] [⟨some 7, .mv, [.const (.int .i64 0)], none⟩])
    (.seq (.block 0 (.loop [0, 1, 2, 7] (.seq (.seq (.run [0, 1, 2, 7, 13] [⟨some 10, .mv, [.tmp 7], none⟩,
           ⟨some 11, .mv, [.tmp 0], none⟩,
           ⟨some 12, (.len 1), [.tmp 11], none⟩,
           ⟨some 13, (.bin .lss), [.tmp 10, .tmp 12], none⟩])
         (.cond (.tmp 13)
          .skip
          (.exit 0)))
        (.block 1 (.seq (.run [0, 1, 2, 7, 8, 9] [⟨some 15, .mv, [.tmp 0], none⟩,
            ⟨some 16, .mv, [.tmp 7], none⟩,
            ⟨some 17, (.slc 1 true false), [.tmp 15, .tmp 16], none⟩,
            ⟨some 18, (.call 63), [.tmp 17], none⟩,
            ⟨some 14, .mv, [.tmp 18], none⟩,
            ⟨some 19, (.ext 0), [.tmp 14], none⟩,
            ⟨some 20, (.ext 1), [.tmp 14], none⟩,
            ⟨some 8, .mv, [.tmp 19], none⟩,
            ⟨some 9, .mv, [.tmp 20], none⟩])
          (.seq (.seq (.run [0, 1, 2, 7, 9, 25] [⟨some 21, .mv, [.tmp 1], none⟩,
              ⟨some 22, .mv, [.tmp 8], none⟩,
              ⟨some 23, .callv, [.tmp 21, .tmp 22], none⟩,
              ⟨some 24, .mv, [.tmp 2], none⟩,
              ⟨some 25, (.eqg false 0), [.tmp 23, .tmp 24], none⟩])
            (.cond (.tmp 25)
             (.seq (.run [6] [⟨some 26, .mv, [.tmp 7], none⟩,
                ⟨some 6, .mv, [.tmp 26], none⟩])
              .ret)
             .skip))
           (.run [0, 1, 2, 7] [⟨some 27, .mv, [.tmp 7], none⟩,
             ⟨some 28, .mv, [.tmp 9], none⟩,
             ⟨some 29, (.bin .add), [.tmp 27, .tmp 28], none⟩,
             ⟨some 7, .mv, [.tmp 29], none⟩])))))))
     (.seq (.run [6] [⟨some 6, .mv, [.const (.int .i64 (-1))], none⟩])
      .ret))))⟩

theorem f56_ok : compF Go.Proofs.Tryd.prog 56 f56.body.hints = some f56 := by kernel_rfl


def f57 : AFun := ⟨187, 2, [.slot 4],
  (.seq (.run [0, 1] [⟨some 4, .mv, [.const (.int .i64 0)], none⟩])
   (.block 0 (.seq (.run [0, 1, 160] [⟨some 161, .mv, [.tmp 1], none⟩,
       ⟨some 162, (.bin .leq), [.const (.int .i32 0), .tmp 161], none⟩,
       ⟨some 163, .mv, [.tmp 162], none⟩,
       ⟨some 164, .mv, [.tmp 1], some (163, true)⟩,
       ⟨some 165, (.bin .lss), [.tmp 164, .const (.int .i32 128)], some (163, true)⟩,
       ⟨some 166, .pick, [.tmp 163, .tmp 165, .const (.bool false)], none⟩,
       ⟨some 160, .mv, [.tmp 166], none⟩])
     (.cond (.tmp 160)
      (.seq (.run [4] [⟨some 167, .mv, [.tmp 0], none⟩,
         ⟨some 168, .mv, [.tmp 1], none⟩,
         ⟨some 169, (.cvi .u8), [.tmp 168], none⟩,
         ⟨some 170, (.call 54), [.tmp 167, .tmp 169], none⟩,
         ⟨some 4, .mv, [.tmp 170], none⟩])
       .ret)
      (.seq (.run [0, 1, 171] [⟨some 172, .mv, [.tmp 1], none⟩,
         ⟨some 173, (.eqg false 6), [.tmp 172, .const (.int .i32 65533)], none⟩,
         ⟨some 171, .mv, [.tmp 173], none⟩])
       (.cond (.tmp 171)
        (.seq (.seq (.run [175] [⟨some 174, .mv, [.tmp 0], none⟩,
            ⟨some 175, .rngs, [.tmp 174], none⟩])
          (.block 9 (.loop [175] (.seq (.run [175, 176, 177] [⟨some 176, .nxts, [.tmp 175], none⟩,
               ⟨some 177, (.ext 0), [.tmp 176], none⟩])
             (.seq (.cond (.tmp 177)
               .skip
               (.exit 9))
              (.block 10 (.seq (.run [5, 6, 175] [⟨some 178, (.ext 1), [.tmp 176], none⟩,
                  ⟨some 179, (.ext 2), [.tmp 176], none⟩,
                  ⟨some 5, .mv, [.tmp 178], none⟩,
                  ⟨some 6, .mv, [.tmp 179], none⟩])
                (.seq (.run [5, 175, 181] [⟨some 180, .mv, [.tmp 6], none⟩,
                   ⟨some 181, (.eqg false 6), [.tmp 180, .const (.int .i32 65533)], none⟩])
                 (.cond (.tmp 181)
                  (.seq (.run [4] [⟨some 182, .mv, [.tmp 5], none⟩,
                     ⟨some 4, .mv, [.tmp 182], none⟩])
                   .ret)
                  .skip)))))))))
         (.seq (.run [4] [⟨some 4, .mv, [.const (.int .i64 (-1))], none⟩])
          .ret))
        (.seq (.run [0, 1, 183] [⟨some 184, .mv, [.tmp 1], none⟩,
           ⟨some 185, (.call 64), [.tmp 184], none⟩,
           ⟨some 186, (.un .not), [.tmp 185], none⟩,
           ⟨some 183, .mv, [.tmp 186], none⟩])
         (.cond (.tmp 183)
          (.seq (.run [4] [⟨some 4, .mv, [.const (.int .i64 (-1))], none⟩])
           .ret)
          (.seq (.run [0, 7] [⟨some 17, .mv, [.tmp 1], none⟩,
             ⟨some 18, .cvc, [.tmp 17], none⟩,
             ⟨some 7, .mv, [.tmp 18], none⟩])
           (.seq (.run [0, 7, 8] [⟨some 19, .mv, [.tmp 7], none⟩,
              ⟨some 20, (.len 0), [.tmp 19], none⟩,
              ⟨some 21, (.bin .sub), [.tmp 20, .const (.int .i64 1)], none⟩,
              ⟨some 8, .mv, [.tmp 21], none⟩])
            (.seq (.run [0, 7, 8, 9] [⟨some 22, .mv, [.tmp 8], none⟩,
               ⟨some 9, .mv, [.tmp 22], none⟩])
             (.seq (.run [0, 7, 8, 9] [⟨some 10, .mv, [.const (.int .i64 0)], none⟩])
              (.seq (.block 1 (.loop [0, 7, 8, 9] (.seq (.seq (.run [0, 7, 8, 9, 26] [⟨some 23, .mv, [.tmp 9], none⟩,
                     ⟨some 24, .mv, [.tmp 0], none⟩,
                     ⟨some 25, (.len 0), [.tmp 24], none⟩,
                     ⟨some 26, (.bin .lss), [.tmp 23, .tmp 25], none⟩])
                   (.cond (.tmp 26)
                    .skip
                    (.exit 1)))
                  (.block 2 (.seq (.seq (.runD [0, 7, 8, 9, 33] [⟨0, ⟨some 27, .mv, [.tmp 0], none⟩, []⟩,
                       ⟨1, ⟨some 28, .mv, [.tmp 9], none⟩, []⟩,
                       ⟨2, ⟨some 29, .ixs, [.tmp 27, .tmp 28], none⟩, []⟩,
                       ⟨3, ⟨some 30, .mv, [.tmp 7], none⟩, []⟩,
                       ⟨4, ⟨some 31, .mv, [.tmp 8], none⟩, []⟩,
                       ⟨5, ⟨some 32, .ixs, [.tmp 30, .tmp 31], none⟩, []⟩,
                       ⟨6, ⟨some 33, (.eqg true 6), [.tmp 29, .tmp 32], none⟩, []⟩])
                     (.cond (.tmp 33)
                      (.seq (.runD [0, 7, 8, 9, 11] [⟨0, ⟨some 34, .mv, [.tmp 0], none⟩, []⟩,
                         ⟨1, ⟨some 35, .mv, [.tmp 9], none⟩, []⟩,
                         ⟨2, ⟨some 36, (.bin .add), [.tmp 35, .const (.int .i64 1)], none⟩, []⟩,
                         ⟨3, ⟨some 37, (.slc 0 true false), [.tmp 34, .tmp 36], none⟩, []⟩,
                         ⟨4, ⟨some 38, .mv, [.tmp 7], none⟩, []⟩,
                         ⟨5, ⟨some 39, .mv, [.tmp 8], none⟩, []⟩,
                         ⟨6, ⟨some 40, .ixs, [.tmp 38, .tmp 39], none⟩, []⟩,
                         ⟨7, ⟨some 41, (.call 54), [.tmp 37, .tmp 40], none⟩, []⟩,
                         ⟨8, ⟨some 11, .mv, [.tmp 41], none⟩, []⟩])
                       (.seq (.seq (.run [0, 7, 8, 9, 11, 43] [⟨some 42, .mv, [.tmp 11], none⟩,
                           ⟨some 43, (.bin .lss), [.tmp 42, .const (.int .i64 0)], none⟩])
                         (.cond (.tmp 43)
                          (.seq (.run [4] [⟨some 4, .mv, [.const (.int .i64 (-1))], none⟩])
                           .ret)
                          .skip))
                        (.run [0, 7, 8, 9] [⟨some 44, .mv, [.tmp 9], none⟩,
                          ⟨some 45, .mv, [.tmp 11], none⟩,
                          ⟨some 46, (.bin .add), [.tmp 45, .const (.int .i64 1)], none⟩,
                          ⟨some 47, (.bin .add), [.tmp 44, .tmp 46], none⟩,
                          ⟨some 9, .mv, [.tmp 47], none⟩])))
                      .skip))
                    (.seq (.seq (.run [0, 7, 8, 9, 12] [⟨some 12, .mv, [.const (.int .i64 1)], none⟩])
                      (.block 3 (.loop [0, 7, 8, 9, 12] (.seq (.seq (.run [0, 7, 8, 9, 12, 51] [⟨some 48, .mv, [.tmp 12], none⟩,
                            ⟨some 49, .mv, [.tmp 7], none⟩,
                            ⟨some 50, (.len 0), [.tmp 49], none⟩,
                            ⟨some 51, (.bin .lss), [.tmp 48, .tmp 50], none⟩])
                          (.cond (.tmp 51)
                           .skip
                           (.exit 3)))
                         (.seq (.block 4 (.seq (.runD [0, 7, 8, 9, 12, 64] [⟨0, ⟨some 54, .mv, [.tmp 0], none⟩, []⟩,
                              ⟨1, ⟨some 55, .mv, [.tmp 9], none⟩, []⟩,
                              ⟨2, ⟨some 56, .mv, [.tmp 12], none⟩, []⟩,
                              ⟨3, ⟨some 57, (.bin .sub), [.tmp 55, .tmp 56], none⟩, []⟩,
                              ⟨4, ⟨some 58, .ixs, [.tmp 54, .tmp 57], none⟩, []⟩,
                              ⟨5, ⟨some 59, .mv, [.tmp 7], none⟩, []⟩,
                              ⟨6, ⟨some 60, .mv, [.tmp 8], none⟩, []⟩,
                              ⟨7, ⟨some 61, .mv, [.tmp 12], none⟩, []⟩,
                              ⟨8, ⟨some 62, (.bin .sub), [.tmp 60, .tmp 61], none⟩, []⟩,
                              ⟨9, ⟨some 63, .ixs, [.tmp 59, .tmp 62], none⟩, []⟩,
                              ⟨10, ⟨some 64, (.eqg true 6), [.tmp 58, .tmp 63], none⟩, []⟩])
                            (.cond (.tmp 64)
                             .stuck
                             .skip)))
                          (.run [0, 7, 8, 9, 12] [⟨some 52, .mv, [.tmp 12], none⟩,
                            ⟨some 53, (.bin .add), [.tmp 52, .const (.int .i64 1)], none⟩,
                            ⟨some 12, .mv, [.tmp 53], none⟩]))))))
                     (.seq (.seq (.run [4] [⟨some 65, .mv, [.tmp 9], none⟩,
                         ⟨some 66, .mv, [.tmp 8], none⟩,
                         ⟨some 67, (.bin .sub), [.tmp 65, .tmp 66], none⟩,
                         ⟨some 4, .mv, [.tmp 67], none⟩])
                       .ret)
                      (.seq .skip
                       (.seq (.run [0, 7, 8, 9, 10] [⟨some 68, .mv, [.tmp 10], none⟩,
                          ⟨some 69, (.bin .add), [.tmp 68, .const (.int .i64 1)], none⟩,
                          ⟨some 10, .mv, [.tmp 69], none⟩])
                        (.seq (.run [0, 7, 8, 9, 10] [⟨some 70, .mv, [.tmp 9], none⟩,
                           ⟨some 71, (.bin .add), [.tmp 70, .const (.int .i64 1)], none⟩,
                           ⟨some 9, .mv, [.tmp 71], none⟩])
                         (.seq (.run [0, 7, 8, 9, 98] [⟨some 72, .mv, [.const (.bool true)], none⟩,
                            ⟨some 73, .mv, [.tmp 10], some (72, true)⟩,
                            ⟨some 74, .mv, [.tmp 9], some (72, true)⟩,
                            ⟨some 75, (.call 65), [.tmp 74], some (72, true)⟩,
                            ⟨some 76, (.bin .gtr), [.tmp 73, .tmp 75], some (72, true)⟩,
                            ⟨some 77, .pick, [.tmp 72, .tmp 76, .const (.bool false)], none⟩,
                            ⟨some 78, .mv, [.tmp 77], none⟩,
                            ⟨some 79, .mv, [.tmp 9], some (78, true)⟩,
                            ⟨some 80, .mv, [.tmp 0], some (78, true)⟩,
                            ⟨some 81, (.len 0), [.tmp 80], some (78, true)⟩,
                            ⟨some 82, (.bin .lss), [.tmp 79, .tmp 81], some (78, true)⟩,
                            ⟨some 83, .pick, [.tmp 78, .tmp 82, .const (.bool false)], none⟩,
                            ⟨some 84, .mv, [.tmp 83], none⟩,
                            ⟨some 85, .mv, [.const (.bool false)], some (84, false)⟩,
                            ⟨some 86, .mv, [.tmp 10], some (85, true)⟩,
                            ⟨some 87, .mv, [.tmp 9], some (85, true)⟩,
                            ⟨some 88, (.bin .shr), [.tmp 87, .const (.int .u64 4)], some (85, true)⟩,
                            ⟨some 89, (.bin .add), [.const (.int .i64 4), .tmp 88], some (85, true)⟩,
                            ⟨some 90, (.bin .geq), [.tmp 86, .tmp 89], some (85, true)⟩,
                            ⟨some 91, .pick, [.tmp 85, .tmp 90, .const (.bool false)], some (84, false)⟩,
                            ⟨some 92, .mv, [.tmp 91], some (84, false)⟩,
                            ⟨some 93, .mv, [.tmp 9], some (92, true)⟩,
                            ⟨some 94, .mv, [.tmp 0], some (92, true)⟩,
                            ⟨some 95, (.len 0), [.tmp 94], some (92, true)⟩,
                            ⟨some 96, (.bin .lss), [.tmp 93, .tmp 95], some (92, true)⟩,
                            ⟨some 97, .pick, [.tmp 92, .tmp 96, .const (.bool false)], some (84, false)⟩,
                            ⟨some 98, .pick, [.tmp 84, .const (.bool true), .tmp 97], none⟩])
                          (.cond (.tmp 98)
                           .stuck
                           .skip))))))))))))
               (.seq (.seq (.run [4] [⟨some 4, .mv, [.const (.int .i64 (-1))], none⟩])
                 .ret)
                (.seq .skip
                 (.seq (.cond (.const (.bool true))
                   (.seq (.run [8, 9, 13] [⟨some 99, .mv, [.tmp 0], none⟩,
                      ⟨some 100, .mv, [.tmp 9], none⟩,
                      ⟨some 101, .mv, [.tmp 8], none⟩,
                      ⟨some 102, (.bin .sub), [.tmp 100, .tmp 101], none⟩,
                      ⟨some 103, (.slc 0 true false), [.tmp 99, .tmp 102], none⟩,
                      ⟨some 104, .mv, [.tmp 1], none⟩,
                      ⟨some 105, .cvc, [.tmp 104], none⟩,
                      ⟨some 106, (.call 66), [.tmp 103, .tmp 105], none⟩,
                      ⟨some 13, .mv, [.tmp 106], none⟩])
                    (.seq (.run [8, 9, 13, 108] [⟨some 107, .mv, [.tmp 13], none⟩,
                       ⟨some 108, (.bin .geq), [.tmp 107, .const (.int .i64 0)], none⟩])
                     (.cond (.tmp 108)
                      (.seq (.run [4] [⟨some 109, .mv, [.tmp 9], none⟩,
                         ⟨some 110, .mv, [.tmp 13], none⟩,
                         ⟨some 111, (.bin .add), [.tmp 109, .tmp 110], none⟩,
                         ⟨some 112, .mv, [.tmp 8], none⟩,
                         ⟨some 113, (.bin .sub), [.tmp 111, .tmp 112], none⟩,
                         ⟨some 4, .mv, [.tmp 113], none⟩])
                       .ret)
                      .skip)))
                   (.seq (.run [0, 7, 8, 9, 14] [⟨some 114, .mv, [.tmp 7], none⟩,
                      ⟨some 115, .mv, [.tmp 8], none⟩,
                      ⟨some 116, .ixs, [.tmp 114, .tmp 115], none⟩,
                      ⟨some 14, .mv, [.tmp 116], none⟩])
                    (.seq (.run [0, 7, 8, 9, 14, 15] [⟨some 117, .mv, [.tmp 7], none⟩,
                       ⟨some 118, .mv, [.tmp 8], none⟩,
                       ⟨some 119, (.bin .sub), [.tmp 118, .const (.int .i64 1)], none⟩,
                       ⟨some 120, .ixs, [.tmp 117, .tmp 119], none⟩,
                       ⟨some 15, .mv, [.tmp 120], none⟩])
                     (.seq .skip
                      (.block 5 (.loop [0, 7, 8, 9, 14, 15] (.seq (.seq (.run [0, 7, 8, 9, 14, 15, 124] [⟨some 121, .mv, [.tmp 9], none⟩,
                            ⟨some 122, .mv, [.tmp 0], none⟩,
                            ⟨some 123, (.len 0), [.tmp 122], none⟩,
                            ⟨some 124, (.bin .lss), [.tmp 121, .tmp 123], none⟩])
                          (.cond (.tmp 124)
                           .skip
                           (.exit 5)))
                         (.seq (.block 6 (.seq (.run [0, 7, 8, 9, 14, 15, 139] [⟨some 127, .mv, [.tmp 0], none⟩,
                              ⟨some 128, .mv, [.tmp 9], none⟩,
                              ⟨some 129, .ixs, [.tmp 127, .tmp 128], none⟩,
                              ⟨some 130, .mv, [.tmp 14], none⟩,
                              ⟨some 131, (.eqg false 6), [.tmp 129, .tmp 130], none⟩,
                              ⟨some 132, .mv, [.tmp 131], none⟩,
                              ⟨some 133, .mv, [.tmp 0], some (132, true)⟩,
                              ⟨some 134, .mv, [.tmp 9], some (132, true)⟩,
                              ⟨some 135, (.bin .sub), [.tmp 134, .const (.int .i64 1)], some (132, true)⟩,
                              ⟨some 136, .ixs, [.tmp 133, .tmp 135], some (132, true)⟩,
                              ⟨some 137, .mv, [.tmp 15], some (132, true)⟩,
                              ⟨some 138, (.eqg false 6), [.tmp 136, .tmp 137], some (132, true)⟩,
                              ⟨some 139, .pick, [.tmp 132, .tmp 138, .const (.bool false)], none⟩])
                            (.cond (.tmp 139)
                             (.seq (.seq (.run [0, 7, 8, 9, 14, 15, 16] [⟨some 16, .mv, [.const (.int .i64 2)], none⟩])
                               (.block 7 (.loop [0, 7, 8, 9, 14, 15, 16] (.seq (.seq (.run [0, 7, 8, 9, 14, 15, 16, 143] [⟨some 140, .mv, [.tmp 16], none⟩,
                                     ⟨some 141, .mv, [.tmp 7], none⟩,
                                     ⟨some 142, (.len 0), [.tmp 141], none⟩,
                                     ⟨some 143, (.bin .lss), [.tmp 140, .tmp 142], none⟩])
                                   (.cond (.tmp 143)
                                    .skip
                                    (.exit 7)))
                                  (.seq (.block 8 (.seq (.runD [0, 7, 8, 9, 14, 15, 16, 156] [⟨0, ⟨some 146, .mv, [.tmp 0], none⟩, []⟩,
                                       ⟨1, ⟨some 147, .mv, [.tmp 9], none⟩, []⟩,
                                       ⟨2, ⟨some 148, .mv, [.tmp 16], none⟩, []⟩,
                                       ⟨3, ⟨some 149, (.bin .sub), [.tmp 147, .tmp 148], none⟩, []⟩,
                                       ⟨4, ⟨some 150, .ixs, [.tmp 146, .tmp 149], none⟩, []⟩,
                                       ⟨5, ⟨some 151, .mv, [.tmp 7], none⟩, []⟩,
                                       ⟨6, ⟨some 152, .mv, [.tmp 8], none⟩, []⟩,
                                       ⟨7, ⟨some 153, .mv, [.tmp 16], none⟩, []⟩,
                                       ⟨8, ⟨some 154, (.bin .sub), [.tmp 152, .tmp 153], none⟩, []⟩,
                                       ⟨9, ⟨some 155, .ixs, [.tmp 151, .tmp 154], none⟩, []⟩,
                                       ⟨10, ⟨some 156, (.eqg true 6), [.tmp 150, .tmp 155], none⟩, []⟩])
                                     (.cond (.tmp 156)
                                      (.exit 6)
                                      .skip)))
                                   (.run [0, 7, 8, 9, 14, 15, 16] [⟨some 144, .mv, [.tmp 16], none⟩,
                                     ⟨some 145, (.bin .add), [.tmp 144, .const (.int .i64 1)], none⟩,
                                     ⟨some 16, .mv, [.tmp 145], none⟩]))))))
                              (.seq (.run [4] [⟨some 157, .mv, [.tmp 9], none⟩,
                                 ⟨some 158, .mv, [.tmp 8], none⟩,
                                 ⟨some 159, (.bin .sub), [.tmp 157, .tmp 158], none⟩,
                                 ⟨some 4, .mv, [.tmp 159], none⟩])
                               .ret))
                             .skip)))
                          (.run [0, 7, 8, 9, 14, 15] [⟨some 125, .mv, [.tmp 9], none⟩,
                            ⟨some 126, (.bin .add), [.tmp 125, .const (.int .i64 1)], none⟩,
                            ⟨some 9, .mv, [.tmp 126], none⟩])))))))))
                  (.seq (.run [4] [⟨some 4, .mv, [.const (.int .i64 (-1))], none⟩])
                   .ret)))))))))))))))))⟩

theorem f57_ok : compF Go.Proofs.Tryd.prog 57 f57.body.hints = some f57 := by kernel_rfl


def f58 : AFun := ⟨8, 2, [.slot 4],
  (.seq (.run [0, 1] [⟨some 4, .mv, [.const (.int .i64 0)], none⟩])
   (.seq (.run [4] [⟨some 5, .mv, [.tmp 0], none⟩,
      ⟨some 6, .mv, [.tmp 1], none⟩,
      ⟨some 7, (.call 67), [.tmp 5, .tmp 6], none⟩,
      ⟨some 4, .mv, [.tmp 7], none⟩])
    .ret))⟩

theorem f58_ok : compF Go.Proofs.Tryd.prog 58 f58.body.hints = some f58 := by kernel_rfl


def f64 : AFun := ⟨17, 1, [.slot 2],
  (.seq (.run [0] [⟨some 2, .mv, [.const (.bool false)], none⟩])
   (.seq (.block 0 (.seq (.run [0, 3] [⟨some 4, .mv, [.tmp 0], none⟩,
        ⟨some 5, (.bin .leq), [.const (.int .i32 0), .tmp 4], none⟩,
        ⟨some 6, .mv, [.tmp 5], none⟩,
        ⟨some 7, .mv, [.tmp 0], some (6, true)⟩,
        ⟨some 8, (.bin .lss), [.tmp 7, .const (.int .i32 55296)], some (6, true)⟩,
        ⟨some 9, .pick, [.tmp 6, .tmp 8, .const (.bool false)], none⟩,
        ⟨some 3, .mv, [.tmp 9], none⟩])
      (.cond (.tmp 3)
       (.seq (.run [2] [⟨some 2, .mv, [.const (.bool true)], none⟩])
        .ret)
       (.seq (.run [10] [⟨some 11, .mv, [.tmp 0], none⟩,
          ⟨some 12, (.bin .lss), [.const (.int .i32 57343), .tmp 11], none⟩,
          ⟨some 13, .mv, [.tmp 12], none⟩,
          ⟨some 14, .mv, [.tmp 0], some (13, true)⟩,
          ⟨some 15, (.bin .leq), [.tmp 14, .const (.int .i32 1114111)], some (13, true)⟩,
          ⟨some 16, .pick, [.tmp 13, .tmp 15, .const (.bool false)], none⟩,
          ⟨some 10, .mv, [.tmp 16], none⟩])
        (.cond (.tmp 10)
         (.seq (.run [2] [⟨some 2, .mv, [.const (.bool true)], none⟩])
          .ret)
         .skip)))))
    (.seq (.run [2] [⟨some 2, .mv, [.const (.bool false)], none⟩])
     .ret)))⟩

theorem f64_ok : compF Go.Proofs.Tryd.prog 64 f64.body.hints = some f64 := by kernel_rfl

end Go.AL.Fun
