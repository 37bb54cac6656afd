/- The table of the framer's functions. Printed by gf12t.py. -/
import Derived.Test.YtcmgeflfapffoaaDoorFH
set_option linter.unusedSimpArgs false
set_option linter.unusedVariables false
namespace Go.AL.Fun
open Go Go.AL Go.Proofs

def OkAt (P : Program) (i : Nat) (F : AFun) : Prop := compF P i F.body.hints = some F
/-- What is wanted of a program. -/
structure FOk (P : Program) : Prop where
  hm : P.follows .mixedOrders = true
  k48 : ∀ xs H K, d48 xs H ⟨K⟩ → ACalls Gh P 48 xs H K
  h75 : OkAt P 75 f75
  h72 : OkAt P 72 f72
  h71 : OkAt P 71 f71
  h62 : OkAt P 62 f62
  h55 : OkAt P 55 f55
  h50 : OkAt P 50 f50
  h47 : OkAt P 47 f47
  h42 : OkAt P 42 f42
  h44 : OkAt P 44 f44
  h39 : OkAt P 39 f39
  h43 : OkAt P 43 f43
  h14 : OkAt P 14 f14
  h36 : OkAt P 36 f36
  h37 : OkAt P 37 f37
  h15 : OkAt P 15 f15
  h19 : OkAt P 19 f19
  h38 : OkAt P 38 f38
  h16 : OkAt P 16 f16
  h20 : OkAt P 20 f20
  h21 : OkAt P 21 f21
  h34 : OkAt P 34 f34
  h17 : OkAt P 17 f17
  h13 : OkAt P 13 f13
  h18 : OkAt P 18 f18
  h22 : OkAt P 22 f22
  h23 : OkAt P 23 f23
  h24 : OkAt P 24 f24
  h25 : OkAt P 25 f25
theorem o75 {P : Program} (h : FOk P) (xs : List AV) (H : Heap) (K : AV → Heap → Prop) (c : c62 xs H ⟨K⟩) : ACalls Gh P 75 xs H K := okC h.hm .nilX h.h75 _ _ _ (c62_of P (K := ⟨K⟩) c)
theorem o72 {P : Program} (h : FOk P) (xs : List AV) (H : Heap) (K : AV → Heap → Prop) (c : c60 xs H ⟨K⟩) : ACalls Gh P 72 xs H K := okF h.hm (.consX (o75 h) .nilX) h.h72 _ _ _ (c60_of P (K := ⟨K⟩) c)
theorem o71 {P : Program} (h : FOk P) (xs : List AV) (H : Heap) (K : AV → Heap → Prop) (c : c59 xs H ⟨K⟩) : ACalls Gh P 71 xs H K := okF h.hm .nilX h.h71 _ _ _ (c59_of P (K := ⟨K⟩) c)
theorem o62 {P : Program} (h : FOk P) (xs : List AV) (H : Heap) (K : AV → Heap → Prop) (c : c54 xs H ⟨K⟩) : ACalls Gh P 62 xs H K := okC h.hm (.consX (o71 h) (.consX (o72 h) .nilX)) h.h62 _ _ _ (c54_of P (K := ⟨K⟩) c)
theorem o55 {P : Program} (h : FOk P) (xs : List AV) (H : Heap) (K : AV → Heap → Prop) (c : c45 xs H ⟨K⟩) : ACalls Gh P 55 xs H K := okF h.hm (.consX (o62 h) .nilX) h.h55 _ _ _ (c45_of P (K := ⟨K⟩) c)
theorem o50 {P : Program} (h : FOk P) (xs : List AV) (H : Heap) (K : AV → Heap → Prop) (c : c41 xs H ⟨K⟩) : ACalls Gh P 50 xs H K := okF h.hm (.consX (o55 h) .nilX) h.h50 _ _ _ (c41_of P (K := ⟨K⟩) c)
theorem o47 {P : Program} (h : FOk P) (xs : List AV) (H : Heap) (K : AV → Heap → Prop) (c : c32 xs H ⟨K⟩) : ACalls Gh P 47 xs H K := okF h.hm (.consX (o50 h) .nilX) h.h47 _ _ _ (c32_of P (K := ⟨K⟩) c)
theorem o42 {P : Program} (h : FOk P) (xs : List AV) (H : Heap) (K : AV → Heap → Prop) (c : c24 xs H ⟨K⟩) : ACalls Gh P 42 xs H K := okC h.hm (.consX (o47 h) .nilX) h.h42 _ _ _ (c24_of P (K := ⟨K⟩) c)
theorem o44 {P : Program} (h : FOk P) (xs : List AV) (H : Heap) (K : AV → Heap → Prop) (c : c33 xs H ⟨K⟩) : ACalls Gh P 44 xs H K := okC h.hm .nilX h.h44 _ _ _ (c33_of P (K := ⟨K⟩) c)
theorem o39 {P : Program} (h : FOk P) (xs : List AV) (H : Heap) (K : AV → Heap → Prop) (c : c25 xs H ⟨K⟩) : ACalls Gh P 39 xs H K := okC h.hm (.consX (o44 h) .nilX) h.h39 _ _ _ (c25_of P (K := ⟨K⟩) c)
theorem o48 {P : Program} (h : FOk P) (xs : List AV) (H : Heap) (K : AV → Heap → Prop) (c : d48 xs H ⟨K⟩) : ACalls Gh P 48 xs H K := h.k48 xs H K c
theorem o43 {P : Program} (h : FOk P) (xs : List AV) (H : Heap) (K : AV → Heap → Prop) (c : d43 xs H ⟨K⟩) : ACalls Gh P 43 xs H K := okW h.hm (.consX (o48 h) .nilX) h.h43 _ _ _ (d43_of P (K := ⟨K⟩) c)
theorem o14 {P : Program} (h : FOk P) (xs : List AV) (H : Heap) (K : AV → Heap → Prop) (c : d14 xs H ⟨K⟩) : ACalls Gh P 14 xs H K := okC h.hm .nilX h.h14 _ _ _ (d14_of P (K := ⟨K⟩) c)
theorem o36 {P : Program} (h : FOk P) (xs : List AV) (H : Heap) (K : AV → Heap → Prop) (c : d36 xs H ⟨K⟩) : ACalls Gh P 36 xs H K := okC h.hm .nilX h.h36 _ _ _ (d36_of P (K := ⟨K⟩) c)
theorem o37 {P : Program} (h : FOk P) (xs : List AV) (H : Heap) (K : AV → Heap → Prop) (c : d37 xs H ⟨K⟩) : ACalls Gh P 37 xs H K := okC h.hm (.consX (o42 h) (.consX (o43 h) .nilX)) h.h37 _ _ _ (d37_of P (K := ⟨K⟩) c)
theorem o15 {P : Program} (h : FOk P) (xs : List AV) (H : Heap) (K : AV → Heap → Prop) (c : d15 xs H ⟨K⟩) : ACalls Gh P 15 xs H K := okC h.hm (.consX (o36 h) (.consX (o37 h) .nilX)) h.h15 _ _ _ (d15_of P (K := ⟨K⟩) c)
theorem o19 {P : Program} (h : FOk P) (xs : List AV) (H : Heap) (K : AV → Heap → Prop) (c : d19 xs H ⟨K⟩) : ACalls Gh P 19 xs H K := okC h.hm (.consX (o36 h) (.consX (o37 h) .nilX)) h.h19 _ _ _ (d19_of P (K := ⟨K⟩) c)
theorem o38 {P : Program} (h : FOk P) (xs : List AV) (H : Heap) (K : AV → Heap → Prop) (c : d38 xs H ⟨K⟩) : ACalls Gh P 38 xs H K := okC h.hm .nilX h.h38 _ _ _ (d38_of P (K := ⟨K⟩) c)
theorem o16 {P : Program} (h : FOk P) (xs : List AV) (H : Heap) (K : AV → Heap → Prop) (c : d16 xs H ⟨K⟩) : ACalls Gh P 16 xs H K := okC h.hm (.consX (o38 h) .nilX) h.h16 _ _ _ (d16_of P (K := ⟨K⟩) c)
theorem o20 {P : Program} (h : FOk P) (xs : List AV) (H : Heap) (K : AV → Heap → Prop) (c : d20 xs H ⟨K⟩) : ACalls Gh P 20 xs H K := okC h.hm .nilX h.h20 _ _ _ (d20_of P (K := ⟨K⟩) c)
theorem o21 {P : Program} (h : FOk P) (xs : List AV) (H : Heap) (K : AV → Heap → Prop) (c : d21 xs H ⟨K⟩) : ACalls Gh P 21 xs H K := okC h.hm .nilX h.h21 _ _ _ (d21_of P (K := ⟨K⟩) c)
theorem o34 {P : Program} (h : FOk P) (xs : List AV) (H : Heap) (K : AV → Heap → Prop) (c : d34 xs H ⟨K⟩) : ACalls Gh P 34 xs H K := okC h.hm (.consX (o16 h) (.consX (o20 h) .nilX)) h.h34 _ _ _ (d34_of P (K := ⟨K⟩) c)
theorem o17 {P : Program} (h : FOk P) (xs : List AV) (H : Heap) (K : AV → Heap → Prop) (c : e17 xs H ⟨K⟩) : ACalls Gh P 17 xs H K := okC h.hm (.consX (o39 h) .nilX) h.h17 _ _ _ (e17_of P (K := ⟨K⟩) c)
theorem o13 {P : Program} (h : FOk P) (xs : List AV) (H : Heap) (K : AV → Heap → Prop) (c : e13 xs H ⟨K⟩) : ACalls Gh P 13 xs H K := okC h.hm (.consX (o17 h) .nilX) h.h13 _ _ _ (e13_of P (K := ⟨K⟩) c)
theorem o18 {P : Program} (h : FOk P) (xs : List AV) (H : Heap) (K : AV → Heap → Prop) (c : e18 xs H ⟨K⟩) : ACalls Gh P 18 xs H K := okC h.hm .nilX h.h18 _ _ _ (e18_of P (K := ⟨K⟩) c)
theorem o22 {P : Program} (h : FOk P) (xs : List AV) (H : Heap) (K : AV → Heap → Prop) (c : e22 xs H ⟨K⟩) : ACalls Gh P 22 xs H K := okF h.hm .nilX h.h22 _ _ _ (e22_of P (K := ⟨K⟩) c)
theorem o23 {P : Program} (h : FOk P) (xs : List AV) (H : Heap) (K : AV → Heap → Prop) (c : e23 xs H ⟨K⟩) : ACalls Gh P 23 xs H K := okC h.hm (.consX (o17 h) .nilX) h.h23 _ _ _ (e23_of P (K := ⟨K⟩) c)
theorem o24 {P : Program} (h : FOk P) (xs : List AV) (H : Heap) (K : AV → Heap → Prop) (c : e24 xs H ⟨K⟩) : ACalls Gh P 24 xs H K := okC h.hm (.consX (o17 h) .nilX) h.h24 _ _ _ (e24_of P (K := ⟨K⟩) c)
theorem o25 {P : Program} (h : FOk P) (xs : List AV) (H : Heap) (K : AV → Heap → Prop) (c : e25 xs H ⟨K⟩) : ACalls Gh P 25 xs H K := okC h.hm .nilX h.h25 _ _ _ (e25_of P (K := ⟨K⟩) c)
/-- With the encoder. -/
structure EOk (P : Program) : Prop extends FOk P where
  k12 : ∀ xs H K, d12 xs H ⟨K⟩ → ACalls Gh P 12 xs H K
  h11 : OkAt P 11 f11
theorem o11 {P : Program} (h : EOk P) (xs : List AV) (H : Heap) (K : AV → Heap → Prop) (c : d11 xs H ⟨K⟩) : ACalls Gh P 11 xs H K := okC h.hm (.consX h.k12 .nilX) h.h11 _ _ _ (d11_of P (K := ⟨K⟩) c)
@[reducible] def tF : XT := [(11, d11), (12, d12), (13, e13), (14, d14), (15, d15), (16, d16), (17, e17), (18, e18), (19, d19), (20, d20), (21, d21), (22, e22), (23, e23), (24, e24), (25, e25)]
theorem tF_ok {P : Program} (h : EOk P) : TOk Gh P (plainT tF) := .consX (o11 h) (.consX h.k12 (.consX (o13 h.toFOk) (.consX (o14 h.toFOk) (.consX (o15 h.toFOk) (.consX (o16 h.toFOk) (.consX (o17 h.toFOk) (.consX (o18 h.toFOk) (.consX (o19 h.toFOk) (.consX (o20 h.toFOk) (.consX (o21 h.toFOk) (.consX (o22 h.toFOk) (.consX (o23 h.toFOk) (.consX (o24 h.toFOk) (.consX (o25 h.toFOk) .nilX))))))))))))))
end Go.AL.Fun
