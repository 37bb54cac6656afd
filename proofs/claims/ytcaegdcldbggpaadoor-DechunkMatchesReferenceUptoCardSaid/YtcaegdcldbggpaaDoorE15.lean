/- The tables of the decoder's laws hold. -/
import Derived.Test.YtcaegdcldbggpaaDoorE14
set_option linter.unusedSimpArgs false
set_option linter.unusedVariables false
namespace Go.AL.Fun
open Go Go.AL

/-- What is wanted of a program, for the decoder. -/
structure FOk (P : Program) : Prop extends EOk P where
  h11 : OkAt P 11 f11
  h12 : OkAt P 12 f12
  h14 : OkAt P 14 f14
  h15 : OkAt P 15 f15
  h16 : OkAt P 16 f16
  h17 : OkAt P 17 f17
  h18 : OkAt P 18 f18
  h19 : OkAt P 19 f19
  h20 : OkAt P 20 f20
  h23 : OkAt P 23 f23
  h29 : OkAt P 29 f29
  h30 : OkAt P 30 f30
  h31 : OkAt P 31 f31
  h39 : OkAt P 39 f39
  h40 : OkAt P 40 f40
section
variable {P : Program} (h : FOk P)
include h
theorem ok40 {G : Nat → Option (List AV)} (xs : List AV) (H : Heap) (K : AV → Heap → Prop) (c : c40 xs H ⟨K⟩) : ACalls G P 40 xs H K := okC h.hm .nilX h.h40 _ _ _ (c40_of P (K := ⟨K⟩) c)
theorem ok39 (xs : List AV) (H : Heap) (K : AV → Heap → Prop) (c : c39 xs H ⟨K⟩) : ACalls Gu P 39 xs H K := okC h.hm (.consX (ok27u h.toEOk) .nilX) h.h39 _ _ _ (c39_of P (K := ⟨K⟩) c)
theorem ok29 (xs : List AV) (H : Heap) (K : AV → Heap → Prop) (c : c29 xs H ⟨K⟩) : ACalls Gu P 29 xs H K := okC h.hm (.consX (ok39 h) (.consX (ok40 h) .nilX)) h.h29 _ _ _ (c29_of P (K := ⟨K⟩) c)
theorem ok14 (xs : List AV) (H : Heap) (K : AV → Heap → Prop) (c : c14 xs H ⟨K⟩) : ACalls Gu P 14 xs H K := okC h.hm (.consX (ok29 h) .nilX) h.h14 _ _ _ (c14_of P (K := ⟨K⟩) c)
theorem ok30 {G : Nat → Option (List AV)} (xs : List AV) (H : Heap) (K : AV → Heap → Prop) (c : c30 xs H ⟨K⟩) : ACalls G P 30 xs H K := okC h.hm .nilX h.h30 _ _ _ (c30_of P (K := ⟨K⟩) c)
theorem ok31 {G : Nat → Option (List AV)} (xs : List AV) (H : Heap) (K : AV → Heap → Prop) (c : c31 xs H ⟨K⟩) : ACalls G P 31 xs H K := okC h.hm .nilX h.h31 _ _ _ (c31_of P (K := ⟨K⟩) c)
theorem ok15 {G : Nat → Option (List AV)} (xs : List AV) (H : Heap) (K : AV → Heap → Prop) (c : c15 xs H ⟨K⟩) : ACalls G P 15 xs H K := okC h.hm (.consX (ok30 h) .nilX) h.h15 _ _ _ (c15_of P (K := ⟨K⟩) c)
theorem ok16 {G : Nat → Option (List AV)} (xs : List AV) (H : Heap) (K : AV → Heap → Prop) (c : c16 xs H ⟨K⟩) : ACalls G P 16 xs H K := okC h.hm (.consX (ok31 h) .nilX) h.h16 _ _ _ (c16_of P (K := ⟨K⟩) c)
theorem ok17 {G : Nat → Option (List AV)} (xs : List AV) (H : Heap) (K : AV → Heap → Prop) (c : c17 xs H ⟨K⟩) : ACalls G P 17 xs H K := okC h.hm .nilX h.h17 _ _ _ (c17_of P (K := ⟨K⟩) c)
theorem ok18 {G : Nat → Option (List AV)} (xs : List AV) (H : Heap) (K : AV → Heap → Prop) (c : c18 xs H ⟨K⟩) : ACalls G P 18 xs H K := okC h.hm .nilX h.h18 _ _ _ (c18_of P (K := ⟨K⟩) c)
theorem ok19 {G : Nat → Option (List AV)} (xs : List AV) (H : Heap) (K : AV → Heap → Prop) (c : c19 xs H ⟨K⟩) : ACalls G P 19 xs H K := okC h.hm .nilX h.h19 _ _ _ (c19_of P (K := ⟨K⟩) c)
theorem ok20 {G : Nat → Option (List AV)} (xs : List AV) (H : Heap) (K : AV → Heap → Prop) (c : c20 xs H ⟨K⟩) : ACalls G P 20 xs H K := okC h.hm .nilX h.h20 _ _ _ (c20_of P (K := ⟨K⟩) c)
theorem ok23 {G : Nat → Option (List AV)} (xs : List AV) (H : Heap) (K : AV → Heap → Prop) (c : c23 xs H ⟨K⟩) : ACalls G P 23 xs H K := okC h.hm .nilX h.h23 _ _ _ (c23_of P (K := ⟨K⟩) c)
theorem ok12 (xs : List AV) (H : Heap) (K : AV → Heap → Prop) (c : c12 xs H ⟨K⟩) : ACalls Gu P 12 xs H K := okC h.hm (.consX (ok14 h) (.consX (ok18 h) (.consX (ok20 h) .nilX))) h.h12 _ _ _ (c12_of P (K := ⟨K⟩) c)
theorem ok11 (xs : List AV) (H : Heap) (K : AV → Heap → Prop) (c : c11 xs H ⟨K⟩) : ACalls Gu P 11 xs H K := okC h.hm (.consX (ok12 h) .nilX) h.h11 _ _ _ (c11_of P (K := ⟨K⟩) c)
theorem tF_ok : TOk Gu P (plainT tF) := .consX (ok11 h) (.consX (ok12 h) (.consX (ok14 h) (.consX (ok15 h) (.consX (ok16 h) (.consX (ok17 h) (.consX (ok18 h) (.consX (ok19 h) (.consX (ok20 h) (.consX (ok23 h) .nilX)))))))))
end
end Go.AL.Fun
