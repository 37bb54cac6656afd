/- The tables of the laws hold. -/
import Derived.Test.YtpeaphpibnikcaaDoorT16
set_option linter.unusedSimpArgs false
set_option linter.unusedVariables false
namespace Go.AL.Fun
open Go Go.AL Go.Proofs

abbrev NG : Nat → Option (List AV) := fun _ => none
def OkAt (P : Program) (i : Nat) (F : AFun) : Prop := compF P i F.body.hints = some F
/-- What is wanted of a program. -/
structure DOk (P : Program) : Prop where
  hm : P.follows .mixedOrders = true
  k53 : ∀ xs H K, c53 xs H ⟨K⟩ → ACalls NG P 53 xs H K
  k54 : ∀ xs H K, c54 xs H ⟨K⟩ → ACalls NG P 54 xs H K
  h9 : OkAt P 9 f9
  h10 : OkAt P 10 f10
  h11 : OkAt P 11 f11
  h12 : OkAt P 12 f12
  h13 : OkAt P 13 f13
  h14 : OkAt P 14 f14
  h15 : OkAt P 15 f15
  h16 : OkAt P 16 f16
  h17 : OkAt P 17 f17
  h18 : OkAt P 18 f18
  h27 : OkAt P 27 f27
  h28 : OkAt P 28 f28
  h29 : OkAt P 29 f29
  h30 : OkAt P 30 f30
  h31 : OkAt P 31 f31
  h32 : OkAt P 32 f32
  h33 : OkAt P 33 f33
  h34 : OkAt P 34 f34
  h35 : OkAt P 35 f35
  h36 : OkAt P 36 f36
  h45 : OkAt P 45 f45
  h46 : OkAt P 46 f46

section
variable {P : Program} (h : DOk P)
include h
theorem ok35 (xs : List AV) (H : Heap) (K : AV → Heap → Prop) (c : c35 xs H ⟨K⟩) : ACalls NG P 35 xs H K := okF h.hm .nilX h.h35 _ _ _ (c35_of P (K := ⟨K⟩) c)
theorem ok36 (xs : List AV) (H : Heap) (K : AV → Heap → Prop) (c : c36 xs H ⟨K⟩) : ACalls NG P 36 xs H K := okF h.hm .nilX h.h36 _ _ _ (c36_of P (K := ⟨K⟩) c)
theorem ok16 (xs : List AV) (H : Heap) (K : AV → Heap → Prop) (c : c16 xs H ⟨K⟩) : ACalls NG P 16 xs H K := okC h.hm (.consX (ok35 h) (.consX (ok36 h) .nilX)) h.h16 _ _ _ (c16_of P (K := ⟨K⟩) c)
theorem ok17 (xs : List AV) (H : Heap) (K : AV → Heap → Prop) (c : c17 xs H ⟨K⟩) : ACalls NG P 17 xs H K := okC h.hm (.consX (ok35 h) (.consX (ok36 h) .nilX)) h.h17 _ _ _ (c17_of P (K := ⟨K⟩) c)
theorem ok27 : ∀ (N : Nat) (xs : List AV) (H : Heap) (K : AV → Heap → Prop), c27 N xs H ⟨K⟩ → ACalls NG P 27 xs H K
  | 0 => fun xs H K c => by
    obtain ⟨k, s, n, b, it, is, ft, fs, c⟩ := c
    have := Val.wt_pos (.mk k s n b it is ft fs)
    have hw : (Val.mk k s n b it is ft fs).wt ≤ 0 := by first | exact c.2.1 | (obtain ⟨d, _, hw, _⟩ := c; exact hw)
    exact absurd hw (by omega)
  | N + 1 => fun xs H K c => by
    have ih := ok27 N
    exact okC h.hm (.consX ih .nilX) h.h27 _ _ _ (c27_of P (K := ⟨K⟩) c)
theorem ok13 : ∀ (N : Nat) (xs : List AV) (H : Heap) (K : AV → Heap → Prop), c13 N xs H ⟨K⟩ → ACalls NG P 13 xs H K
  | 0 => fun xs H K c => by
    obtain ⟨k, s, n, b, it, is, ft, fs, c⟩ := c
    have := Val.wt_pos (.mk k s n b it is ft fs)
    have hw : (Val.mk k s n b it is ft fs).wt ≤ 0 := by first | exact c.2.1 | (obtain ⟨d, _, hw, _⟩ := c; exact hw)
    exact absurd hw (by omega)
  | N + 1 => fun xs H K c => by
    have ih := ok13 N
    exact okC h.hm (.consX ih .nilX) h.h13 _ _ _ (c13_of P (K := ⟨K⟩) c)
theorem ok9 (xs : List AV) (H : Heap) (K : AV → Heap → Prop) (c : c9 xs H ⟨K⟩) : ACalls NG P 9 xs H K := okC h.hm (.consX (ok27 h 1099511627776) .nilX) h.h9 _ _ _ (c9_of P (K := ⟨K⟩) c)
theorem ok34 (xs : List AV) (H : Heap) (K : AV → Heap → Prop) (c : c34 xs H ⟨K⟩) : ACalls NG P 34 xs H K := okF h.hm (.consX (ok16 h) .nilX) h.h34 _ _ _ (c34_of P (K := ⟨K⟩) c)
theorem ok46 (xs : List AV) (H : Heap) (K : AV → Heap → Prop) (c : c46 xs H ⟨K⟩) : ACalls NG P 46 xs H K := okC h.hm (.consX (ok34 h) .nilX) h.h46 _ _ _ (c46_of P (K := ⟨K⟩) c)
theorem ok33 (xs : List AV) (H : Heap) (K : AV → Heap → Prop) (c : c33 xs H ⟨K⟩) : ACalls NG P 33 xs H K := okF h.hm (.consX (ok46 h) .nilX) h.h33 _ _ _ (c33_of P (K := ⟨K⟩) c)
theorem ok18 (xs : List AV) (H : Heap) (K : AV → Heap → Prop) (c : c18 xs H ⟨K⟩) : ACalls NG P 18 xs H K := okC h.hm .nilX h.h18 _ _ _ (c18_of P (K := ⟨K⟩) c)
theorem ok45 (xs : List AV) (H : Heap) (K : AV → Heap → Prop) (c : c45 xs H ⟨K⟩) : ACalls NG P 45 xs H K := okZ h.hm (.consX h.k53 (.consX h.k54 .nilX)) h.h45 _ _ _ (c45_of P (K := ⟨K⟩) c)
theorem ok32 (xs : List AV) (H : Heap) (K : AV → Heap → Prop) (c : c32 xs H ⟨K⟩) : ACalls NG P 32 xs H K := okF h.hm (.consX (ok45 h) .nilX) h.h32 _ _ _ (c32_of P (K := ⟨K⟩) c)
theorem ok14 (xs : List AV) (H : Heap) (K : AV → Heap → Prop) (c : c14 xs H ⟨K⟩) : ACalls NG P 14 xs H K := okF h.hm (.consX (ok32 h) (.consX (ok33 h) .nilX)) h.h14 _ _ _ (c14_of P (K := ⟨K⟩) c)
theorem ok15 (xs : List AV) (H : Heap) (K : AV → Heap → Prop) (c : c15 xs H ⟨K⟩) : ACalls NG P 15 xs H K := okC h.hm (.consX (ok17 h) .nilX) h.h15 _ _ _ (c15_of P (K := ⟨K⟩) c)
theorem ok30 (xs : List AV) (H : Heap) (K : AV → Heap → Prop) (c : c30 xs H ⟨K⟩) : ACalls NG P 30 xs H K := okC h.hm .nilX h.h30 _ _ _ (c30_of P (K := ⟨K⟩) c)
theorem ok29 (xs : List AV) (H : Heap) (K : AV → Heap → Prop) (c : c29 xs H ⟨K⟩) : ACalls NG P 29 xs H K := okC h.hm (.consX (ok30 h) .nilX) h.h29 _ _ _ (c29_of P (K := ⟨K⟩) c)
theorem ok31g (xs : List AV) (H : Heap) (K : AV → Heap → Prop) (c : c31g xs H ⟨K⟩) : ACalls NG P 31 xs H K := okC h.hm .nilX h.h31 _ _ _ (c31g_of P (K := ⟨K⟩) c)
theorem ok11 (xs : List AV) (H : Heap) (K : AV → Heap → Prop) (c : c11 xs H ⟨K⟩) : ACalls NG P 11 xs H K := okC h.hm (.consX (ok14 h) (.consX (ok29 h) .nilX)) h.h11 _ _ _ (c11_of P (K := ⟨K⟩) c)
theorem ok12 (xs : List AV) (H : Heap) (K : AV → Heap → Prop) (c : c12 xs H ⟨K⟩) : ACalls NG P 12 xs H K := okC h.hm (.consX (ok15 h) (.consX (ok31g h) .nilX)) h.h12 _ _ _ (c12_of P (K := ⟨K⟩) c)
theorem ok28 (xs : List AV) (H : Heap) (K : AV → Heap → Prop) (c : c28 xs H ⟨K⟩) : ACalls NG P 28 xs H K := okC h.hm .nilX h.h28 _ _ _ (c28_of P (K := ⟨K⟩) c)
theorem ok10 (xs : List AV) (H : Heap) (K : AV → Heap → Prop) (c : c10 xs H ⟨K⟩) : ACalls NG P 10 xs H K := okC h.hm (.consX (ok28 h) (.consX (ok11 h) .nilX)) h.h10 _ _ _ (c10_of P (K := ⟨K⟩) c)
theorem tD_ok : TOk NG P (plainT tD) := .consX (ok9 h) (.consX (ok10 h) (.consX (ok11 h) (.consX (ok12 h) (.consX (ok13 h 1099511627776) (.consX (ok14 h) (.consX (ok15 h) (.consX (ok16 h) (.consX (ok17 h) (.consX (ok18 h) .nilX)))))))))
end
end Go.AL.Fun
