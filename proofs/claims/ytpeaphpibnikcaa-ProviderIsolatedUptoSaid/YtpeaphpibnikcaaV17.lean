/- The provider: the tables hold. -/
import Derived.Test.YtpeaphpibnikcaaV16
set_option linter.unusedSimpArgs false
set_option linter.unusedVariables false
namespace Go.AL.Fun
open Go Go.AL

def OkAt (P : Program) (i : Nat) (F : AFun) : Prop := compF P i F.body.hints = some F
/-- What is wanted of a program. -/
structure POk (P : Program) : Prop where
  hm : P.follows .mixedOrders = true
  h6 : OkAt P 6 f6
  h7 : OkAt P 7 f7
  h8 : OkAt P 8 f8
  h9 : OkAt P 9 f9
  h10 : OkAt P 10 f10
  h11 : OkAt P 11 f11
  h12 : OkAt P 12 f12
  h13 : OkAt P 13 f13
  h14 : OkAt P 14 f14
  h15 : OkAt P 15 f15
  h16 : OkAt P 16 f16
  h17 : OkAt P 17 f17
  h18 : OkAt P 18 f18
  h19 : OkAt P 19 f19
  h20 : OkAt P 20 f20
  h21 : OkAt P 21 f21
  h22 : OkAt P 22 f22
  h23 : OkAt P 23 f23
  h24 : OkAt P 24 f24
  h25 : OkAt P 25 f25
  h26 : OkAt P 26 f26
  h27 : OkAt P 27 f27
  h28 : OkAt P 28 f28
  h29 : OkAt P 29 f29
  h30 : OkAt P 30 f30
  h31 : OkAt P 31 f31
  h32 : OkAt P 32 f32
  h33 : OkAt P 33 f33
  h34 : OkAt P 34 f34

section
variable {P : Program} (h : POk P)
include h
abbrev NG : Nat → Option (List AV) := fun _ => none
theorem ok27 (xs : List AV) (H : Heap) (K : AV → Heap → Prop) (c : c27 xs H ⟨K⟩) : ACalls NG P 27 xs H K := okF h.hm .nilX h.h27 _ _ _ (c27_of P c)
theorem ok32 (xs : List AV) (H : Heap) (K : AV → Heap → Prop) (c : c32 xs H ⟨K⟩) : ACalls NG P 32 xs H K := okF h.hm .nilX h.h32 _ _ _ (c32_of P c)
theorem ok23 (xs : List AV) (H : Heap) (K : AV → Heap → Prop) (c : c23 xs H ⟨K⟩) : ACalls NG P 23 xs H K := okC h.hm (.consX (ok27 h) (.consX (ok32 h) .nilX)) h.h23 _ _ _ (c23_of P (K := ⟨K⟩) c)
theorem ok16 (xs : List AV) (H : Heap) (K : AV → Heap → Prop) (c : c16 xs H ⟨K⟩) : ACalls NG P 16 xs H K := okC h.hm (.consX (ok27 h) (.consX (ok32 h) .nilX)) h.h16 _ _ _ (c16_of P (K := ⟨K⟩) c)
theorem ok33 (xs : List AV) (H : Heap) (K : AV → Heap → Prop) (c : c33 xs H ⟨K⟩) : ACalls NG P 33 xs H K := okC h.hm .nilX h.h33 _ _ _ (c33_of P (K := ⟨K⟩) c)
theorem ok34 (xs : List AV) (H : Heap) (K : AV → Heap → Prop) (c : c34 xs H ⟨K⟩) : ACalls NG P 34 xs H K := okC h.hm .nilX h.h34 _ _ _ (c34_of P (K := ⟨K⟩) c)
theorem ok29 : ∀ (N : Nat) (xs : List AV) (H : Heap) (K : AV → Heap → Prop), c29 N xs H ⟨K⟩ → ACalls NG P 29 xs H K
  | 0 => fun xs H K c => by
    obtain ⟨k, s, n, b, it, is, ft, fs, d, _, hw, _⟩ := c
    have := Val.wt_pos (.mk k s n b it is ft fs)
    exact absurd hw (by omega)
  | N + 1 => fun xs H K c => by
    have ih := ok29 N
    exact okC h.hm (.consX ih (.consX (ok33 h) (.consX (ok16 h) .nilX))) h.h29 _ _ _ (c29_of P (K := ⟨K⟩) c)
theorem ok31 : ∀ (N : Nat) (xs : List AV) (H : Heap) (K : AV → Heap → Prop), c29 N xs H ⟨K⟩ → ACalls NG P 31 xs H K
  | 0 => fun xs H K c => by
    obtain ⟨k, s, n, b, it, is, ft, fs, d, _, hw, _⟩ := c
    have := Val.wt_pos (.mk k s n b it is ft fs)
    exact absurd hw (by omega)
  | N + 1 => fun xs H K c => by
    have ih := ok31 N
    exact okC h.hm (.consX ih (.consX (ok34 h) (.consX (ok23 h) .nilX))) h.h31 _ _ _ (c31_of P (K := ⟨K⟩) c)
theorem ok28 : ∀ (N : Nat) (xs : List AV) (H : Heap) (K : AV → Heap → Prop), c28 N xs H ⟨K⟩ → ACalls NG P 28 xs H K
  | 0 => fun xs H K c => by
    obtain ⟨k, s, n, b, it, is, ft, fs, d, _, hw, _⟩ := c
    have := Val.wt_pos (.mk k s n b it is ft fs)
    exact absurd hw (by omega)
  | N + 1 => fun xs H K c => by
    have ih := ok28 N
    exact okC h.hm (.consX ih .nilX) h.h28 _ _ _ (c28_of P (K := ⟨K⟩) c)
theorem ok13 : ∀ (N : Nat) (xs : List AV) (H : Heap) (K : AV → Heap → Prop), c13 N xs H ⟨K⟩ → ACalls NG P 13 xs H K
  | 0 => fun xs H K c => by
    obtain ⟨k, s, n, b, it, is, ft, fs, _, hw, _⟩ := c
    have := Val.wt_pos (.mk k s n b it is ft fs)
    exact absurd hw (by omega)
  | N + 1 => fun xs H K c => by
    have ih := ok13 N
    exact okC h.hm (.consX ih .nilX) h.h13 _ _ _ (c13_of P (K := ⟨K⟩) c)
theorem ok18 (xs : List AV) (H : Heap) (K : AV → Heap → Prop) (c : c18 xs H ⟨K⟩) : ACalls NG P 18 xs H K := okC h.hm (.consX (ok28 h 1099511627776) .nilX) h.h18 _ _ _ (c18_of P (K := ⟨K⟩) c)
theorem ok8 (xs : List AV) (H : Heap) (K : AV → Heap → Prop) (c : c8 xs H ⟨K⟩) : ACalls NG P 8 xs H K := okF h.hm (.consX (ok18 h) .nilX) h.h8 _ _ _ (c8_of P c)
theorem ok19 (xs : List AV) (H : Heap) (K : AV → Heap → Prop) (c : c19 xs H ⟨K⟩) : ACalls NG P 19 xs H K := okC h.hm (.consX (ok29 h 1099511627776) (.consX (ok33 h) (.consX (ok16 h) .nilX))) h.h19 _ _ _ (c19_of P (K := ⟨K⟩) c)
theorem ok22 (xs : List AV) (H : Heap) (K : AV → Heap → Prop) (c : c22 xs H ⟨K⟩) : ACalls NG P 22 xs H K := okC h.hm (.consX (ok31 h 1099511627776) (.consX (ok34 h) (.consX (ok23 h) .nilX))) h.h22 _ _ _ (c22_of P (K := ⟨K⟩) c)
theorem ok21 (xs : List AV) (H : Heap) (K : AV → Heap → Prop) (c : c21 xs H ⟨K⟩) : ACalls NG P 21 xs H K := okF h.hm (.consX (ok16 h) .nilX) h.h21 _ _ _ (c21_of P c)
theorem ok30 (xs : List AV) (H : Heap) (K : AV → Heap → Prop) (c : c30 xs H ⟨K⟩) : ACalls NG P 30 xs H K := okC h.hm (.consX (ok21 h) .nilX) h.h30 _ _ _ (c30_of P (K := ⟨K⟩) c)
theorem ok20 (xs : List AV) (H : Heap) (K : AV → Heap → Prop) (c : c20 xs H ⟨K⟩) : ACalls NG P 20 xs H K := okF h.hm (.consX (ok30 h) .nilX) h.h20 _ _ _ (c20_of P c)
theorem ok24 (xs : List AV) (H : Heap) (K : AV → Heap → Prop) (c : c24 xs H ⟨K⟩) : ACalls NG P 24 xs H K := okC h.hm .nilX h.h24 _ _ _ (c24_of P (K := ⟨K⟩) c)
theorem ok26 (xs : List AV) (H : Heap) (K : AV → Heap → Prop) (c : c26 xs H ⟨K⟩) : ACalls NG P 26 xs H K := okC h.hm .nilX h.h26 _ _ _ (c26_of P (K := ⟨K⟩) c)
theorem ok15 (xs : List AV) (H : Heap) (K : AV → Heap → Prop) (c : c15 xs H ⟨K⟩) : ACalls NG P 15 xs H K := okF h.hm (.consX (ok26 h) .nilX) h.h15 _ _ _ (c15_of P c)
theorem ok14 (xs : List AV) (H : Heap) (K : AV → Heap → Prop) (c : c14 xs H ⟨K⟩) : ACalls NG P 14 xs H K := okC h.hm .nilX h.h14 _ _ _ (c14_of P (K := ⟨K⟩) c)
theorem ok25 (xs : List AV) (H : Heap) (K : AV → Heap → Prop) (c : c25 xs H ⟨K⟩) : ACalls NG P 25 xs H K := okC h.hm .nilX h.h25 _ _ _ (c25_of P (K := ⟨K⟩) c)
theorem ok17 (xs : List AV) (H : Heap) (K : AV → Heap → Prop) (c : c17 xs H ⟨K⟩) : ACalls NG P 17 xs H K := okC h.hm .nilX h.h17 _ _ _ (c17_of P (K := ⟨K⟩) c)
theorem ok7 (xs : List AV) (H : Heap) (K : AV → Heap → Prop) (c : c7 xs H ⟨K⟩) : ACalls NG P 7 xs H K := okF h.hm (.consX (ok17 h) .nilX) h.h7 _ _ _ (c7_of P c)
theorem ok6 (xs : List AV) (H : Heap) (K : AV → Heap → Prop) (c : c6 xs H ⟨K⟩) : ACalls NG P 6 xs H K := okC h.hm (.consX (ok16 h) .nilX) h.h6 _ _ _ (c6_of P (K := ⟨K⟩) c)
theorem ok12 (xs : List AV) (H : Heap) (K : AV → Heap → Prop) (c : c12 xs H ⟨K⟩) : ACalls NG P 12 xs H K := okC h.hm (.consX (ok23 h) (.consX (ok24 h) (.consX (ok25 h) .nilX))) h.h12 _ _ _ (c12_of P (K := ⟨K⟩) c)
theorem ok11 (xs : List AV) (H : Heap) (K : AV → Heap → Prop) (c : c11 xs H ⟨K⟩) : ACalls NG P 11 xs H K := okC h.hm (.consX (ok22 h) (.consX (ok23 h) .nilX)) h.h11 _ _ _ (c11_of P (K := ⟨K⟩) c)
theorem ok10 (xs : List AV) (H : Heap) (K : AV → Heap → Prop) (c : c10 xs H ⟨K⟩) : ACalls NG P 10 xs H K := okC h.hm (.consX (ok19 h) (.consX (ok20 h) .nilX)) h.h10 _ _ _ (c10_of P (K := ⟨K⟩) c)
theorem oko6 (xs : List AV) (H : Heap) (K : AV → Heap → Prop) (c : o6 xs H ⟨K⟩) : ACalls NG P 6 xs H K := by
  rcases c with c | c
  · obtain ⟨H', hl, c⟩ := s6_c c
    exact (ok6 h xs H' K c).perm hl
  · exact okC h.hm .nilX h.h6 _ _ _ (n6_of P (K := ⟨K⟩) c)
theorem oko7 (xs : List AV) (H : Heap) (K : AV → Heap → Prop) (c : o7 xs H ⟨K⟩) : ACalls NG P 7 xs H K := by
  rcases c with c | c
  · obtain ⟨H', hl, c⟩ := c
    exact (ok7 h xs H' K c).perm hl
  · exact okF h.hm .nilX h.h7 _ _ _ (n7_of P c)
theorem oks12 (xs : List AV) (H : Heap) (K : AV → Heap → Prop) (c : s12 xs H ⟨K⟩) : ACalls NG P 12 xs H K := by
  obtain ⟨H', hl, c⟩ := c
  exact (ok12 h xs H' K c).perm hl
theorem ok9 (xs : List AV) (H : Heap) (K : AV → Heap → Prop) (c : c9 xs H ⟨K⟩) : ACalls NG P 9 xs H K := okC h.hm (.consX (ok10 h) (.consX (oko6 h) (.consX (oko7 h) (.consX (ok14 h) .nilX)))) h.h9 _ _ _ (c9_of P (K := ⟨K⟩) c)
theorem tL_ok : TOk NG P (plainT (tL P).T) := .consX (oko6 h) (.consX (oko7 h) (.consX (ok8 h) (.consX (ok9 h) (.consX (ok10 h) (.consX (ok11 h) (.consX (oks12 h) (.consX (ok13 h 1099511627776) (.consX (ok14 h) .nilX))))))))
end
end Go.AL.Fun
