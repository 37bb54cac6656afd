/- Definitions of a template: the tables hold. -/
import Derived.Test.YthphaolkihageaaMJ
set_option linter.unusedSimpArgs false
set_option linter.unusedVariables false
namespace Go.AL.Fun
open Go Go.AL
def OkAt (P : Program) (i : Nat) (F : AFun) : Prop := compF P i F.body.hints = some F
/-- What is wanted of a program. -/
structure MOk (P : Program) : Prop where
  hm : P.follows .mixedOrders = true
  lp : LOkP P
  h6 : OkAt P 6 f6
  h7 : OkAt P 7 f7
  h8 : OkAt P 8 f8
  h9 : OkAt P 9 f9
  h10 : OkAt P 10 f10
  h11 : OkAt P 11 f11
  h12 : OkAt P 12 f12
  h13 : OkAt P 13 f13
  h14 : OkAt P 14 f14
  h16 : OkAt P 16 f16
  h17 : OkAt P 17 f17
  h18 : OkAt P 18 f18
  h19 : OkAt P 19 f19
  h20 : OkAt P 20 f20
  h21 : OkAt P 21 f21
  h23 : OkAt P 23 f23
  h24 : OkAt P 24 f24
  h27 : OkAt P 27 f27
  h28 : OkAt P 28 f28
  h29 : OkAt P 29 f29
  s22 : ∀ xs H K, c22 xs H ⟨K⟩ → ACalls (fun _ => none) P 22 xs H K
section
variable {P : Program} (h : MOk P)
include h
theorem ok17 (xs : List AV) (H : Heap) (K : AV → Heap → Prop) (c : c17 xs H ⟨K⟩) : ACalls NGl P 17 xs H K := okC h.hm .nilX h.h17 _ _ _ (c17_of P (K := ⟨K⟩) c)
theorem ok29 (xs : List AV) (H : Heap) (K : AV → Heap → Prop) (c : c29 xs H ⟨K⟩) : ACalls NGl P 29 xs H K := okC h.hm .nilX h.h29 _ _ _ (c29_of P (K := ⟨K⟩) c)
theorem ok16 (xs : List AV) (H : Heap) (K : AV → Heap → Prop) (c : c16 xs H ⟨K⟩) : ACalls NGl P 16 xs H K := okC h.hm (.consX (ok17 h) (.consX (ok29 h) .nilX)) h.h16 _ _ _ (c16_of P (K := ⟨K⟩) c)
theorem okq16 (xs : List AV) (H : Heap) (K : AV → Heap → Prop) (c : q16 xs H ⟨K⟩) : ACalls NGl P 16 xs H K := by
  rcases c with c | c
  · exact ok16 h xs H K c
  · exact m16_ok (ok16 h) xs H K c
theorem ok6 (xs : List AV) (H : Heap) (K : AV → Heap → Prop) (c : c6 xs H ⟨K⟩) : ACalls NGl P 6 xs H K := okC h.hm (.consX (ok16 h) .nilX) h.h6 _ _ _ (c6_of P (K := ⟨K⟩) c)
theorem ok7 (xs : List AV) (H : Heap) (K : AV → Heap → Prop) (c : c7 xs H ⟨K⟩) : ACalls NGl P 7 xs H K := okC h.hm .nilX h.h7 _ _ _ (c7_of P (K := ⟨K⟩) c)
theorem ok23 (xs : List AV) (H : Heap) (K : AV → Heap → Prop) (c : c23 xs H ⟨K⟩) : ACalls NGl P 23 xs H K := okC h.hm .nilX h.h23 _ _ _ (c23_of P (K := ⟨K⟩) c)
theorem ok12 (xs : List AV) (H : Heap) (K : AV → Heap → Prop) (c : c12 xs H ⟨K⟩) : ACalls NGl P 12 xs H K := okF h.hm (.consX (ok23 h) .nilX) h.h12 _ _ _ (c12_of P c)
theorem okq12 (xs : List AV) (H : Heap) (K : AV → Heap → Prop) (c : q12 xs H ⟨K⟩) : ACalls NGl P 12 xs H K := by
  rcases c with c | c
  · exact ok12 h xs H K c
  · exact m12_ok (ok12 h) xs H K c
theorem ok18 (xs : List AV) (H : Heap) (K : AV → Heap → Prop) (c : c18 xs H ⟨K⟩) : ACalls NGl P 18 xs H K := okC h.hm .nilX h.h18 _ _ _ (c18_of P (K := ⟨K⟩) c)
theorem ok10 (xs : List AV) (H : Heap) (K : AV → Heap → Prop) (c : c10 xs H ⟨K⟩) : ACalls NGl P 10 xs H K := okW h.hm .nilX h.h10 _ _ _ (c10_of P (K := ⟨K⟩) c)
theorem ok14 : ∀ (N : Nat) (xs : List AV) (H : Heap) (K : AV → Heap → Prop), c14 N xs H ⟨K⟩ → ACalls NGl P 14 xs H K
  | 0 => fun xs H K c => by obtain ⟨l, t, _, _, hN, _⟩ := c; omega
  | N + 1 => fun xs H K c => by
    have ih := ok14 N
    exact okW h.hm (.consX ih .nilX) h.h14 _ _ _ (c14_of P (K := ⟨K⟩) c)
theorem ok9 : ∀ (N : Nat) (xs : List AV) (H : Heap) (K : AV → Heap → Prop), c9 N xs H ⟨K⟩ → ACalls NGl P 9 xs H K
  | 0 => fun xs H K c => by obtain ⟨l, t, u, o, _, hN, _⟩ := c; omega
  | N + 1 => fun xs H K c => by
    have ih := ok9 N
    exact okC h.hm (.consX ih .nilX) h.h9 _ _ _ (c9_of P (K := ⟨K⟩) c)
theorem ok28 (xs : List AV) (H : Heap) (K : AV → Heap → Prop) (c : c28 xs H ⟨K⟩) : ACalls NGl P 28 xs H K := okC h.hm .nilX h.h28 _ _ _ (c28_of P (K := ⟨K⟩) c)
theorem ok27 (xs : List AV) (H : Heap) (K : AV → Heap → Prop) (c : c27 xs H ⟨K⟩) : ACalls NGl P 27 xs H K := okC h.hm (.consX (okq16 h) (.consX (ok29 h) .nilX)) h.h27 _ _ _ (c27_of P (K := ⟨K⟩) c)
theorem ok19 (xs : List AV) (H : Heap) (K : AV → Heap → Prop) (c : c19 xs H ⟨K⟩) : ACalls NGl P 19 xs H K := (okF h.hm (.consX (ok27 h) (.consX (ok28 h) .nilX)) h.h19 _ _ _ (c19_of P (K := ⟨K⟩) c)).shut
theorem ok24 (xs : List AV) (H : Heap) (K : AV → Heap → Prop) (c : c24 xs H ⟨K⟩) : ACalls NGl P 24 xs H K := okC h.hm .nilX h.h24 _ _ _ (c24_of P (K := ⟨K⟩) c)
theorem okd21 : ∀ (N : Nat) (xs : List AV) (H : Heap) (K : AV → Heap → Prop), d21 N xs H ⟨K⟩ → ACalls NGl P 21 xs H K
  | 0 => fun xs H K c => by obtain ⟨l, t, mb, ab, eb, id, ns, _, hN, _⟩ := c; omega
  | N + 1 => fun xs H K c => by
    have ih := okd21 N
    exact okC h.hm (.consX (ok24 h) (.consX ih .nilX)) h.h21 _ _ _ (d21_of P (K := ⟨K⟩) c)
theorem ok13 (xs : List AV) (H : Heap) (K : AV → Heap → Prop) (c : c13 xs H ⟨K⟩) : ACalls NGl P 13 xs H K := okC h.hm (.consX (okd21 h 1000001) .nilX) h.h13 _ _ _ (c13_of P (K := ⟨K⟩) c)
theorem oke21 {F : Nat} (h20 : ∀ xs H K, c20 F xs H ⟨K⟩ → ACalls NGl P 20 xs H K) : ∀ (N : Nat) (xs : List AV) (H : Heap) (K : AV → Heap → Prop), e21 F N xs H ⟨K⟩ → ACalls NGl P 21 xs H K
  | 0 => fun xs H K c => by obtain ⟨b, tb, lb, nb, vb, l, tl, ns, id, R, _, _, hN, _⟩ := c; omega
  | N + 1 => fun xs H K c => by
    have ih := oke21 h20 N
    exact okC h.hm (.consX h20 (.consX ih .nilX)) h.h21 _ _ _ (e21_of P (K := ⟨K⟩) c)
theorem ok20 : ∀ (F : Nat) (xs : List AV) (H : Heap) (K : AV → Heap → Prop), c20 F xs H ⟨K⟩ → ACalls NGl P 20 xs H K
  | 0 => fun xs H K c => by obtain ⟨n, lb, nb, vb, l, tl, ns, id, R, _, _, _, _, hF, _⟩ := c; omega
  | F + 1 => fun xs H K c => by
    have ih := ok20 F
    exact okC h.hm (.consX (ok6 h) (.consX (okq12 h) (.consX (oke21 h ih 900001) .nilX))) h.h20 _ _ _ (c20_of P (K := ⟨K⟩) c)
theorem ok11 (xs : List AV) (H : Heap) (K : AV → Heap → Prop) (c : c11 xs H ⟨K⟩) : ACalls NGl P 11 xs H K := (okC h.hm (.consX (ok19 h) (.consX (oke21 h (ok20 h 5000) 900001) (.consX h.s22 .nilX))) h.h11 _ _ _ (c11_of P (K := ⟨K⟩) c)).shut
theorem ok8 (xs : List AV) (H : Heap) (K : AV → Heap → Prop) (c : c8 xs H ⟨K⟩) : ACalls NGl P 8 xs H K := okC h.hm (.consX (lk18 h.lp) (.consX (ok13 h) (.consX (ok11 h) (.consX (ok18 h) (.consX (ok19 h) .nilX))))) h.h8 _ _ _ (c8_of P (K := ⟨K⟩) c)
theorem tF_ok : TOk NGl P (plainT (tF P).T) := .consX (lk18 h.lp) (.consX (ok6 h) (.consX (ok7 h) (.consX (ok8 h) (.consX (ok9 h 900001) .nilX))))
end
end Go.AL.Fun
