/- The table of the functions that the incremental escaper reaches. Printed by gs20.py. -/
import Derived.Test.YtijioomcpecdhaaDoorS18w
import Derived.Test.YtijioomcpecdhaaDoorS15
set_option linter.unusedSimpArgs false
set_option linter.unusedVariables false
namespace Go.AL.Fun
open Go Go.AL Go.Proofs

/-- What is wanted of a program. -/
structure IOk (P : Program) : Prop where
  e : EOk P
  h23 : OkAt P 23 f23
  h66 : OkAt P 66 f66
  h67 : OkAt P 67 f67
  h64 : OkAt P 64 f64
  h25 : OkAt P 25 f25
  h27 : OkAt P 27 f27
  h28 : OkAt P 28 f28
  h29 : OkAt P 29 f29
  h30 : OkAt P 30 f30
  h31 : OkAt P 31 f31
  h26 : OkAt P 26 f26
  h61 : OkAt P 61 f61
theorem e23 {P : Program} (h : IOk P) (xs : List AV) (H : Heap) (K : AV → Heap → Prop) (c : c23 xs H ⟨K⟩) : ACalls Gu P 23 xs H K := okC h.e.hm .nilX h.h23 _ _ _ (c23_of P (K := ⟨K⟩) c)
theorem e66 {P : Program} (h : IOk P) (xs : List AV) (H : Heap) (K : AV → Heap → Prop) (c : c66 xs H ⟨K⟩) : ACalls Gu P 66 xs H K := okC h.e.hm (.consX (e23 h) .nilX) h.h66 _ _ _ (c66_of P (K := ⟨K⟩) c)
theorem e67 {P : Program} (h : IOk P) (xs : List AV) (H : Heap) (K : AV → Heap → Prop) (c : c67 xs H ⟨K⟩) : ACalls Gu P 67 xs H K := okC h.e.hm .nilX h.h67 _ _ _ (c67_of P (K := ⟨K⟩) c)
theorem e64 {P : Program} (h : IOk P) (xs : List AV) (H : Heap) (K : AV → Heap → Prop) (c : c64 xs H ⟨K⟩) : ACalls Gu P 64 xs H K := okC h.e.hm (.consX (e15 Gu5 h.e) .nilX) h.h64 _ _ _ (c64_of P (K := ⟨K⟩) c)
theorem e25 {P : Program} (h : IOk P) (xs : List AV) (H : Heap) (K : AV → Heap → Prop) (c : c25 xs H ⟨K⟩) : ACalls Gu P 25 xs H K := okC h.e.hm .nilX h.h25 _ _ _ (c25_of P (K := ⟨K⟩) c)
theorem e27 {P : Program} (h : IOk P) (xs : List AV) (H : Heap) (K : AV → Heap → Prop) (c : c27 xs H ⟨K⟩) : ACalls Gu P 27 xs H K := okC h.e.hm .nilX h.h27 _ _ _ (c27_of P (K := ⟨K⟩) c)
theorem e28 {P : Program} (h : IOk P) (xs : List AV) (H : Heap) (K : AV → Heap → Prop) (c : c28 xs H ⟨K⟩) : ACalls Gu P 28 xs H K := okC h.e.hm .nilX h.h28 _ _ _ (c28_of P (K := ⟨K⟩) c)
theorem e29 {P : Program} (h : IOk P) (xs : List AV) (H : Heap) (K : AV → Heap → Prop) (c : c29 xs H ⟨K⟩) : ACalls Gu P 29 xs H K := okC h.e.hm (.consX (e64 h) (.consX (e65 h.e) .nilX)) h.h29 _ _ _ (c29_of P (K := ⟨K⟩) c)
theorem e30 {P : Program} (h : IOk P) (xs : List AV) (H : Heap) (K : AV → Heap → Prop) (c : c30 xs H ⟨K⟩) : ACalls Gu P 30 xs H K := okC h.e.hm (.consX (e64 h) (.consX (e66 h) .nilX)) h.h30 _ _ _ (c30_of P (K := ⟨K⟩) c)
theorem e31 {P : Program} (h : IOk P) (xs : List AV) (H : Heap) (K : AV → Heap → Prop) (c : c31 xs H ⟨K⟩) : ACalls Gu P 31 xs H K := okC h.e.hm (.consX (e67 h) .nilX) h.h31 _ _ _ (c31_of P (K := ⟨K⟩) c)
theorem e26 {P : Program} (h : IOk P) (xs : List AV) (H : Heap) (K : AV → Heap → Prop) (c : c26 xs H ⟨K⟩) : ACalls Gu P 26 xs H K := okC h.e.hm (.consX (e25 h) (.consX (e27 h) (.consX (e28 h) (.consX (e29 h) (.consX (e31 h) .nilX))))) h.h26 _ _ _ (c26_of P (K := ⟨K⟩) c)
theorem e61 {P : Program} (h : IOk P) (xs : List AV) (H : Heap) (K : AV → Heap → Prop) (c : c61 xs H ⟨K⟩) : ACalls Gu P 61 xs H K := okC h.e.hm (.consX (e84 Gu5 h.e) .nilX) h.h61 _ _ _ (c61_of P (K := ⟨K⟩) c)
theorem mod5 {e : Int} (h0 : 0 ≤ e) : e.tmod 5 = ((e.toNat % 5 : Nat) : Int) := by rw [Int.tmod_eq_emod_of_nonneg h0]; omega
end Go.AL.Fun
