/- The table of the functions that the escaper reaches, and the automaton's. Printed by gr9b.py. -/
import Derived.Test.YtfgkkkknkojlgaaDoorJ12
set_option linter.unusedSimpArgs false
set_option linter.unusedVariables false
namespace Go.AL.Fun
open Go Go.AL Go.Proofs

structure EOk (P : Program) : Prop where
  hm : P.follows .mixedOrders = true
  k95 : ∀ (G : Nat → Option (List AV)) xs H K, c95 xs H ⟨K⟩ → ACalls G P 48 xs H K
  k47 : ∀ (G : Nat → Option (List AV)) xs H K, c47 xs H ⟨K⟩ → ACalls G P 26 xs H K
  k54 : ∀ (G : Nat → Option (List AV)) xs H K, c54 xs H ⟨K⟩ → ACalls G P 12 xs H K
  k55 : ∀ (G : Nat → Option (List AV)) xs H K, c55 xs H ⟨K⟩ → ACalls G P 13 xs H K
  h15 : OkAt P 11 f11
  h18 : OkAt P 8 f8
  h39 : OkAt P 18 f18
  h40 : OkAt P 19 f19
  h41 : OkAt P 20 f20
  h42 : OkAt P 21 f21
  h43 : OkAt P 22 f22
  h44 : OkAt P 23 f23
  h45 : OkAt P 24 f24
  h46 : OkAt P 25 f25
  h53 : OkAt P 10 f10
  h73 : OkAt P 37 f37
  h74 : OkAt P 38 f38
  h75 : OkAt P 39 f39
  h76 : OkAt P 40 f40
  h77 : OkAt P 41 f41
  h94 : OkAt P 49 f49
  h98 : OkAt P 52 f52
  h99 : OkAt P 53 f53
  h102 : OkAt P 56 f56
  h116 : OkAt P 64 f64
  h117 : OkAt P 65 f65
  h121 : OkAt P 69 f69
theorem e95 {P : Program} {G : Nat → Option (List AV)} (hG : G 3 = some tab64L) (h : EOk P) (xs : List AV) (H : Heap) (K : AV → Heap → Prop) (c : c95 xs H ⟨K⟩) : ACalls G P 48 xs H K := h.k95 G xs H K c
theorem e47 {P : Program} {G : Nat → Option (List AV)} (hG : G 3 = some tab64L) (h : EOk P) (xs : List AV) (H : Heap) (K : AV → Heap → Prop) (c : c47 xs H ⟨K⟩) : ACalls G P 26 xs H K := h.k47 G xs H K c
theorem e54 {P : Program} {G : Nat → Option (List AV)} (hG : G 3 = some tab64L) (h : EOk P) (xs : List AV) (H : Heap) (K : AV → Heap → Prop) (c : c54 xs H ⟨K⟩) : ACalls G P 12 xs H K := h.k54 G xs H K c
theorem e55 {P : Program} {G : Nat → Option (List AV)} (hG : G 3 = some tab64L) (h : EOk P) (xs : List AV) (H : Heap) (K : AV → Heap → Prop) (c : c55 xs H ⟨K⟩) : ACalls G P 13 xs H K := h.k55 G xs H K c
theorem e73 {P : Program} {G : Nat → Option (List AV)} (hG : G 3 = some tab64L) (h : EOk P) (xs : List AV) (H : Heap) (K : AV → Heap → Prop) (c : c73 xs H ⟨K⟩) : ACalls G P 37 xs H K := okF h.hm .nilX h.h73 _ _ _ (c73_of P (K := ⟨K⟩) c)
theorem e73' {P : Program} {G : Nat → Option (List AV)} (hG : G 3 = some tab64L) (h : EOk P) (xs : List AV) (H : Heap) (K : AV → Heap → Prop) (c : c73' xs H ⟨K⟩) : ACalls G P 37 xs H K := okF h.hm .nilX h.h73 _ _ _ (c73'_of P (K := ⟨K⟩) c)
theorem e75 {P : Program} {G : Nat → Option (List AV)} (hG : G 3 = some tab64L) (h : EOk P) (xs : List AV) (H : Heap) (K : AV → Heap → Prop) (c : c75 xs H ⟨K⟩) : ACalls G P 39 xs H K := okC h.hm (.consX (e95 hG h) (.consX (e73 hG h) .nilX)) h.h75 _ _ _ (c75_of P (K := ⟨K⟩) c)
theorem e41 {P : Program} {G : Nat → Option (List AV)} (hG : G 3 = some tab64L) (h : EOk P) (xs : List AV) (H : Heap) (K : AV → Heap → Prop) (c : c41 xs H ⟨K⟩) : ACalls G P 20 xs H K := okF h.hm (.consX (e75 hG h) .nilX) h.h41 _ _ _ (c41_of P (K := ⟨K⟩) c)
theorem e39 {P : Program} {G : Nat → Option (List AV)} (hG : G 3 = some tab64L) (h : EOk P) (xs : List AV) (H : Heap) (K : AV → Heap → Prop) (c : c39 xs H ⟨K⟩) : ACalls G P 18 xs H K := okF h.hm (.consX (e73' hG h) .nilX) h.h39 _ _ _ (c39_of P (K := ⟨K⟩) c)
theorem e98 {P : Program} {G : Nat → Option (List AV)} (hG : G 3 = some tab64L) (h : EOk P) (xs : List AV) (H : Heap) (K : AV → Heap → Prop) (c : c98 xs H ⟨K⟩) : ACalls G P 52 xs H K := okC h.hm .nilX h.h98 _ _ _ (c98_of P (K := ⟨K⟩) c.1 c.2)
theorem e76 {P : Program} {G : Nat → Option (List AV)} (hG : G 3 = some tab64L) (h : EOk P) (xs : List AV) (H : Heap) (K : AV → Heap → Prop) (c : c76 xs H ⟨K⟩) : ACalls G P 40 xs H K := okC h.hm (.consX (e98 hG h) .nilX) h.h76 _ _ _ (c76_of P (K := ⟨K⟩) c)
theorem e43 {P : Program} {G : Nat → Option (List AV)} (hG : G 3 = some tab64L) (h : EOk P) (xs : List AV) (H : Heap) (K : AV → Heap → Prop) (c : c43 xs H ⟨K⟩) : ACalls G P 22 xs H K := okC h.hm (.consX (e76 hG h) .nilX) h.h43 _ _ _ (c43_of P (K := ⟨K⟩) c)
theorem e42 {P : Program} {G : Nat → Option (List AV)} (hG : G 3 = some tab64L) (h : EOk P) (xs : List AV) (H : Heap) (K : AV → Heap → Prop) (c : c42 xs H ⟨K⟩) : ACalls G P 21 xs H K := okF h.hm .nilX h.h42 _ _ _ (c42_of P (K := ⟨K⟩) c)
theorem e44 {P : Program} {G : Nat → Option (List AV)} (hG : G 3 = some tab64L) (h : EOk P) (xs : List AV) (H : Heap) (K : AV → Heap → Prop) (c : c44 xs H ⟨K⟩) : ACalls G P 23 xs H K := okF h.hm .nilX h.h44 _ _ _ (c44_of P (K := ⟨K⟩) c)
theorem e45 {P : Program} {G : Nat → Option (List AV)} (hG : G 3 = some tab64L) (h : EOk P) (xs : List AV) (H : Heap) (K : AV → Heap → Prop) (c : c45 xs H ⟨K⟩) : ACalls G P 24 xs H K := okF h.hm .nilX h.h45 _ _ _ (c45_of P (K := ⟨K⟩) c)
theorem e99 {P : Program} {G : Nat → Option (List AV)} (hG : G 3 = some tab64L) (h : EOk P) (xs : List AV) (H : Heap) (K : AV → Heap → Prop) (c : cD xs H ⟨K⟩) : ACalls G P 53 xs H K := okF h.hm .nilX h.h99 _ _ _ (c99_of P (K := ⟨K⟩) c)
theorem e121 {P : Program} {G : Nat → Option (List AV)} (hG : G 3 = some tab64L) (h : EOk P) (xs : List AV) (H : Heap) (K : AV → Heap → Prop) (c : c121 xs H ⟨K⟩) : ACalls G P 69 xs H K := okC h.hm .nilX h.h121 _ _ _ (c121_of P hG (K := ⟨K⟩) c)
theorem e117 {P : Program} {G : Nat → Option (List AV)} (hG : G 3 = some tab64L) (h : EOk P) (xs : List AV) (H : Heap) (K : AV → Heap → Prop) (c : c117 xs H ⟨K⟩) : ACalls G P 65 xs H K := okF h.hm (.consX (e121 hG h) .nilX) h.h117 _ _ _ (c117_of P (K := ⟨K⟩) c)
theorem e116 {P : Program} {G : Nat → Option (List AV)} (hG : G 3 = some tab64L) (h : EOk P) (xs : List AV) (H : Heap) (K : AV → Heap → Prop) (c : c116 xs H ⟨K⟩) : ACalls G P 64 xs H K := okF h.hm .nilX h.h116 _ _ _ (c116_of P (K := ⟨K⟩) c)
theorem e102 {P : Program} {G : Nat → Option (List AV)} (hG : G 3 = some tab64L) (h : EOk P) (xs : List AV) (H : Heap) (K : AV → Heap → Prop) (c : c102 xs H ⟨K⟩) : ACalls G P 56 xs H K := okC h.hm (.consX (e116 hG h) (.consX (e117 hG h) .nilX)) h.h102 _ _ _ (c102_of P (K := ⟨K⟩) c)
theorem e77 {P : Program} {G : Nat → Option (List AV)} (hG : G 3 = some tab64L) (h : EOk P) (xs : List AV) (H : Heap) (K : AV → Heap → Prop) (c : c77 xs H ⟨K⟩) : ACalls G P 41 xs H K := okF h.hm (.consX (e99 hG h) (.consX (e102 hG h) .nilX)) h.h77 _ _ _ (c77_of P (K := ⟨K⟩) c)
theorem e94 {P : Program} {G : Nat → Option (List AV)} (hG : G 3 = some tab64L) (h : EOk P) (xs : List AV) (H : Heap) (K : AV → Heap → Prop) (c : cD xs H ⟨K⟩) : ACalls G P 49 xs H K := okF h.hm (.consX (e77 hG h) .nilX) h.h94 _ _ _ (c94_of P (K := ⟨K⟩) c)
theorem e74 {P : Program} {G : Nat → Option (List AV)} (hG : G 3 = some tab64L) (h : EOk P) (xs : List AV) (H : Heap) (K : AV → Heap → Prop) (c : cD xs H ⟨K⟩) : ACalls G P 38 xs H K := okF h.hm (.consX (e94 hG h) .nilX) h.h74 _ _ _ (c74_of P (K := ⟨K⟩) c)
theorem e46 {P : Program} {G : Nat → Option (List AV)} (hG : G 3 = some tab64L) (h : EOk P) (xs : List AV) (H : Heap) (K : AV → Heap → Prop) (c : c46 xs H ⟨K⟩) : ACalls G P 25 xs H K := okF h.hm (.consX (e77 hG h) .nilX) h.h46 _ _ _ (c46_of P (K := ⟨K⟩) c)
theorem e40 {P : Program} {G : Nat → Option (List AV)} (hG : G 3 = some tab64L) (h : EOk P) (xs : List AV) (H : Heap) (K : AV → Heap → Prop) (c : c40 xs H ⟨K⟩) : ACalls G P 19 xs H K := okF h.hm (.consX (e74 hG h) .nilX) h.h40 _ _ _ (c40_of P (K := ⟨K⟩) c)
theorem e15 {P : Program} {G : Nat → Option (List AV)} (hG : G 3 = some tab64L) (h : EOk P) (xs : List AV) (H : Heap) (K : AV → Heap → Prop) (c : c15 xs H ⟨K⟩) : ACalls G P 11 xs H K := okF h.hm (.consX (e39 hG h) (.consX (e40 hG h) (.consX (e41 hG h) (.consX (e42 hG h) (.consX (e43 hG h) (.consX (e44 hG h) (.consX (e45 hG h) (.consX (e46 hG h) (.consX (e47 hG h) .nilX))))))))) h.h15 _ _ _ (c15_of P (K := ⟨K⟩) c)
theorem e53 {P : Program} {G : Nat → Option (List AV)} (hG : G 3 = some tab64L) (h : EOk P) (xs : List AV) (H : Heap) (K : AV → Heap → Prop) (c : c53 xs H ⟨K⟩) : ACalls G P 10 xs H K := okF h.hm .nilX h.h53 _ _ _ (c53_of P (K := ⟨K⟩) c)
theorem e18 {P : Program} {G : Nat → Option (List AV)} (hG : G 3 = some tab64L) (h : EOk P) (xs : List AV) (H : Heap) (K : AV → Heap → Prop) (c : c18 xs H ⟨K⟩) : ACalls G P 8 xs H K := okC h.hm (.consX (e15 hG h) (.consX (e53 hG h) (.consX (e54 hG h) (.consX (e55 hG h) .nilX)))) h.h18 _ _ _ (c18_of P (K := ⟨K⟩) c)
theorem GH3 : GH 3 = some tab64L := rfl
theorem t3_ok {P : Program} (h : HOk P) (e : EOk P) : TOk GH P (plainT t3) := .consX (fun xs H K c => okC h.hm (tF_ok h) h.h11 _ _ _ (j11_of P (K := ⟨K⟩) c)) (.consX (fun xs H K c => okC h.hm (tE_ok h) h.h17 _ _ _ (j17_of P (K := ⟨K⟩) c)) (.consX (fun xs H K c => okC h.hm .nilX h.h14 _ _ _ (j14_of P (K := ⟨K⟩) c)) (.consX (e18 GH3 e) .nilX)))
end Go.AL.Fun
