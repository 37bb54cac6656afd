/- The table of the functions that the escapers reach. Printed by gs15.py. -/
import Derived.Test.YtijioomcpecdhaaDoorS14
set_option linter.unusedSimpArgs false
set_option linter.unusedVariables false
namespace Go.AL.Fun
open Go Go.AL Go.Proofs

def OkAt (P : Program) (i : Nat) (F : AFun) : Prop := compF P i F.body.hints = some F
/-- What is wanted of a program. -/
structure EOk (P : Program) : Prop where
  hm : P.follows .mixedOrders = true
  k95 : ∀ (G : Nat → Option (List AV)) xs H K, c95 xs H ⟨K⟩ → ACalls G P 95 xs H K
  k110 : ∀ (G : Nat → Option (List AV)) xs H K, c110 xs H ⟨K⟩ → ACalls G P 110 xs H K
  k47 : ∀ (G : Nat → Option (List AV)) xs H K, c47 xs H ⟨K⟩ → ACalls G P 47 xs H K
  k54 : ∀ (G : Nat → Option (List AV)) xs H K, c54 xs H ⟨K⟩ → ACalls G P 54 xs H K
  k55 : ∀ (G : Nat → Option (List AV)) xs H K, c55 xs H ⟨K⟩ → ACalls G P 55 xs H K
  h15 : OkAt P 15 f15
  h16 : OkAt P 16 f16
  h17 : OkAt P 17 f17
  h18 : OkAt P 18 f18
  h20 : OkAt P 20 f20
  h39 : OkAt P 39 f39
  h40 : OkAt P 40 f40
  h41 : OkAt P 41 f41
  h42 : OkAt P 42 f42
  h43 : OkAt P 43 f43
  h44 : OkAt P 44 f44
  h45 : OkAt P 45 f45
  h46 : OkAt P 46 f46
  h48 : OkAt P 48 f48
  h49 : OkAt P 49 f49
  h50 : OkAt P 50 f50
  h51 : OkAt P 51 f51
  h52 : OkAt P 52 f52
  h53 : OkAt P 53 f53
  h57 : OkAt P 57 f57
  h65 : OkAt P 65 f65
  h73 : OkAt P 73 f73
  h74 : OkAt P 74 f74
  h75 : OkAt P 75 f75
  h76 : OkAt P 76 f76
  h77 : OkAt P 77 f77
  h81 : OkAt P 81 f81
  h84 : OkAt P 84 f84
  h85 : OkAt P 85 f85
  h88 : OkAt P 88 f88
  h89 : OkAt P 89 f89
  h90 : OkAt P 90 f90
  h94 : OkAt P 94 f94
  h98 : OkAt P 98 f98
  h99 : OkAt P 99 f99
  h102 : OkAt P 102 f102
  h111 : OkAt P 111 f111
  h116 : OkAt P 116 f116
  h117 : OkAt P 117 f117
  h121 : OkAt P 121 f121
theorem Gu5 : Gu 5 = some tab64L := rfl
theorem e95 {P : Program} {G : Nat → Option (List AV)} (hG : G 5 = some tab64L) (h : EOk P) (xs : List AV) (H : Heap) (K : AV → Heap → Prop) (c : c95 xs H ⟨K⟩) : ACalls G P 95 xs H K := h.k95 G xs H K c
theorem e110 {P : Program} {G : Nat → Option (List AV)} (hG : G 5 = some tab64L) (h : EOk P) (xs : List AV) (H : Heap) (K : AV → Heap → Prop) (c : c110 xs H ⟨K⟩) : ACalls G P 110 xs H K := h.k110 G xs H K c
theorem e47 {P : Program} {G : Nat → Option (List AV)} (hG : G 5 = some tab64L) (h : EOk P) (xs : List AV) (H : Heap) (K : AV → Heap → Prop) (c : c47 xs H ⟨K⟩) : ACalls G P 47 xs H K := h.k47 G xs H K c
theorem e54 {P : Program} {G : Nat → Option (List AV)} (hG : G 5 = some tab64L) (h : EOk P) (xs : List AV) (H : Heap) (K : AV → Heap → Prop) (c : c54 xs H ⟨K⟩) : ACalls G P 54 xs H K := h.k54 G xs H K c
theorem e55 {P : Program} {G : Nat → Option (List AV)} (hG : G 5 = some tab64L) (h : EOk P) (xs : List AV) (H : Heap) (K : AV → Heap → Prop) (c : c55 xs H ⟨K⟩) : ACalls G P 55 xs H K := h.k55 G xs H K c
theorem e111 {P : Program}  (h : EOk P) (xs : List AV) (H : Heap) (K : AV → Heap → Prop) (c : c111 xs H ⟨K⟩) : ACalls Gu P 111 xs H K := okC h.hm .nilX h.h111 _ _ _ (c111_of P (K := ⟨K⟩) c)
theorem e90 {P : Program}  (h : EOk P) (xs : List AV) (H : Heap) (K : AV → Heap → Prop) (c : c90 xs H ⟨K⟩) : ACalls Gu P 90 xs H K := okC h.hm (.consX (e111  h) .nilX) h.h90 _ _ _ (c90_of P (K := ⟨K⟩) c)
theorem e89 {P : Program}  (h : EOk P) (xs : List AV) (H : Heap) (K : AV → Heap → Prop) (c : c89 xs H ⟨K⟩) : ACalls Gu P 89 xs H K := okC h.hm .nilX h.h89 _ _ _ (c89_of P (K := ⟨K⟩) c)
theorem e88 {P : Program} {G : Nat → Option (List AV)} (hG : G 5 = some tab64L) (h : EOk P) (xs : List AV) (H : Heap) (K : AV → Heap → Prop) (c : c88 xs H ⟨K⟩) : ACalls G P 88 xs H K := okW h.hm (.consX (e110 hG h) .nilX) h.h88 _ _ _ (c88_of P (K := ⟨K⟩) c)
theorem e65 {P : Program}  (h : EOk P) (xs : List AV) (H : Heap) (K : AV → Heap → Prop) (c : c65 xs H ⟨K⟩) : ACalls Gu P 65 xs H K := okW h.hm (.consX (e88 Gu5 h) (.consX (e89  h) (.consX (e90  h) .nilX))) h.h65 _ _ _ (c65_of P (K := ⟨K⟩) c)
theorem e73 {P : Program} {G : Nat → Option (List AV)} (hG : G 5 = some tab64L) (h : EOk P) (xs : List AV) (H : Heap) (K : AV → Heap → Prop) (c : c73 xs H ⟨K⟩) : ACalls G P 73 xs H K := okF h.hm .nilX h.h73 _ _ _ (c73_of P (K := ⟨K⟩) c)
theorem e73' {P : Program} {G : Nat → Option (List AV)} (hG : G 5 = some tab64L) (h : EOk P) (xs : List AV) (H : Heap) (K : AV → Heap → Prop) (c : c73' xs H ⟨K⟩) : ACalls G P 73 xs H K := okF h.hm .nilX h.h73 _ _ _ (c73'_of P (K := ⟨K⟩) c)
theorem e75 {P : Program} {G : Nat → Option (List AV)} (hG : G 5 = some tab64L) (h : EOk P) (xs : List AV) (H : Heap) (K : AV → Heap → Prop) (c : c75 xs H ⟨K⟩) : ACalls G P 75 xs H K := okC h.hm (.consX (e95 hG h) (.consX (e73 hG h) .nilX)) h.h75 _ _ _ (c75_of P (K := ⟨K⟩) c)
theorem e41 {P : Program} {G : Nat → Option (List AV)} (hG : G 5 = some tab64L) (h : EOk P) (xs : List AV) (H : Heap) (K : AV → Heap → Prop) (c : c41 xs H ⟨K⟩) : ACalls G P 41 xs H K := okF h.hm (.consX (e75 hG h) .nilX) h.h41 _ _ _ (c41_of P (K := ⟨K⟩) c)
theorem e39 {P : Program} {G : Nat → Option (List AV)} (hG : G 5 = some tab64L) (h : EOk P) (xs : List AV) (H : Heap) (K : AV → Heap → Prop) (c : c39 xs H ⟨K⟩) : ACalls G P 39 xs H K := okF h.hm (.consX (e73' hG h) .nilX) h.h39 _ _ _ (c39_of P (K := ⟨K⟩) c)
theorem e98 {P : Program} {G : Nat → Option (List AV)} (hG : G 5 = some tab64L) (h : EOk P) (xs : List AV) (H : Heap) (K : AV → Heap → Prop) (c : c98 xs H ⟨K⟩) : ACalls G P 98 xs H K := okC h.hm .nilX h.h98 _ _ _ (c98_of P (K := ⟨K⟩) c.1 c.2)
theorem e76 {P : Program} {G : Nat → Option (List AV)} (hG : G 5 = some tab64L) (h : EOk P) (xs : List AV) (H : Heap) (K : AV → Heap → Prop) (c : c76 xs H ⟨K⟩) : ACalls G P 76 xs H K := okC h.hm (.consX (e98 hG h) .nilX) h.h76 _ _ _ (c76_of P (K := ⟨K⟩) c)
theorem e43 {P : Program} {G : Nat → Option (List AV)} (hG : G 5 = some tab64L) (h : EOk P) (xs : List AV) (H : Heap) (K : AV → Heap → Prop) (c : c43 xs H ⟨K⟩) : ACalls G P 43 xs H K := okC h.hm (.consX (e76 hG h) .nilX) h.h43 _ _ _ (c43_of P (K := ⟨K⟩) c)
theorem e42 {P : Program} {G : Nat → Option (List AV)} (hG : G 5 = some tab64L) (h : EOk P) (xs : List AV) (H : Heap) (K : AV → Heap → Prop) (c : c42 xs H ⟨K⟩) : ACalls G P 42 xs H K := okF h.hm .nilX h.h42 _ _ _ (c42_of P (K := ⟨K⟩) c)
theorem e44 {P : Program} {G : Nat → Option (List AV)} (hG : G 5 = some tab64L) (h : EOk P) (xs : List AV) (H : Heap) (K : AV → Heap → Prop) (c : c44 xs H ⟨K⟩) : ACalls G P 44 xs H K := okF h.hm .nilX h.h44 _ _ _ (c44_of P (K := ⟨K⟩) c)
theorem e45 {P : Program} {G : Nat → Option (List AV)} (hG : G 5 = some tab64L) (h : EOk P) (xs : List AV) (H : Heap) (K : AV → Heap → Prop) (c : c45 xs H ⟨K⟩) : ACalls G P 45 xs H K := okF h.hm .nilX h.h45 _ _ _ (c45_of P (K := ⟨K⟩) c)
theorem e99 {P : Program} {G : Nat → Option (List AV)} (hG : G 5 = some tab64L) (h : EOk P) (xs : List AV) (H : Heap) (K : AV → Heap → Prop) (c : cD xs H ⟨K⟩) : ACalls G P 99 xs H K := okF h.hm .nilX h.h99 _ _ _ (c99_of P (K := ⟨K⟩) c)
theorem e121 {P : Program} {G : Nat → Option (List AV)} (hG : G 5 = some tab64L) (h : EOk P) (xs : List AV) (H : Heap) (K : AV → Heap → Prop) (c : c121 xs H ⟨K⟩) : ACalls G P 121 xs H K := okC h.hm .nilX h.h121 _ _ _ (c121_of P hG (K := ⟨K⟩) c)
theorem e117 {P : Program} {G : Nat → Option (List AV)} (hG : G 5 = some tab64L) (h : EOk P) (xs : List AV) (H : Heap) (K : AV → Heap → Prop) (c : c117 xs H ⟨K⟩) : ACalls G P 117 xs H K := okF h.hm (.consX (e121 hG h) .nilX) h.h117 _ _ _ (c117_of P (K := ⟨K⟩) c)
theorem e116 {P : Program} {G : Nat → Option (List AV)} (hG : G 5 = some tab64L) (h : EOk P) (xs : List AV) (H : Heap) (K : AV → Heap → Prop) (c : c116 xs H ⟨K⟩) : ACalls G P 116 xs H K := okF h.hm .nilX h.h116 _ _ _ (c116_of P (K := ⟨K⟩) c)
theorem e102 {P : Program} {G : Nat → Option (List AV)} (hG : G 5 = some tab64L) (h : EOk P) (xs : List AV) (H : Heap) (K : AV → Heap → Prop) (c : c102 xs H ⟨K⟩) : ACalls G P 102 xs H K := okC h.hm (.consX (e116 hG h) (.consX (e117 hG h) .nilX)) h.h102 _ _ _ (c102_of P (K := ⟨K⟩) c)
theorem e77 {P : Program} {G : Nat → Option (List AV)} (hG : G 5 = some tab64L) (h : EOk P) (xs : List AV) (H : Heap) (K : AV → Heap → Prop) (c : c77 xs H ⟨K⟩) : ACalls G P 77 xs H K := okF h.hm (.consX (e99 hG h) (.consX (e102 hG h) .nilX)) h.h77 _ _ _ (c77_of P (K := ⟨K⟩) c)
theorem e94 {P : Program} {G : Nat → Option (List AV)} (hG : G 5 = some tab64L) (h : EOk P) (xs : List AV) (H : Heap) (K : AV → Heap → Prop) (c : cD xs H ⟨K⟩) : ACalls G P 94 xs H K := okF h.hm (.consX (e77 hG h) .nilX) h.h94 _ _ _ (c94_of P (K := ⟨K⟩) c)
theorem e74 {P : Program} {G : Nat → Option (List AV)} (hG : G 5 = some tab64L) (h : EOk P) (xs : List AV) (H : Heap) (K : AV → Heap → Prop) (c : cD xs H ⟨K⟩) : ACalls G P 74 xs H K := okF h.hm (.consX (e94 hG h) .nilX) h.h74 _ _ _ (c74_of P (K := ⟨K⟩) c)
theorem e46 {P : Program} {G : Nat → Option (List AV)} (hG : G 5 = some tab64L) (h : EOk P) (xs : List AV) (H : Heap) (K : AV → Heap → Prop) (c : c46 xs H ⟨K⟩) : ACalls G P 46 xs H K := okF h.hm (.consX (e77 hG h) .nilX) h.h46 _ _ _ (c46_of P (K := ⟨K⟩) c)
theorem e40 {P : Program} {G : Nat → Option (List AV)} (hG : G 5 = some tab64L) (h : EOk P) (xs : List AV) (H : Heap) (K : AV → Heap → Prop) (c : c40 xs H ⟨K⟩) : ACalls G P 40 xs H K := okF h.hm (.consX (e74 hG h) .nilX) h.h40 _ _ _ (c40_of P (K := ⟨K⟩) c)
theorem e15 {P : Program} {G : Nat → Option (List AV)} (hG : G 5 = some tab64L) (h : EOk P) (xs : List AV) (H : Heap) (K : AV → Heap → Prop) (c : c15 xs H ⟨K⟩) : ACalls G P 15 xs H K := okF h.hm (.consX (e39 hG h) (.consX (e40 hG h) (.consX (e41 hG h) (.consX (e42 hG h) (.consX (e43 hG h) (.consX (e44 hG h) (.consX (e45 hG h) (.consX (e46 hG h) (.consX (e47 hG h) .nilX))))))))) h.h15 _ _ _ (c15_of P (K := ⟨K⟩) c)
theorem e81 {P : Program} {G : Nat → Option (List AV)} (hG : G 5 = some tab64L) (h : EOk P) (xs : List AV) (H : Heap) (K : AV → Heap → Prop) (c : c81 xs H ⟨K⟩) : ACalls G P 81 xs H K := okC h.hm .nilX h.h81 _ _ _ (c81_of P (K := ⟨K⟩) c)
theorem e48 {P : Program} {G : Nat → Option (List AV)} (hG : G 5 = some tab64L) (h : EOk P) (xs : List AV) (H : Heap) (K : AV → Heap → Prop) (c : c48 xs H ⟨K⟩) : ACalls G P 48 xs H K := okC h.hm (.consX (e81 hG h) .nilX) h.h48 _ _ _ (c48_of P (K := ⟨K⟩) c)
theorem e49 {P : Program} {G : Nat → Option (List AV)} (hG : G 5 = some tab64L) (h : EOk P) (xs : List AV) (H : Heap) (K : AV → Heap → Prop) (c : c49 xs H ⟨K⟩) : ACalls G P 49 xs H K := okF h.hm .nilX h.h49 _ _ _ (c49_of P (K := ⟨K⟩) c)
theorem e51 {P : Program} {G : Nat → Option (List AV)} (hG : G 5 = some tab64L) (h : EOk P) (xs : List AV) (H : Heap) (K : AV → Heap → Prop) (c : c51 xs H ⟨K⟩) : ACalls G P 51 xs H K := okC h.hm .nilX h.h51 _ _ _ (c51_of P (K := ⟨K⟩) c)
theorem e50 {P : Program} {G : Nat → Option (List AV)} (hG : G 5 = some tab64L) (h : EOk P) (xs : List AV) (H : Heap) (K : AV → Heap → Prop) (c : c50 xs H ⟨K⟩) : ACalls G P 50 xs H K := okC h.hm (.consX (e51 hG h) .nilX) h.h50 _ _ _ (c50_of P (K := ⟨K⟩) c)
theorem e52 {P : Program} {G : Nat → Option (List AV)} (hG : G 5 = some tab64L) (h : EOk P) (xs : List AV) (H : Heap) (K : AV → Heap → Prop) (c : c52 xs H ⟨K⟩) : ACalls G P 52 xs H K := okC h.hm .nilX h.h52 _ _ _ (c52_of P (K := ⟨K⟩) c)
theorem e16 {P : Program} {G : Nat → Option (List AV)} (hG : G 5 = some tab64L) (h : EOk P) (xs : List AV) (H : Heap) (K : AV → Heap → Prop) (c : c16 xs H ⟨K⟩) : ACalls G P 16 xs H K := okC h.hm (.consX (e48 hG h) (.consX (e49 hG h) (.consX (e50 hG h) (.consX (e51 hG h) (.consX (e52 hG h) .nilX))))) h.h16 _ _ _ (c16_of P (K := ⟨K⟩) c)
theorem e84 {P : Program} {G : Nat → Option (List AV)} (hG : G 5 = some tab64L) (h : EOk P) (xs : List AV) (H : Heap) (K : AV → Heap → Prop) (c : c84 xs H ⟨K⟩) : ACalls G P 84 xs H K := okC h.hm .nilX h.h84 _ _ _ (c84_of P (K := ⟨K⟩) c)
theorem e85 {P : Program} {G : Nat → Option (List AV)} (hG : G 5 = some tab64L) (h : EOk P) (xs : List AV) (H : Heap) (K : AV → Heap → Prop) (c : c85 xs H ⟨K⟩) : ACalls G P 85 xs H K := okF h.hm .nilX h.h85 _ _ _ (c85_of P (K := ⟨K⟩) c)
theorem e57 {P : Program} {G : Nat → Option (List AV)} (hG : G 5 = some tab64L) (h : EOk P) (xs : List AV) (H : Heap) (K : AV → Heap → Prop) (c : c57 xs H ⟨K⟩) : ACalls G P 57 xs H K := okW h.hm (.consX (e84 hG h) (.consX (e85 hG h) .nilX)) h.h57 _ _ _ (c57_of P (K := ⟨K⟩) c)
theorem e20 {P : Program} {G : Nat → Option (List AV)} (hG : G 5 = some tab64L) (h : EOk P) (xs : List AV) (H : Heap) (K : AV → Heap → Prop) (c : c20 xs H ⟨K⟩) : ACalls G P 20 xs H K := okC h.hm (.consX (e16 hG h) (.consX (e57 hG h) .nilX)) h.h20 _ _ _ (c20_of P (K := ⟨K⟩) c)
theorem e53 {P : Program} {G : Nat → Option (List AV)} (hG : G 5 = some tab64L) (h : EOk P) (xs : List AV) (H : Heap) (K : AV → Heap → Prop) (c : c53 xs H ⟨K⟩) : ACalls G P 53 xs H K := okF h.hm .nilX h.h53 _ _ _ (c53_of P (K := ⟨K⟩) c)
theorem e18 {P : Program} {G : Nat → Option (List AV)} (hG : G 5 = some tab64L) (h : EOk P) (xs : List AV) (H : Heap) (K : AV → Heap → Prop) (c : c18 xs H ⟨K⟩) : ACalls G P 18 xs H K := okC h.hm (.consX (e15 hG h) (.consX (e53 hG h) (.consX (e54 hG h) (.consX (e55 hG h) .nilX)))) h.h18 _ _ _ (c18_of P (K := ⟨K⟩) c)
theorem e17 {P : Program} {G : Nat → Option (List AV)} (hG : G 5 = some tab64L) (h : EOk P) (xs : List AV) (H : Heap) (K : AV → Heap → Prop) (c : c17 xs H ⟨K⟩) : ACalls G P 17 xs H K := okF h.hm (.consX (e18 hG h) .nilX) h.h17 _ _ _ (c17_of P (K := ⟨K⟩) c)
@[reducible] def tE : XT := [(15, c15), (16, c16), (17, c17)]
theorem tE_ok {P : Program} {G : Nat → Option (List AV)} (hG : G 5 = some tab64L) (h : EOk P) : TOk G P (plainT tE) := .consX (e15 hG h) (.consX (e16 hG h) (.consX (e17 hG h) .nilX))
end Go.AL.Fun
