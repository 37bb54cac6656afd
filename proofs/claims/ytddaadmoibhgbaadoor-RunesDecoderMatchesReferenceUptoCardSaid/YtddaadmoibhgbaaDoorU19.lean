/- RunesRoundTrip, walked. -/
import Derived.Test.YtddaadmoibhgbaaDoorU14
import Derived.Test.YtddaadmoibhgbaaDoorU18
import Derived.Test.YtddaadmoibhgbaaDoorU12
set_option linter.unusedSimpArgs false
set_option linter.unusedVariables false
set_option maxRecDepth 100000
set_option maxHeartbeats 4000000
namespace Go.AL.Fun
open Go Go.AL Go.Proofs

def c21 (xs : List AV) (H : Heap) (K : Kv) : Prop := ∃ (s : List UInt8), xs = [.str s] ∧ s.length ≤ 1099511627776 ∧ K.ap (.bool (validP s)) H
theorem x_c21 {s : List UInt8} {H : Heap} {K : Kv} (hl : s.length ≤ 1099511627776) (k : K.ap (.bool (validP s)) H) : c21 [.str s] H K := ⟨s, rfl, hl, k⟩
theorem c21_of (P : Program) {G : Nat → Option (List AV)} {xs : List AV} {H : Heap} {K : Kv} (h : c21 xs H K) : @xF ⟨G, P, [(30, c30)]⟩ f21 xs H ⟨fun v H' => ∃ H0, Hle H0 H' ∧ K.ap v H0⟩ := by
  obtain ⟨s, rfl, hl, k⟩ := h
  simp (implicitDefEqProofs := false) only [sB, simprocAttr, f21]
  refine ⟨s, rfl, hl, ?_⟩
  simp (implicitDefEqProofs := false) only [sB, simprocAttr]
  exact ⟨_, .refl _, k⟩
@[reducible] def tB : XT := (21, c21) :: tA
structure UOk2 (P : Program) : Prop where
  u : UOk P
  o21 : compF P 21 f21.body.hints = some f21
  o30 : compF P 30 f30.body.hints = some f30
  o34 : compF P 34 f34.body.hints = some f34
variable {P : Program}
theorem k34 (u : UOk2 P) : ∀ xs H K, c34 xs H ⟨K⟩ → ACalls Gu P 34 xs H K := fun xs H K h => okC u.u.mx .nilX u.o34 xs H K (c34_of P (K := ⟨K⟩) h)
theorem k30 (u : UOk2 P) : ∀ xs H K, c30 xs H ⟨K⟩ → ACalls Gu P 30 xs H K := fun xs H K h => okC u.u.mx (.consX (k34 u) .nilX) u.o30 xs H K (c30_of P (K := ⟨K⟩) h)
theorem k21 (u : UOk2 P) : ∀ xs H K, c21 xs H ⟨K⟩ → ACalls Gu P 21 xs H K := fun xs H K h => okC u.u.mx (.consX (k30 u) .nilX) u.o21 xs H K (c21_of P (K := ⟨K⟩) h)
theorem tB_ok (u : UOk2 P) : TOk Gu P (plainT tB) := .consX (k21 u) (tA_ok u.u)
end Go.AL.Fun
