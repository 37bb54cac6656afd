/- EscapeRuneMatchesReference, walked. -/
import Derived.Test.YtijioomcpecdhaaDoorS15
import Derived.Test.YtijioomcpecdhaaDoorFL3
set_option linter.unusedSimpArgs false
set_option linter.unusedVariables false
set_option maxRecDepth 100000
set_option maxHeartbeats 4000000
namespace Go.AL.Fun
open Go Go.AL
theorem law3 (P : Program) {G : Nat → Option (List AV)} (e r : Int) (lo : -2147483648 ≤ r) (hi : r < 2147483648) (K : Kv) (hK : ∀ H, K.ap (.bool true) H) : @xF ⟨G, P, tE⟩ f3 [.int .i64 e, .int .i32 r] [] K := by
  have hn : (Heap.keys []).Nodup := List.nodup_nil
  simp (implicitDefEqProofs := false) only [sB, simprocAttr, f3]
  by_cases hr : 0 ≤ e ∧ e ≤ 4
  · refine ⟨e, r, rfl, lo, hi, hn, fun _ _ => ?_, fun h => by omega⟩
    simp (implicitDefEqProofs := false) only [sB, simprocAttr]
    refine ⟨e, r, rfl, lo, hi, hn, fun _ _ => ?_, fun h => by omega⟩
    simp (implicitDefEqProofs := false) only [sB, simprocAttr]
    refine ⟨rfl, hn, ?_⟩
    simp (implicitDefEqProofs := false) only [sB, simprocAttr]
    exact hK _
  · refine ⟨e, r, rfl, lo, hi, hn, fun _ _ => by omega, fun h => ?_⟩
    simp (implicitDefEqProofs := false) only [sB, simprocAttr]
    refine ⟨e, r, rfl, lo, hi, hn, fun _ _ => by omega, fun h => ?_⟩
    simp (implicitDefEqProofs := false) only [sB, simprocAttr]
    refine ⟨rfl, hn, ?_⟩
    simp (implicitDefEqProofs := false) only [sB, simprocAttr]
    exact hK _
end Go.AL.Fun
