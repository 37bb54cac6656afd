/- FramerEncodeMatchesReference, walked. -/
import Derived.Test.YtcmgeflfapffoaaDoorFT
import Derived.Test.YtcmgeflfapffoaaDoorFL3
set_option linter.unusedSimpArgs false
set_option linter.unusedVariables false
set_option maxRecDepth 100000
set_option maxHeartbeats 4000000
namespace Go.AL.Fun
open Go Go.AL
theorem law3 (P : Program) (b : List UInt8) (t : Tok) (n : Int) (K : Kv) (hK : ∀ H, K.ap (.bool true) H) : @xF ⟨Gh, P, tF⟩ f3 [.sl (bytesAV b) t, .int .i64 n] [] K := by
  have hn : (Heap.keys []).Nodup := List.nodup_nil
  by_cases c : (3000 : Int) < (b.length : Int)
  · simp (implicitDefEqProofs := false) only [sB, simprocAttr, f3, by_len, c]
    refine alive_in hn cO_nil ?_
    simp (implicitDefEqProofs := false) only [sB, simprocAttr]
    exact hK _
  simp (implicitDefEqProofs := false) only [sB, simprocAttr, f3, by_len, c]
  by_cases cr : n < 1 ∨ 65536 < n
  · refine ⟨b, t, n, rfl, by omega, hn, cO_nil, fun _ => ?_, fun h1 h2 => by omega⟩
    simp (implicitDefEqProofs := false) only [sB, simprocAttr]
    refine ⟨b, t, n, rfl, by omega, hn, fun _ => ?_, fun h1 h2 => by omega⟩
    simp (implicitDefEqProofs := false) only [sB, simprocAttr]
    refine ⟨n, rfl, hn, fun _ => ?_, fun h1 h2 => by omega⟩
    simp (implicitDefEqProofs := false) only [sB, simprocAttr]
    refine alive_in hn cO_nil ?_
    simp (implicitDefEqProofs := false) only [sB, simprocAttr]
    exact hK _
  · refine ⟨b, t, n, rfl, by omega, hn, cO_nil, fun h => absurd h cr, fun h1 h2 => ?_⟩
    simp (implicitDefEqProofs := false) only [sB, simprocAttr]
    refine ⟨b, t, n, rfl, by omega, hn, fun h => absurd h cr, fun _ _ tk => ?_⟩
    simp (implicitDefEqProofs := false) only [sB, simprocAttr]
    refine ⟨n, rfl, hn, fun h => absurd h cr, fun _ _ p H' hX => ?_⟩
    simp (implicitDefEqProofs := false) only [sB, simprocAttr]
    refine alive_in hX.1 (hX.cells cO_nil) ?_
    simp (implicitDefEqProofs := false) only [sB, simprocAttr]
    exact hK _
end Go.AL.Fun
