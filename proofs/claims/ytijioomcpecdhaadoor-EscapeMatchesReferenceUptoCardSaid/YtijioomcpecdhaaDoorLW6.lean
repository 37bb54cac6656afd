/- EscapeMatchesReference, walked. -/
import Derived.Test.YtijioomcpecdhaaDoorS23
import Derived.Test.YtijioomcpecdhaaDoorFL6
set_option linter.unusedSimpArgs false
set_option linter.unusedVariables false
set_option maxRecDepth 100000
set_option maxHeartbeats 4000000
namespace Go.AL.Fun
open Go Go.AL
@[reducible] def t6 : XT := [(17, c17), (18, c18), (20, c20), (21, c21), (22, c22)]
theorem t6_ok {P : Program} (h : JOk P) : TOk Gu P (plainT t6) := .consX (e17 Gu5 h.i.e) (.consX (e18 Gu5 h.i.e) (.consX (e20 Gu5 h.i.e) (.consX (e21 h) (.consX (e22 h) .nilX))))
theorem law6 (P : Program) {G : Nat → Option (List AV)} (e : Int) (s : List UInt8) (K : Kv) (hK : ∀ H, K.ap (.bool true) H) : @xF ⟨G, P, t6⟩ f6 [.int .i64 e, .str s] [] K := by
  have hn : (Heap.keys []).Nodup := List.nodup_nil
  have fin : ∀ K' : Kv, K'.ap (.bool true) [] → c17 [] [] K' := fun K' k => ⟨rfl, hn, k⟩
  by_cases cs : (1000 : Int) < (s.length : Int)
  · simp (implicitDefEqProofs := false) only [sB, simprocAttr, f6, cs]
    refine fin _ ?_
    simp (implicitDefEqProofs := false) only [sB, simprocAttr]
    exact hK _
  simp (implicitDefEqProofs := false) only [sB, simprocAttr, f6, cs]
  by_cases hr : 0 ≤ e ∧ e ≤ 4
  · refine ⟨e, s, rfl, hn, by omega, fun _ _ => ?_, fun h => by omega⟩
    simp (implicitDefEqProofs := false) only [sB, simprocAttr]
    refine ⟨e, s, rfl, hn, by omega, fun _ _ => ?_, fun h => by omega⟩
    simp (implicitDefEqProofs := false) only [sB, simprocAttr]
    refine fin _ ?_
    simp (implicitDefEqProofs := false) only [sB, simprocAttr]
    refine ⟨e, s, rfl, by omega, ?_⟩
    simp (implicitDefEqProofs := false) only [sB, simprocAttr]
    refine ⟨e, s, rfl, by omega, hn, ?_⟩
    cases safeS e s <;> (simp (implicitDefEqProofs := false) only [sB, simprocAttr]; exact hK _)
  · refine ⟨e, s, rfl, hn, by omega, fun _ _ => by omega, fun h => ?_⟩
    simp (implicitDefEqProofs := false) only [sB, simprocAttr]
    refine ⟨e, s, rfl, hn, by omega, fun _ _ => by omega, fun h => ?_⟩
    simp (implicitDefEqProofs := false) only [sB, simprocAttr]
    refine fin _ ?_
    simp (implicitDefEqProofs := false) only [sB, simprocAttr]
    refine ⟨e, s, rfl, by omega, ?_⟩
    simp (implicitDefEqProofs := false) only [sB, simprocAttr]
    refine ⟨e, s, rfl, by omega, hn, ?_⟩
    cases safeS e s <;> (simp (implicitDefEqProofs := false) only [sB, simprocAttr]; exact hK _)
end Go.AL.Fun
