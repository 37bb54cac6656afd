/- IncescapeNumbers, walked. -/
import Derived.Test.YtijioomcpecdhaaDoorS20
import Derived.Test.YtijioomcpecdhaaDoorFL9
set_option linter.unusedSimpArgs false
set_option linter.unusedVariables false
set_option maxRecDepth 100000
set_option maxHeartbeats 4000000
namespace Go.AL.Fun
open Go Go.AL
@[reducible] def tS : XT := [(25, c25), (26, c26), (27, c27), (28, c28)]
theorem tS_ok {P : Program} (h : IOk P) : TOk Gu P (plainT tS) := .consX (e25 h) (.consX (e26 h) (.consX (e27 h) (.consX (e28 h) .nilX)))
theorem law9 (P : Program) (e : Int) (K : Kv) (hK : ∀ H, K.ap (.bool true) H) : @xF ⟨Gu, P, tS⟩ f9 [.int .i64 e] [] K := by
  have hn : (Heap.keys []).Nodup := List.nodup_nil
  have alive : ∀ (H : Heap) (K' : Kv), H.keys.Nodup → K'.ap (.bool true) H → c26 [] H K' := fun H K' h k => ⟨rfl, h, k⟩
  simp (implicitDefEqProofs := false) only [sB, simprocAttr, f9]
  refine x_c25 hn (fun h => ?_) fun h0 h5 p H1 hE => ?_
  · have h1 : ¬ e < 0 ∨ e < 0 := by omega
    rcases h with h | h
    · simp (implicitDefEqProofs := false) only [sB, simprocAttr, h]
      refine alive _ _ hn ?_
      simp (implicitDefEqProofs := false) only [sB, simprocAttr]
      exact hK _
    · have h1 : ¬ e < 0 := by omega
      simp (implicitDefEqProofs := false) only [sB, simprocAttr, h, h1]
      refine alive _ _ hn ?_
      simp (implicitDefEqProofs := false) only [sB, simprocAttr]
      exact hK _
  · have q0 : ¬ e < 0 := by omega
    have q5 : ¬ (5 : Int) ≤ e := by omega
    simp (implicitDefEqProofs := false) only [sB, simprocAttr, q0, q5]
    refine alive _ _ hE.1 ?_
    simp (implicitDefEqProofs := false) only [sB, simprocAttr]
    refine x_c27 hE ?_
    simp (implicitDefEqProofs := false) only [sB, simprocAttr]
    refine x_c28 hE ?_
    simp (implicitDefEqProofs := false) only [sB, simprocAttr]
    exact hK _
end Go.AL.Fun
