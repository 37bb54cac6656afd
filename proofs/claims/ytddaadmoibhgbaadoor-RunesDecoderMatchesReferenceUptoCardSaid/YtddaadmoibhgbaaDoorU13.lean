/- RunesEncodeMatchesReference, walked. -/
import Derived.Test.YtddaadmoibhgbaaDoorU11
set_option linter.unusedSimpArgs false
set_option linter.unusedVariables false
set_option maxRecDepth 100000
set_option maxHeartbeats 4000000
namespace Go.AL.Fun
open Go Go.AL Go.Proofs

@[reducible] def tA : XT := [(12, c12), (14, c14), (17, c17), (18, c18), (19, c19), (20, c20), (22, c22), (9, c9), (10, c10), (11, c11), (13, c13)]
theorem x_c12 {H : Heap} {K : Kv} (hn : H.keys.Nodup) (k : K.ap (.bool true) H) : c12 [] H K := ⟨rfl, hn, k⟩
theorem x_c18 {x : AV} {l : List Int} {H : Heap} {K : Kv} (hn : H.keys.Nodup) (hx : RSrc H x l) (hl : l.length ≤ 1073741824) (hr : I32 l) (k : K.ap (.str (encP l)) H) : c18 [x] H K := ⟨x, l, rfl, hn, hx, hl, hr, k⟩
theorem x_c19 {x : AV} {l : List Int} {H : Heap} {K : Kv} (hx : RSrc H x l) (hl : l.length ≤ 1073741824) (hr : I32 l) (k : K.ap (.str (encP l)) H) : c19 [x] H K := ⟨x, l, rfl, hx, hl, hr, k⟩
theorem law5 (P : Program) (l : List Int) (t : Tok) (hl : l.length ≤ 1048576) (hr : I32 l) (K : Kv) (hK : ∀ H, K.ap (.bool true) H) : @xF ⟨Gu, P, tA⟩ f5 [.sl (i32AV l) t] [] K := by
  have hn : (Heap.keys []).Nodup := List.nodup_nil
  by_cases c : (1000 : Int) < l.length
  · simp (implicitDefEqProofs := false) only [sB, simprocAttr, f5, i32_len, c]
    refine x_c12 hn ?_
    simp (implicitDefEqProofs := false) only [sB, simprocAttr]
    exact hK _
  · simp (implicitDefEqProofs := false) only [sB, simprocAttr, f5, i32_len, c]
    refine x_c12 hn ?_
    simp (implicitDefEqProofs := false) only [sB, simprocAttr]
    refine x_c18 hn (.sl _ _) (by omega) hr ?_
    simp (implicitDefEqProofs := false) only [sB, simprocAttr]
    refine x_c19 (.sl _ _) (by omega) hr ?_
    simp (implicitDefEqProofs := false) only [sB, simprocAttr]
    exact hK _
end Go.AL.Fun
