/- RunesDecodeMatchesReference and RunesConcatenation, walked. -/
import Derived.Test.YtddaadmoibhgbaaDoorU20
set_option linter.unusedSimpArgs false
set_option linter.unusedVariables false
set_option maxRecDepth 100000
set_option maxHeartbeats 4000000
namespace Go.AL.Fun
open Go Go.AL Go.Proofs

theorem x_c22 {s : List UInt8} {H : Heap} {K : Kv} (hl : s.length ≤ 1099511627776) (k : K.ap (.bool (validP s)) H) : c22 [.str s] H K := ⟨s, rfl, hl, k⟩
theorem law6 (P : Program) (s : List UInt8) (hs : s.length ≤ 1048576) (K : Kv) (hK : ∀ H, K.ap (.bool true) H) : @xF ⟨Gu, P, tB⟩ f6 [.str s] [] K := by
  have hn : (Heap.keys []).Nodup := List.nodup_nil
  have alive : ∀ (H : Heap) (K' : Kv), H.keys.Nodup → K'.ap (.bool true) H → c12 [] H K' := fun H K' h k => ⟨rfl, h, k⟩
  have dl := (round_trip _ s (Nat.le_refl _)).2.2.1
  by_cases q1 : (3000 : Int) < s.length
  · simp (implicitDefEqProofs := false) only [sB, simprocAttr, f6, q1]
    refine alive _ _ hn ?_
    simp (implicitDefEqProofs := false) only [sB, simprocAttr]
    exact hK _
  · simp (implicitDefEqProofs := false) only [sB, simprocAttr, f6, q1]
    refine alive _ _ hn ?_
    simp (implicitDefEqProofs := false) only [sB, simprocAttr]
    refine x_c17 (s := s) hn (by omega) fun id H1 g1 g2 => ?_
    have hl := look_head g1 g2
    simp (implicitDefEqProofs := false) only [sB, simprocAttr]
    refine x_c20 (s := s) g2 (by omega) _ ?_
    simp (implicitDefEqProofs := false) only [sB, simprocAttr]
    refine x_c14 (l := decP s) (m := decP s) (.msl id _ hl) (.sl _ _) (by omega) ?_
    simp (implicitDefEqProofs := false) only [sB, simprocAttr]
    refine x_c21 (by omega) ?_
    simp (implicitDefEqProofs := false) only [sB, simprocAttr]
    refine x_c22 (by omega) ?_
    simp (implicitDefEqProofs := false) only [sB, simprocAttr, beq_self_eq_true]
    exact hK _
theorem law7 (P : Program) (a b : List UInt8) (ha : a.length ≤ 1048576) (hb : b.length ≤ 1048576) (K : Kv) (hK : ∀ H, K.ap (.bool true) H) : @xF ⟨Gu, P, tB⟩ f7 [.str a, .str b] [] K := by
  have hn : (Heap.keys []).Nodup := List.nodup_nil
  have alive : ∀ (H : Heap) (K' : Kv), H.keys.Nodup → K'.ap (.bool true) H → c12 [] H K' := fun H K' h k => ⟨rfl, h, k⟩
  by_cases q1 : (2000 : Int) < a.length
  · simp (implicitDefEqProofs := false) only [sB, simprocAttr, f7, q1]
    refine alive _ _ hn ?_
    simp (implicitDefEqProofs := false) only [sB, simprocAttr]
    exact hK _
  by_cases q2 : (2000 : Int) < b.length
  · simp (implicitDefEqProofs := false) only [sB, simprocAttr, f7, q1, q2]
    refine alive _ _ hn ?_
    simp (implicitDefEqProofs := false) only [sB, simprocAttr]
    exact hK _
  cases hv : validP a with
  | false =>
    simp (implicitDefEqProofs := false) only [sB, simprocAttr, f7, q1, q2]
    refine x_c21 (by omega) ?_
    simp (implicitDefEqProofs := false) only [sB, simprocAttr, hv]
    refine alive _ _ hn ?_
    simp (implicitDefEqProofs := false) only [sB, simprocAttr]
    exact hK _
  | true =>
    obtain ⟨d1, d2⟩ := valid_app b _ a (Nat.le_refl _) hv
    have la := (round_trip _ a (Nat.le_refl _)).2.2.1
    have lb := (round_trip _ b (Nat.le_refl _)).2.2.1
    have lab := (round_trip _ (a ++ b) (Nat.le_refl _)).2.2.1
    simp (implicitDefEqProofs := false) only [sB, simprocAttr, f7, q1, q2]
    refine x_c21 (by omega) ?_
    simp (implicitDefEqProofs := false) only [sB, simprocAttr, hv]
    refine alive _ _ hn ?_
    simp (implicitDefEqProofs := false) only [sB, simprocAttr]
    refine ⟨by omega, ?_⟩
    have eab : (a ++ b).length = a.length + b.length := List.length_append
    refine x_c17 (s := a ++ b) hn (by omega) fun id H1 g1 g2 => ?_
    have hl := look_head g1 g2
    simp (implicitDefEqProofs := false) only [sB, simprocAttr]
    refine x_c17 (s := a) g2 (by omega) fun id2 H2 g3 g4 => ?_
    have hp2 : H2.Perm ((id2, .cells (i32AV (decP a))) :: (id, .cells (i32AV (decP (a ++ b)))) :: []) := g3.trans (g1.cons _)
    obtain ⟨V, hV⟩ : ∃ V, V = AV.msl id2 0 (decP a).length 1 := ⟨_, rfl⟩
    rw [← hV]
    simp (implicitDefEqProofs := false) only [sB, simprocAttr]
    refine x_c17 (s := b) g4 (by omega) fun id3 H3 g5 g6 => ?_
    have hp3 : H3.Perm ((id2, .cells (i32AV (decP a))) :: (id3, .cells (i32AV (decP b))) :: (id, .cells (i32AV (decP (a ++ b)))) :: []) := g5.trans ((hp2.cons _).trans (.swap _ _ _))
    have hl3 := look_head g5 g6
    simp (implicitDefEqProofs := false) only [sB, simprocAttr]
    subst hV
    refine app_msl (ys := i32AV (decP b)) hp3 g6 (i32_len _) (rs_src (.msl id3 _ hl3)) (i32_flat _) ?_ ?_ fun id4 H4 g7 g8 => ?_
    · simp only [i32_len, maxLen_eq]; omega
    · simp only [i32_len]; omega
    rw [i32_app, ← d1] at g7
    have hl4 := look_head g7 g8
    have hl5 : lookH id H4 = some (.cells (i32AV (decP (a ++ b)))) := look_head (g7.trans (List.perm_middle (a := (id, AObj.cells (i32AV (decP (a ++ b))))) (l₁ := [(id4, .cells (i32AV (decP (a ++ b)))), (id3, .cells (i32AV (decP b)))]) (l₂ := []))) g8
    have ln : (decP a).length + (i32AV (decP b)).length = (decP (a ++ b)).length := by rw [i32_len, d1, List.length_append]
    rw [ln]
    simp (implicitDefEqProofs := false) only [sB, simprocAttr]
    refine x_c14 (l := decP (a ++ b)) (m := decP (a ++ b)) (.msl id _ hl5) (.msl id4 _ hl4) (by omega) ?_
    simp (implicitDefEqProofs := false) only [sB, simprocAttr]
    refine ⟨by omega, ?_⟩
    refine x_c21 (by omega) ?_
    simp (implicitDefEqProofs := false) only [sB, simprocAttr]
    refine x_c21 (by omega) ?_
    rw [d2]
    simp (implicitDefEqProofs := false) only [sB, simprocAttr, beq_self_eq_true]
    exact hK _
end Go.AL.Fun
