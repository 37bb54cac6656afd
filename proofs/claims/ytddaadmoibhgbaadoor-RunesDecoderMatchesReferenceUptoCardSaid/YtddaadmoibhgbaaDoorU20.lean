/- RunesRoundTrip, walked. -/
import Derived.Test.YtddaadmoibhgbaaDoorU19
set_option linter.unusedSimpArgs false
set_option linter.unusedVariables false
set_option maxRecDepth 100000
set_option maxHeartbeats 4000000
namespace Go.AL.Fun
open Go Go.AL Go.Proofs

theorem val_bd (s : List UInt8) : -2147483648 ≤ val s ∧ val s < 2147483648 := by
  rcases s with _ | ⟨a, _ | ⟨b, _ | ⟨c, _ | ⟨d, _ | ⟨e, r⟩⟩⟩⟩⟩
  · simp [val]
  · have := a.toNat_lt; simp only [val]; omega
  · have := a.toNat_lt; have := b.toNat_lt; simp only [val]; omega
  · have := a.toNat_lt; have := b.toNat_lt; have := c.toNat_lt; simp only [val]; omega
  · have := a.toNat_lt; have := b.toNat_lt; have := c.toNat_lt; have := d.toNat_lt; simp only [val]; omega
  · simp [val]
theorem dec1_bd (s : List UInt8) : -2147483648 ≤ (dec1 s).1 ∧ (dec1 s).1 < 2147483648 := by
  unfold dec1
  split
  · simp
  · exact val_bd _
theorem dec_i32n : ∀ (n : Nat) (s : List UInt8), s.length ≤ n → I32 (decP s)
  | 0, s, h => by
    obtain rfl : s = [] := List.length_eq_zero_iff.1 (by omega)
    rw [decP_nil]; intro r hr; cases hr
  | n + 1, s, h => by
    by_cases e : s = []
    · rw [e, decP_nil]; intro r hr; cases hr
    · rw [decP_step e]
      have d1 := dec1_pos s
      have := List.length_pos_iff.2 e
      intro r hr
      rcases List.mem_cons.1 hr with rfl | hr
      · exact dec1_bd s
      · exact dec_i32n n _ (by rw [List.length_drop]; omega) r hr
theorem dec_i32 (s : List UInt8) : I32 (decP s) := dec_i32n _ s (Nat.le_refl _)
theorem law8 (P : Program) (s : List UInt8) (hs : s.length ≤ 1048576) (hi : I32 (decP s)) (K : Kv) (hK : ∀ H, K.ap (.bool true) H) : @xF ⟨Gu, P, tB⟩ f8 [.str s] [] K := by
  have hn : (Heap.keys []).Nodup := List.nodup_nil
  have alive : ∀ (H : Heap) (K' : Kv), H.keys.Nodup → K'.ap (.bool true) H → c12 [] H K' := fun H K' h k => ⟨rfl, h, k⟩
  obtain ⟨r1, r2, r3, r4⟩ := round_trip _ s (Nat.le_refl _)
  by_cases q1 : (3000 : Int) < s.length
  · simp (implicitDefEqProofs := false) only [sB, simprocAttr, f8, q1]
    refine alive _ _ hn ?_
    simp (implicitDefEqProofs := false) only [sB, simprocAttr]
    exact hK _
  · simp (implicitDefEqProofs := false) only [sB, simprocAttr, f8, q1]
    refine x_c17 (s := s) hn (by omega) fun id H1 g1 g2 => ?_
    have hl := look_head g1 g2
    have el := encP_len (decP s)
    simp (implicitDefEqProofs := false) only [sB, simprocAttr]
    refine x_c18 g2 (.msl id _ hl) (by omega) hi ?_
    simp (implicitDefEqProofs := false) only [sB, simprocAttr]
    refine alive _ _ g2 ?_
    simp (implicitDefEqProofs := false) only [sB, simprocAttr]
    refine x_c21 (by omega) ?_
    rw [r1]
    simp (implicitDefEqProofs := false) only [sB, simprocAttr]
    have eq : decide (encP (decP s) = s) = validP s := by
      by_cases hv : validP s = true
      · rw [hv]; exact decide_eq_true (r4 hv)
      · have hv' : validP s = false := by simpa using hv
        rw [hv']
        exact decide_eq_false (fun e => hv (by rw [← e]; exact r1))
    rw [eq]
    refine x_c21 (by omega) ?_
    simp (implicitDefEqProofs := false) only [sB, simprocAttr, beq_self_eq_true]
    refine x_c17 (s := encP (decP s)) g2 (by omega) fun id2 H2 g3 g4 => ?_
    have hl2 : lookH id H2 = some (.cells (i32AV (decP s))) := look_app (A := [(id2, .cells (i32AV (decP (encP (decP s)))))]) g3 g4 _ _ hl
    have hl3 := look_head g3 g4
    simp (implicitDefEqProofs := false) only [sB, simprocAttr]
    refine x_c14 (l := decP (encP (decP s))) (m := decP s) (.msl id2 _ hl3) (.msl id _ hl2) (by rw [r2]; omega) ?_
    rw [r2]
    have l9 : ((decP s).length : Int) ≤ (s.length : Int) := by omega
    simp (implicitDefEqProofs := false) only [sB, simprocAttr, l9]
    exact hK _
end Go.AL.Fun
