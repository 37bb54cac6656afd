/- The laws of the escaped values, walked. -/
import Derived.Test.YtfgkkkknkojlgaaDoorJ10
import Derived.Test.YtfgkkkknkojlgaaDoorJ11
import Derived.Test.YtfgkkkknkojlgaaDoorFL3
import Derived.Test.YtfgkkkknkojlgaaDoorFL4
set_option linter.unusedSimpArgs false
set_option linter.unusedVariables false
set_option maxRecDepth 100000
set_option maxHeartbeats 4000000
namespace Go.AL.Fun
open Go Go.AL
/-- The law's table: the automaton, the escaper. -/
@[reducible] def t3 : XT := [(5, j11), (6, j17), (7, j14), (8, c18)]
theorem x_c18 {e : Int} {s : List UInt8} {H : Heap} {K : Kv} (h0 : 0 ≤ e) (h4 : e ≤ 4) (hn : H.keys.Nodup) (hl : s.length ≤ 1000000) (k : K.ap (.tup [.str (escP e s), .int .i64 0]) H) : c18 [.int .i64 e, .str s] H K :=
  ⟨e, s, rfl, hn, hl, fun _ _ => k, fun h => by omega⟩
theorem escP_len (e : Int) (s : List UInt8) : (escP e s).length ≤ 12 * s.length := by
  have := runeF_len e (decP s)
  have := decP_len _ s (Nat.le_refl _)
  unfold escP; omega
theorem law3 (P : Program) {G : Nat → Option (List AV)} (b v : List UInt8) (hb : b.length ≤ 1048576) (hv : v.length ≤ 1048576) (K : Kv) (hK : ∀ H, K.ap (.bool true) H) : @xF ⟨G, P, t3⟩ f3 [.str b, .str v] [] K := by
  have hn : (Heap.keys []).Nodup := List.nodup_nil
  have z : Inv ⟨0, [], [], []⟩ := inv_zero 0 (by decide) (by decide)
  by_cases c1 : (2000 : Int) < (b.length : Int)
  · simp (implicitDefEqProofs := false) only [sB, simprocAttr, f3, c1, x_j11]
    exact hK _
  by_cases c2 : (1000 : Int) < (v.length : Int)
  · simp (implicitDefEqProofs := false) only [sB, simprocAttr, f3, c1, c2, x_j11]
    exact hK _
  have hI := inv_run z b
  simp (implicitDefEqProofs := false) only [sB, simprocAttr, f3, c1, c2, x_j11, x_j17 z (show b.length ≤ 1099511627776 by omega), stAV]
  generalize runP ⟨0, [], [], []⟩ b = s at *
  refine i_new fun p hp => ?_
  have hr := escH_rng s
  have hst : (escH s).2 = true → runP s (escP (escH s).1 v) = s := fun h => stay_esc hI (by rw [← h]) v
  have hl := escP_len (escH s).1 v
  obtain ⟨c, n, a, q⟩ := s
  simp (implicitDefEqProofs := false) only [sB, simprocAttr, x_j14, stAV]
  generalize escH ⟨c, n, a, q⟩ = kk at *
  obtain ⟨k, ok⟩ := kk
  simp only at hr hst hl
  cases ok with
  | false =>
    have hk0 := hr.2.2 rfl
    simp (implicitDefEqProofs := false) only [sB, simprocAttr, x_j11, hk0]
    exact hK _
  | true =>
    have h1 := hst rfl
    simp (implicitDefEqProofs := false) only [sB, simprocAttr]
    refine x_c18 hr.1 hr.2.1 (List.nodup_cons.2 ⟨hp, hn⟩) (by omega) ?_
    simp (implicitDefEqProofs := false) only [sB, simprocAttr, x_j11, x_j17 hI (show (escP k v).length ≤ 1099511627776 by omega), h1, stAV, x_eqst]
    exact hK _
theorem law4 (P : Program) {G : Nat → Option (List AV)} (b v w : List UInt8) (hb : b.length ≤ 1048576) (hv : v.length ≤ 1048576) (hw : w.length ≤ 1048576) (K : Kv) (hK : ∀ H, K.ap (.bool true) H) : @xF ⟨G, P, t3⟩ f4 [.str b, .str v, .str w] [] K := by
  have hn : (Heap.keys []).Nodup := List.nodup_nil
  have z : Inv ⟨0, [], [], []⟩ := inv_zero 0 (by decide) (by decide)
  have e1 := w_i64 ((b.length : Int) + w.length) (by omega) (by omega)
  by_cases c1 : (2000 : Int) < (b.length : Int) + w.length
  · simp (implicitDefEqProofs := false) only [sB, simprocAttr, f4, e1, c1, x_j11]
    exact hK _
  by_cases c2 : (1000 : Int) < (v.length : Int)
  · simp (implicitDefEqProofs := false) only [sB, simprocAttr, f4, e1, c1, c2, x_j11]
    exact hK _
  have hI := inv_run z b
  simp (implicitDefEqProofs := false) only [sB, simprocAttr, f4, e1, c1, c2]
  refine i_new fun p hp => ?_
  simp (implicitDefEqProofs := false) only [sB, simprocAttr, x_j17 z (show b.length ≤ 1099511627776 by omega), stAV]
  have hr := escH_rng (runP ⟨0, [], [], []⟩ b)
  have hst : (escH (runP ⟨0, [], [], []⟩ b)).2 = true → runP ⟨0, [], [], []⟩ (b ++ escP (escH (runP ⟨0, [], [], []⟩ b)).1 v ++ w) = runP ⟨0, [], [], []⟩ (b ++ w) := fun h => by
    rw [run_app, run_app, stay_esc hI (by rw [← h]) v, run_app]
  have hl := escP_len (escH (runP ⟨0, [], [], []⟩ b)).1 v
  simp (implicitDefEqProofs := false) only [sB, simprocAttr, x_j14, stAV]
  generalize escH (runP ⟨0, [], [], []⟩ b) = kk at *
  obtain ⟨k, ok⟩ := kk
  simp only at hr hst hl
  refine x_c18 hr.1 hr.2.1 (List.nodup_cons.2 ⟨hp, hn⟩) (by omega) ?_
  cases ok with
  | false =>
    simp (implicitDefEqProofs := false) only [sB, simprocAttr, x_j11]
    exact hK _
  | true =>
    have h1 := hst rfl
    have l1 : (b ++ escP k v ++ w).length ≤ 1099511627776 := by simp only [List.length_append]; omega
    have l2 : (b ++ w).length ≤ 1099511627776 := by simp only [List.length_append]; omega
    rw [List.append_assoc] at h1 l1
    simp (implicitDefEqProofs := false) only [sB, simprocAttr, x_j11, x_j17 z l1, x_j17 z l2, h1, stAV, x_eqst]
    exact ⟨by omega, by omega, by omega, hK _⟩
end Go.AL.Fun
