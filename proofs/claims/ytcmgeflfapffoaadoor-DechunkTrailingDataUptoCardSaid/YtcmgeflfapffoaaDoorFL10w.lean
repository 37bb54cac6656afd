/- DechunkTrailingData, walked. -/
import Derived.Test.YtcmgeflfapffoaaDoorFL9w
import Derived.Test.YtcmgeflfapffoaaDoorFL10
set_option linter.unusedSimpArgs false
set_option linter.unusedVariables false
set_option maxRecDepth 100000
set_option maxHeartbeats 4000000
namespace Go.AL.Fun
open Go Go.AL
theorem law10 (P : Program) (b : List UInt8) (t : Tok) (hb : b.length ≤ 1048576) (more : List UInt8) (t2 : Tok) (K : Kv) (hK : ∀ H, K.ap (.bool true) H) : @xF ⟨Gd, P, tD⟩ f10 [.sl (bytesAV b) t, .sl (bytesAV more) t2] [] K := by
  have hn : (Heap.keys []).Nodup := List.nodup_nil
  simp (implicitDefEqProofs := false) only [sB, simprocAttr, f10]
  refine ⟨b, t, 7, rfl, hb, hn, fun _ h => (by cases h), fun h => by omega, fun _ _ => ?_⟩
  rw [show (7 : Int).toNat = 7 from rfl]
  simp (implicitDefEqProofs := false) only [sB, simprocAttr]
  refine x_c20 hn fun p H1 hD => ?_
  by_cases c0 : (2000 : Int) < (b.length : Int)
  · simp (implicitDefEqProofs := false) only [sB, simprocAttr, by_len, c0]
    refine ⟨rfl, hD.1, ?_⟩
    simp (implicitDefEqProofs := false) only [sB, simprocAttr]
    exact hK _
  by_cases c1 : (2000 : Int) < (more.length : Int)
  · simp (implicitDefEqProofs := false) only [sB, simprocAttr, by_len, c0, c1]
    refine ⟨rfl, hD.1, ?_⟩
    simp (implicitDefEqProofs := false) only [sB, simprocAttr]
    exact hK _
  obtain ⟨z, hz⟩ := feed_body (k := 7) (by decide) (by decide) b
  have hok := feed_ok new_ok (bodyP 7 b)
  have hbl : (bodyP 7 b).length ≤ 300000 := by
    have h1 := outP_len (k := 7) (by decide) b (List.range (cntN 7 b.length))
    rw [List.length_range] at h1
    have h2 : cntN 7 b.length ≤ 2000 + 7 := by unfold cntN; omega
    have h3 := chunkP_len (b := []) (by decide)
    rw [List.length_nil] at h3
    unfold bodyP
    rw [List.length_append]
    omega
  generalize bodyP 7 b = body at *
  have hno : DS.new.off = 0 := rfl
  simp (implicitDefEqProofs := false) only [sB, simprocAttr, by_len, c0, c1]
  refine x_c14 hD new_ok (by omega) fun H2 hD2 => ?_
  have hoff := (feed_ok new_ok body)
  rw [hz] at hD2 hok ⊢
  have hfo : (⟨4, [], 0, b, z, body.length, 0⟩ : DS).off = body.length := rfl
  simp (implicitDefEqProofs := false) only [sB, simprocAttr]
  refine x_c18 hD2 hok (by show body.length ≤ _; omega) ?_
  simp (implicitDefEqProofs := false) only [sB, simprocAttr, decide_true]
  refine x_c17 hD2 hok (by show body.length ≤ _; omega) ?_
  simp (implicitDefEqProofs := false) only [sB, simprocAttr, decide_true, true_or]
  refine x_c14 (b := []) hD2 hok (by show body.length + 0 ≤ _; omega) fun H3 hD3 => ?_
  have hnil : (⟨4, [], 0, b, z, body.length, 0⟩ : DS).feed [] = ⟨4, [], 0, b, z, body.length, 0⟩ := rfl
  rw [hnil] at hD3 ⊢
  simp (implicitDefEqProofs := false) only [sB, simprocAttr]
  refine x_c14 hD3 hok (by show body.length + more.length ≤ _; omega) fun H4 hD4 => ?_
  have hok4 := feed_ok hok more
  by_cases cm : more = []
  · subst cm
    rw [hnil] at hD4 hok4 ⊢
    simp (implicitDefEqProofs := false) only [sB, simprocAttr]
    refine ⟨rfl, hD4.1, ?_⟩
    simp (implicitDefEqProofs := false) only [sB, simprocAttr, by_len]
    refine x_c18 hD4 hok4 (by show body.length ≤ _; omega) ?_
    simp (implicitDefEqProofs := false) only [sB, simprocAttr, decide_true]
    refine x_c15 hD4 hok4 (by show body.length ≤ _; omega) fun t5 => ?_
    simp (implicitDefEqProofs := false) only [sB, simprocAttr]
    refine x_c19 hD4 hok4 (by show body.length ≤ _; omega) ?_
    simp (implicitDefEqProofs := false) only [sB, simprocAttr, by_len]
    exact hK _
  · have hfull := feed_full (s := ⟨4, [], 0, b, z, body.length, 0⟩) rfl rfl cm
    rw [hfull] at hD4 hok4 ⊢
    have hm0 : (0 : Int) < (more.length : Int) := len_pos_iff.2 cm
    simp (implicitDefEqProofs := false) only [sB, simprocAttr]
    refine ⟨rfl, hD4.1, ?_⟩
    simp (implicitDefEqProofs := false) only [sB, simprocAttr, by_len, hm0]
    refine x_c18 hD4 hok4 (by show body.length ≤ _; omega) ?_
    simp (implicitDefEqProofs := false) only [sB, simprocAttr, decide_true]
    refine x_c15 hD4 hok4 (by show body.length ≤ _; omega) fun t5 => ?_
    simp (implicitDefEqProofs := false) only [sB, simprocAttr]
    refine x_c19 hD4 hok4 (by show body.length ≤ _; omega) ?_
    simp (implicitDefEqProofs := false) only [sB, simprocAttr, by_len]
    exact hK _
end Go.AL.Fun
