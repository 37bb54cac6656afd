/- FramerBusy, walked. -/
import Derived.Test.YtcmgeflfapffoaaDoorFT
import Derived.Test.YtcmgeflfapffoaaDoorFL8
set_option linter.unusedSimpArgs false
set_option linter.unusedVariables false
set_option maxRecDepth 100000
set_option maxHeartbeats 4000000
namespace Go.AL.Fun
open Go Go.AL
theorem law8 (P : Program) (b : List UInt8) (t : Tok) (n : Int) (n0 : 0 ≤ n) (n1 : n ≤ 255) (K : Kv) (hK : ∀ H, K.ap (.bool true) H) : @xF ⟨Gh, P, tF⟩ f8 [.sl (bytesAV b) t, .int .u8 n] [] K := by
  have hn : (Heap.keys []).Nodup := List.nodup_nil
  simp (implicitDefEqProofs := false) only [sB, simprocAttr, f8]
  refine ⟨65536, rfl, hn, fun h => by omega, fun _ _ p H1 hX => ?_⟩
  by_cases c0 : ((b.length : Nat) : Int) = 0
  · simp (implicitDefEqProofs := false) only [sB, simprocAttr, by_len, c0]
    refine alive_in hX.1 (hX.cells cO_nil) ?_
    simp (implicitDefEqProofs := false) only [sB, simprocAttr]
    exact hK _
  by_cases c1 : (65536 : Int) < (b.length : Int)
  · simp (implicitDefEqProofs := false) only [sB, simprocAttr, by_len, c0, c1]
    refine alive_in hX.1 (hX.cells cO_nil) ?_
    simp (implicitDefEqProofs := false) only [sB, simprocAttr]
    exact hK _
  have hb0 : b ≠ [] := fun e => c0 (by rw [e]; rfl)
  simp (implicitDefEqProofs := false) only [sB, simprocAttr, by_len, c0, c1]
  refine .inr ⟨p, _, _, b, _, rfl, hX, .sl _ _, by decide, fun h => by simp at h, fun _ _ h => ?_, fun _ _ _ _ H2 hX2 => ?_⟩
  · rcases h with h | h
    · exact absurd h hb0
    · have : (65536 : Int) < (b.length : Int) := h
      omega
  simp only at hX2
  have hL0 := chunkP_ne b
  have hLl := chunkP_len (b := b) (by omega)
  generalize chunkP b = L at *
  have hLp : 0 < L.length := List.length_pos_iff.2 hL0
  simp (implicitDefEqProofs := false) only [sB, simprocAttr]
  refine .inr ⟨p, _, _, rfl, hX2, by show L.length ≤ _; omega, .inl fun t' => ?_⟩
  simp only
  have w0 := w_i64 n (by omega) (by omega)
  have hmx : (if (1 : Int) < (L.length : Int) then (L.length : Int) else 1) = (L.length : Int) := by split <;> omega
  have hmx2 : (if (L.length : Int) < (1 : Int) then (1 : Int) else (L.length : Int)) = (L.length : Int) := by split <;> omega
  have hL1 : ¬ (L.length : Int) = 0 := by omega
  obtain ⟨k, hk⟩ : ∃ k : Nat, k = n.toNat % L.length := ⟨_, rfl⟩
  have hkl : k < L.length := by rw [hk]; exact Nat.mod_lt _ hLp
  have hmod : n.tmod (L.length : Int) = (k : Int) := by rw [Int.tmod_eq_emod_of_nonneg n0, hk, Int.natCast_emod, Int.toNat_of_nonneg n0]
  have w1 := w_i64 (k : Int) (by omega) (by omega)
  simp (implicitDefEqProofs := false) only [sB, simprocAttr, by_len, w0, hmx, hmx2, hL1, hmod, w1]
  refine .inr ⟨p, _, _, _, rfl, hX2, fun h => ?_, fun _ _ H3 hX3 => ?_⟩
  · rcases h with h | h
    · omega
    · have : (L.length : Int) < (k : Int) := h
      omega
  rw [Int.toNat_natCast] at hX3
  simp only at hX3
  have hdl : (L.drop k).length = L.length - k := by simp
  have hdne : L.drop k ≠ [] := fun e => by have := congrArg List.length e; rw [hdl] at this; simp at this; omega
  simp (implicitDefEqProofs := false) only [sB, simprocAttr]
  refine i_new fun z hz => ?_
  simp (implicitDefEqProofs := false) only [sB, simprocAttr]
  have hX4 := hX3.push (o := .cells (bytesAV [1])) hz
  refine .inr ⟨p, _, _, [1], _, rfl, hX4, .msl z 0 (bytesAV [1]) [1] (by simp [lookH]) (by decide) rfl, by show (65536 : Int) ≤ 65536; omega, fun _ => ?_, fun h => absurd h hdne, fun h => absurd h hdne⟩
  simp (implicitDefEqProofs := false) only [sB, simprocAttr]
  refine .inr ⟨p, _, _, rfl, hX4, fun _ => ?_, fun h => absurd h hdne⟩
  have r1 := w_i64 ((L.length : Int) - (k : Int)) (by omega) (by omega)
  have r2 := w_i64 ((L.length : Int) - (k : Int) + 1) (by omega) (by omega)
  simp (implicitDefEqProofs := false) only [sB, simprocAttr, by_len, r1, r2]
  refine .inr ⟨p, _, _, _, rfl, hX4, fun _ => ?_, fun _ h => ?_⟩
  rotate_left
  · have h' : (L.length : Int) - (k : Int) + 1 ≤ ((L.drop k).length : Int) := h
    omega
  simp (implicitDefEqProofs := false) only [sB, simprocAttr]
  refine .inr ⟨p, _, _, _, rfl, hX4, fun _ => ?_, fun h => by omega⟩
  simp (implicitDefEqProofs := false) only [sB, simprocAttr]
  have hcz : cellsOnly ((z, AObj.cells (bytesAV [1])) :: H3) := hX4.cells (cO_nil.cons rfl)
  refine alive_in hX4.1 hcz ?_
  have kl : (k : Int) < (L.length : Int) := by omega
  have k0 : (0 : Int) ≤ (k : Int) := by omega
  have kle : (k : Int) ≤ (L.length : Int) := by omega
  simp (implicitDefEqProofs := false) only [sB, simprocAttr, by_len, r1, kl, k0, kle]
  refine .inr ⟨p, _, _, rfl, hX4, by show (L.drop k).length ≤ _; omega, .inl fun t4 => ?_⟩
  simp only
  have r3 := w_i64 ((L.length : Int) - (k : Int)) (by omega) (by omega)
  simp (implicitDefEqProofs := false) only [sB, simprocAttr, by_len, kl, k0, kle]
  refine .inr ⟨p, _, _, rfl, hX4, ?_⟩
  simp (implicitDefEqProofs := false) only [sB, simprocAttr, by_len, r1, Bool.false_and]
  refine .inr ⟨p, _, _, _, rfl, hX4, fun h => ?_, fun _ _ H5 hX5 => ?_⟩
  · have h' : (L.length : Int) - (k : Int) < 0 ∨ ((L.drop k).length : Int) < (L.length : Int) - (k : Int) := h
    omega
  have hnil : (L.drop k).drop ((L.length : Int) - (k : Int)).toNat = [] := List.drop_eq_nil_of_le (by omega)
  simp only [hnil] at hX5
  simp (implicitDefEqProofs := false) only [sB, simprocAttr]
  refine .inr ⟨p, _, _, rfl, hX5, fun h => by simp at h, fun _ _ H6 hX6 => ?_⟩
  simp (implicitDefEqProofs := false) only [sB, simprocAttr]
  exact hK _
end Go.AL.Fun
