/- FramerEncodeLength, walked. -/
import Derived.Test.YtcmgeflfapffoaaDoorFT
import Derived.Test.YtcmgeflfapffoaaDoorFL5
set_option linter.unusedSimpArgs false
set_option linter.unusedVariables false
set_option maxRecDepth 100000
set_option maxHeartbeats 4000000
namespace Go.AL.Fun
open Go Go.AL
/-- What is added for the first j chunks. -/
def addP (k len : Nat) : Nat → Nat
  | 0 => 0
  | j + 1 => addP k len j + ((hexL (min k (len - j * k))).length + 4)
theorem lineL_eq (n : Nat) : (lineL n).length = (hexL n).length + 2 := by unfold lineL; simp
theorem outP_leq (k : Nat) (b : List UInt8) : ∀ j, (outP k b (List.range j)).length = addP k b.length j + min (j * k) b.length
  | 0 => by simp [outP, addP]
  | j + 1 => by
    have h := outP_leq k b j
    have hp := part_len k b j
    rw [List.range_succ, outP_app, List.length_append, h]
    have hc : (chunkP (partP k b j)).length = (hexL (min k (b.length - j * k))).length + 4 + min k (b.length - j * k) := by
      unfold chunkP
      rw [List.length_append, List.length_append, lineL_eq, hp]
      simp only [List.length_cons, List.length_nil]
      omega
    rw [hc]
    simp only [addP]
    rw [Nat.add_mul]
    omega
theorem bodyP_len {k : Nat} (hk : 1 ≤ k) (b : List UInt8) : (bodyP k b).length = b.length + 5 + addP k b.length (cntN k b.length) := by
  have h0 : (chunkP []).length = 5 := by
    unfold chunkP
    rw [List.length_append, lineL_eq, List.length_nil, hexL_lt (by decide)]; rfl
  have := cntN_ge (len := b.length) hk
  unfold bodyP
  rw [List.length_append, outP_leq, h0]
  omega
theorem addP_le {k : Nat} (hk : k ≤ 65536) (len : Nat) : ∀ j, addP k len j ≤ j * 104
  | 0 => by simp [addP]
  | j + 1 => by
    have h := addP_le hk len j
    have h2 := lineL_len (n := min k (len - j * k)) (by omega)
    rw [lineL_eq] at h2
    simp only [addP]
    omega
theorem law5 (P : Program) (b : List UInt8) (t : Tok) (n : Int) (K : Kv) (hK : ∀ H, K.ap (.bool true) H) : @xF ⟨Gh, P, tF⟩ f5 [.sl (bytesAV b) t, .int .i64 n] [] K := by
  have hn : (Heap.keys []).Nodup := List.nodup_nil
  by_cases c1 : n < 1
  · simp (implicitDefEqProofs := false) only [sB, simprocAttr, f5, c1]
    refine alive_in hn cO_nil ?_
    simp (implicitDefEqProofs := false) only [sB, simprocAttr]
    exact hK _
  by_cases c2 : 65536 < n
  · simp (implicitDefEqProofs := false) only [sB, simprocAttr, f5, c1, c2]
    refine alive_in hn cO_nil ?_
    simp (implicitDefEqProofs := false) only [sB, simprocAttr]
    exact hK _
  by_cases c3 : (100000 : Int) < (b.length : Int)
  · simp (implicitDefEqProofs := false) only [sB, simprocAttr, f5, c1, c2, by_len, c3]
    refine alive_in hn cO_nil ?_
    simp (implicitDefEqProofs := false) only [sB, simprocAttr]
    exact hK _
  obtain ⟨k, rfl⟩ : ∃ k : Nat, n = k := ⟨n.toNat, by omega⟩
  have hk1 : 1 ≤ k := by omega
  have hk2 : k ≤ 65536 := by omega
  have hcnt := cnt_small hk1 hk2 (show b.length ≤ 1048576 by omega)
  have hadd := addP_le hk2 b.length
  have hbl := bodyP_len hk1 b
  have r0 := w_i64 ((b.length : Int) + 5) (by omega) (by omega)
  simp (implicitDefEqProofs := false) only [sB, simprocAttr, f5, c1, c2, by_len, c3]
  refine ⟨b, t, k, rfl, by omega, hn, cO_nil, fun h => by omega, fun _ _ => ?_⟩
  rw [Int.toNat_natCast]
  have hNk : cntN k b.length * 104 ≤ cntN k b.length * (k + 104) := Nat.mul_le_mul_left _ (by omega)
  generalize bodyP k b = body at *
  simp (implicitDefEqProofs := false) only [sB, simprocAttr, by_len, r0]
  refine i_loopJ (fun σ H1 => ∃ j : Nat, H1 = [] ∧ j ≤ cntN k b.length ∧ σ = [(1, .int .i64 k), (5, .sl (bytesAV body) .no), (6, .int .i64 0), (7, .int .i64 ((b.length + 5 + addP k b.length j : Nat) : Int)), (8, .int .i64 ((b.length : Int) - ((j * k : Nat) : Int)))])
    (fun σ _ => match σ.get 8 with | .int _ n => n.toNat | _ => 0)
    (fun e σ H1 => e = .exit 0 ∧ H1 = [] ∧ σ.get 5 = .sl (bytesAV body) .no ∧ σ.get 6 = .int .i64 0 ∧ σ.get 7 = .int .i64 ((body.length : Nat) : Int))
    ⟨_, .refl _, 0, rfl, Nat.zero_le _, ?_⟩ ?_ ?_
  · simp [addP]
    rfl
  · rintro e σ H1 ⟨rfl, rfl, q5, q6, q7⟩
    simp (implicitDefEqProofs := false) only [sB, simprocAttr, q5, q6, q7]
    refine alive_in hn cO_nil ?_
    simp (implicitDefEqProofs := false) only [sB, simprocAttr, q5, q6, q7, by_len]
    exact hK _
  · rintro Q hQ σ H1 ⟨j, rfl, hj, rfl⟩
    by_cases c : j * k < b.length
    · have hjN : j + 1 ≤ cntN k b.length := by
        rcases Nat.lt_or_ge j (cntN k b.length) with h | h
        · exact h
        · have := Nat.mul_le_mul_right k h
          have := cntN_ge (len := b.length) hk1
          omega
      have ha := hadd (j + 1)
      have h3 : (j + 1) * 104 ≤ cntN k b.length * 104 := Nat.mul_le_mul_right _ hjN
      have haj : addP k b.length (j + 1) = addP k b.length j + ((hexL (min k (b.length - j * k))).length + 4) := rfl
      have hm1 : (j + 1) * k = j * k + k := by rw [Nat.add_mul, Nat.one_mul]
      generalize hx : j * k = x at *
      have c' : (0 : Int) < (b.length : Int) - (x : Int) := by omega
      obtain ⟨y, hy⟩ : ∃ y, y = min k (b.length - x) := ⟨_, rfl⟩
      rw [← hy] at haj
      have hmin : (if (k : Int) < (b.length : Int) - (x : Int) then (k : Int) else (b.length : Int) - (x : Int)) = ((y : Nat) : Int) := by rw [hy]; split <;> omega
      have hmin2 : (if (b.length : Int) - (x : Int) < (k : Int) then (b.length : Int) - (x : Int) else (k : Int)) = ((y : Nat) : Int) := by rw [hy]; split <;> omega
      have r1 := w_i64 (((hexL y).length : Int) + 4) (by omega) (by omega)
      have r2 := w_i64 (((b.length + 5 + addP k b.length j : Nat) : Int) + (((hexL y).length : Int) + 4)) (by omega) (by omega)
      have r3 := w_i64 ((b.length : Int) - (x : Int) - (k : Int)) (by omega) (by omega)
      simp (implicitDefEqProofs := false) only [sB, simprocAttr, c', hmin, hmin2]
      refine ⟨y, rfl, by omega, by omega, ?_⟩
      simp (implicitDefEqProofs := false) only [sB, simprocAttr, r1, r2, r3]
      refine ⟨_, .refl _, ⟨j + 1, rfl, hjN, ?_⟩, ?_⟩
      · rw [haj, hm1]
        have q1 : ((b.length + 5 + addP k b.length j : Nat) : Int) + (((hexL y).length : Int) + 4) = ((b.length + 5 + (addP k b.length j + ((hexL y).length + 4)) : Nat) : Int) := by omega
        have q2 : (b.length : Int) - (x : Int) - (k : Int) = (b.length : Int) - ((x + k : Nat) : Int) := by omega
        rw [q1, q2]
        exact ⟨rfl, rfl⟩
      · omega
    · have c' : ¬ (0 : Int) < (b.length : Int) - ((j * k : Nat) : Int) := by omega
      simp (implicitDefEqProofs := false) only [sB, simprocAttr, c']
      have hjN : j = cntN k b.length := by
        rcases Nat.lt_or_ge j (cntN k b.length) with h | h
        · exact absurd (cntN_lt hk1 h) c
        · omega
      refine hQ _ _ _ ⟨rfl, rfl, rfl, rfl, ?_⟩
      rw [hjN, ← hbl]; rfl
end Go.AL.Fun
