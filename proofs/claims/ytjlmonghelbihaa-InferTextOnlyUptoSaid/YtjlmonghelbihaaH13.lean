/- The reference automaton: tags, walked. -/
import Derived.Test.YtjlmonghelbihaaH12
set_option linter.unusedSimpArgs false
set_option linter.unusedVariables false
set_option maxRecDepth 100000
set_option maxHeartbeats 2000000
namespace Go.AL.Fun
open Go Go.AL

theorem hle4 {H : Heap} {x y z w : Nat × AObj} : Hle H (x :: y :: z :: w :: H) := .of_sub (.cons _ (.cons _ (.cons _ (.cons _ (.refl _)))))
def quotedI (a : List UInt8) (k : Int) : Int :=
  let c : Int := if a = [104, 114, 101, 102] ∨ a = [115, 114, 99] ∨ a = [97, 99, 116, 105, 111, 110] ∨ a = [102, 111, 114, 109, 97, 99, 116, 105, 111, 110] then 9
    else if a = [115, 116, 121, 108, 101] ∨ a = [115, 114, 99, 100, 111, 99] then 11 else 7
  let c : Int := if 2 ≤ a.length ∧ a.take 2 = [111, 110] then 11 else c
  if k = 39 then c + 1 else c
theorem quotedI_eq (a : List UInt8) (b : UInt8) : quotedR a b = quotedI a (n8 b) := rfl
theorem x_r51k (a : List UInt8) (b : UInt8) (k : Int) (hk : n8 b = k) (H : Heap) (K : Kv) : r51 [.str a, .int .u8 k] H K = K.ap (.int .i64 (quotedI a k)) H := by
  subst hk; rw [x_r51]; rfl
theorem x_r48k (s : List UInt8) (b : UInt8) (k : Int) (hk : n8 b = k) (hs : s.length ≤ 16) (H : Heap) (K : Kv) : r48 [.str s, .int .u8 k] H K = K.ap (.str (addR s b)) H := by
  subst hk; rw [x_r48 _ _ hs]
theorem w31_1 (P : Program) {name attr part : List UInt8} {b : UInt8} {H : Heap} (hn : name.length ≤ 16) (ha : attr.length ≤ 16) (K : Kv) (hK : ∀ H', Hle H H' → K.ap (stAV (tagR ⟨1, name, attr, part⟩ b)) H') : @xF (u2 P) f31 [stAV ⟨1, name, attr, part⟩, .int .u8 (n8 b)] H K := by
  simp (implicitDefEqProofs := false) only [sB, simprocAttr, f31, stAV, x_r52, x_r47, x_r49, x_r50, x_r51, x_r51k attr 34 34 rfl, x_r51k attr 39 39 rfl, of_n8, x_r48 _ _ hn, x_r48 _ _ ha, x_r48 [] b (by decide)]
  refine i_new fun p hp => ?_
  simp (implicitDefEqProofs := false) only [sB, simprocAttr]
  refine i_new fun q hq => ?_
  have hq := nk1 hq
  have hpq : ¬ p = q := fun e => hq.1 e.symm
  by_cases h1 : n8 b = 62
  · simp (implicitDefEqProofs := false) only [sB, simprocAttr, hq, hpq, h1, stAV, x_r52, x_r47, x_r49, x_r50, x_r51, x_r51k attr 34 34 rfl, x_r51k attr 39 39 rfl, of_n8, x_r48 _ _ hn, x_r48 _ _ ha, x_r48 [] b (by decide)]
    exact leaf hK (by simp [tagR, stAV, h1]) hle2
  · simp (implicitDefEqProofs := false) only [sB, simprocAttr, hq, hpq, h1, stAV, x_r52, x_r47, x_r49, x_r50, x_r51, x_r51k attr 34 34 rfl, x_r51k attr 39 39 rfl, of_n8, x_r48 _ _ hn, x_r48 _ _ ha, x_r48 [] b (by decide)]
    refine i_new fun r hr => ?_
    have hr := nk2 hr
    have hqr : ¬ q = r := fun e => hr.1 e.symm
    have hpr : ¬ p = r := fun e => hr.2.1 e.symm
    simp (implicitDefEqProofs := false) only [sB, simprocAttr, hq, hpq, hr, hqr, hpr, h1, stAV, x_r52, x_r47, x_r49, x_r50, x_r51, x_r51k attr 34 34 rfl, x_r51k attr 39 39 rfl, of_n8, x_r48 _ _ hn, x_r48 _ _ ha, x_r48 [] b (by decide)]
    refine ⟨i_new fun u hu => ?_, i_new fun u hu => ?_⟩
    all_goals have hu := nk3 hu
    all_goals have hru : ¬ r = u := fun e => hu.1 e.symm
    all_goals have hqu : ¬ q = u := fun e => hu.2.1 e.symm
    all_goals have hpu : ¬ p = u := fun e => hu.2.2.1 e.symm
    all_goals simp (implicitDefEqProofs := false) only [sB, simprocAttr, hq, hpq, hr, hqr, hpr, hu, hru, hqu, hpu, h1, stAV, x_r52, x_r47, x_r49, x_r50, x_r51, x_r51k attr 34 34 rfl, x_r51k attr 39 39 rfl, of_n8, x_r48 _ _ hn, x_r48 _ _ ha, x_r48 [] b (by decide)]
    all_goals repeat' first
      | (refine leaf hK ?_ hle4; simp [tagR, stAV, quotedI_eq, *]; done)
      | (refine i_if ?_ ?_ <;> intro h <;> (try simp only [beq_true, beq_false, Bool.not_eq_true', Bool.not_eq_false', Bool.not_not, decide_eq_true_eq, decide_eq_false_iff_not, beq_iff_eq, bne_iff_ne, Bool.not_eq_true, Bool.not_eq_false, ne_eq, Bool.true_eq, Bool.false_eq] at h) <;> (try exact absurd h (by decide)) <;> (try simp (implicitDefEqProofs := false) only [sB, simprocAttr, stAV, x_r52, x_r47, x_r49, x_r50, x_r51, x_r51k attr 34 34 rfl, x_r51k attr 39 39 rfl, of_n8, x_r48 _ _ hn, x_r48 _ _ ha, x_r48 [] b (by decide), *]))
theorem w31_2 (P : Program) {name attr part : List UInt8} {b : UInt8} {H : Heap} (hn : name.length ≤ 16) (ha : attr.length ≤ 16) (K : Kv) (hK : ∀ H', Hle H H' → K.ap (stAV (tagR ⟨2, name, attr, part⟩ b)) H') : @xF (u2 P) f31 [stAV ⟨2, name, attr, part⟩, .int .u8 (n8 b)] H K := by
  simp (implicitDefEqProofs := false) only [sB, simprocAttr, f31, stAV, x_r52, x_r47, x_r49, x_r50, x_r51, x_r51k attr 34 34 rfl, x_r51k attr 39 39 rfl, of_n8, x_r48 _ _ hn, x_r48 _ _ ha, x_r48 [] b (by decide)]
  refine i_new fun p hp => ?_
  simp (implicitDefEqProofs := false) only [sB, simprocAttr]
  refine i_new fun q hq => ?_
  have hq := nk1 hq
  have hpq : ¬ p = q := fun e => hq.1 e.symm
  by_cases h1 : n8 b = 62
  · simp (implicitDefEqProofs := false) only [sB, simprocAttr, hq, hpq, h1, stAV, x_r52, x_r47, x_r49, x_r50, x_r51, x_r51k attr 34 34 rfl, x_r51k attr 39 39 rfl, of_n8, x_r48 _ _ hn, x_r48 _ _ ha, x_r48 [] b (by decide)]
    exact leaf hK (by simp [tagR, stAV, h1]) hle2
  · simp (implicitDefEqProofs := false) only [sB, simprocAttr, hq, hpq, h1, stAV, x_r52, x_r47, x_r49, x_r50, x_r51, x_r51k attr 34 34 rfl, x_r51k attr 39 39 rfl, of_n8, x_r48 _ _ hn, x_r48 _ _ ha, x_r48 [] b (by decide)]
    refine i_new fun r hr => ?_
    have hr := nk2 hr
    have hqr : ¬ q = r := fun e => hr.1 e.symm
    have hpr : ¬ p = r := fun e => hr.2.1 e.symm
    simp (implicitDefEqProofs := false) only [sB, simprocAttr, hq, hpq, hr, hqr, hpr, h1, stAV, x_r52, x_r47, x_r49, x_r50, x_r51, x_r51k attr 34 34 rfl, x_r51k attr 39 39 rfl, of_n8, x_r48 _ _ hn, x_r48 _ _ ha, x_r48 [] b (by decide)]
    refine ⟨i_new fun u hu => ?_, i_new fun u hu => ?_⟩
    all_goals have hu := nk3 hu
    all_goals have hru : ¬ r = u := fun e => hu.1 e.symm
    all_goals have hqu : ¬ q = u := fun e => hu.2.1 e.symm
    all_goals have hpu : ¬ p = u := fun e => hu.2.2.1 e.symm
    all_goals simp (implicitDefEqProofs := false) only [sB, simprocAttr, hq, hpq, hr, hqr, hpr, hu, hru, hqu, hpu, h1, stAV, x_r52, x_r47, x_r49, x_r50, x_r51, x_r51k attr 34 34 rfl, x_r51k attr 39 39 rfl, of_n8, x_r48 _ _ hn, x_r48 _ _ ha, x_r48 [] b (by decide)]
    all_goals repeat' first
      | (refine leaf hK ?_ hle4; simp [tagR, stAV, quotedI_eq, *]; done)
      | (refine i_if ?_ ?_ <;> intro h <;> (try simp only [beq_true, beq_false, Bool.not_eq_true', Bool.not_eq_false', Bool.not_not, decide_eq_true_eq, decide_eq_false_iff_not, beq_iff_eq, bne_iff_ne, Bool.not_eq_true, Bool.not_eq_false, ne_eq, Bool.true_eq, Bool.false_eq] at h) <;> (try exact absurd h (by decide)) <;> (try simp (implicitDefEqProofs := false) only [sB, simprocAttr, stAV, x_r52, x_r47, x_r49, x_r50, x_r51, x_r51k attr 34 34 rfl, x_r51k attr 39 39 rfl, of_n8, x_r48 _ _ hn, x_r48 _ _ ha, x_r48 [] b (by decide), *]))
theorem w31_3 (P : Program) {name attr part : List UInt8} {b : UInt8} {H : Heap} (hn : name.length ≤ 16) (ha : attr.length ≤ 16) (K : Kv) (hK : ∀ H', Hle H H' → K.ap (stAV (tagR ⟨3, name, attr, part⟩ b)) H') : @xF (u2 P) f31 [stAV ⟨3, name, attr, part⟩, .int .u8 (n8 b)] H K := by
  simp (implicitDefEqProofs := false) only [sB, simprocAttr, f31, stAV, x_r52, x_r47, x_r49, x_r50, x_r51, x_r51k attr 34 34 rfl, x_r51k attr 39 39 rfl, of_n8, x_r48 _ _ hn, x_r48 _ _ ha, x_r48 [] b (by decide)]
  refine i_new fun p hp => ?_
  simp (implicitDefEqProofs := false) only [sB, simprocAttr]
  refine i_new fun q hq => ?_
  have hq := nk1 hq
  have hpq : ¬ p = q := fun e => hq.1 e.symm
  by_cases h1 : n8 b = 62
  · simp (implicitDefEqProofs := false) only [sB, simprocAttr, hq, hpq, h1, stAV, x_r52, x_r47, x_r49, x_r50, x_r51, x_r51k attr 34 34 rfl, x_r51k attr 39 39 rfl, of_n8, x_r48 _ _ hn, x_r48 _ _ ha, x_r48 [] b (by decide)]
    exact leaf hK (by simp [tagR, stAV, h1]) hle2
  · simp (implicitDefEqProofs := false) only [sB, simprocAttr, hq, hpq, h1, stAV, x_r52, x_r47, x_r49, x_r50, x_r51, x_r51k attr 34 34 rfl, x_r51k attr 39 39 rfl, of_n8, x_r48 _ _ hn, x_r48 _ _ ha, x_r48 [] b (by decide)]
    refine i_new fun r hr => ?_
    have hr := nk2 hr
    have hqr : ¬ q = r := fun e => hr.1 e.symm
    have hpr : ¬ p = r := fun e => hr.2.1 e.symm
    simp (implicitDefEqProofs := false) only [sB, simprocAttr, hq, hpq, hr, hqr, hpr, h1, stAV, x_r52, x_r47, x_r49, x_r50, x_r51, x_r51k attr 34 34 rfl, x_r51k attr 39 39 rfl, of_n8, x_r48 _ _ hn, x_r48 _ _ ha, x_r48 [] b (by decide)]
    refine ⟨i_new fun u hu => ?_, i_new fun u hu => ?_⟩
    all_goals have hu := nk3 hu
    all_goals have hru : ¬ r = u := fun e => hu.1 e.symm
    all_goals have hqu : ¬ q = u := fun e => hu.2.1 e.symm
    all_goals have hpu : ¬ p = u := fun e => hu.2.2.1 e.symm
    all_goals simp (implicitDefEqProofs := false) only [sB, simprocAttr, hq, hpq, hr, hqr, hpr, hu, hru, hqu, hpu, h1, stAV, x_r52, x_r47, x_r49, x_r50, x_r51, x_r51k attr 34 34 rfl, x_r51k attr 39 39 rfl, of_n8, x_r48 _ _ hn, x_r48 _ _ ha, x_r48 [] b (by decide)]
    all_goals repeat' first
      | (refine leaf hK ?_ hle4; simp [tagR, stAV, quotedI_eq, *]; done)
      | (refine i_if ?_ ?_ <;> intro h <;> (try simp only [beq_true, beq_false, Bool.not_eq_true', Bool.not_eq_false', Bool.not_not, decide_eq_true_eq, decide_eq_false_iff_not, beq_iff_eq, bne_iff_ne, Bool.not_eq_true, Bool.not_eq_false, ne_eq, Bool.true_eq, Bool.false_eq] at h) <;> (try exact absurd h (by decide)) <;> (try simp (implicitDefEqProofs := false) only [sB, simprocAttr, stAV, x_r52, x_r47, x_r49, x_r50, x_r51, x_r51k attr 34 34 rfl, x_r51k attr 39 39 rfl, of_n8, x_r48 _ _ hn, x_r48 _ _ ha, x_r48 [] b (by decide), *]))
theorem w31_4 (P : Program) {name attr part : List UInt8} {b : UInt8} {H : Heap} (hn : name.length ≤ 16) (ha : attr.length ≤ 16) (K : Kv) (hK : ∀ H', Hle H H' → K.ap (stAV (tagR ⟨4, name, attr, part⟩ b)) H') : @xF (u2 P) f31 [stAV ⟨4, name, attr, part⟩, .int .u8 (n8 b)] H K := by
  simp (implicitDefEqProofs := false) only [sB, simprocAttr, f31, stAV, x_r52, x_r47, x_r49, x_r50, x_r51, x_r51k attr 34 34 rfl, x_r51k attr 39 39 rfl, of_n8, x_r48 _ _ hn, x_r48 _ _ ha, x_r48 [] b (by decide)]
  refine i_new fun p hp => ?_
  simp (implicitDefEqProofs := false) only [sB, simprocAttr]
  refine i_new fun q hq => ?_
  have hq := nk1 hq
  have hpq : ¬ p = q := fun e => hq.1 e.symm
  by_cases h1 : n8 b = 62
  · simp (implicitDefEqProofs := false) only [sB, simprocAttr, hq, hpq, h1, stAV, x_r52, x_r47, x_r49, x_r50, x_r51, x_r51k attr 34 34 rfl, x_r51k attr 39 39 rfl, of_n8, x_r48 _ _ hn, x_r48 _ _ ha, x_r48 [] b (by decide)]
    exact leaf hK (by simp [tagR, stAV, h1]) hle2
  · simp (implicitDefEqProofs := false) only [sB, simprocAttr, hq, hpq, h1, stAV, x_r52, x_r47, x_r49, x_r50, x_r51, x_r51k attr 34 34 rfl, x_r51k attr 39 39 rfl, of_n8, x_r48 _ _ hn, x_r48 _ _ ha, x_r48 [] b (by decide)]
    refine i_new fun r hr => ?_
    have hr := nk2 hr
    have hqr : ¬ q = r := fun e => hr.1 e.symm
    have hpr : ¬ p = r := fun e => hr.2.1 e.symm
    simp (implicitDefEqProofs := false) only [sB, simprocAttr, hq, hpq, hr, hqr, hpr, h1, stAV, x_r52, x_r47, x_r49, x_r50, x_r51, x_r51k attr 34 34 rfl, x_r51k attr 39 39 rfl, of_n8, x_r48 _ _ hn, x_r48 _ _ ha, x_r48 [] b (by decide)]
    refine ⟨i_new fun u hu => ?_, i_new fun u hu => ?_⟩
    all_goals have hu := nk3 hu
    all_goals have hru : ¬ r = u := fun e => hu.1 e.symm
    all_goals have hqu : ¬ q = u := fun e => hu.2.1 e.symm
    all_goals have hpu : ¬ p = u := fun e => hu.2.2.1 e.symm
    all_goals simp (implicitDefEqProofs := false) only [sB, simprocAttr, hq, hpq, hr, hqr, hpr, hu, hru, hqu, hpu, h1, stAV, x_r52, x_r47, x_r49, x_r50, x_r51, x_r51k attr 34 34 rfl, x_r51k attr 39 39 rfl, of_n8, x_r48 _ _ hn, x_r48 _ _ ha, x_r48 [] b (by decide)]
    all_goals repeat' first
      | (refine leaf hK ?_ hle4; simp [tagR, stAV, quotedI_eq, *]; done)
      | (refine i_if ?_ ?_ <;> intro h <;> (try simp only [beq_true, beq_false, Bool.not_eq_true', Bool.not_eq_false', Bool.not_not, decide_eq_true_eq, decide_eq_false_iff_not, beq_iff_eq, bne_iff_ne, Bool.not_eq_true, Bool.not_eq_false, ne_eq, Bool.true_eq, Bool.false_eq] at h) <;> (try exact absurd h (by decide)) <;> (try simp (implicitDefEqProofs := false) only [sB, simprocAttr, stAV, x_r52, x_r47, x_r49, x_r50, x_r51, x_r51k attr 34 34 rfl, x_r51k attr 39 39 rfl, of_n8, x_r48 _ _ hn, x_r48 _ _ ha, x_r48 [] b (by decide), *]))
theorem w31_5 (P : Program) {name attr part : List UInt8} {b : UInt8} {H : Heap} (hn : name.length ≤ 16) (ha : attr.length ≤ 16) (K : Kv) (hK : ∀ H', Hle H H' → K.ap (stAV (tagR ⟨5, name, attr, part⟩ b)) H') : @xF (u2 P) f31 [stAV ⟨5, name, attr, part⟩, .int .u8 (n8 b)] H K := by
  simp (implicitDefEqProofs := false) only [sB, simprocAttr, f31, stAV, x_r52, x_r47, x_r49, x_r50, x_r51, x_r51k attr 34 34 rfl, x_r51k attr 39 39 rfl, of_n8, x_r48 _ _ hn, x_r48 _ _ ha, x_r48 [] b (by decide)]
  refine i_new fun p hp => ?_
  simp (implicitDefEqProofs := false) only [sB, simprocAttr]
  refine i_new fun q hq => ?_
  have hq := nk1 hq
  have hpq : ¬ p = q := fun e => hq.1 e.symm
  by_cases h1 : n8 b = 62
  · simp (implicitDefEqProofs := false) only [sB, simprocAttr, hq, hpq, h1, stAV, x_r52, x_r47, x_r49, x_r50, x_r51, x_r51k attr 34 34 rfl, x_r51k attr 39 39 rfl, of_n8, x_r48 _ _ hn, x_r48 _ _ ha, x_r48 [] b (by decide)]
    exact leaf hK (by simp [tagR, stAV, h1]) hle2
  · simp (implicitDefEqProofs := false) only [sB, simprocAttr, hq, hpq, h1, stAV, x_r52, x_r47, x_r49, x_r50, x_r51, x_r51k attr 34 34 rfl, x_r51k attr 39 39 rfl, of_n8, x_r48 _ _ hn, x_r48 _ _ ha, x_r48 [] b (by decide)]
    refine i_new fun r hr => ?_
    have hr := nk2 hr
    have hqr : ¬ q = r := fun e => hr.1 e.symm
    have hpr : ¬ p = r := fun e => hr.2.1 e.symm
    simp (implicitDefEqProofs := false) only [sB, simprocAttr, hq, hpq, hr, hqr, hpr, h1, stAV, x_r52, x_r47, x_r49, x_r50, x_r51, x_r51k attr 34 34 rfl, x_r51k attr 39 39 rfl, of_n8, x_r48 _ _ hn, x_r48 _ _ ha, x_r48 [] b (by decide)]
    refine ⟨i_new fun u hu => ?_, i_new fun u hu => ?_⟩
    all_goals have hu := nk3 hu
    all_goals have hru : ¬ r = u := fun e => hu.1 e.symm
    all_goals have hqu : ¬ q = u := fun e => hu.2.1 e.symm
    all_goals have hpu : ¬ p = u := fun e => hu.2.2.1 e.symm
    all_goals simp (implicitDefEqProofs := false) only [sB, simprocAttr, hq, hpq, hr, hqr, hpr, hu, hru, hqu, hpu, h1, stAV, x_r52, x_r47, x_r49, x_r50, x_r51, x_r51k attr 34 34 rfl, x_r51k attr 39 39 rfl, of_n8, x_r48 _ _ hn, x_r48 _ _ ha, x_r48 [] b (by decide)]
    all_goals repeat' first
      | (refine leaf hK ?_ hle4; simp [tagR, stAV, quotedI_eq, *]; done)
      | (refine i_if ?_ ?_ <;> intro h <;> (try simp only [beq_true, beq_false, Bool.not_eq_true', Bool.not_eq_false', Bool.not_not, decide_eq_true_eq, decide_eq_false_iff_not, beq_iff_eq, bne_iff_ne, Bool.not_eq_true, Bool.not_eq_false, ne_eq, Bool.true_eq, Bool.false_eq] at h) <;> (try exact absurd h (by decide)) <;> (try simp (implicitDefEqProofs := false) only [sB, simprocAttr, stAV, x_r52, x_r47, x_r49, x_r50, x_r51, x_r51k attr 34 34 rfl, x_r51k attr 39 39 rfl, of_n8, x_r48 _ _ hn, x_r48 _ _ ha, x_r48 [] b (by decide), *]))
theorem w31_6 (P : Program) {name attr part : List UInt8} {b : UInt8} {H : Heap} (hn : name.length ≤ 16) (ha : attr.length ≤ 16) (K : Kv) (hK : ∀ H', Hle H H' → K.ap (stAV (tagR ⟨6, name, attr, part⟩ b)) H') : @xF (u2 P) f31 [stAV ⟨6, name, attr, part⟩, .int .u8 (n8 b)] H K := by
  simp (implicitDefEqProofs := false) only [sB, simprocAttr, f31, stAV, x_r52, x_r47, x_r49, x_r50, x_r51, x_r51k attr 34 34 rfl, x_r51k attr 39 39 rfl, of_n8, x_r48 _ _ hn, x_r48 _ _ ha, x_r48 [] b (by decide)]
  refine i_new fun p hp => ?_
  simp (implicitDefEqProofs := false) only [sB, simprocAttr]
  refine i_new fun q hq => ?_
  have hq := nk1 hq
  have hpq : ¬ p = q := fun e => hq.1 e.symm
  by_cases h1 : n8 b = 62
  · simp (implicitDefEqProofs := false) only [sB, simprocAttr, hq, hpq, h1, stAV, x_r52, x_r47, x_r49, x_r50, x_r51, x_r51k attr 34 34 rfl, x_r51k attr 39 39 rfl, of_n8, x_r48 _ _ hn, x_r48 _ _ ha, x_r48 [] b (by decide)]
    exact leaf hK (by simp [tagR, stAV, h1]) hle2
  · simp (implicitDefEqProofs := false) only [sB, simprocAttr, hq, hpq, h1, stAV, x_r52, x_r47, x_r49, x_r50, x_r51, x_r51k attr 34 34 rfl, x_r51k attr 39 39 rfl, of_n8, x_r48 _ _ hn, x_r48 _ _ ha, x_r48 [] b (by decide)]
    refine i_new fun r hr => ?_
    have hr := nk2 hr
    have hqr : ¬ q = r := fun e => hr.1 e.symm
    have hpr : ¬ p = r := fun e => hr.2.1 e.symm
    simp (implicitDefEqProofs := false) only [sB, simprocAttr, hq, hpq, hr, hqr, hpr, h1, stAV, x_r52, x_r47, x_r49, x_r50, x_r51, x_r51k attr 34 34 rfl, x_r51k attr 39 39 rfl, of_n8, x_r48 _ _ hn, x_r48 _ _ ha, x_r48 [] b (by decide)]
    refine ⟨i_new fun u hu => ?_, i_new fun u hu => ?_⟩
    all_goals have hu := nk3 hu
    all_goals have hru : ¬ r = u := fun e => hu.1 e.symm
    all_goals have hqu : ¬ q = u := fun e => hu.2.1 e.symm
    all_goals have hpu : ¬ p = u := fun e => hu.2.2.1 e.symm
    all_goals simp (implicitDefEqProofs := false) only [sB, simprocAttr, hq, hpq, hr, hqr, hpr, hu, hru, hqu, hpu, h1, stAV, x_r52, x_r47, x_r49, x_r50, x_r51, x_r51k attr 34 34 rfl, x_r51k attr 39 39 rfl, of_n8, x_r48 _ _ hn, x_r48 _ _ ha, x_r48 [] b (by decide)]
    all_goals repeat' first
      | (refine leaf hK ?_ hle4; simp [tagR, stAV, quotedI_eq, *]; done)
      | (refine i_if ?_ ?_ <;> intro h <;> (try simp only [beq_true, beq_false, Bool.not_eq_true', Bool.not_eq_false', Bool.not_not, decide_eq_true_eq, decide_eq_false_iff_not, beq_iff_eq, bne_iff_ne, Bool.not_eq_true, Bool.not_eq_false, ne_eq, Bool.true_eq, Bool.false_eq] at h) <;> (try exact absurd h (by decide)) <;> (try simp (implicitDefEqProofs := false) only [sB, simprocAttr, stAV, x_r52, x_r47, x_r49, x_r50, x_r51, x_r51k attr 34 34 rfl, x_r51k attr 39 39 rfl, of_n8, x_r48 _ _ hn, x_r48 _ _ ha, x_r48 [] b (by decide), *]))
theorem w31_7 (P : Program) {name attr part : List UInt8} {b : UInt8} {H : Heap} (hn : name.length ≤ 16) (ha : attr.length ≤ 16) (K : Kv) (hK : ∀ H', Hle H H' → K.ap (stAV (tagR ⟨7, name, attr, part⟩ b)) H') : @xF (u2 P) f31 [stAV ⟨7, name, attr, part⟩, .int .u8 (n8 b)] H K := by
  simp (implicitDefEqProofs := false) only [sB, simprocAttr, f31, stAV, x_r52, x_r47, x_r49, x_r50, x_r51, x_r51k attr 34 34 rfl, x_r51k attr 39 39 rfl, of_n8, x_r48 _ _ hn, x_r48 _ _ ha, x_r48 [] b (by decide)]
  refine i_new fun p hp => ?_
  simp (implicitDefEqProofs := false) only [sB, simprocAttr]
  refine i_new fun q hq => ?_
  have hq := nk1 hq
  have hpq : ¬ p = q := fun e => hq.1 e.symm
  by_cases h1 : n8 b = 62
  · simp (implicitDefEqProofs := false) only [sB, simprocAttr, hq, hpq, x_r48k [] b 62 h1 (by decide), h1, stAV, x_r52, x_r47, x_r49, x_r50, x_r51, x_r51k attr 34 34 rfl, x_r51k attr 39 39 rfl, of_n8, x_r48 _ _ hn, x_r48 _ _ ha, x_r48 [] b (by decide)]
    refine i_new fun r hr => ?_
    have hr := nk2 hr
    have hqr : ¬ q = r := fun e => hr.1 e.symm
    have hpr : ¬ p = r := fun e => hr.2.1 e.symm
    simp (implicitDefEqProofs := false) only [sB, simprocAttr, hq, hpq, hr, hqr, hpr, x_r48k [] b 62 h1 (by decide), h1, stAV, x_r52, x_r47, x_r49, x_r50, x_r51, x_r51k attr 34 34 rfl, x_r51k attr 39 39 rfl, of_n8, x_r48 _ _ hn, x_r48 _ _ ha, x_r48 [] b (by decide)]
    refine ⟨i_new fun u hu => ?_, i_new fun u hu => ?_⟩
    all_goals have hu := nk3 hu
    all_goals have hru : ¬ r = u := fun e => hu.1 e.symm
    all_goals have hqu : ¬ q = u := fun e => hu.2.1 e.symm
    all_goals have hpu : ¬ p = u := fun e => hu.2.2.1 e.symm
    all_goals simp (implicitDefEqProofs := false) only [sB, simprocAttr, hq, hpq, hr, hqr, hpr, hu, hru, hqu, hpu, x_r48k [] b 62 h1 (by decide), h1, stAV, x_r52, x_r47, x_r49, x_r50, x_r51, x_r51k attr 34 34 rfl, x_r51k attr 39 39 rfl, of_n8, x_r48 _ _ hn, x_r48 _ _ ha, x_r48 [] b (by decide)]
    all_goals repeat' first
      | (refine leaf hK ?_ hle4; simp [tagR, stAV, quotedI_eq, *]; done)
      | (refine i_if ?_ ?_ <;> intro h <;> (try simp only [beq_true, beq_false, Bool.not_eq_true', Bool.not_eq_false', Bool.not_not, decide_eq_true_eq, decide_eq_false_iff_not, beq_iff_eq, bne_iff_ne, Bool.not_eq_true, Bool.not_eq_false, ne_eq, Bool.true_eq, Bool.false_eq] at h) <;> (try exact absurd h (by decide)) <;> (try simp (implicitDefEqProofs := false) only [sB, simprocAttr, stAV, x_r52, x_r47, x_r49, x_r50, x_r51, x_r51k attr 34 34 rfl, x_r51k attr 39 39 rfl, of_n8, x_r48 _ _ hn, x_r48 _ _ ha, x_r48 [] b (by decide), *]))
  · simp (implicitDefEqProofs := false) only [sB, simprocAttr, hq, hpq, h1, stAV, x_r52, x_r47, x_r49, x_r50, x_r51, x_r51k attr 34 34 rfl, x_r51k attr 39 39 rfl, of_n8, x_r48 _ _ hn, x_r48 _ _ ha, x_r48 [] b (by decide)]
    refine i_new fun r hr => ?_
    have hr := nk2 hr
    have hqr : ¬ q = r := fun e => hr.1 e.symm
    have hpr : ¬ p = r := fun e => hr.2.1 e.symm
    simp (implicitDefEqProofs := false) only [sB, simprocAttr, hq, hpq, hr, hqr, hpr, h1, stAV, x_r52, x_r47, x_r49, x_r50, x_r51, x_r51k attr 34 34 rfl, x_r51k attr 39 39 rfl, of_n8, x_r48 _ _ hn, x_r48 _ _ ha, x_r48 [] b (by decide)]
    refine ⟨i_new fun u hu => ?_, i_new fun u hu => ?_⟩
    all_goals have hu := nk3 hu
    all_goals have hru : ¬ r = u := fun e => hu.1 e.symm
    all_goals have hqu : ¬ q = u := fun e => hu.2.1 e.symm
    all_goals have hpu : ¬ p = u := fun e => hu.2.2.1 e.symm
    all_goals simp (implicitDefEqProofs := false) only [sB, simprocAttr, hq, hpq, hr, hqr, hpr, hu, hru, hqu, hpu, h1, stAV, x_r52, x_r47, x_r49, x_r50, x_r51, x_r51k attr 34 34 rfl, x_r51k attr 39 39 rfl, of_n8, x_r48 _ _ hn, x_r48 _ _ ha, x_r48 [] b (by decide)]
    all_goals repeat' first
      | (refine leaf hK ?_ hle4; simp [tagR, stAV, quotedI_eq, *]; done)
      | (refine i_if ?_ ?_ <;> intro h <;> (try simp only [beq_true, beq_false, Bool.not_eq_true', Bool.not_eq_false', Bool.not_not, decide_eq_true_eq, decide_eq_false_iff_not, beq_iff_eq, bne_iff_ne, Bool.not_eq_true, Bool.not_eq_false, ne_eq, Bool.true_eq, Bool.false_eq] at h) <;> (try exact absurd h (by decide)) <;> (try simp (implicitDefEqProofs := false) only [sB, simprocAttr, stAV, x_r52, x_r47, x_r49, x_r50, x_r51, x_r51k attr 34 34 rfl, x_r51k attr 39 39 rfl, of_n8, x_r48 _ _ hn, x_r48 _ _ ha, x_r48 [] b (by decide), *]))
theorem w31_8 (P : Program) {name attr part : List UInt8} {b : UInt8} {H : Heap} (hn : name.length ≤ 16) (ha : attr.length ≤ 16) (K : Kv) (hK : ∀ H', Hle H H' → K.ap (stAV (tagR ⟨8, name, attr, part⟩ b)) H') : @xF (u2 P) f31 [stAV ⟨8, name, attr, part⟩, .int .u8 (n8 b)] H K := by
  simp (implicitDefEqProofs := false) only [sB, simprocAttr, f31, stAV, x_r52, x_r47, x_r49, x_r50, x_r51, x_r51k attr 34 34 rfl, x_r51k attr 39 39 rfl, of_n8, x_r48 _ _ hn, x_r48 _ _ ha, x_r48 [] b (by decide)]
  refine i_new fun p hp => ?_
  simp (implicitDefEqProofs := false) only [sB, simprocAttr]
  refine i_new fun q hq => ?_
  have hq := nk1 hq
  have hpq : ¬ p = q := fun e => hq.1 e.symm
  by_cases h1 : n8 b = 62
  · simp (implicitDefEqProofs := false) only [sB, simprocAttr, hq, hpq, x_r48k [] b 62 h1 (by decide), h1, stAV, x_r52, x_r47, x_r49, x_r50, x_r51, x_r51k attr 34 34 rfl, x_r51k attr 39 39 rfl, of_n8, x_r48 _ _ hn, x_r48 _ _ ha, x_r48 [] b (by decide)]
    refine i_new fun r hr => ?_
    have hr := nk2 hr
    have hqr : ¬ q = r := fun e => hr.1 e.symm
    have hpr : ¬ p = r := fun e => hr.2.1 e.symm
    simp (implicitDefEqProofs := false) only [sB, simprocAttr, hq, hpq, hr, hqr, hpr, x_r48k [] b 62 h1 (by decide), h1, stAV, x_r52, x_r47, x_r49, x_r50, x_r51, x_r51k attr 34 34 rfl, x_r51k attr 39 39 rfl, of_n8, x_r48 _ _ hn, x_r48 _ _ ha, x_r48 [] b (by decide)]
    refine ⟨i_new fun u hu => ?_, i_new fun u hu => ?_⟩
    all_goals have hu := nk3 hu
    all_goals have hru : ¬ r = u := fun e => hu.1 e.symm
    all_goals have hqu : ¬ q = u := fun e => hu.2.1 e.symm
    all_goals have hpu : ¬ p = u := fun e => hu.2.2.1 e.symm
    all_goals simp (implicitDefEqProofs := false) only [sB, simprocAttr, hq, hpq, hr, hqr, hpr, hu, hru, hqu, hpu, x_r48k [] b 62 h1 (by decide), h1, stAV, x_r52, x_r47, x_r49, x_r50, x_r51, x_r51k attr 34 34 rfl, x_r51k attr 39 39 rfl, of_n8, x_r48 _ _ hn, x_r48 _ _ ha, x_r48 [] b (by decide)]
    all_goals repeat' first
      | (refine leaf hK ?_ hle4; simp [tagR, stAV, quotedI_eq, *]; done)
      | (refine i_if ?_ ?_ <;> intro h <;> (try simp only [beq_true, beq_false, Bool.not_eq_true', Bool.not_eq_false', Bool.not_not, decide_eq_true_eq, decide_eq_false_iff_not, beq_iff_eq, bne_iff_ne, Bool.not_eq_true, Bool.not_eq_false, ne_eq, Bool.true_eq, Bool.false_eq] at h) <;> (try exact absurd h (by decide)) <;> (try simp (implicitDefEqProofs := false) only [sB, simprocAttr, stAV, x_r52, x_r47, x_r49, x_r50, x_r51, x_r51k attr 34 34 rfl, x_r51k attr 39 39 rfl, of_n8, x_r48 _ _ hn, x_r48 _ _ ha, x_r48 [] b (by decide), *]))
  · simp (implicitDefEqProofs := false) only [sB, simprocAttr, hq, hpq, h1, stAV, x_r52, x_r47, x_r49, x_r50, x_r51, x_r51k attr 34 34 rfl, x_r51k attr 39 39 rfl, of_n8, x_r48 _ _ hn, x_r48 _ _ ha, x_r48 [] b (by decide)]
    refine i_new fun r hr => ?_
    have hr := nk2 hr
    have hqr : ¬ q = r := fun e => hr.1 e.symm
    have hpr : ¬ p = r := fun e => hr.2.1 e.symm
    simp (implicitDefEqProofs := false) only [sB, simprocAttr, hq, hpq, hr, hqr, hpr, h1, stAV, x_r52, x_r47, x_r49, x_r50, x_r51, x_r51k attr 34 34 rfl, x_r51k attr 39 39 rfl, of_n8, x_r48 _ _ hn, x_r48 _ _ ha, x_r48 [] b (by decide)]
    refine ⟨i_new fun u hu => ?_, i_new fun u hu => ?_⟩
    all_goals have hu := nk3 hu
    all_goals have hru : ¬ r = u := fun e => hu.1 e.symm
    all_goals have hqu : ¬ q = u := fun e => hu.2.1 e.symm
    all_goals have hpu : ¬ p = u := fun e => hu.2.2.1 e.symm
    all_goals simp (implicitDefEqProofs := false) only [sB, simprocAttr, hq, hpq, hr, hqr, hpr, hu, hru, hqu, hpu, h1, stAV, x_r52, x_r47, x_r49, x_r50, x_r51, x_r51k attr 34 34 rfl, x_r51k attr 39 39 rfl, of_n8, x_r48 _ _ hn, x_r48 _ _ ha, x_r48 [] b (by decide)]
    all_goals repeat' first
      | (refine leaf hK ?_ hle4; simp [tagR, stAV, quotedI_eq, *]; done)
      | (refine i_if ?_ ?_ <;> intro h <;> (try simp only [beq_true, beq_false, Bool.not_eq_true', Bool.not_eq_false', Bool.not_not, decide_eq_true_eq, decide_eq_false_iff_not, beq_iff_eq, bne_iff_ne, Bool.not_eq_true, Bool.not_eq_false, ne_eq, Bool.true_eq, Bool.false_eq] at h) <;> (try exact absurd h (by decide)) <;> (try simp (implicitDefEqProofs := false) only [sB, simprocAttr, stAV, x_r52, x_r47, x_r49, x_r50, x_r51, x_r51k attr 34 34 rfl, x_r51k attr 39 39 rfl, of_n8, x_r48 _ _ hn, x_r48 _ _ ha, x_r48 [] b (by decide), *]))
theorem w31_9 (P : Program) {name attr part : List UInt8} {b : UInt8} {H : Heap} (hn : name.length ≤ 16) (ha : attr.length ≤ 16) (K : Kv) (hK : ∀ H', Hle H H' → K.ap (stAV (tagR ⟨9, name, attr, part⟩ b)) H') : @xF (u2 P) f31 [stAV ⟨9, name, attr, part⟩, .int .u8 (n8 b)] H K := by
  simp (implicitDefEqProofs := false) only [sB, simprocAttr, f31, stAV, x_r52, x_r47, x_r49, x_r50, x_r51, x_r51k attr 34 34 rfl, x_r51k attr 39 39 rfl, of_n8, x_r48 _ _ hn, x_r48 _ _ ha, x_r48 [] b (by decide)]
  refine i_new fun p hp => ?_
  simp (implicitDefEqProofs := false) only [sB, simprocAttr]
  refine i_new fun q hq => ?_
  have hq := nk1 hq
  have hpq : ¬ p = q := fun e => hq.1 e.symm
  by_cases h1 : n8 b = 62
  · simp (implicitDefEqProofs := false) only [sB, simprocAttr, hq, hpq, x_r48k [] b 62 h1 (by decide), h1, stAV, x_r52, x_r47, x_r49, x_r50, x_r51, x_r51k attr 34 34 rfl, x_r51k attr 39 39 rfl, of_n8, x_r48 _ _ hn, x_r48 _ _ ha, x_r48 [] b (by decide)]
    refine i_new fun r hr => ?_
    have hr := nk2 hr
    have hqr : ¬ q = r := fun e => hr.1 e.symm
    have hpr : ¬ p = r := fun e => hr.2.1 e.symm
    simp (implicitDefEqProofs := false) only [sB, simprocAttr, hq, hpq, hr, hqr, hpr, x_r48k [] b 62 h1 (by decide), h1, stAV, x_r52, x_r47, x_r49, x_r50, x_r51, x_r51k attr 34 34 rfl, x_r51k attr 39 39 rfl, of_n8, x_r48 _ _ hn, x_r48 _ _ ha, x_r48 [] b (by decide)]
    refine ⟨i_new fun u hu => ?_, i_new fun u hu => ?_⟩
    all_goals have hu := nk3 hu
    all_goals have hru : ¬ r = u := fun e => hu.1 e.symm
    all_goals have hqu : ¬ q = u := fun e => hu.2.1 e.symm
    all_goals have hpu : ¬ p = u := fun e => hu.2.2.1 e.symm
    all_goals simp (implicitDefEqProofs := false) only [sB, simprocAttr, hq, hpq, hr, hqr, hpr, hu, hru, hqu, hpu, x_r48k [] b 62 h1 (by decide), h1, stAV, x_r52, x_r47, x_r49, x_r50, x_r51, x_r51k attr 34 34 rfl, x_r51k attr 39 39 rfl, of_n8, x_r48 _ _ hn, x_r48 _ _ ha, x_r48 [] b (by decide)]
    all_goals repeat' first
      | (refine leaf hK ?_ hle4; simp [tagR, stAV, quotedI_eq, *]; done)
      | (refine i_if ?_ ?_ <;> intro h <;> (try simp only [beq_true, beq_false, Bool.not_eq_true', Bool.not_eq_false', Bool.not_not, decide_eq_true_eq, decide_eq_false_iff_not, beq_iff_eq, bne_iff_ne, Bool.not_eq_true, Bool.not_eq_false, ne_eq, Bool.true_eq, Bool.false_eq] at h) <;> (try exact absurd h (by decide)) <;> (try simp (implicitDefEqProofs := false) only [sB, simprocAttr, stAV, x_r52, x_r47, x_r49, x_r50, x_r51, x_r51k attr 34 34 rfl, x_r51k attr 39 39 rfl, of_n8, x_r48 _ _ hn, x_r48 _ _ ha, x_r48 [] b (by decide), *]))
  · simp (implicitDefEqProofs := false) only [sB, simprocAttr, hq, hpq, h1, stAV, x_r52, x_r47, x_r49, x_r50, x_r51, x_r51k attr 34 34 rfl, x_r51k attr 39 39 rfl, of_n8, x_r48 _ _ hn, x_r48 _ _ ha, x_r48 [] b (by decide)]
    refine i_new fun r hr => ?_
    have hr := nk2 hr
    have hqr : ¬ q = r := fun e => hr.1 e.symm
    have hpr : ¬ p = r := fun e => hr.2.1 e.symm
    simp (implicitDefEqProofs := false) only [sB, simprocAttr, hq, hpq, hr, hqr, hpr, h1, stAV, x_r52, x_r47, x_r49, x_r50, x_r51, x_r51k attr 34 34 rfl, x_r51k attr 39 39 rfl, of_n8, x_r48 _ _ hn, x_r48 _ _ ha, x_r48 [] b (by decide)]
    refine ⟨i_new fun u hu => ?_, i_new fun u hu => ?_⟩
    all_goals have hu := nk3 hu
    all_goals have hru : ¬ r = u := fun e => hu.1 e.symm
    all_goals have hqu : ¬ q = u := fun e => hu.2.1 e.symm
    all_goals have hpu : ¬ p = u := fun e => hu.2.2.1 e.symm
    all_goals simp (implicitDefEqProofs := false) only [sB, simprocAttr, hq, hpq, hr, hqr, hpr, hu, hru, hqu, hpu, h1, stAV, x_r52, x_r47, x_r49, x_r50, x_r51, x_r51k attr 34 34 rfl, x_r51k attr 39 39 rfl, of_n8, x_r48 _ _ hn, x_r48 _ _ ha, x_r48 [] b (by decide)]
    all_goals repeat' first
      | (refine leaf hK ?_ hle4; simp [tagR, stAV, quotedI_eq, *]; done)
      | (refine i_if ?_ ?_ <;> intro h <;> (try simp only [beq_true, beq_false, Bool.not_eq_true', Bool.not_eq_false', Bool.not_not, decide_eq_true_eq, decide_eq_false_iff_not, beq_iff_eq, bne_iff_ne, Bool.not_eq_true, Bool.not_eq_false, ne_eq, Bool.true_eq, Bool.false_eq] at h) <;> (try exact absurd h (by decide)) <;> (try simp (implicitDefEqProofs := false) only [sB, simprocAttr, stAV, x_r52, x_r47, x_r49, x_r50, x_r51, x_r51k attr 34 34 rfl, x_r51k attr 39 39 rfl, of_n8, x_r48 _ _ hn, x_r48 _ _ ha, x_r48 [] b (by decide), *]))
theorem w31_10 (P : Program) {name attr part : List UInt8} {b : UInt8} {H : Heap} (hn : name.length ≤ 16) (ha : attr.length ≤ 16) (K : Kv) (hK : ∀ H', Hle H H' → K.ap (stAV (tagR ⟨10, name, attr, part⟩ b)) H') : @xF (u2 P) f31 [stAV ⟨10, name, attr, part⟩, .int .u8 (n8 b)] H K := by
  simp (implicitDefEqProofs := false) only [sB, simprocAttr, f31, stAV, x_r52, x_r47, x_r49, x_r50, x_r51, x_r51k attr 34 34 rfl, x_r51k attr 39 39 rfl, of_n8, x_r48 _ _ hn, x_r48 _ _ ha, x_r48 [] b (by decide)]
  refine i_new fun p hp => ?_
  simp (implicitDefEqProofs := false) only [sB, simprocAttr]
  refine i_new fun q hq => ?_
  have hq := nk1 hq
  have hpq : ¬ p = q := fun e => hq.1 e.symm
  by_cases h1 : n8 b = 62
  · simp (implicitDefEqProofs := false) only [sB, simprocAttr, hq, hpq, x_r48k [] b 62 h1 (by decide), h1, stAV, x_r52, x_r47, x_r49, x_r50, x_r51, x_r51k attr 34 34 rfl, x_r51k attr 39 39 rfl, of_n8, x_r48 _ _ hn, x_r48 _ _ ha, x_r48 [] b (by decide)]
    refine i_new fun r hr => ?_
    have hr := nk2 hr
    have hqr : ¬ q = r := fun e => hr.1 e.symm
    have hpr : ¬ p = r := fun e => hr.2.1 e.symm
    simp (implicitDefEqProofs := false) only [sB, simprocAttr, hq, hpq, hr, hqr, hpr, x_r48k [] b 62 h1 (by decide), h1, stAV, x_r52, x_r47, x_r49, x_r50, x_r51, x_r51k attr 34 34 rfl, x_r51k attr 39 39 rfl, of_n8, x_r48 _ _ hn, x_r48 _ _ ha, x_r48 [] b (by decide)]
    refine ⟨i_new fun u hu => ?_, i_new fun u hu => ?_⟩
    all_goals have hu := nk3 hu
    all_goals have hru : ¬ r = u := fun e => hu.1 e.symm
    all_goals have hqu : ¬ q = u := fun e => hu.2.1 e.symm
    all_goals have hpu : ¬ p = u := fun e => hu.2.2.1 e.symm
    all_goals simp (implicitDefEqProofs := false) only [sB, simprocAttr, hq, hpq, hr, hqr, hpr, hu, hru, hqu, hpu, x_r48k [] b 62 h1 (by decide), h1, stAV, x_r52, x_r47, x_r49, x_r50, x_r51, x_r51k attr 34 34 rfl, x_r51k attr 39 39 rfl, of_n8, x_r48 _ _ hn, x_r48 _ _ ha, x_r48 [] b (by decide)]
    all_goals repeat' first
      | (refine leaf hK ?_ hle4; simp [tagR, stAV, quotedI_eq, *]; done)
      | (refine i_if ?_ ?_ <;> intro h <;> (try simp only [beq_true, beq_false, Bool.not_eq_true', Bool.not_eq_false', Bool.not_not, decide_eq_true_eq, decide_eq_false_iff_not, beq_iff_eq, bne_iff_ne, Bool.not_eq_true, Bool.not_eq_false, ne_eq, Bool.true_eq, Bool.false_eq] at h) <;> (try exact absurd h (by decide)) <;> (try simp (implicitDefEqProofs := false) only [sB, simprocAttr, stAV, x_r52, x_r47, x_r49, x_r50, x_r51, x_r51k attr 34 34 rfl, x_r51k attr 39 39 rfl, of_n8, x_r48 _ _ hn, x_r48 _ _ ha, x_r48 [] b (by decide), *]))
  · simp (implicitDefEqProofs := false) only [sB, simprocAttr, hq, hpq, h1, stAV, x_r52, x_r47, x_r49, x_r50, x_r51, x_r51k attr 34 34 rfl, x_r51k attr 39 39 rfl, of_n8, x_r48 _ _ hn, x_r48 _ _ ha, x_r48 [] b (by decide)]
    refine i_new fun r hr => ?_
    have hr := nk2 hr
    have hqr : ¬ q = r := fun e => hr.1 e.symm
    have hpr : ¬ p = r := fun e => hr.2.1 e.symm
    simp (implicitDefEqProofs := false) only [sB, simprocAttr, hq, hpq, hr, hqr, hpr, h1, stAV, x_r52, x_r47, x_r49, x_r50, x_r51, x_r51k attr 34 34 rfl, x_r51k attr 39 39 rfl, of_n8, x_r48 _ _ hn, x_r48 _ _ ha, x_r48 [] b (by decide)]
    refine ⟨i_new fun u hu => ?_, i_new fun u hu => ?_⟩
    all_goals have hu := nk3 hu
    all_goals have hru : ¬ r = u := fun e => hu.1 e.symm
    all_goals have hqu : ¬ q = u := fun e => hu.2.1 e.symm
    all_goals have hpu : ¬ p = u := fun e => hu.2.2.1 e.symm
    all_goals simp (implicitDefEqProofs := false) only [sB, simprocAttr, hq, hpq, hr, hqr, hpr, hu, hru, hqu, hpu, h1, stAV, x_r52, x_r47, x_r49, x_r50, x_r51, x_r51k attr 34 34 rfl, x_r51k attr 39 39 rfl, of_n8, x_r48 _ _ hn, x_r48 _ _ ha, x_r48 [] b (by decide)]
    all_goals repeat' first
      | (refine leaf hK ?_ hle4; simp [tagR, stAV, quotedI_eq, *]; done)
      | (refine i_if ?_ ?_ <;> intro h <;> (try simp only [beq_true, beq_false, Bool.not_eq_true', Bool.not_eq_false', Bool.not_not, decide_eq_true_eq, decide_eq_false_iff_not, beq_iff_eq, bne_iff_ne, Bool.not_eq_true, Bool.not_eq_false, ne_eq, Bool.true_eq, Bool.false_eq] at h) <;> (try exact absurd h (by decide)) <;> (try simp (implicitDefEqProofs := false) only [sB, simprocAttr, stAV, x_r52, x_r47, x_r49, x_r50, x_r51, x_r51k attr 34 34 rfl, x_r51k attr 39 39 rfl, of_n8, x_r48 _ _ hn, x_r48 _ _ ha, x_r48 [] b (by decide), *]))
theorem w31_11 (P : Program) {name attr part : List UInt8} {b : UInt8} {H : Heap} (hn : name.length ≤ 16) (ha : attr.length ≤ 16) (K : Kv) (hK : ∀ H', Hle H H' → K.ap (stAV (tagR ⟨11, name, attr, part⟩ b)) H') : @xF (u2 P) f31 [stAV ⟨11, name, attr, part⟩, .int .u8 (n8 b)] H K := by
  simp (implicitDefEqProofs := false) only [sB, simprocAttr, f31, stAV, x_r52, x_r47, x_r49, x_r50, x_r51, x_r51k attr 34 34 rfl, x_r51k attr 39 39 rfl, of_n8, x_r48 _ _ hn, x_r48 _ _ ha, x_r48 [] b (by decide)]
  refine i_new fun p hp => ?_
  simp (implicitDefEqProofs := false) only [sB, simprocAttr]
  refine i_new fun q hq => ?_
  have hq := nk1 hq
  have hpq : ¬ p = q := fun e => hq.1 e.symm
  by_cases h1 : n8 b = 62
  · simp (implicitDefEqProofs := false) only [sB, simprocAttr, hq, hpq, x_r48k [] b 62 h1 (by decide), h1, stAV, x_r52, x_r47, x_r49, x_r50, x_r51, x_r51k attr 34 34 rfl, x_r51k attr 39 39 rfl, of_n8, x_r48 _ _ hn, x_r48 _ _ ha, x_r48 [] b (by decide)]
    refine i_new fun r hr => ?_
    have hr := nk2 hr
    have hqr : ¬ q = r := fun e => hr.1 e.symm
    have hpr : ¬ p = r := fun e => hr.2.1 e.symm
    simp (implicitDefEqProofs := false) only [sB, simprocAttr, hq, hpq, hr, hqr, hpr, x_r48k [] b 62 h1 (by decide), h1, stAV, x_r52, x_r47, x_r49, x_r50, x_r51, x_r51k attr 34 34 rfl, x_r51k attr 39 39 rfl, of_n8, x_r48 _ _ hn, x_r48 _ _ ha, x_r48 [] b (by decide)]
    refine ⟨i_new fun u hu => ?_, i_new fun u hu => ?_⟩
    all_goals have hu := nk3 hu
    all_goals have hru : ¬ r = u := fun e => hu.1 e.symm
    all_goals have hqu : ¬ q = u := fun e => hu.2.1 e.symm
    all_goals have hpu : ¬ p = u := fun e => hu.2.2.1 e.symm
    all_goals simp (implicitDefEqProofs := false) only [sB, simprocAttr, hq, hpq, hr, hqr, hpr, hu, hru, hqu, hpu, x_r48k [] b 62 h1 (by decide), h1, stAV, x_r52, x_r47, x_r49, x_r50, x_r51, x_r51k attr 34 34 rfl, x_r51k attr 39 39 rfl, of_n8, x_r48 _ _ hn, x_r48 _ _ ha, x_r48 [] b (by decide)]
    all_goals repeat' first
      | (refine leaf hK ?_ hle4; simp [tagR, stAV, quotedI_eq, *]; done)
      | (refine i_if ?_ ?_ <;> intro h <;> (try simp only [beq_true, beq_false, Bool.not_eq_true', Bool.not_eq_false', Bool.not_not, decide_eq_true_eq, decide_eq_false_iff_not, beq_iff_eq, bne_iff_ne, Bool.not_eq_true, Bool.not_eq_false, ne_eq, Bool.true_eq, Bool.false_eq] at h) <;> (try exact absurd h (by decide)) <;> (try simp (implicitDefEqProofs := false) only [sB, simprocAttr, stAV, x_r52, x_r47, x_r49, x_r50, x_r51, x_r51k attr 34 34 rfl, x_r51k attr 39 39 rfl, of_n8, x_r48 _ _ hn, x_r48 _ _ ha, x_r48 [] b (by decide), *]))
  · simp (implicitDefEqProofs := false) only [sB, simprocAttr, hq, hpq, h1, stAV, x_r52, x_r47, x_r49, x_r50, x_r51, x_r51k attr 34 34 rfl, x_r51k attr 39 39 rfl, of_n8, x_r48 _ _ hn, x_r48 _ _ ha, x_r48 [] b (by decide)]
    refine i_new fun r hr => ?_
    have hr := nk2 hr
    have hqr : ¬ q = r := fun e => hr.1 e.symm
    have hpr : ¬ p = r := fun e => hr.2.1 e.symm
    simp (implicitDefEqProofs := false) only [sB, simprocAttr, hq, hpq, hr, hqr, hpr, h1, stAV, x_r52, x_r47, x_r49, x_r50, x_r51, x_r51k attr 34 34 rfl, x_r51k attr 39 39 rfl, of_n8, x_r48 _ _ hn, x_r48 _ _ ha, x_r48 [] b (by decide)]
    refine ⟨i_new fun u hu => ?_, i_new fun u hu => ?_⟩
    all_goals have hu := nk3 hu
    all_goals have hru : ¬ r = u := fun e => hu.1 e.symm
    all_goals have hqu : ¬ q = u := fun e => hu.2.1 e.symm
    all_goals have hpu : ¬ p = u := fun e => hu.2.2.1 e.symm
    all_goals simp (implicitDefEqProofs := false) only [sB, simprocAttr, hq, hpq, hr, hqr, hpr, hu, hru, hqu, hpu, h1, stAV, x_r52, x_r47, x_r49, x_r50, x_r51, x_r51k attr 34 34 rfl, x_r51k attr 39 39 rfl, of_n8, x_r48 _ _ hn, x_r48 _ _ ha, x_r48 [] b (by decide)]
    all_goals repeat' first
      | (refine leaf hK ?_ hle4; simp [tagR, stAV, quotedI_eq, *]; done)
      | (refine i_if ?_ ?_ <;> intro h <;> (try simp only [beq_true, beq_false, Bool.not_eq_true', Bool.not_eq_false', Bool.not_not, decide_eq_true_eq, decide_eq_false_iff_not, beq_iff_eq, bne_iff_ne, Bool.not_eq_true, Bool.not_eq_false, ne_eq, Bool.true_eq, Bool.false_eq] at h) <;> (try exact absurd h (by decide)) <;> (try simp (implicitDefEqProofs := false) only [sB, simprocAttr, stAV, x_r52, x_r47, x_r49, x_r50, x_r51, x_r51k attr 34 34 rfl, x_r51k attr 39 39 rfl, of_n8, x_r48 _ _ hn, x_r48 _ _ ha, x_r48 [] b (by decide), *]))
theorem w31_12 (P : Program) {name attr part : List UInt8} {b : UInt8} {H : Heap} (hn : name.length ≤ 16) (ha : attr.length ≤ 16) (K : Kv) (hK : ∀ H', Hle H H' → K.ap (stAV (tagR ⟨12, name, attr, part⟩ b)) H') : @xF (u2 P) f31 [stAV ⟨12, name, attr, part⟩, .int .u8 (n8 b)] H K := by
  simp (implicitDefEqProofs := false) only [sB, simprocAttr, f31, stAV, x_r52, x_r47, x_r49, x_r50, x_r51, x_r51k attr 34 34 rfl, x_r51k attr 39 39 rfl, of_n8, x_r48 _ _ hn, x_r48 _ _ ha, x_r48 [] b (by decide)]
  refine i_new fun p hp => ?_
  simp (implicitDefEqProofs := false) only [sB, simprocAttr]
  refine i_new fun q hq => ?_
  have hq := nk1 hq
  have hpq : ¬ p = q := fun e => hq.1 e.symm
  by_cases h1 : n8 b = 62
  · simp (implicitDefEqProofs := false) only [sB, simprocAttr, hq, hpq, x_r48k [] b 62 h1 (by decide), h1, stAV, x_r52, x_r47, x_r49, x_r50, x_r51, x_r51k attr 34 34 rfl, x_r51k attr 39 39 rfl, of_n8, x_r48 _ _ hn, x_r48 _ _ ha, x_r48 [] b (by decide)]
    refine i_new fun r hr => ?_
    have hr := nk2 hr
    have hqr : ¬ q = r := fun e => hr.1 e.symm
    have hpr : ¬ p = r := fun e => hr.2.1 e.symm
    simp (implicitDefEqProofs := false) only [sB, simprocAttr, hq, hpq, hr, hqr, hpr, x_r48k [] b 62 h1 (by decide), h1, stAV, x_r52, x_r47, x_r49, x_r50, x_r51, x_r51k attr 34 34 rfl, x_r51k attr 39 39 rfl, of_n8, x_r48 _ _ hn, x_r48 _ _ ha, x_r48 [] b (by decide)]
    refine ⟨i_new fun u hu => ?_, i_new fun u hu => ?_⟩
    all_goals have hu := nk3 hu
    all_goals have hru : ¬ r = u := fun e => hu.1 e.symm
    all_goals have hqu : ¬ q = u := fun e => hu.2.1 e.symm
    all_goals have hpu : ¬ p = u := fun e => hu.2.2.1 e.symm
    all_goals simp (implicitDefEqProofs := false) only [sB, simprocAttr, hq, hpq, hr, hqr, hpr, hu, hru, hqu, hpu, x_r48k [] b 62 h1 (by decide), h1, stAV, x_r52, x_r47, x_r49, x_r50, x_r51, x_r51k attr 34 34 rfl, x_r51k attr 39 39 rfl, of_n8, x_r48 _ _ hn, x_r48 _ _ ha, x_r48 [] b (by decide)]
    all_goals repeat' first
      | (refine leaf hK ?_ hle4; simp [tagR, stAV, quotedI_eq, *]; done)
      | (refine i_if ?_ ?_ <;> intro h <;> (try simp only [beq_true, beq_false, Bool.not_eq_true', Bool.not_eq_false', Bool.not_not, decide_eq_true_eq, decide_eq_false_iff_not, beq_iff_eq, bne_iff_ne, Bool.not_eq_true, Bool.not_eq_false, ne_eq, Bool.true_eq, Bool.false_eq] at h) <;> (try exact absurd h (by decide)) <;> (try simp (implicitDefEqProofs := false) only [sB, simprocAttr, stAV, x_r52, x_r47, x_r49, x_r50, x_r51, x_r51k attr 34 34 rfl, x_r51k attr 39 39 rfl, of_n8, x_r48 _ _ hn, x_r48 _ _ ha, x_r48 [] b (by decide), *]))
  · simp (implicitDefEqProofs := false) only [sB, simprocAttr, hq, hpq, h1, stAV, x_r52, x_r47, x_r49, x_r50, x_r51, x_r51k attr 34 34 rfl, x_r51k attr 39 39 rfl, of_n8, x_r48 _ _ hn, x_r48 _ _ ha, x_r48 [] b (by decide)]
    refine i_new fun r hr => ?_
    have hr := nk2 hr
    have hqr : ¬ q = r := fun e => hr.1 e.symm
    have hpr : ¬ p = r := fun e => hr.2.1 e.symm
    simp (implicitDefEqProofs := false) only [sB, simprocAttr, hq, hpq, hr, hqr, hpr, h1, stAV, x_r52, x_r47, x_r49, x_r50, x_r51, x_r51k attr 34 34 rfl, x_r51k attr 39 39 rfl, of_n8, x_r48 _ _ hn, x_r48 _ _ ha, x_r48 [] b (by decide)]
    refine ⟨i_new fun u hu => ?_, i_new fun u hu => ?_⟩
    all_goals have hu := nk3 hu
    all_goals have hru : ¬ r = u := fun e => hu.1 e.symm
    all_goals have hqu : ¬ q = u := fun e => hu.2.1 e.symm
    all_goals have hpu : ¬ p = u := fun e => hu.2.2.1 e.symm
    all_goals simp (implicitDefEqProofs := false) only [sB, simprocAttr, hq, hpq, hr, hqr, hpr, hu, hru, hqu, hpu, h1, stAV, x_r52, x_r47, x_r49, x_r50, x_r51, x_r51k attr 34 34 rfl, x_r51k attr 39 39 rfl, of_n8, x_r48 _ _ hn, x_r48 _ _ ha, x_r48 [] b (by decide)]
    all_goals repeat' first
      | (refine leaf hK ?_ hle4; simp [tagR, stAV, quotedI_eq, *]; done)
      | (refine i_if ?_ ?_ <;> intro h <;> (try simp only [beq_true, beq_false, Bool.not_eq_true', Bool.not_eq_false', Bool.not_not, decide_eq_true_eq, decide_eq_false_iff_not, beq_iff_eq, bne_iff_ne, Bool.not_eq_true, Bool.not_eq_false, ne_eq, Bool.true_eq, Bool.false_eq] at h) <;> (try exact absurd h (by decide)) <;> (try simp (implicitDefEqProofs := false) only [sB, simprocAttr, stAV, x_r52, x_r47, x_r49, x_r50, x_r51, x_r51k attr 34 34 rfl, x_r51k attr 39 39 rfl, of_n8, x_r48 _ _ hn, x_r48 _ _ ha, x_r48 [] b (by decide), *]))
end Go.AL.Fun
