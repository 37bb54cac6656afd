/- The reference automaton: raw text, walked. -/
import Derived.Test.YtjlmonghelbihaaH13
set_option linter.unusedSimpArgs false
set_option linter.unusedVariables false
set_option maxRecDepth 100000
set_option maxHeartbeats 2000000
namespace Go.AL.Fun
open Go Go.AL

theorem w33_16 (P : Program) {name attr part : List UInt8} {b : UInt8} {H : Heap} (hl : part.length ≤ 16) (K : Kv) (hK : ∀ H', Hle H H' → K.ap (stAV (rawR ⟨16, name, attr, part⟩ b)) H') : @xF (u2 P) f33 [stAV ⟨16, name, attr, part⟩, .int .u8 (n8 b)] H K := by
  simp (implicitDefEqProofs := false) only [sB, simprocAttr, f33, stAV, x_r52, of_n8, byteAV_n8, w_i64 17 (by decide) (by decide), w_i64 18 (by decide) (by decide)]
  refine i_new fun p hp => ?_
  simp (implicitDefEqProofs := false) only [sB, simprocAttr]
  refine i_new fun q hq => ?_
  have hq := nk1 hq
  have hpq : ¬ p = q := fun e => hq.1 e.symm
  by_cases p0 : part = []
  · subst p0
    simp (implicitDefEqProofs := false) only [sB, simprocAttr, hq, hpq, stAV, x_r52, of_n8, byteAV_n8, w_i64 17 (by decide) (by decide), w_i64 18 (by decide) (by decide)]
    all_goals repeat' first
      | (refine leaf hK ?_ hle2; simp [rawR, stAV, scriptE, *]; done)
      | (refine i_if ?_ ?_ <;> intro h <;> (try simp only [beq_true, beq_false, Bool.not_eq_true', Bool.not_eq_false', Bool.not_not, decide_eq_true_eq, decide_eq_false_iff_not, beq_iff_eq, bne_iff_ne, Bool.not_eq_true, Bool.not_eq_false, ne_eq, Bool.true_eq, Bool.false_eq] at h) <;> (try exact absurd h (by decide)) <;> (try simp (implicitDefEqProofs := false) only [sB, simprocAttr, stAV, x_r52, of_n8, byteAV_n8, w_i64 17 (by decide) (by decide), w_i64 18 (by decide) (by decide), *]))
  · obtain ⟨x, l, rfl⟩ := List.exists_cons_of_ne_nil p0
    by_cases x0 : n8 x = 60
    · have x60 : x = 60 := n8_inj x0
      have x92 : ¬ x = 92 := fun h => absurd (x60.symm.trans h) (by decide)
      have l0 : (0 : Int) ≤ ((l.length + 1 : Nat) : Int) := by omega
      by_cases ll : ((l.length + 1 : Nat) : Int) < 8
      · obtain ⟨y, hy⟩ : ∃ y, ([47, 115, 99, 114, 105, 112, 116] : List UInt8)[l.length]? = some y := ⟨_, List.getElem?_eq_getElem (by simp; omega)⟩
        by_cases ey : n8 y = n8 (lowB b)
        · have ey' : y = lowB b := n8_inj ey
          subst ey'
          simp (implicitDefEqProofs := false) only [sB, simprocAttr, hq, hpq, l0, x0, x92, ll, hy, stAV, x_r52, of_n8, byteAV_n8, w_i64 17 (by decide) (by decide), w_i64 18 (by decide) (by decide)]
          refine i_new fun r hr => ?_
          have hr := nk2 hr
          have hqr : ¬ q = r := fun e => hr.1 e.symm
          have hpr : ¬ p = r := fun e => hr.2.1 e.symm
          simp (implicitDefEqProofs := false) only [sB, simprocAttr, hq, hpq, hr, hqr, hpr, l0, x0, x92, ll, hy, stAV, x_r52, of_n8, byteAV_n8, w_i64 17 (by decide) (by decide), w_i64 18 (by decide) (by decide)]
          have lln : l.length + 1 < 8 := by omega
          have hyG : ([47, 115, 99, 114, 105, 112, 116] : List UInt8)[l.length]'(by simp; omega) = lowB b := by rw [List.getElem?_eq_getElem (by simp; omega)] at hy; exact Option.some.inj hy
          by_cases cE : l ++ [lowB b] = [47, 115, 99, 114, 105, 112, 116]
          · simp (implicitDefEqProofs := false) only [sB, simprocAttr, hq, hpq, hr, hqr, hpr, x60, cE, stAV, x_r52, of_n8, byteAV_n8, w_i64 17 (by decide) (by decide), w_i64 18 (by decide) (by decide)]
            exact ⟨by omega, leaf hK (by simp [rawR, stAV, scriptE, x60, lln, hyG, cE]) hle3⟩
          · simp (implicitDefEqProofs := false) only [sB, simprocAttr, hq, hpq, hr, hqr, hpr, x60, cE, stAV, x_r52, of_n8, byteAV_n8, w_i64 17 (by decide) (by decide), w_i64 18 (by decide) (by decide)]
            exact ⟨by omega, leaf hK (by simp [rawR, stAV, scriptE, x60, lln, hyG, cE]) hle3⟩
        · have lln : l.length + 1 < 8 := by omega
          have hyG : ([47, 115, 99, 114, 105, 112, 116] : List UInt8)[l.length]'(by simp; omega) = y := by rw [List.getElem?_eq_getElem (by simp; omega)] at hy; exact Option.some.inj hy
          have ey' : ¬ y = lowB b := fun h => ey (by rw [h])
          simp (implicitDefEqProofs := false) only [sB, simprocAttr, hq, hpq, l0, x0, x92, ll, hy, ey, stAV, x_r52, of_n8, byteAV_n8, w_i64 17 (by decide) (by decide), w_i64 18 (by decide) (by decide)]
          all_goals repeat' first
            | (refine leaf hK ?_ hle2; simp [rawR, stAV, scriptE, l0, x0, x92, ll, hy, ey, ey', x60, lln, hyG, *]; done)
            | (refine i_if ?_ ?_ <;> intro h <;> (try simp only [beq_true, beq_false, Bool.not_eq_true', Bool.not_eq_false', Bool.not_not, decide_eq_true_eq, decide_eq_false_iff_not, beq_iff_eq, bne_iff_ne, Bool.not_eq_true, Bool.not_eq_false, ne_eq, Bool.true_eq, Bool.false_eq] at h) <;> (try exact absurd h (by decide)) <;> (try simp (implicitDefEqProofs := false) only [sB, simprocAttr, stAV, x_r52, of_n8, byteAV_n8, w_i64 17 (by decide) (by decide), w_i64 18 (by decide) (by decide), *]))
      · have lln : ¬ l.length + 1 < 8 := by omega
        simp (implicitDefEqProofs := false) only [sB, simprocAttr, hq, hpq, l0, x0, x92, ll, stAV, x_r52, of_n8, byteAV_n8, w_i64 17 (by decide) (by decide), w_i64 18 (by decide) (by decide)]
        all_goals repeat' first
          | (refine leaf hK ?_ hle2; simp [rawR, stAV, scriptE, l0, x0, x92, ll, x60, lln, *]; done)
          | (refine i_if ?_ ?_ <;> intro h <;> (try simp only [beq_true, beq_false, Bool.not_eq_true', Bool.not_eq_false', Bool.not_not, decide_eq_true_eq, decide_eq_false_iff_not, beq_iff_eq, bne_iff_ne, Bool.not_eq_true, Bool.not_eq_false, ne_eq, Bool.true_eq, Bool.false_eq] at h) <;> (try exact absurd h (by decide)) <;> (try simp (implicitDefEqProofs := false) only [sB, simprocAttr, stAV, x_r52, of_n8, byteAV_n8, w_i64 17 (by decide) (by decide), w_i64 18 (by decide) (by decide), *]))
    · have x0' : ¬ x = 60 := fun h => x0 (by rw [h]; rfl)
      simp (implicitDefEqProofs := false) only [sB, simprocAttr, hq, hpq, x0, stAV, x_r52, of_n8, byteAV_n8, w_i64 17 (by decide) (by decide), w_i64 18 (by decide) (by decide)]
      all_goals repeat' first
        | (refine leaf hK ?_ hle2; simp [rawR, stAV, scriptE, x0, x0', *]; done)
        | (refine i_if ?_ ?_ <;> intro h <;> (try simp only [beq_true, beq_false, Bool.not_eq_true', Bool.not_eq_false', Bool.not_not, decide_eq_true_eq, decide_eq_false_iff_not, beq_iff_eq, bne_iff_ne, Bool.not_eq_true, Bool.not_eq_false, ne_eq, Bool.true_eq, Bool.false_eq] at h) <;> (try exact absurd h (by decide)) <;> (try simp (implicitDefEqProofs := false) only [sB, simprocAttr, stAV, x_r52, of_n8, byteAV_n8, w_i64 17 (by decide) (by decide), w_i64 18 (by decide) (by decide), *]))

theorem w33_17 (P : Program) {name attr part : List UInt8} {b : UInt8} {H : Heap} (hl : part.length ≤ 16) (K : Kv) (hK : ∀ H', Hle H H' → K.ap (stAV (rawR ⟨17, name, attr, part⟩ b)) H') : @xF (u2 P) f33 [stAV ⟨17, name, attr, part⟩, .int .u8 (n8 b)] H K := by
  simp (implicitDefEqProofs := false) only [sB, simprocAttr, f33, stAV, x_r52, of_n8, byteAV_n8, w_i64 17 (by decide) (by decide), w_i64 18 (by decide) (by decide)]
  refine i_new fun p hp => ?_
  simp (implicitDefEqProofs := false) only [sB, simprocAttr]
  refine i_new fun q hq => ?_
  have hq := nk1 hq
  have hpq : ¬ p = q := fun e => hq.1 e.symm
  by_cases p0 : part = []
  · subst p0
    simp (implicitDefEqProofs := false) only [sB, simprocAttr, hq, hpq, stAV, x_r52, of_n8, byteAV_n8, w_i64 17 (by decide) (by decide), w_i64 18 (by decide) (by decide)]
    all_goals repeat' first
      | (refine leaf hK ?_ hle2; simp [rawR, stAV, scriptE, *]; done)
      | (refine i_if ?_ ?_ <;> intro h <;> (try simp only [beq_true, beq_false, Bool.not_eq_true', Bool.not_eq_false', Bool.not_not, decide_eq_true_eq, decide_eq_false_iff_not, beq_iff_eq, bne_iff_ne, Bool.not_eq_true, Bool.not_eq_false, ne_eq, Bool.true_eq, Bool.false_eq] at h) <;> (try exact absurd h (by decide)) <;> (try simp (implicitDefEqProofs := false) only [sB, simprocAttr, stAV, x_r52, of_n8, byteAV_n8, w_i64 17 (by decide) (by decide), w_i64 18 (by decide) (by decide), *]))
  · obtain ⟨x, l, rfl⟩ := List.exists_cons_of_ne_nil p0
    by_cases x0 : n8 x = 60
    · have x60 : x = 60 := n8_inj x0
      have x92 : ¬ x = 92 := fun h => absurd (x60.symm.trans h) (by decide)
      have l0 : (0 : Int) ≤ ((l.length + 1 : Nat) : Int) := by omega
      by_cases ll : ((l.length + 1 : Nat) : Int) < 8
      · obtain ⟨y, hy⟩ : ∃ y, ([47, 115, 99, 114, 105, 112, 116] : List UInt8)[l.length]? = some y := ⟨_, List.getElem?_eq_getElem (by simp; omega)⟩
        by_cases ey : n8 y = n8 (lowB b)
        · have ey' : y = lowB b := n8_inj ey
          subst ey'
          simp (implicitDefEqProofs := false) only [sB, simprocAttr, hq, hpq, l0, x0, x92, ll, hy, stAV, x_r52, of_n8, byteAV_n8, w_i64 17 (by decide) (by decide), w_i64 18 (by decide) (by decide)]
          refine i_new fun r hr => ?_
          have hr := nk2 hr
          have hqr : ¬ q = r := fun e => hr.1 e.symm
          have hpr : ¬ p = r := fun e => hr.2.1 e.symm
          simp (implicitDefEqProofs := false) only [sB, simprocAttr, hq, hpq, hr, hqr, hpr, l0, x0, x92, ll, hy, stAV, x_r52, of_n8, byteAV_n8, w_i64 17 (by decide) (by decide), w_i64 18 (by decide) (by decide)]
          have lln : l.length + 1 < 8 := by omega
          have hyG : ([47, 115, 99, 114, 105, 112, 116] : List UInt8)[l.length]'(by simp; omega) = lowB b := by rw [List.getElem?_eq_getElem (by simp; omega)] at hy; exact Option.some.inj hy
          by_cases cE : l ++ [lowB b] = [47, 115, 99, 114, 105, 112, 116]
          · simp (implicitDefEqProofs := false) only [sB, simprocAttr, hq, hpq, hr, hqr, hpr, x60, cE, stAV, x_r52, of_n8, byteAV_n8, w_i64 17 (by decide) (by decide), w_i64 18 (by decide) (by decide)]
            exact ⟨by omega, leaf hK (by simp [rawR, stAV, scriptE, x60, lln, hyG, cE]) hle3⟩
          · simp (implicitDefEqProofs := false) only [sB, simprocAttr, hq, hpq, hr, hqr, hpr, x60, cE, stAV, x_r52, of_n8, byteAV_n8, w_i64 17 (by decide) (by decide), w_i64 18 (by decide) (by decide)]
            exact ⟨by omega, leaf hK (by simp [rawR, stAV, scriptE, x60, lln, hyG, cE]) hle3⟩
        · have lln : l.length + 1 < 8 := by omega
          have hyG : ([47, 115, 99, 114, 105, 112, 116] : List UInt8)[l.length]'(by simp; omega) = y := by rw [List.getElem?_eq_getElem (by simp; omega)] at hy; exact Option.some.inj hy
          have ey' : ¬ y = lowB b := fun h => ey (by rw [h])
          simp (implicitDefEqProofs := false) only [sB, simprocAttr, hq, hpq, l0, x0, x92, ll, hy, ey, stAV, x_r52, of_n8, byteAV_n8, w_i64 17 (by decide) (by decide), w_i64 18 (by decide) (by decide)]
          all_goals repeat' first
            | (refine leaf hK ?_ hle2; simp [rawR, stAV, scriptE, l0, x0, x92, ll, hy, ey, ey', x60, lln, hyG, *]; done)
            | (refine i_if ?_ ?_ <;> intro h <;> (try simp only [beq_true, beq_false, Bool.not_eq_true', Bool.not_eq_false', Bool.not_not, decide_eq_true_eq, decide_eq_false_iff_not, beq_iff_eq, bne_iff_ne, Bool.not_eq_true, Bool.not_eq_false, ne_eq, Bool.true_eq, Bool.false_eq] at h) <;> (try exact absurd h (by decide)) <;> (try simp (implicitDefEqProofs := false) only [sB, simprocAttr, stAV, x_r52, of_n8, byteAV_n8, w_i64 17 (by decide) (by decide), w_i64 18 (by decide) (by decide), *]))
      · have lln : ¬ l.length + 1 < 8 := by omega
        simp (implicitDefEqProofs := false) only [sB, simprocAttr, hq, hpq, l0, x0, x92, ll, stAV, x_r52, of_n8, byteAV_n8, w_i64 17 (by decide) (by decide), w_i64 18 (by decide) (by decide)]
        all_goals repeat' first
          | (refine leaf hK ?_ hle2; simp [rawR, stAV, scriptE, l0, x0, x92, ll, x60, lln, *]; done)
          | (refine i_if ?_ ?_ <;> intro h <;> (try simp only [beq_true, beq_false, Bool.not_eq_true', Bool.not_eq_false', Bool.not_not, decide_eq_true_eq, decide_eq_false_iff_not, beq_iff_eq, bne_iff_ne, Bool.not_eq_true, Bool.not_eq_false, ne_eq, Bool.true_eq, Bool.false_eq] at h) <;> (try exact absurd h (by decide)) <;> (try simp (implicitDefEqProofs := false) only [sB, simprocAttr, stAV, x_r52, of_n8, byteAV_n8, w_i64 17 (by decide) (by decide), w_i64 18 (by decide) (by decide), *]))
    · have x0' : ¬ x = 60 := fun h => x0 (by rw [h]; rfl)
      simp (implicitDefEqProofs := false) only [sB, simprocAttr, hq, hpq, x0, stAV, x_r52, of_n8, byteAV_n8, w_i64 17 (by decide) (by decide), w_i64 18 (by decide) (by decide)]
      all_goals repeat' first
        | (refine leaf hK ?_ hle2; simp [rawR, stAV, scriptE, x0, x0', *]; done)
        | (refine i_if ?_ ?_ <;> intro h <;> (try simp only [beq_true, beq_false, Bool.not_eq_true', Bool.not_eq_false', Bool.not_not, decide_eq_true_eq, decide_eq_false_iff_not, beq_iff_eq, bne_iff_ne, Bool.not_eq_true, Bool.not_eq_false, ne_eq, Bool.true_eq, Bool.false_eq] at h) <;> (try exact absurd h (by decide)) <;> (try simp (implicitDefEqProofs := false) only [sB, simprocAttr, stAV, x_r52, of_n8, byteAV_n8, w_i64 17 (by decide) (by decide), w_i64 18 (by decide) (by decide), *]))

theorem w33_18 (P : Program) {name attr part : List UInt8} {b : UInt8} {H : Heap} (hl : part.length ≤ 16) (K : Kv) (hK : ∀ H', Hle H H' → K.ap (stAV (rawR ⟨18, name, attr, part⟩ b)) H') : @xF (u2 P) f33 [stAV ⟨18, name, attr, part⟩, .int .u8 (n8 b)] H K := by
  simp (implicitDefEqProofs := false) only [sB, simprocAttr, f33, stAV, x_r52, of_n8, byteAV_n8, w_i64 17 (by decide) (by decide), w_i64 18 (by decide) (by decide)]
  refine i_new fun p hp => ?_
  simp (implicitDefEqProofs := false) only [sB, simprocAttr]
  refine i_new fun q hq => ?_
  have hq := nk1 hq
  have hpq : ¬ p = q := fun e => hq.1 e.symm
  by_cases p0 : part = []
  · subst p0
    simp (implicitDefEqProofs := false) only [sB, simprocAttr, hq, hpq, stAV, x_r52, of_n8, byteAV_n8, w_i64 17 (by decide) (by decide), w_i64 18 (by decide) (by decide)]
    all_goals repeat' first
      | (refine leaf hK ?_ hle2; simp [rawR, stAV, scriptE, *]; done)
      | (refine i_if ?_ ?_ <;> intro h <;> (try simp only [beq_true, beq_false, Bool.not_eq_true', Bool.not_eq_false', Bool.not_not, decide_eq_true_eq, decide_eq_false_iff_not, beq_iff_eq, bne_iff_ne, Bool.not_eq_true, Bool.not_eq_false, ne_eq, Bool.true_eq, Bool.false_eq] at h) <;> (try exact absurd h (by decide)) <;> (try simp (implicitDefEqProofs := false) only [sB, simprocAttr, stAV, x_r52, of_n8, byteAV_n8, w_i64 17 (by decide) (by decide), w_i64 18 (by decide) (by decide), *]))
  · obtain ⟨x, l, rfl⟩ := List.exists_cons_of_ne_nil p0
    by_cases x0 : n8 x = 60
    · have x60 : x = 60 := n8_inj x0
      have x92 : ¬ x = 92 := fun h => absurd (x60.symm.trans h) (by decide)
      have l0 : (0 : Int) ≤ ((l.length + 1 : Nat) : Int) := by omega
      by_cases ll : ((l.length + 1 : Nat) : Int) < 8
      · obtain ⟨y, hy⟩ : ∃ y, ([47, 115, 99, 114, 105, 112, 116] : List UInt8)[l.length]? = some y := ⟨_, List.getElem?_eq_getElem (by simp; omega)⟩
        by_cases ey : n8 y = n8 (lowB b)
        · have ey' : y = lowB b := n8_inj ey
          subst ey'
          simp (implicitDefEqProofs := false) only [sB, simprocAttr, hq, hpq, l0, x0, x92, ll, hy, stAV, x_r52, of_n8, byteAV_n8, w_i64 17 (by decide) (by decide), w_i64 18 (by decide) (by decide)]
          refine i_new fun r hr => ?_
          have hr := nk2 hr
          have hqr : ¬ q = r := fun e => hr.1 e.symm
          have hpr : ¬ p = r := fun e => hr.2.1 e.symm
          simp (implicitDefEqProofs := false) only [sB, simprocAttr, hq, hpq, hr, hqr, hpr, l0, x0, x92, ll, hy, stAV, x_r52, of_n8, byteAV_n8, w_i64 17 (by decide) (by decide), w_i64 18 (by decide) (by decide)]
          have lln : l.length + 1 < 8 := by omega
          have hyG : ([47, 115, 99, 114, 105, 112, 116] : List UInt8)[l.length]'(by simp; omega) = lowB b := by rw [List.getElem?_eq_getElem (by simp; omega)] at hy; exact Option.some.inj hy
          by_cases cE : l ++ [lowB b] = [47, 115, 99, 114, 105, 112, 116]
          · simp (implicitDefEqProofs := false) only [sB, simprocAttr, hq, hpq, hr, hqr, hpr, x60, cE, stAV, x_r52, of_n8, byteAV_n8, w_i64 17 (by decide) (by decide), w_i64 18 (by decide) (by decide)]
            exact ⟨by omega, leaf hK (by simp [rawR, stAV, scriptE, x60, lln, hyG, cE]) hle3⟩
          · simp (implicitDefEqProofs := false) only [sB, simprocAttr, hq, hpq, hr, hqr, hpr, x60, cE, stAV, x_r52, of_n8, byteAV_n8, w_i64 17 (by decide) (by decide), w_i64 18 (by decide) (by decide)]
            exact ⟨by omega, leaf hK (by simp [rawR, stAV, scriptE, x60, lln, hyG, cE]) hle3⟩
        · have lln : l.length + 1 < 8 := by omega
          have hyG : ([47, 115, 99, 114, 105, 112, 116] : List UInt8)[l.length]'(by simp; omega) = y := by rw [List.getElem?_eq_getElem (by simp; omega)] at hy; exact Option.some.inj hy
          have ey' : ¬ y = lowB b := fun h => ey (by rw [h])
          simp (implicitDefEqProofs := false) only [sB, simprocAttr, hq, hpq, l0, x0, x92, ll, hy, ey, stAV, x_r52, of_n8, byteAV_n8, w_i64 17 (by decide) (by decide), w_i64 18 (by decide) (by decide)]
          all_goals repeat' first
            | (refine leaf hK ?_ hle2; simp [rawR, stAV, scriptE, l0, x0, x92, ll, hy, ey, ey', x60, lln, hyG, *]; done)
            | (refine i_if ?_ ?_ <;> intro h <;> (try simp only [beq_true, beq_false, Bool.not_eq_true', Bool.not_eq_false', Bool.not_not, decide_eq_true_eq, decide_eq_false_iff_not, beq_iff_eq, bne_iff_ne, Bool.not_eq_true, Bool.not_eq_false, ne_eq, Bool.true_eq, Bool.false_eq] at h) <;> (try exact absurd h (by decide)) <;> (try simp (implicitDefEqProofs := false) only [sB, simprocAttr, stAV, x_r52, of_n8, byteAV_n8, w_i64 17 (by decide) (by decide), w_i64 18 (by decide) (by decide), *]))
      · have lln : ¬ l.length + 1 < 8 := by omega
        simp (implicitDefEqProofs := false) only [sB, simprocAttr, hq, hpq, l0, x0, x92, ll, stAV, x_r52, of_n8, byteAV_n8, w_i64 17 (by decide) (by decide), w_i64 18 (by decide) (by decide)]
        all_goals repeat' first
          | (refine leaf hK ?_ hle2; simp [rawR, stAV, scriptE, l0, x0, x92, ll, x60, lln, *]; done)
          | (refine i_if ?_ ?_ <;> intro h <;> (try simp only [beq_true, beq_false, Bool.not_eq_true', Bool.not_eq_false', Bool.not_not, decide_eq_true_eq, decide_eq_false_iff_not, beq_iff_eq, bne_iff_ne, Bool.not_eq_true, Bool.not_eq_false, ne_eq, Bool.true_eq, Bool.false_eq] at h) <;> (try exact absurd h (by decide)) <;> (try simp (implicitDefEqProofs := false) only [sB, simprocAttr, stAV, x_r52, of_n8, byteAV_n8, w_i64 17 (by decide) (by decide), w_i64 18 (by decide) (by decide), *]))
    · have x0' : ¬ x = 60 := fun h => x0 (by rw [h]; rfl)
      simp (implicitDefEqProofs := false) only [sB, simprocAttr, hq, hpq, x0, stAV, x_r52, of_n8, byteAV_n8, w_i64 17 (by decide) (by decide), w_i64 18 (by decide) (by decide)]
      all_goals repeat' first
        | (refine leaf hK ?_ hle2; simp [rawR, stAV, scriptE, x0, x0', *]; done)
        | (refine i_if ?_ ?_ <;> intro h <;> (try simp only [beq_true, beq_false, Bool.not_eq_true', Bool.not_eq_false', Bool.not_not, decide_eq_true_eq, decide_eq_false_iff_not, beq_iff_eq, bne_iff_ne, Bool.not_eq_true, Bool.not_eq_false, ne_eq, Bool.true_eq, Bool.false_eq] at h) <;> (try exact absurd h (by decide)) <;> (try simp (implicitDefEqProofs := false) only [sB, simprocAttr, stAV, x_r52, of_n8, byteAV_n8, w_i64 17 (by decide) (by decide), w_i64 18 (by decide) (by decide), *]))

theorem w33_19 (P : Program) {name attr part : List UInt8} {b : UInt8} {H : Heap} (hl : part.length ≤ 16) (K : Kv) (hK : ∀ H', Hle H H' → K.ap (stAV (rawR ⟨19, name, attr, part⟩ b)) H') : @xF (u2 P) f33 [stAV ⟨19, name, attr, part⟩, .int .u8 (n8 b)] H K := by
  simp (implicitDefEqProofs := false) only [sB, simprocAttr, f33, stAV, x_r52, of_n8, byteAV_n8, w_i64 20 (by decide) (by decide), w_i64 21 (by decide) (by decide)]
  refine i_new fun p hp => ?_
  simp (implicitDefEqProofs := false) only [sB, simprocAttr]
  refine i_new fun q hq => ?_
  have hq := nk1 hq
  have hpq : ¬ p = q := fun e => hq.1 e.symm
  by_cases p0 : part = []
  · subst p0
    simp (implicitDefEqProofs := false) only [sB, simprocAttr, hq, hpq, stAV, x_r52, of_n8, byteAV_n8, w_i64 20 (by decide) (by decide), w_i64 21 (by decide) (by decide)]
    all_goals repeat' first
      | (refine leaf hK ?_ hle2; simp [rawR, stAV, styleE, *]; done)
      | (refine i_if ?_ ?_ <;> intro h <;> (try simp only [beq_true, beq_false, Bool.not_eq_true', Bool.not_eq_false', Bool.not_not, decide_eq_true_eq, decide_eq_false_iff_not, beq_iff_eq, bne_iff_ne, Bool.not_eq_true, Bool.not_eq_false, ne_eq, Bool.true_eq, Bool.false_eq] at h) <;> (try exact absurd h (by decide)) <;> (try simp (implicitDefEqProofs := false) only [sB, simprocAttr, stAV, x_r52, of_n8, byteAV_n8, w_i64 20 (by decide) (by decide), w_i64 21 (by decide) (by decide), *]))
  · obtain ⟨x, l, rfl⟩ := List.exists_cons_of_ne_nil p0
    by_cases x0 : n8 x = 60
    · have x60 : x = 60 := n8_inj x0
      have x92 : ¬ x = 92 := fun h => absurd (x60.symm.trans h) (by decide)
      have l0 : (0 : Int) ≤ ((l.length + 1 : Nat) : Int) := by omega
      by_cases ll : ((l.length + 1 : Nat) : Int) < 7
      · obtain ⟨y, hy⟩ : ∃ y, ([47, 115, 116, 121, 108, 101] : List UInt8)[l.length]? = some y := ⟨_, List.getElem?_eq_getElem (by simp; omega)⟩
        by_cases ey : n8 y = n8 (lowB b)
        · have ey' : y = lowB b := n8_inj ey
          subst ey'
          simp (implicitDefEqProofs := false) only [sB, simprocAttr, hq, hpq, l0, x0, x92, ll, hy, stAV, x_r52, of_n8, byteAV_n8, w_i64 20 (by decide) (by decide), w_i64 21 (by decide) (by decide)]
          refine i_new fun r hr => ?_
          have hr := nk2 hr
          have hqr : ¬ q = r := fun e => hr.1 e.symm
          have hpr : ¬ p = r := fun e => hr.2.1 e.symm
          simp (implicitDefEqProofs := false) only [sB, simprocAttr, hq, hpq, hr, hqr, hpr, l0, x0, x92, ll, hy, stAV, x_r52, of_n8, byteAV_n8, w_i64 20 (by decide) (by decide), w_i64 21 (by decide) (by decide)]
          have lln : l.length + 1 < 7 := by omega
          have hyG : ([47, 115, 116, 121, 108, 101] : List UInt8)[l.length]'(by simp; omega) = lowB b := by rw [List.getElem?_eq_getElem (by simp; omega)] at hy; exact Option.some.inj hy
          by_cases cE : l ++ [lowB b] = [47, 115, 116, 121, 108, 101]
          · simp (implicitDefEqProofs := false) only [sB, simprocAttr, hq, hpq, hr, hqr, hpr, x60, cE, stAV, x_r52, of_n8, byteAV_n8, w_i64 20 (by decide) (by decide), w_i64 21 (by decide) (by decide)]
            exact ⟨by omega, leaf hK (by simp [rawR, stAV, styleE, x60, lln, hyG, cE]) hle3⟩
          · simp (implicitDefEqProofs := false) only [sB, simprocAttr, hq, hpq, hr, hqr, hpr, x60, cE, stAV, x_r52, of_n8, byteAV_n8, w_i64 20 (by decide) (by decide), w_i64 21 (by decide) (by decide)]
            exact ⟨by omega, leaf hK (by simp [rawR, stAV, styleE, x60, lln, hyG, cE]) hle3⟩
        · have lln : l.length + 1 < 7 := by omega
          have hyG : ([47, 115, 116, 121, 108, 101] : List UInt8)[l.length]'(by simp; omega) = y := by rw [List.getElem?_eq_getElem (by simp; omega)] at hy; exact Option.some.inj hy
          have ey' : ¬ y = lowB b := fun h => ey (by rw [h])
          simp (implicitDefEqProofs := false) only [sB, simprocAttr, hq, hpq, l0, x0, x92, ll, hy, ey, stAV, x_r52, of_n8, byteAV_n8, w_i64 20 (by decide) (by decide), w_i64 21 (by decide) (by decide)]
          all_goals repeat' first
            | (refine leaf hK ?_ hle2; simp [rawR, stAV, styleE, l0, x0, x92, ll, hy, ey, ey', x60, lln, hyG, *]; done)
            | (refine i_if ?_ ?_ <;> intro h <;> (try simp only [beq_true, beq_false, Bool.not_eq_true', Bool.not_eq_false', Bool.not_not, decide_eq_true_eq, decide_eq_false_iff_not, beq_iff_eq, bne_iff_ne, Bool.not_eq_true, Bool.not_eq_false, ne_eq, Bool.true_eq, Bool.false_eq] at h) <;> (try exact absurd h (by decide)) <;> (try simp (implicitDefEqProofs := false) only [sB, simprocAttr, stAV, x_r52, of_n8, byteAV_n8, w_i64 20 (by decide) (by decide), w_i64 21 (by decide) (by decide), *]))
      · have lln : ¬ l.length + 1 < 7 := by omega
        simp (implicitDefEqProofs := false) only [sB, simprocAttr, hq, hpq, l0, x0, x92, ll, stAV, x_r52, of_n8, byteAV_n8, w_i64 20 (by decide) (by decide), w_i64 21 (by decide) (by decide)]
        all_goals repeat' first
          | (refine leaf hK ?_ hle2; simp [rawR, stAV, styleE, l0, x0, x92, ll, x60, lln, *]; done)
          | (refine i_if ?_ ?_ <;> intro h <;> (try simp only [beq_true, beq_false, Bool.not_eq_true', Bool.not_eq_false', Bool.not_not, decide_eq_true_eq, decide_eq_false_iff_not, beq_iff_eq, bne_iff_ne, Bool.not_eq_true, Bool.not_eq_false, ne_eq, Bool.true_eq, Bool.false_eq] at h) <;> (try exact absurd h (by decide)) <;> (try simp (implicitDefEqProofs := false) only [sB, simprocAttr, stAV, x_r52, of_n8, byteAV_n8, w_i64 20 (by decide) (by decide), w_i64 21 (by decide) (by decide), *]))
    · have x0' : ¬ x = 60 := fun h => x0 (by rw [h]; rfl)
      simp (implicitDefEqProofs := false) only [sB, simprocAttr, hq, hpq, x0, stAV, x_r52, of_n8, byteAV_n8, w_i64 20 (by decide) (by decide), w_i64 21 (by decide) (by decide)]
      all_goals repeat' first
        | (refine leaf hK ?_ hle2; simp [rawR, stAV, styleE, x0, x0', *]; done)
        | (refine i_if ?_ ?_ <;> intro h <;> (try simp only [beq_true, beq_false, Bool.not_eq_true', Bool.not_eq_false', Bool.not_not, decide_eq_true_eq, decide_eq_false_iff_not, beq_iff_eq, bne_iff_ne, Bool.not_eq_true, Bool.not_eq_false, ne_eq, Bool.true_eq, Bool.false_eq] at h) <;> (try exact absurd h (by decide)) <;> (try simp (implicitDefEqProofs := false) only [sB, simprocAttr, stAV, x_r52, of_n8, byteAV_n8, w_i64 20 (by decide) (by decide), w_i64 21 (by decide) (by decide), *]))

theorem w33_20 (P : Program) {name attr part : List UInt8} {b : UInt8} {H : Heap} (hl : part.length ≤ 16) (K : Kv) (hK : ∀ H', Hle H H' → K.ap (stAV (rawR ⟨20, name, attr, part⟩ b)) H') : @xF (u2 P) f33 [stAV ⟨20, name, attr, part⟩, .int .u8 (n8 b)] H K := by
  simp (implicitDefEqProofs := false) only [sB, simprocAttr, f33, stAV, x_r52, of_n8, byteAV_n8, w_i64 20 (by decide) (by decide), w_i64 21 (by decide) (by decide)]
  refine i_new fun p hp => ?_
  simp (implicitDefEqProofs := false) only [sB, simprocAttr]
  refine i_new fun q hq => ?_
  have hq := nk1 hq
  have hpq : ¬ p = q := fun e => hq.1 e.symm
  by_cases p0 : part = []
  · subst p0
    simp (implicitDefEqProofs := false) only [sB, simprocAttr, hq, hpq, stAV, x_r52, of_n8, byteAV_n8, w_i64 20 (by decide) (by decide), w_i64 21 (by decide) (by decide)]
    all_goals repeat' first
      | (refine leaf hK ?_ hle2; simp [rawR, stAV, styleE, *]; done)
      | (refine i_if ?_ ?_ <;> intro h <;> (try simp only [beq_true, beq_false, Bool.not_eq_true', Bool.not_eq_false', Bool.not_not, decide_eq_true_eq, decide_eq_false_iff_not, beq_iff_eq, bne_iff_ne, Bool.not_eq_true, Bool.not_eq_false, ne_eq, Bool.true_eq, Bool.false_eq] at h) <;> (try exact absurd h (by decide)) <;> (try simp (implicitDefEqProofs := false) only [sB, simprocAttr, stAV, x_r52, of_n8, byteAV_n8, w_i64 20 (by decide) (by decide), w_i64 21 (by decide) (by decide), *]))
  · obtain ⟨x, l, rfl⟩ := List.exists_cons_of_ne_nil p0
    by_cases x0 : n8 x = 60
    · have x60 : x = 60 := n8_inj x0
      have x92 : ¬ x = 92 := fun h => absurd (x60.symm.trans h) (by decide)
      have l0 : (0 : Int) ≤ ((l.length + 1 : Nat) : Int) := by omega
      by_cases ll : ((l.length + 1 : Nat) : Int) < 7
      · obtain ⟨y, hy⟩ : ∃ y, ([47, 115, 116, 121, 108, 101] : List UInt8)[l.length]? = some y := ⟨_, List.getElem?_eq_getElem (by simp; omega)⟩
        by_cases ey : n8 y = n8 (lowB b)
        · have ey' : y = lowB b := n8_inj ey
          subst ey'
          simp (implicitDefEqProofs := false) only [sB, simprocAttr, hq, hpq, l0, x0, x92, ll, hy, stAV, x_r52, of_n8, byteAV_n8, w_i64 20 (by decide) (by decide), w_i64 21 (by decide) (by decide)]
          refine i_new fun r hr => ?_
          have hr := nk2 hr
          have hqr : ¬ q = r := fun e => hr.1 e.symm
          have hpr : ¬ p = r := fun e => hr.2.1 e.symm
          simp (implicitDefEqProofs := false) only [sB, simprocAttr, hq, hpq, hr, hqr, hpr, l0, x0, x92, ll, hy, stAV, x_r52, of_n8, byteAV_n8, w_i64 20 (by decide) (by decide), w_i64 21 (by decide) (by decide)]
          have lln : l.length + 1 < 7 := by omega
          have hyG : ([47, 115, 116, 121, 108, 101] : List UInt8)[l.length]'(by simp; omega) = lowB b := by rw [List.getElem?_eq_getElem (by simp; omega)] at hy; exact Option.some.inj hy
          by_cases cE : l ++ [lowB b] = [47, 115, 116, 121, 108, 101]
          · simp (implicitDefEqProofs := false) only [sB, simprocAttr, hq, hpq, hr, hqr, hpr, x60, cE, stAV, x_r52, of_n8, byteAV_n8, w_i64 20 (by decide) (by decide), w_i64 21 (by decide) (by decide)]
            exact ⟨by omega, leaf hK (by simp [rawR, stAV, styleE, x60, lln, hyG, cE]) hle3⟩
          · simp (implicitDefEqProofs := false) only [sB, simprocAttr, hq, hpq, hr, hqr, hpr, x60, cE, stAV, x_r52, of_n8, byteAV_n8, w_i64 20 (by decide) (by decide), w_i64 21 (by decide) (by decide)]
            exact ⟨by omega, leaf hK (by simp [rawR, stAV, styleE, x60, lln, hyG, cE]) hle3⟩
        · have lln : l.length + 1 < 7 := by omega
          have hyG : ([47, 115, 116, 121, 108, 101] : List UInt8)[l.length]'(by simp; omega) = y := by rw [List.getElem?_eq_getElem (by simp; omega)] at hy; exact Option.some.inj hy
          have ey' : ¬ y = lowB b := fun h => ey (by rw [h])
          simp (implicitDefEqProofs := false) only [sB, simprocAttr, hq, hpq, l0, x0, x92, ll, hy, ey, stAV, x_r52, of_n8, byteAV_n8, w_i64 20 (by decide) (by decide), w_i64 21 (by decide) (by decide)]
          all_goals repeat' first
            | (refine leaf hK ?_ hle2; simp [rawR, stAV, styleE, l0, x0, x92, ll, hy, ey, ey', x60, lln, hyG, *]; done)
            | (refine i_if ?_ ?_ <;> intro h <;> (try simp only [beq_true, beq_false, Bool.not_eq_true', Bool.not_eq_false', Bool.not_not, decide_eq_true_eq, decide_eq_false_iff_not, beq_iff_eq, bne_iff_ne, Bool.not_eq_true, Bool.not_eq_false, ne_eq, Bool.true_eq, Bool.false_eq] at h) <;> (try exact absurd h (by decide)) <;> (try simp (implicitDefEqProofs := false) only [sB, simprocAttr, stAV, x_r52, of_n8, byteAV_n8, w_i64 20 (by decide) (by decide), w_i64 21 (by decide) (by decide), *]))
      · have lln : ¬ l.length + 1 < 7 := by omega
        simp (implicitDefEqProofs := false) only [sB, simprocAttr, hq, hpq, l0, x0, x92, ll, stAV, x_r52, of_n8, byteAV_n8, w_i64 20 (by decide) (by decide), w_i64 21 (by decide) (by decide)]
        all_goals repeat' first
          | (refine leaf hK ?_ hle2; simp [rawR, stAV, styleE, l0, x0, x92, ll, x60, lln, *]; done)
          | (refine i_if ?_ ?_ <;> intro h <;> (try simp only [beq_true, beq_false, Bool.not_eq_true', Bool.not_eq_false', Bool.not_not, decide_eq_true_eq, decide_eq_false_iff_not, beq_iff_eq, bne_iff_ne, Bool.not_eq_true, Bool.not_eq_false, ne_eq, Bool.true_eq, Bool.false_eq] at h) <;> (try exact absurd h (by decide)) <;> (try simp (implicitDefEqProofs := false) only [sB, simprocAttr, stAV, x_r52, of_n8, byteAV_n8, w_i64 20 (by decide) (by decide), w_i64 21 (by decide) (by decide), *]))
    · have x0' : ¬ x = 60 := fun h => x0 (by rw [h]; rfl)
      simp (implicitDefEqProofs := false) only [sB, simprocAttr, hq, hpq, x0, stAV, x_r52, of_n8, byteAV_n8, w_i64 20 (by decide) (by decide), w_i64 21 (by decide) (by decide)]
      all_goals repeat' first
        | (refine leaf hK ?_ hle2; simp [rawR, stAV, styleE, x0, x0', *]; done)
        | (refine i_if ?_ ?_ <;> intro h <;> (try simp only [beq_true, beq_false, Bool.not_eq_true', Bool.not_eq_false', Bool.not_not, decide_eq_true_eq, decide_eq_false_iff_not, beq_iff_eq, bne_iff_ne, Bool.not_eq_true, Bool.not_eq_false, ne_eq, Bool.true_eq, Bool.false_eq] at h) <;> (try exact absurd h (by decide)) <;> (try simp (implicitDefEqProofs := false) only [sB, simprocAttr, stAV, x_r52, of_n8, byteAV_n8, w_i64 20 (by decide) (by decide), w_i64 21 (by decide) (by decide), *]))

theorem w33_21 (P : Program) {name attr part : List UInt8} {b : UInt8} {H : Heap} (hl : part.length ≤ 16) (K : Kv) (hK : ∀ H', Hle H H' → K.ap (stAV (rawR ⟨21, name, attr, part⟩ b)) H') : @xF (u2 P) f33 [stAV ⟨21, name, attr, part⟩, .int .u8 (n8 b)] H K := by
  simp (implicitDefEqProofs := false) only [sB, simprocAttr, f33, stAV, x_r52, of_n8, byteAV_n8, w_i64 20 (by decide) (by decide), w_i64 21 (by decide) (by decide)]
  refine i_new fun p hp => ?_
  simp (implicitDefEqProofs := false) only [sB, simprocAttr]
  refine i_new fun q hq => ?_
  have hq := nk1 hq
  have hpq : ¬ p = q := fun e => hq.1 e.symm
  by_cases p0 : part = []
  · subst p0
    simp (implicitDefEqProofs := false) only [sB, simprocAttr, hq, hpq, stAV, x_r52, of_n8, byteAV_n8, w_i64 20 (by decide) (by decide), w_i64 21 (by decide) (by decide)]
    all_goals repeat' first
      | (refine leaf hK ?_ hle2; simp [rawR, stAV, styleE, *]; done)
      | (refine i_if ?_ ?_ <;> intro h <;> (try simp only [beq_true, beq_false, Bool.not_eq_true', Bool.not_eq_false', Bool.not_not, decide_eq_true_eq, decide_eq_false_iff_not, beq_iff_eq, bne_iff_ne, Bool.not_eq_true, Bool.not_eq_false, ne_eq, Bool.true_eq, Bool.false_eq] at h) <;> (try exact absurd h (by decide)) <;> (try simp (implicitDefEqProofs := false) only [sB, simprocAttr, stAV, x_r52, of_n8, byteAV_n8, w_i64 20 (by decide) (by decide), w_i64 21 (by decide) (by decide), *]))
  · obtain ⟨x, l, rfl⟩ := List.exists_cons_of_ne_nil p0
    by_cases x0 : n8 x = 60
    · have x60 : x = 60 := n8_inj x0
      have x92 : ¬ x = 92 := fun h => absurd (x60.symm.trans h) (by decide)
      have l0 : (0 : Int) ≤ ((l.length + 1 : Nat) : Int) := by omega
      by_cases ll : ((l.length + 1 : Nat) : Int) < 7
      · obtain ⟨y, hy⟩ : ∃ y, ([47, 115, 116, 121, 108, 101] : List UInt8)[l.length]? = some y := ⟨_, List.getElem?_eq_getElem (by simp; omega)⟩
        by_cases ey : n8 y = n8 (lowB b)
        · have ey' : y = lowB b := n8_inj ey
          subst ey'
          simp (implicitDefEqProofs := false) only [sB, simprocAttr, hq, hpq, l0, x0, x92, ll, hy, stAV, x_r52, of_n8, byteAV_n8, w_i64 20 (by decide) (by decide), w_i64 21 (by decide) (by decide)]
          refine i_new fun r hr => ?_
          have hr := nk2 hr
          have hqr : ¬ q = r := fun e => hr.1 e.symm
          have hpr : ¬ p = r := fun e => hr.2.1 e.symm
          simp (implicitDefEqProofs := false) only [sB, simprocAttr, hq, hpq, hr, hqr, hpr, l0, x0, x92, ll, hy, stAV, x_r52, of_n8, byteAV_n8, w_i64 20 (by decide) (by decide), w_i64 21 (by decide) (by decide)]
          have lln : l.length + 1 < 7 := by omega
          have hyG : ([47, 115, 116, 121, 108, 101] : List UInt8)[l.length]'(by simp; omega) = lowB b := by rw [List.getElem?_eq_getElem (by simp; omega)] at hy; exact Option.some.inj hy
          by_cases cE : l ++ [lowB b] = [47, 115, 116, 121, 108, 101]
          · simp (implicitDefEqProofs := false) only [sB, simprocAttr, hq, hpq, hr, hqr, hpr, x60, cE, stAV, x_r52, of_n8, byteAV_n8, w_i64 20 (by decide) (by decide), w_i64 21 (by decide) (by decide)]
            exact ⟨by omega, leaf hK (by simp [rawR, stAV, styleE, x60, lln, hyG, cE]) hle3⟩
          · simp (implicitDefEqProofs := false) only [sB, simprocAttr, hq, hpq, hr, hqr, hpr, x60, cE, stAV, x_r52, of_n8, byteAV_n8, w_i64 20 (by decide) (by decide), w_i64 21 (by decide) (by decide)]
            exact ⟨by omega, leaf hK (by simp [rawR, stAV, styleE, x60, lln, hyG, cE]) hle3⟩
        · have lln : l.length + 1 < 7 := by omega
          have hyG : ([47, 115, 116, 121, 108, 101] : List UInt8)[l.length]'(by simp; omega) = y := by rw [List.getElem?_eq_getElem (by simp; omega)] at hy; exact Option.some.inj hy
          have ey' : ¬ y = lowB b := fun h => ey (by rw [h])
          simp (implicitDefEqProofs := false) only [sB, simprocAttr, hq, hpq, l0, x0, x92, ll, hy, ey, stAV, x_r52, of_n8, byteAV_n8, w_i64 20 (by decide) (by decide), w_i64 21 (by decide) (by decide)]
          all_goals repeat' first
            | (refine leaf hK ?_ hle2; simp [rawR, stAV, styleE, l0, x0, x92, ll, hy, ey, ey', x60, lln, hyG, *]; done)
            | (refine i_if ?_ ?_ <;> intro h <;> (try simp only [beq_true, beq_false, Bool.not_eq_true', Bool.not_eq_false', Bool.not_not, decide_eq_true_eq, decide_eq_false_iff_not, beq_iff_eq, bne_iff_ne, Bool.not_eq_true, Bool.not_eq_false, ne_eq, Bool.true_eq, Bool.false_eq] at h) <;> (try exact absurd h (by decide)) <;> (try simp (implicitDefEqProofs := false) only [sB, simprocAttr, stAV, x_r52, of_n8, byteAV_n8, w_i64 20 (by decide) (by decide), w_i64 21 (by decide) (by decide), *]))
      · have lln : ¬ l.length + 1 < 7 := by omega
        simp (implicitDefEqProofs := false) only [sB, simprocAttr, hq, hpq, l0, x0, x92, ll, stAV, x_r52, of_n8, byteAV_n8, w_i64 20 (by decide) (by decide), w_i64 21 (by decide) (by decide)]
        all_goals repeat' first
          | (refine leaf hK ?_ hle2; simp [rawR, stAV, styleE, l0, x0, x92, ll, x60, lln, *]; done)
          | (refine i_if ?_ ?_ <;> intro h <;> (try simp only [beq_true, beq_false, Bool.not_eq_true', Bool.not_eq_false', Bool.not_not, decide_eq_true_eq, decide_eq_false_iff_not, beq_iff_eq, bne_iff_ne, Bool.not_eq_true, Bool.not_eq_false, ne_eq, Bool.true_eq, Bool.false_eq] at h) <;> (try exact absurd h (by decide)) <;> (try simp (implicitDefEqProofs := false) only [sB, simprocAttr, stAV, x_r52, of_n8, byteAV_n8, w_i64 20 (by decide) (by decide), w_i64 21 (by decide) (by decide), *]))
    · have x0' : ¬ x = 60 := fun h => x0 (by rw [h]; rfl)
      simp (implicitDefEqProofs := false) only [sB, simprocAttr, hq, hpq, x0, stAV, x_r52, of_n8, byteAV_n8, w_i64 20 (by decide) (by decide), w_i64 21 (by decide) (by decide)]
      all_goals repeat' first
        | (refine leaf hK ?_ hle2; simp [rawR, stAV, styleE, x0, x0', *]; done)
        | (refine i_if ?_ ?_ <;> intro h <;> (try simp only [beq_true, beq_false, Bool.not_eq_true', Bool.not_eq_false', Bool.not_not, decide_eq_true_eq, decide_eq_false_iff_not, beq_iff_eq, bne_iff_ne, Bool.not_eq_true, Bool.not_eq_false, ne_eq, Bool.true_eq, Bool.false_eq] at h) <;> (try exact absurd h (by decide)) <;> (try simp (implicitDefEqProofs := false) only [sB, simprocAttr, stAV, x_r52, of_n8, byteAV_n8, w_i64 20 (by decide) (by decide), w_i64 21 (by decide) (by decide), *]))

end Go.AL.Fun
