/- The HTML context automaton: tags and raw text, walked. -/
import Derived.Test.YtfgkkkknkojlgaaDoorJ5
set_option linter.unusedSimpArgs false
set_option linter.unusedVariables false
set_option maxRecDepth 100000
set_option maxHeartbeats 2000000
namespace Go.AL.Fun
open Go Go.AL

def j26 (xs : List AV) (H : Heap) (K : Kv) : Prop := ∃ (ctx : Int) (name attr part : List UInt8) (b : UInt8), xs = [.agg [.int .i64 ctx, .str name, .str attr, .str part], .int .u8 (n8 b)] ∧ K.ap (stAV (textP ⟨ctx, name, attr, part⟩ b)) H
theorem x_j26 {ctx : Int} {name attr part : List UInt8} {b : UInt8} (H : Heap) (K : Kv) : j26 [.agg [.int .i64 ctx, .str name, .str attr, .str part], .int .u8 (n8 b)] H K = K.ap (stAV (textP ⟨ctx, name, attr, part⟩ b)) H := by
  simp only [j26, List.cons.injEq, AV.int.injEq, AV.str.injEq, AV.agg.injEq, true_and, and_true, n8_eq]
  exact propext ⟨fun ⟨_, _, _, _, _, ⟨⟨e1, e2, e3, e4⟩, f0⟩, h⟩ => by subst e1 e2 e3 e4 f0; exact h, fun h => ⟨_, _, _, _, _, ⟨⟨rfl, rfl, rfl, rfl⟩, rfl⟩, h⟩⟩
def j27 (xs : List AV) (H : Heap) (K : Kv) : Prop := ∃ (ctx : Int) (name attr part : List UInt8) (b : UInt8), xs = [.agg [.int .i64 ctx, .str name, .str attr, .str part], .int .u8 (n8 b)] ∧ (part.length ≤ 16) ∧ K.ap (stAV (commentP ⟨ctx, name, attr, part⟩ b)) H
theorem x_j27 {ctx : Int} {name attr part : List UInt8} {b : UInt8} (hs : part.length ≤ 16) (H : Heap) (K : Kv) : j27 [.agg [.int .i64 ctx, .str name, .str attr, .str part], .int .u8 (n8 b)] H K = K.ap (stAV (commentP ⟨ctx, name, attr, part⟩ b)) H := by
  simp only [j27, List.cons.injEq, AV.int.injEq, AV.str.injEq, AV.agg.injEq, true_and, and_true, n8_eq]
  exact propext ⟨fun ⟨_, _, _, _, _, ⟨⟨e1, e2, e3, e4⟩, f0⟩, _, h⟩ => by subst e1 e2 e3 e4 f0; exact h, fun h => ⟨_, _, _, _, _, ⟨⟨rfl, rfl, rfl, rfl⟩, rfl⟩, hs, h⟩⟩
def j44 (xs : List AV) (H : Heap) (K : Kv) : Prop := ∃ (ctx : Int) (name attr part : List UInt8) (b : UInt8), xs = [.agg [.int .i64 ctx, .str name, .str attr, .str part], .int .u8 (n8 b)] ∧ K.ap (stAV (valueP ⟨ctx, name, attr, part⟩ b)) H
theorem x_j44 {ctx : Int} {name attr part : List UInt8} {b : UInt8} (H : Heap) (K : Kv) : j44 [.agg [.int .i64 ctx, .str name, .str attr, .str part], .int .u8 (n8 b)] H K = K.ap (stAV (valueP ⟨ctx, name, attr, part⟩ b)) H := by
  simp only [j44, List.cons.injEq, AV.int.injEq, AV.str.injEq, AV.agg.injEq, true_and, and_true, n8_eq]
  exact propext ⟨fun ⟨_, _, _, _, _, ⟨⟨e1, e2, e3, e4⟩, f0⟩, h⟩ => by subst e1 e2 e3 e4 f0; exact h, fun h => ⟨_, _, _, _, _, ⟨⟨rfl, rfl, rfl, rfl⟩, rfl⟩, h⟩⟩
def j45 (xs : List AV) (H : Heap) (K : Kv) : Prop := ∃ (ctx : Int) (name attr part : List UInt8) (b : UInt8), xs = [.agg [.int .i64 ctx, .str name, .str attr, .str part], .int .u8 (n8 b)] ∧ (name.length ≤ 16 ∧ attr.length ≤ 16) ∧ K.ap (stAV (nameP ⟨ctx, name, attr, part⟩ b)) H
theorem x_j45 {ctx : Int} {name attr part : List UInt8} {b : UInt8} (hs : name.length ≤ 16 ∧ attr.length ≤ 16) (H : Heap) (K : Kv) : j45 [.agg [.int .i64 ctx, .str name, .str attr, .str part], .int .u8 (n8 b)] H K = K.ap (stAV (nameP ⟨ctx, name, attr, part⟩ b)) H := by
  simp only [j45, List.cons.injEq, AV.int.injEq, AV.str.injEq, AV.agg.injEq, true_and, and_true, n8_eq]
  exact propext ⟨fun ⟨_, _, _, _, _, ⟨⟨e1, e2, e3, e4⟩, f0⟩, _, h⟩ => by subst e1 e2 e3 e4 f0; exact h, fun h => ⟨_, _, _, _, _, ⟨⟨rfl, rfl, rfl, rfl⟩, rfl⟩, hs, h⟩⟩
@[reducible] def tC (P : Program) : Th := ⟨GH, P, (34, j44) :: (35, j45) :: (tB P).T⟩
theorem w29 (P : Program) {ctx : Int} {name attr part : List UInt8} {b : UInt8} {H : Heap} (hn : name.length ≤ 16) (ha : attr.length ≤ 16) (K : Kv) (hK : ∀ H', Hle H H' → K.ap (stAV (tagP ⟨ctx, name, attr, part⟩ b)) H') : @xF (tC P) f17 [stAV ⟨ctx, name, attr, part⟩, .int .u8 (n8 b)] H K := by
  simp (implicitDefEqProofs := false) only [sB, simprocAttr, f17, stAV, stAV, x_j38, x_j39, x_j40, x_d42, x_j43, x_j41, x_j46, of_n8, x_j44, x_j45 ⟨hn, ha⟩]
  refine i_new fun p hp => ?_
  simp (implicitDefEqProofs := false) only [sB, simprocAttr]
  refine i_new fun q hq => ?_
  have hq := nk1 hq
  have hpq : ¬ p = q := fun e => hq.1 e.symm
  simp (implicitDefEqProofs := false) only [sB, simprocAttr, hq, hpq, stAV, x_j38, x_j39, x_j40, x_d42, x_j43, x_j41, x_j46, of_n8, x_j44, x_j45 ⟨hn, ha⟩]
  all_goals repeat' first
    | (refine leaf hK ?_ hle2; simp [tagP, withP, stAV, *]; done)
    | (refine leaf hK ?_ hle2; simp [tagP, withP, stAV, n8q b 33 33 rfl, n8q b 34 34 rfl, n8q b 39 39 rfl, n8q b 45 45 rfl, n8q b 47 47 rfl, n8q b 60 60 rfl, n8q b 61 61 rfl, n8q b 62 62 rfl, *]; done)
    | (refine i_new fun r hr => ?_; have hr := nk2 hr; have hqr : ¬ q = r := (fun e => hr.1 e.symm); have hpr : ¬ p = r := (fun e => hr.2.1 e.symm); simp (implicitDefEqProofs := false) only [sB, simprocAttr, stAV, x_j38, x_j39, x_j40, x_d42, x_j43, x_j41, x_j46, of_n8, x_j44, x_j45 ⟨hn, ha⟩, *]; refine leaf hK ?_ hle3; simp [tagP, withP, stAV, n8q b 33 33 rfl, n8q b 34 34 rfl, n8q b 39 39 rfl, n8q b 45 45 rfl, n8q b 47 47 rfl, n8q b 60 60 rfl, n8q b 61 61 rfl, n8q b 62 62 rfl, *]; done)
    | (refine i_if ?_ ?_ <;> intro h <;> (try simp only [beq_true, beq_false, Bool.not_eq_true', Bool.not_eq_false', Bool.not_not, decide_eq_true_eq, decide_eq_false_iff_not, beq_iff_eq, bne_iff_ne, Bool.not_eq_true, Bool.not_eq_false, ne_eq, Bool.true_eq, Bool.false_eq] at h) <;> (try exact absurd h (by decide)) <;> (try simp (implicitDefEqProofs := false) only [sB, simprocAttr, stAV, x_j38, x_j39, x_j40, x_d42, x_j43, x_j41, x_j46, of_n8, x_j44, x_j45 ⟨hn, ha⟩, *]))
theorem w28_16 (P : Program) {name attr part : List UInt8} {b : UInt8} {H : Heap} (hl : part.length ≤ 16) (K : Kv) (hK : ∀ H', Hle H H' → K.ap (stAV (rawP ⟨16, name, attr, part⟩ 16 scriptE b)) H') : @xF (tB P) f16 [stAV ⟨16, name, attr, part⟩, .int .i64 16, .str scriptE, .int .u8 (n8 b)] H K := by
  have hmax : part.length + 1 ≤ 9223372036854775807 := by omega
  simp (implicitDefEqProofs := false) only [sB, simprocAttr, f16, stAV, x_j38, x_j39, x_j40, x_d42, x_j43, x_j41, x_j46, of_n8, hmax, w_i64 0 (by decide) (by decide)]
  refine i_new fun p hp => ?_
  simp (implicitDefEqProofs := false) only [sB, simprocAttr]
  refine i_new fun q hq => ?_
  have hq := nk1 hq
  have hpq : ¬ p = q := fun e => hq.1 e.symm
  by_cases cA : ([60] : List UInt8).isPrefixOf part = true
  · by_cases cB : (part ++ [lowB b]).isPrefixOf scriptE = true
    · by_cases cE : part ++ [lowB b] = scriptE
      · simp (implicitDefEqProofs := false) only [sB, simprocAttr, hq, hpq, stAV, x_j38, x_j39, x_j40, x_d42, x_j43, x_j41, x_j46, of_n8, hmax, w_i64 0 (by decide) (by decide), cA, cB, cE, show scriptE.isPrefixOf scriptE = true by decide]
        refine leaf hK ?_ hle2
        simp [rawP, stAV, cA, cE, show scriptE.isPrefixOf scriptE = true by decide]
      · simp (implicitDefEqProofs := false) only [sB, simprocAttr, hq, hpq, stAV, x_j38, x_j39, x_j40, x_d42, x_j43, x_j41, x_j46, of_n8, hmax, w_i64 0 (by decide) (by decide), cA, cB, cE, show scriptE.isPrefixOf scriptE = true by decide]
        refine leaf hK ?_ hle2
        simp [rawP, stAV, cA, cB, cE]
    · simp (implicitDefEqProofs := false) only [sB, simprocAttr, hq, hpq, stAV, x_j38, x_j39, x_j40, x_d42, x_j43, x_j41, x_j46, of_n8, hmax, w_i64 0 (by decide) (by decide), cA, cB]
      refine i_new fun r hr => ?_
      have hr := nk2 hr
      have hqr : ¬ q = r := fun e => hr.1 e.symm
      have hpr : ¬ p = r := fun e => hr.2.1 e.symm
      simp (implicitDefEqProofs := false) only [sB, simprocAttr, hq, hpq, hr, hqr, hpr, stAV, x_j38, x_j39, x_j40, x_d42, x_j43, x_j41, x_j46, of_n8, hmax, w_i64 0 (by decide) (by decide), cA, cB]
      all_goals repeat' first
        | (refine leaf hK ?_ hle3; simp [rawP, stAV, cA, cB, *]; done)
        | (refine leaf hK ?_ hle3; simp [rawP, stAV, cA, cB, n8q b 33 33 rfl, n8q b 34 34 rfl, n8q b 39 39 rfl, n8q b 45 45 rfl, n8q b 47 47 rfl, n8q b 60 60 rfl, n8q b 61 61 rfl, n8q b 62 62 rfl, *]; done)
        | (refine i_if ?_ ?_ <;> intro h <;> (try simp only [beq_true, beq_false, Bool.not_eq_true', Bool.not_eq_false', Bool.not_not, decide_eq_true_eq, decide_eq_false_iff_not, beq_iff_eq, bne_iff_ne, Bool.not_eq_true, Bool.not_eq_false, ne_eq, Bool.true_eq, Bool.false_eq] at h) <;> (try exact absurd h (by decide)) <;> (try simp (implicitDefEqProofs := false) only [sB, simprocAttr, stAV, x_j38, x_j39, x_j40, x_d42, x_j43, x_j41, x_j46, of_n8, hmax, w_i64 0 (by decide) (by decide), *]))
  · simp (implicitDefEqProofs := false) only [sB, simprocAttr, hq, hpq, stAV, x_j38, x_j39, x_j40, x_d42, x_j43, x_j41, x_j46, of_n8, hmax, w_i64 0 (by decide) (by decide), cA]
    refine i_new fun r hr => ?_
    have hr := nk2 hr
    have hqr : ¬ q = r := fun e => hr.1 e.symm
    have hpr : ¬ p = r := fun e => hr.2.1 e.symm
    simp (implicitDefEqProofs := false) only [sB, simprocAttr, hq, hpq, hr, hqr, hpr, stAV, x_j38, x_j39, x_j40, x_d42, x_j43, x_j41, x_j46, of_n8, hmax, w_i64 0 (by decide) (by decide), cA]
    all_goals repeat' first
      | (refine leaf hK ?_ hle3; simp [rawP, stAV, cA, *]; done)
      | (refine leaf hK ?_ hle3; simp [rawP, stAV, cA, n8q b 33 33 rfl, n8q b 34 34 rfl, n8q b 39 39 rfl, n8q b 45 45 rfl, n8q b 47 47 rfl, n8q b 60 60 rfl, n8q b 61 61 rfl, n8q b 62 62 rfl, *]; done)
      | (refine i_if ?_ ?_ <;> intro h <;> (try simp only [beq_true, beq_false, Bool.not_eq_true', Bool.not_eq_false', Bool.not_not, decide_eq_true_eq, decide_eq_false_iff_not, beq_iff_eq, bne_iff_ne, Bool.not_eq_true, Bool.not_eq_false, ne_eq, Bool.true_eq, Bool.false_eq] at h) <;> (try exact absurd h (by decide)) <;> (try simp (implicitDefEqProofs := false) only [sB, simprocAttr, stAV, x_j38, x_j39, x_j40, x_d42, x_j43, x_j41, x_j46, of_n8, hmax, w_i64 0 (by decide) (by decide), *]))

theorem w28_17 (P : Program) {name attr part : List UInt8} {b : UInt8} {H : Heap} (hl : part.length ≤ 16) (K : Kv) (hK : ∀ H', Hle H H' → K.ap (stAV (rawP ⟨17, name, attr, part⟩ 16 scriptE b)) H') : @xF (tB P) f16 [stAV ⟨17, name, attr, part⟩, .int .i64 16, .str scriptE, .int .u8 (n8 b)] H K := by
  have hmax : part.length + 1 ≤ 9223372036854775807 := by omega
  simp (implicitDefEqProofs := false) only [sB, simprocAttr, f16, stAV, x_j38, x_j39, x_j40, x_d42, x_j43, x_j41, x_j46, of_n8, hmax, w_i64 1 (by decide) (by decide)]
  refine i_new fun p hp => ?_
  simp (implicitDefEqProofs := false) only [sB, simprocAttr]
  refine i_new fun q hq => ?_
  have hq := nk1 hq
  have hpq : ¬ p = q := fun e => hq.1 e.symm
  by_cases cA : ([60] : List UInt8).isPrefixOf part = true
  · by_cases cB : (part ++ [lowB b]).isPrefixOf scriptE = true
    · by_cases cE : part ++ [lowB b] = scriptE
      · simp (implicitDefEqProofs := false) only [sB, simprocAttr, hq, hpq, stAV, x_j38, x_j39, x_j40, x_d42, x_j43, x_j41, x_j46, of_n8, hmax, w_i64 1 (by decide) (by decide), cA, cB, cE, show scriptE.isPrefixOf scriptE = true by decide]
        refine leaf hK ?_ hle2
        simp [rawP, stAV, cA, cE, show scriptE.isPrefixOf scriptE = true by decide]
      · simp (implicitDefEqProofs := false) only [sB, simprocAttr, hq, hpq, stAV, x_j38, x_j39, x_j40, x_d42, x_j43, x_j41, x_j46, of_n8, hmax, w_i64 1 (by decide) (by decide), cA, cB, cE, show scriptE.isPrefixOf scriptE = true by decide]
        refine leaf hK ?_ hle2
        simp [rawP, stAV, cA, cB, cE]
    · simp (implicitDefEqProofs := false) only [sB, simprocAttr, hq, hpq, stAV, x_j38, x_j39, x_j40, x_d42, x_j43, x_j41, x_j46, of_n8, hmax, w_i64 1 (by decide) (by decide), cA, cB]
      refine i_new fun r hr => ?_
      have hr := nk2 hr
      have hqr : ¬ q = r := fun e => hr.1 e.symm
      have hpr : ¬ p = r := fun e => hr.2.1 e.symm
      simp (implicitDefEqProofs := false) only [sB, simprocAttr, hq, hpq, hr, hqr, hpr, stAV, x_j38, x_j39, x_j40, x_d42, x_j43, x_j41, x_j46, of_n8, hmax, w_i64 1 (by decide) (by decide), cA, cB]
      all_goals repeat' first
        | (refine leaf hK ?_ hle3; simp [rawP, stAV, cA, cB, *]; done)
        | (refine leaf hK ?_ hle3; simp [rawP, stAV, cA, cB, n8q b 33 33 rfl, n8q b 34 34 rfl, n8q b 39 39 rfl, n8q b 45 45 rfl, n8q b 47 47 rfl, n8q b 60 60 rfl, n8q b 61 61 rfl, n8q b 62 62 rfl, *]; done)
        | (refine i_if ?_ ?_ <;> intro h <;> (try simp only [beq_true, beq_false, Bool.not_eq_true', Bool.not_eq_false', Bool.not_not, decide_eq_true_eq, decide_eq_false_iff_not, beq_iff_eq, bne_iff_ne, Bool.not_eq_true, Bool.not_eq_false, ne_eq, Bool.true_eq, Bool.false_eq] at h) <;> (try exact absurd h (by decide)) <;> (try simp (implicitDefEqProofs := false) only [sB, simprocAttr, stAV, x_j38, x_j39, x_j40, x_d42, x_j43, x_j41, x_j46, of_n8, hmax, w_i64 1 (by decide) (by decide), *]))
  · simp (implicitDefEqProofs := false) only [sB, simprocAttr, hq, hpq, stAV, x_j38, x_j39, x_j40, x_d42, x_j43, x_j41, x_j46, of_n8, hmax, w_i64 1 (by decide) (by decide), cA]
    refine i_new fun r hr => ?_
    have hr := nk2 hr
    have hqr : ¬ q = r := fun e => hr.1 e.symm
    have hpr : ¬ p = r := fun e => hr.2.1 e.symm
    simp (implicitDefEqProofs := false) only [sB, simprocAttr, hq, hpq, hr, hqr, hpr, stAV, x_j38, x_j39, x_j40, x_d42, x_j43, x_j41, x_j46, of_n8, hmax, w_i64 1 (by decide) (by decide), cA]
    all_goals repeat' first
      | (refine leaf hK ?_ hle3; simp [rawP, stAV, cA, *]; done)
      | (refine leaf hK ?_ hle3; simp [rawP, stAV, cA, n8q b 33 33 rfl, n8q b 34 34 rfl, n8q b 39 39 rfl, n8q b 45 45 rfl, n8q b 47 47 rfl, n8q b 60 60 rfl, n8q b 61 61 rfl, n8q b 62 62 rfl, *]; done)
      | (refine i_if ?_ ?_ <;> intro h <;> (try simp only [beq_true, beq_false, Bool.not_eq_true', Bool.not_eq_false', Bool.not_not, decide_eq_true_eq, decide_eq_false_iff_not, beq_iff_eq, bne_iff_ne, Bool.not_eq_true, Bool.not_eq_false, ne_eq, Bool.true_eq, Bool.false_eq] at h) <;> (try exact absurd h (by decide)) <;> (try simp (implicitDefEqProofs := false) only [sB, simprocAttr, stAV, x_j38, x_j39, x_j40, x_d42, x_j43, x_j41, x_j46, of_n8, hmax, w_i64 1 (by decide) (by decide), *]))

theorem w28_18 (P : Program) {name attr part : List UInt8} {b : UInt8} {H : Heap} (hl : part.length ≤ 16) (K : Kv) (hK : ∀ H', Hle H H' → K.ap (stAV (rawP ⟨18, name, attr, part⟩ 16 scriptE b)) H') : @xF (tB P) f16 [stAV ⟨18, name, attr, part⟩, .int .i64 16, .str scriptE, .int .u8 (n8 b)] H K := by
  have hmax : part.length + 1 ≤ 9223372036854775807 := by omega
  simp (implicitDefEqProofs := false) only [sB, simprocAttr, f16, stAV, x_j38, x_j39, x_j40, x_d42, x_j43, x_j41, x_j46, of_n8, hmax, w_i64 2 (by decide) (by decide)]
  refine i_new fun p hp => ?_
  simp (implicitDefEqProofs := false) only [sB, simprocAttr]
  refine i_new fun q hq => ?_
  have hq := nk1 hq
  have hpq : ¬ p = q := fun e => hq.1 e.symm
  by_cases cA : ([60] : List UInt8).isPrefixOf part = true
  · by_cases cB : (part ++ [lowB b]).isPrefixOf scriptE = true
    · by_cases cE : part ++ [lowB b] = scriptE
      · simp (implicitDefEqProofs := false) only [sB, simprocAttr, hq, hpq, stAV, x_j38, x_j39, x_j40, x_d42, x_j43, x_j41, x_j46, of_n8, hmax, w_i64 2 (by decide) (by decide), cA, cB, cE, show scriptE.isPrefixOf scriptE = true by decide]
        refine leaf hK ?_ hle2
        simp [rawP, stAV, cA, cE, show scriptE.isPrefixOf scriptE = true by decide]
      · simp (implicitDefEqProofs := false) only [sB, simprocAttr, hq, hpq, stAV, x_j38, x_j39, x_j40, x_d42, x_j43, x_j41, x_j46, of_n8, hmax, w_i64 2 (by decide) (by decide), cA, cB, cE, show scriptE.isPrefixOf scriptE = true by decide]
        refine leaf hK ?_ hle2
        simp [rawP, stAV, cA, cB, cE]
    · simp (implicitDefEqProofs := false) only [sB, simprocAttr, hq, hpq, stAV, x_j38, x_j39, x_j40, x_d42, x_j43, x_j41, x_j46, of_n8, hmax, w_i64 2 (by decide) (by decide), cA, cB]
      refine i_new fun r hr => ?_
      have hr := nk2 hr
      have hqr : ¬ q = r := fun e => hr.1 e.symm
      have hpr : ¬ p = r := fun e => hr.2.1 e.symm
      simp (implicitDefEqProofs := false) only [sB, simprocAttr, hq, hpq, hr, hqr, hpr, stAV, x_j38, x_j39, x_j40, x_d42, x_j43, x_j41, x_j46, of_n8, hmax, w_i64 2 (by decide) (by decide), cA, cB]
      all_goals repeat' first
        | (refine leaf hK ?_ hle3; simp [rawP, stAV, cA, cB, *]; done)
        | (refine leaf hK ?_ hle3; simp [rawP, stAV, cA, cB, n8q b 33 33 rfl, n8q b 34 34 rfl, n8q b 39 39 rfl, n8q b 45 45 rfl, n8q b 47 47 rfl, n8q b 60 60 rfl, n8q b 61 61 rfl, n8q b 62 62 rfl, *]; done)
        | (refine i_if ?_ ?_ <;> intro h <;> (try simp only [beq_true, beq_false, Bool.not_eq_true', Bool.not_eq_false', Bool.not_not, decide_eq_true_eq, decide_eq_false_iff_not, beq_iff_eq, bne_iff_ne, Bool.not_eq_true, Bool.not_eq_false, ne_eq, Bool.true_eq, Bool.false_eq] at h) <;> (try exact absurd h (by decide)) <;> (try simp (implicitDefEqProofs := false) only [sB, simprocAttr, stAV, x_j38, x_j39, x_j40, x_d42, x_j43, x_j41, x_j46, of_n8, hmax, w_i64 2 (by decide) (by decide), *]))
  · simp (implicitDefEqProofs := false) only [sB, simprocAttr, hq, hpq, stAV, x_j38, x_j39, x_j40, x_d42, x_j43, x_j41, x_j46, of_n8, hmax, w_i64 2 (by decide) (by decide), cA]
    refine i_new fun r hr => ?_
    have hr := nk2 hr
    have hqr : ¬ q = r := fun e => hr.1 e.symm
    have hpr : ¬ p = r := fun e => hr.2.1 e.symm
    simp (implicitDefEqProofs := false) only [sB, simprocAttr, hq, hpq, hr, hqr, hpr, stAV, x_j38, x_j39, x_j40, x_d42, x_j43, x_j41, x_j46, of_n8, hmax, w_i64 2 (by decide) (by decide), cA]
    all_goals repeat' first
      | (refine leaf hK ?_ hle3; simp [rawP, stAV, cA, *]; done)
      | (refine leaf hK ?_ hle3; simp [rawP, stAV, cA, n8q b 33 33 rfl, n8q b 34 34 rfl, n8q b 39 39 rfl, n8q b 45 45 rfl, n8q b 47 47 rfl, n8q b 60 60 rfl, n8q b 61 61 rfl, n8q b 62 62 rfl, *]; done)
      | (refine i_if ?_ ?_ <;> intro h <;> (try simp only [beq_true, beq_false, Bool.not_eq_true', Bool.not_eq_false', Bool.not_not, decide_eq_true_eq, decide_eq_false_iff_not, beq_iff_eq, bne_iff_ne, Bool.not_eq_true, Bool.not_eq_false, ne_eq, Bool.true_eq, Bool.false_eq] at h) <;> (try exact absurd h (by decide)) <;> (try simp (implicitDefEqProofs := false) only [sB, simprocAttr, stAV, x_j38, x_j39, x_j40, x_d42, x_j43, x_j41, x_j46, of_n8, hmax, w_i64 2 (by decide) (by decide), *]))

theorem w28_19 (P : Program) {name attr part : List UInt8} {b : UInt8} {H : Heap} (hl : part.length ≤ 16) (K : Kv) (hK : ∀ H', Hle H H' → K.ap (stAV (rawP ⟨19, name, attr, part⟩ 19 styleE b)) H') : @xF (tB P) f16 [stAV ⟨19, name, attr, part⟩, .int .i64 19, .str styleE, .int .u8 (n8 b)] H K := by
  have hmax : part.length + 1 ≤ 9223372036854775807 := by omega
  simp (implicitDefEqProofs := false) only [sB, simprocAttr, f16, stAV, x_j38, x_j39, x_j40, x_d42, x_j43, x_j41, x_j46, of_n8, hmax, w_i64 0 (by decide) (by decide)]
  refine i_new fun p hp => ?_
  simp (implicitDefEqProofs := false) only [sB, simprocAttr]
  refine i_new fun q hq => ?_
  have hq := nk1 hq
  have hpq : ¬ p = q := fun e => hq.1 e.symm
  by_cases cA : ([60] : List UInt8).isPrefixOf part = true
  · by_cases cB : (part ++ [lowB b]).isPrefixOf styleE = true
    · by_cases cE : part ++ [lowB b] = styleE
      · simp (implicitDefEqProofs := false) only [sB, simprocAttr, hq, hpq, stAV, x_j38, x_j39, x_j40, x_d42, x_j43, x_j41, x_j46, of_n8, hmax, w_i64 0 (by decide) (by decide), cA, cB, cE, show styleE.isPrefixOf styleE = true by decide]
        refine leaf hK ?_ hle2
        simp [rawP, stAV, cA, cE, show styleE.isPrefixOf styleE = true by decide]
      · simp (implicitDefEqProofs := false) only [sB, simprocAttr, hq, hpq, stAV, x_j38, x_j39, x_j40, x_d42, x_j43, x_j41, x_j46, of_n8, hmax, w_i64 0 (by decide) (by decide), cA, cB, cE, show styleE.isPrefixOf styleE = true by decide]
        refine leaf hK ?_ hle2
        simp [rawP, stAV, cA, cB, cE]
    · simp (implicitDefEqProofs := false) only [sB, simprocAttr, hq, hpq, stAV, x_j38, x_j39, x_j40, x_d42, x_j43, x_j41, x_j46, of_n8, hmax, w_i64 0 (by decide) (by decide), cA, cB]
      refine i_new fun r hr => ?_
      have hr := nk2 hr
      have hqr : ¬ q = r := fun e => hr.1 e.symm
      have hpr : ¬ p = r := fun e => hr.2.1 e.symm
      simp (implicitDefEqProofs := false) only [sB, simprocAttr, hq, hpq, hr, hqr, hpr, stAV, x_j38, x_j39, x_j40, x_d42, x_j43, x_j41, x_j46, of_n8, hmax, w_i64 0 (by decide) (by decide), cA, cB]
      all_goals repeat' first
        | (refine leaf hK ?_ hle3; simp [rawP, stAV, cA, cB, *]; done)
        | (refine leaf hK ?_ hle3; simp [rawP, stAV, cA, cB, n8q b 33 33 rfl, n8q b 34 34 rfl, n8q b 39 39 rfl, n8q b 45 45 rfl, n8q b 47 47 rfl, n8q b 60 60 rfl, n8q b 61 61 rfl, n8q b 62 62 rfl, *]; done)
        | (refine i_if ?_ ?_ <;> intro h <;> (try simp only [beq_true, beq_false, Bool.not_eq_true', Bool.not_eq_false', Bool.not_not, decide_eq_true_eq, decide_eq_false_iff_not, beq_iff_eq, bne_iff_ne, Bool.not_eq_true, Bool.not_eq_false, ne_eq, Bool.true_eq, Bool.false_eq] at h) <;> (try exact absurd h (by decide)) <;> (try simp (implicitDefEqProofs := false) only [sB, simprocAttr, stAV, x_j38, x_j39, x_j40, x_d42, x_j43, x_j41, x_j46, of_n8, hmax, w_i64 0 (by decide) (by decide), *]))
  · simp (implicitDefEqProofs := false) only [sB, simprocAttr, hq, hpq, stAV, x_j38, x_j39, x_j40, x_d42, x_j43, x_j41, x_j46, of_n8, hmax, w_i64 0 (by decide) (by decide), cA]
    refine i_new fun r hr => ?_
    have hr := nk2 hr
    have hqr : ¬ q = r := fun e => hr.1 e.symm
    have hpr : ¬ p = r := fun e => hr.2.1 e.symm
    simp (implicitDefEqProofs := false) only [sB, simprocAttr, hq, hpq, hr, hqr, hpr, stAV, x_j38, x_j39, x_j40, x_d42, x_j43, x_j41, x_j46, of_n8, hmax, w_i64 0 (by decide) (by decide), cA]
    all_goals repeat' first
      | (refine leaf hK ?_ hle3; simp [rawP, stAV, cA, *]; done)
      | (refine leaf hK ?_ hle3; simp [rawP, stAV, cA, n8q b 33 33 rfl, n8q b 34 34 rfl, n8q b 39 39 rfl, n8q b 45 45 rfl, n8q b 47 47 rfl, n8q b 60 60 rfl, n8q b 61 61 rfl, n8q b 62 62 rfl, *]; done)
      | (refine i_if ?_ ?_ <;> intro h <;> (try simp only [beq_true, beq_false, Bool.not_eq_true', Bool.not_eq_false', Bool.not_not, decide_eq_true_eq, decide_eq_false_iff_not, beq_iff_eq, bne_iff_ne, Bool.not_eq_true, Bool.not_eq_false, ne_eq, Bool.true_eq, Bool.false_eq] at h) <;> (try exact absurd h (by decide)) <;> (try simp (implicitDefEqProofs := false) only [sB, simprocAttr, stAV, x_j38, x_j39, x_j40, x_d42, x_j43, x_j41, x_j46, of_n8, hmax, w_i64 0 (by decide) (by decide), *]))

theorem w28_20 (P : Program) {name attr part : List UInt8} {b : UInt8} {H : Heap} (hl : part.length ≤ 16) (K : Kv) (hK : ∀ H', Hle H H' → K.ap (stAV (rawP ⟨20, name, attr, part⟩ 19 styleE b)) H') : @xF (tB P) f16 [stAV ⟨20, name, attr, part⟩, .int .i64 19, .str styleE, .int .u8 (n8 b)] H K := by
  have hmax : part.length + 1 ≤ 9223372036854775807 := by omega
  simp (implicitDefEqProofs := false) only [sB, simprocAttr, f16, stAV, x_j38, x_j39, x_j40, x_d42, x_j43, x_j41, x_j46, of_n8, hmax, w_i64 1 (by decide) (by decide)]
  refine i_new fun p hp => ?_
  simp (implicitDefEqProofs := false) only [sB, simprocAttr]
  refine i_new fun q hq => ?_
  have hq := nk1 hq
  have hpq : ¬ p = q := fun e => hq.1 e.symm
  by_cases cA : ([60] : List UInt8).isPrefixOf part = true
  · by_cases cB : (part ++ [lowB b]).isPrefixOf styleE = true
    · by_cases cE : part ++ [lowB b] = styleE
      · simp (implicitDefEqProofs := false) only [sB, simprocAttr, hq, hpq, stAV, x_j38, x_j39, x_j40, x_d42, x_j43, x_j41, x_j46, of_n8, hmax, w_i64 1 (by decide) (by decide), cA, cB, cE, show styleE.isPrefixOf styleE = true by decide]
        refine leaf hK ?_ hle2
        simp [rawP, stAV, cA, cE, show styleE.isPrefixOf styleE = true by decide]
      · simp (implicitDefEqProofs := false) only [sB, simprocAttr, hq, hpq, stAV, x_j38, x_j39, x_j40, x_d42, x_j43, x_j41, x_j46, of_n8, hmax, w_i64 1 (by decide) (by decide), cA, cB, cE, show styleE.isPrefixOf styleE = true by decide]
        refine leaf hK ?_ hle2
        simp [rawP, stAV, cA, cB, cE]
    · simp (implicitDefEqProofs := false) only [sB, simprocAttr, hq, hpq, stAV, x_j38, x_j39, x_j40, x_d42, x_j43, x_j41, x_j46, of_n8, hmax, w_i64 1 (by decide) (by decide), cA, cB]
      refine i_new fun r hr => ?_
      have hr := nk2 hr
      have hqr : ¬ q = r := fun e => hr.1 e.symm
      have hpr : ¬ p = r := fun e => hr.2.1 e.symm
      simp (implicitDefEqProofs := false) only [sB, simprocAttr, hq, hpq, hr, hqr, hpr, stAV, x_j38, x_j39, x_j40, x_d42, x_j43, x_j41, x_j46, of_n8, hmax, w_i64 1 (by decide) (by decide), cA, cB]
      all_goals repeat' first
        | (refine leaf hK ?_ hle3; simp [rawP, stAV, cA, cB, *]; done)
        | (refine leaf hK ?_ hle3; simp [rawP, stAV, cA, cB, n8q b 33 33 rfl, n8q b 34 34 rfl, n8q b 39 39 rfl, n8q b 45 45 rfl, n8q b 47 47 rfl, n8q b 60 60 rfl, n8q b 61 61 rfl, n8q b 62 62 rfl, *]; done)
        | (refine i_if ?_ ?_ <;> intro h <;> (try simp only [beq_true, beq_false, Bool.not_eq_true', Bool.not_eq_false', Bool.not_not, decide_eq_true_eq, decide_eq_false_iff_not, beq_iff_eq, bne_iff_ne, Bool.not_eq_true, Bool.not_eq_false, ne_eq, Bool.true_eq, Bool.false_eq] at h) <;> (try exact absurd h (by decide)) <;> (try simp (implicitDefEqProofs := false) only [sB, simprocAttr, stAV, x_j38, x_j39, x_j40, x_d42, x_j43, x_j41, x_j46, of_n8, hmax, w_i64 1 (by decide) (by decide), *]))
  · simp (implicitDefEqProofs := false) only [sB, simprocAttr, hq, hpq, stAV, x_j38, x_j39, x_j40, x_d42, x_j43, x_j41, x_j46, of_n8, hmax, w_i64 1 (by decide) (by decide), cA]
    refine i_new fun r hr => ?_
    have hr := nk2 hr
    have hqr : ¬ q = r := fun e => hr.1 e.symm
    have hpr : ¬ p = r := fun e => hr.2.1 e.symm
    simp (implicitDefEqProofs := false) only [sB, simprocAttr, hq, hpq, hr, hqr, hpr, stAV, x_j38, x_j39, x_j40, x_d42, x_j43, x_j41, x_j46, of_n8, hmax, w_i64 1 (by decide) (by decide), cA]
    all_goals repeat' first
      | (refine leaf hK ?_ hle3; simp [rawP, stAV, cA, *]; done)
      | (refine leaf hK ?_ hle3; simp [rawP, stAV, cA, n8q b 33 33 rfl, n8q b 34 34 rfl, n8q b 39 39 rfl, n8q b 45 45 rfl, n8q b 47 47 rfl, n8q b 60 60 rfl, n8q b 61 61 rfl, n8q b 62 62 rfl, *]; done)
      | (refine i_if ?_ ?_ <;> intro h <;> (try simp only [beq_true, beq_false, Bool.not_eq_true', Bool.not_eq_false', Bool.not_not, decide_eq_true_eq, decide_eq_false_iff_not, beq_iff_eq, bne_iff_ne, Bool.not_eq_true, Bool.not_eq_false, ne_eq, Bool.true_eq, Bool.false_eq] at h) <;> (try exact absurd h (by decide)) <;> (try simp (implicitDefEqProofs := false) only [sB, simprocAttr, stAV, x_j38, x_j39, x_j40, x_d42, x_j43, x_j41, x_j46, of_n8, hmax, w_i64 1 (by decide) (by decide), *]))

theorem w28_21 (P : Program) {name attr part : List UInt8} {b : UInt8} {H : Heap} (hl : part.length ≤ 16) (K : Kv) (hK : ∀ H', Hle H H' → K.ap (stAV (rawP ⟨21, name, attr, part⟩ 19 styleE b)) H') : @xF (tB P) f16 [stAV ⟨21, name, attr, part⟩, .int .i64 19, .str styleE, .int .u8 (n8 b)] H K := by
  have hmax : part.length + 1 ≤ 9223372036854775807 := by omega
  simp (implicitDefEqProofs := false) only [sB, simprocAttr, f16, stAV, x_j38, x_j39, x_j40, x_d42, x_j43, x_j41, x_j46, of_n8, hmax, w_i64 2 (by decide) (by decide)]
  refine i_new fun p hp => ?_
  simp (implicitDefEqProofs := false) only [sB, simprocAttr]
  refine i_new fun q hq => ?_
  have hq := nk1 hq
  have hpq : ¬ p = q := fun e => hq.1 e.symm
  by_cases cA : ([60] : List UInt8).isPrefixOf part = true
  · by_cases cB : (part ++ [lowB b]).isPrefixOf styleE = true
    · by_cases cE : part ++ [lowB b] = styleE
      · simp (implicitDefEqProofs := false) only [sB, simprocAttr, hq, hpq, stAV, x_j38, x_j39, x_j40, x_d42, x_j43, x_j41, x_j46, of_n8, hmax, w_i64 2 (by decide) (by decide), cA, cB, cE, show styleE.isPrefixOf styleE = true by decide]
        refine leaf hK ?_ hle2
        simp [rawP, stAV, cA, cE, show styleE.isPrefixOf styleE = true by decide]
      · simp (implicitDefEqProofs := false) only [sB, simprocAttr, hq, hpq, stAV, x_j38, x_j39, x_j40, x_d42, x_j43, x_j41, x_j46, of_n8, hmax, w_i64 2 (by decide) (by decide), cA, cB, cE, show styleE.isPrefixOf styleE = true by decide]
        refine leaf hK ?_ hle2
        simp [rawP, stAV, cA, cB, cE]
    · simp (implicitDefEqProofs := false) only [sB, simprocAttr, hq, hpq, stAV, x_j38, x_j39, x_j40, x_d42, x_j43, x_j41, x_j46, of_n8, hmax, w_i64 2 (by decide) (by decide), cA, cB]
      refine i_new fun r hr => ?_
      have hr := nk2 hr
      have hqr : ¬ q = r := fun e => hr.1 e.symm
      have hpr : ¬ p = r := fun e => hr.2.1 e.symm
      simp (implicitDefEqProofs := false) only [sB, simprocAttr, hq, hpq, hr, hqr, hpr, stAV, x_j38, x_j39, x_j40, x_d42, x_j43, x_j41, x_j46, of_n8, hmax, w_i64 2 (by decide) (by decide), cA, cB]
      all_goals repeat' first
        | (refine leaf hK ?_ hle3; simp [rawP, stAV, cA, cB, *]; done)
        | (refine leaf hK ?_ hle3; simp [rawP, stAV, cA, cB, n8q b 33 33 rfl, n8q b 34 34 rfl, n8q b 39 39 rfl, n8q b 45 45 rfl, n8q b 47 47 rfl, n8q b 60 60 rfl, n8q b 61 61 rfl, n8q b 62 62 rfl, *]; done)
        | (refine i_if ?_ ?_ <;> intro h <;> (try simp only [beq_true, beq_false, Bool.not_eq_true', Bool.not_eq_false', Bool.not_not, decide_eq_true_eq, decide_eq_false_iff_not, beq_iff_eq, bne_iff_ne, Bool.not_eq_true, Bool.not_eq_false, ne_eq, Bool.true_eq, Bool.false_eq] at h) <;> (try exact absurd h (by decide)) <;> (try simp (implicitDefEqProofs := false) only [sB, simprocAttr, stAV, x_j38, x_j39, x_j40, x_d42, x_j43, x_j41, x_j46, of_n8, hmax, w_i64 2 (by decide) (by decide), *]))
  · simp (implicitDefEqProofs := false) only [sB, simprocAttr, hq, hpq, stAV, x_j38, x_j39, x_j40, x_d42, x_j43, x_j41, x_j46, of_n8, hmax, w_i64 2 (by decide) (by decide), cA]
    refine i_new fun r hr => ?_
    have hr := nk2 hr
    have hqr : ¬ q = r := fun e => hr.1 e.symm
    have hpr : ¬ p = r := fun e => hr.2.1 e.symm
    simp (implicitDefEqProofs := false) only [sB, simprocAttr, hq, hpq, hr, hqr, hpr, stAV, x_j38, x_j39, x_j40, x_d42, x_j43, x_j41, x_j46, of_n8, hmax, w_i64 2 (by decide) (by decide), cA]
    all_goals repeat' first
      | (refine leaf hK ?_ hle3; simp [rawP, stAV, cA, *]; done)
      | (refine leaf hK ?_ hle3; simp [rawP, stAV, cA, n8q b 33 33 rfl, n8q b 34 34 rfl, n8q b 39 39 rfl, n8q b 45 45 rfl, n8q b 47 47 rfl, n8q b 60 60 rfl, n8q b 61 61 rfl, n8q b 62 62 rfl, *]; done)
      | (refine i_if ?_ ?_ <;> intro h <;> (try simp only [beq_true, beq_false, Bool.not_eq_true', Bool.not_eq_false', Bool.not_not, decide_eq_true_eq, decide_eq_false_iff_not, beq_iff_eq, bne_iff_ne, Bool.not_eq_true, Bool.not_eq_false, ne_eq, Bool.true_eq, Bool.false_eq] at h) <;> (try exact absurd h (by decide)) <;> (try simp (implicitDefEqProofs := false) only [sB, simprocAttr, stAV, x_j38, x_j39, x_j40, x_d42, x_j43, x_j41, x_j46, of_n8, hmax, w_i64 2 (by decide) (by decide), *]))

end Go.AL.Fun
