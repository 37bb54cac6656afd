/- The HTML context automaton: the program's functions, walked. -/
import Derived.Test.YtfgkkkknkojlgaaDoorJ4
set_option linter.unusedSimpArgs false
set_option linter.unusedVariables false
set_option maxRecDepth 100000
set_option maxHeartbeats 2000000
namespace Go.AL.Fun
open Go Go.AL

theorem w26 (P : Program) {ctx : Int} {name attr part : List UInt8} {b : UInt8} {H : Heap}  (K : Kv) (hK : ∀ H', Hle H H' → K.ap (stAV (textP ⟨ctx, name, attr, part⟩ b)) H') : @xF (tB P) f14 [stAV ⟨ctx, name, attr, part⟩, .int .u8 (n8 b)] H K := by
  simp (implicitDefEqProofs := false) only [sB, simprocAttr, f14, stAV, x_j38, x_j39, x_j40, x_d42, x_j43, x_j41, x_j46, of_n8]
  refine i_new fun p hp => ?_
  simp (implicitDefEqProofs := false) only [sB, simprocAttr]
  refine i_new fun q hq => ?_
  have hq := nk1 hq
  have hpq : ¬ p = q := fun e => hq.1 e.symm
  simp (implicitDefEqProofs := false) only [sB, simprocAttr, hq, hpq, x_j38, x_j39, x_j40, x_d42, x_j43, x_j41, x_j46, of_n8]
  all_goals repeat' first
    | (refine leaf hK ?_ hle2; simp [textP, stAV, St.zero, *]; done)
    | (refine leaf hK ?_ hle2; simp [textP, stAV, St.zero, n8q b 33 33 rfl, n8q b 34 34 rfl, n8q b 39 39 rfl, n8q b 45 45 rfl, n8q b 47 47 rfl, n8q b 60 60 rfl, n8q b 61 61 rfl, n8q b 62 62 rfl, *]; done)
    | (refine i_new fun r hr => ?_; have hr := nk2 hr; have hqr : ¬ q = r := (fun e => hr.1 e.symm); have hpr : ¬ p = r := (fun e => hr.2.1 e.symm); simp (implicitDefEqProofs := false) only [sB, simprocAttr, x_j38, x_j39, x_j40, x_d42, x_j43, x_j41, x_j46, of_n8, *]; refine leaf hK ?_ hle3; simp [textP, stAV, St.zero, n8q b 33 33 rfl, n8q b 34 34 rfl, n8q b 39 39 rfl, n8q b 45 45 rfl, n8q b 47 47 rfl, n8q b 60 60 rfl, n8q b 61 61 rfl, n8q b 62 62 rfl, *]; done)
    | (refine i_if ?_ ?_ <;> intro h <;> (try simp only [beq_true, beq_false, Bool.not_eq_true', Bool.not_eq_false', Bool.not_not, decide_eq_true_eq, decide_eq_false_iff_not, beq_iff_eq, bne_iff_ne, Bool.not_eq_true, Bool.not_eq_false, ne_eq, Bool.true_eq, Bool.false_eq] at h) <;> (try exact absurd h (by decide)) <;> (try simp (implicitDefEqProofs := false) only [sB, simprocAttr, x_j38, x_j39, x_j40, x_d42, x_j43, x_j41, x_j46, of_n8, *]))
theorem w27 (P : Program) {ctx : Int} {name attr part : List UInt8} {b : UInt8} {H : Heap} (hl : part.length ≤ 16) (K : Kv) (hK : ∀ H', Hle H H' → K.ap (stAV (commentP ⟨ctx, name, attr, part⟩ b)) H') : @xF (tB P) f15 [stAV ⟨ctx, name, attr, part⟩, .int .u8 (n8 b)] H K := by
  have hmax : part.length + 1 ≤ 9223372036854775807 := by omega
  simp (implicitDefEqProofs := false) only [sB, simprocAttr, f15, stAV, x_j38, x_j39, x_j40, x_d42, x_j43, x_j41, x_j46, of_n8, hmax]
  refine i_new fun p hp => ?_
  simp (implicitDefEqProofs := false) only [sB, simprocAttr]
  refine i_new fun q hq => ?_
  have hq := nk1 hq
  have hpq : ¬ p = q := fun e => hq.1 e.symm
  simp (implicitDefEqProofs := false) only [sB, simprocAttr, hq, hpq, x_j38, x_j39, x_j40, x_d42, x_j43, x_j41, x_j46, of_n8, hmax]
  all_goals repeat' first
    | (refine leaf hK ?_ hle2; simp [commentP, stAV, St.zero, *]; done)
    | (refine leaf hK ?_ hle2; simp [commentP, stAV, St.zero, n8q b 33 33 rfl, n8q b 34 34 rfl, n8q b 39 39 rfl, n8q b 45 45 rfl, n8q b 47 47 rfl, n8q b 60 60 rfl, n8q b 61 61 rfl, n8q b 62 62 rfl, *]; done)
    | (refine i_new fun r hr => ?_; have hr := nk2 hr; have hqr : ¬ q = r := (fun e => hr.1 e.symm); have hpr : ¬ p = r := (fun e => hr.2.1 e.symm); simp (implicitDefEqProofs := false) only [sB, simprocAttr, x_j38, x_j39, x_j40, x_d42, x_j43, x_j41, x_j46, of_n8, hmax, *]; refine leaf hK ?_ hle3; simp [commentP, stAV, St.zero, n8q b 33 33 rfl, n8q b 34 34 rfl, n8q b 39 39 rfl, n8q b 45 45 rfl, n8q b 47 47 rfl, n8q b 60 60 rfl, n8q b 61 61 rfl, n8q b 62 62 rfl, *]; done)
    | (refine i_if ?_ ?_ <;> intro h <;> (try simp only [beq_true, beq_false, Bool.not_eq_true', Bool.not_eq_false', Bool.not_not, decide_eq_true_eq, decide_eq_false_iff_not, beq_iff_eq, bne_iff_ne, Bool.not_eq_true, Bool.not_eq_false, ne_eq, Bool.true_eq, Bool.false_eq] at h) <;> (try exact absurd h (by decide)) <;> (try simp (implicitDefEqProofs := false) only [sB, simprocAttr, x_j38, x_j39, x_j40, x_d42, x_j43, x_j41, x_j46, of_n8, hmax, *]))
theorem w45 (P : Program) {ctx : Int} {name attr part : List UInt8} {b : UInt8} {H : Heap} (hn : name.length ≤ 16) (ha : attr.length ≤ 16) (K : Kv) (hK : ∀ H', Hle H H' → K.ap (stAV (nameP ⟨ctx, name, attr, part⟩ b)) H') : @xF (tB P) f35 [stAV ⟨ctx, name, attr, part⟩, .int .u8 (n8 b)] H K := by
  simp (implicitDefEqProofs := false) only [sB, simprocAttr, f35, stAV, x_j38, x_j39, x_j40, x_d42, x_j43, x_j41, x_j46, of_n8, x_j58 _ _ hn, x_j58 _ _ ha, x_j58 [] b (by decide)]
  refine i_new fun p hp => ?_
  simp (implicitDefEqProofs := false) only [sB, simprocAttr]
  refine i_new fun q hq => ?_
  have hq := nk1 hq
  have hpq : ¬ p = q := fun e => hq.1 e.symm
  simp (implicitDefEqProofs := false) only [sB, simprocAttr, hq, hpq, x_j38, x_j39, x_j40, x_d42, x_j43, x_j41, x_j46, of_n8, x_j58 _ _ hn, x_j58 _ _ ha, x_j58 [] b (by decide)]
  all_goals repeat' first
    | (refine leaf hK ?_ hle2; simp [nameP, withP, stAV, *]; done)
    | (refine leaf hK ?_ hle2; simp [nameP, withP, stAV, n8q b 33 33 rfl, n8q b 34 34 rfl, n8q b 39 39 rfl, n8q b 45 45 rfl, n8q b 47 47 rfl, n8q b 60 60 rfl, n8q b 61 61 rfl, n8q b 62 62 rfl, *]; done)
    | (refine i_new fun r hr => ?_; have hr := nk2 hr; have hqr : ¬ q = r := (fun e => hr.1 e.symm); have hpr : ¬ p = r := (fun e => hr.2.1 e.symm); simp (implicitDefEqProofs := false) only [sB, simprocAttr, x_j38, x_j39, x_j40, x_d42, x_j43, x_j41, x_j46, of_n8, x_j58 _ _ hn, x_j58 _ _ ha, x_j58 [] b (by decide), *]; refine leaf hK ?_ hle3; simp [nameP, withP, stAV, n8q b 33 33 rfl, n8q b 34 34 rfl, n8q b 39 39 rfl, n8q b 45 45 rfl, n8q b 47 47 rfl, n8q b 60 60 rfl, n8q b 61 61 rfl, n8q b 62 62 rfl, *]; done)
    | (refine i_if ?_ ?_ <;> intro h <;> (try simp only [beq_true, beq_false, Bool.not_eq_true', Bool.not_eq_false', Bool.not_not, decide_eq_true_eq, decide_eq_false_iff_not, beq_iff_eq, bne_iff_ne, Bool.not_eq_true, Bool.not_eq_false, ne_eq, Bool.true_eq, Bool.false_eq] at h) <;> (try exact absurd h (by decide)) <;> (try simp (implicitDefEqProofs := false) only [sB, simprocAttr, x_j38, x_j39, x_j40, x_d42, x_j43, x_j41, x_j46, of_n8, x_j58 _ _ hn, x_j58 _ _ ha, x_j58 [] b (by decide), *]))
theorem w44 (P : Program) {ctx : Int} {name attr part : List UInt8} {b : UInt8} {H : Heap}  (K : Kv) (hK : ∀ H', Hle H H' → K.ap (stAV (valueP ⟨ctx, name, attr, part⟩ b)) H') : @xF (tB P) f34 [stAV ⟨ctx, name, attr, part⟩, .int .u8 (n8 b)] H K := by
  simp (implicitDefEqProofs := false) only [sB, simprocAttr, f34, stAV, x_j38, x_j39, x_j40, x_d42, x_j43, x_j41, x_j46, of_n8]
  refine i_new fun p hp => ?_
  simp (implicitDefEqProofs := false) only [sB, simprocAttr]
  refine i_new fun q hq => ?_
  have hq := nk1 hq
  have hpq : ¬ p = q := fun e => hq.1 e.symm
  simp (implicitDefEqProofs := false) only [sB, simprocAttr, hq, hpq, x_j38, x_j39, x_j40, x_d42, x_j43, x_j41, x_j46, of_n8]
  all_goals repeat' first
    | (refine leaf hK ?_ hle2; simp [valueP, ctxP, withP, stAV, *]; done)
    | (refine leaf hK ?_ hle2; simp [valueP, ctxP, withP, stAV, n8q b 33 33 rfl, n8q b 34 34 rfl, n8q b 39 39 rfl, n8q b 45 45 rfl, n8q b 47 47 rfl, n8q b 60 60 rfl, n8q b 61 61 rfl, n8q b 62 62 rfl, *]; done)
    | (refine i_new fun r hr => ?_; have hr := nk2 hr; have hqr : ¬ q = r := (fun e => hr.1 e.symm); have hpr : ¬ p = r := (fun e => hr.2.1 e.symm); simp (implicitDefEqProofs := false) only [sB, simprocAttr, x_j38, x_j39, x_j40, x_d42, x_j43, x_j41, x_j46, of_n8, *]; refine leaf hK ?_ hle3; simp [valueP, ctxP, withP, stAV, n8q b 33 33 rfl, n8q b 34 34 rfl, n8q b 39 39 rfl, n8q b 45 45 rfl, n8q b 47 47 rfl, n8q b 60 60 rfl, n8q b 61 61 rfl, n8q b 62 62 rfl, *]; done)
    | (refine i_if ?_ ?_ <;> intro h <;> (try simp only [beq_true, beq_false, Bool.not_eq_true', Bool.not_eq_false', Bool.not_not, decide_eq_true_eq, decide_eq_false_iff_not, beq_iff_eq, bne_iff_ne, Bool.not_eq_true, Bool.not_eq_false, ne_eq, Bool.true_eq, Bool.false_eq] at h) <;> (try exact absurd h (by decide)) <;> (try simp (implicitDefEqProofs := false) only [sB, simprocAttr, x_j38, x_j39, x_j40, x_d42, x_j43, x_j41, x_j46, of_n8, *]))
end Go.AL.Fun
