/- The reference automaton: text, comments. -/
import Derived.Test.YtjlmonghelbihaaH11
set_option linter.unusedSimpArgs false
set_option linter.unusedVariables false
set_option maxRecDepth 100000
set_option maxHeartbeats 2000000
namespace Go.AL.Fun
open Go Go.AL

theorem w30 (P : Program) {ctx : Int} {name attr part : List UInt8} {b : UInt8} {H : Heap}  (K : Kv) (hK : ∀ H', Hle H H' → K.ap (stAV (textR ⟨ctx, name, attr, part⟩ b)) H') : @xF (u2 P) f30 [stAV ⟨ctx, name, attr, part⟩, .int .u8 (n8 b)] H K := by
  simp (implicitDefEqProofs := false) only [sB, simprocAttr, f30, stAV, stAV, x_r52, x_r47, x_r48 [] b (by decide), of_n8]
  refine i_new fun p hp => ?_
  simp (implicitDefEqProofs := false) only [sB, simprocAttr]
  refine i_new fun q hq => ?_
  have hq := nk1 hq
  have hpq : ¬ p = q := fun e => hq.1 e.symm
  simp (implicitDefEqProofs := false) only [sB, simprocAttr, hq, hpq, stAV, x_r52, x_r47, x_r48 [] b (by decide), of_n8]
  all_goals repeat' first
    | (refine leaf hK ?_ hle2; simp [textR, stAV, St.zero, *]; done)
    | (refine leaf hK ?_ hle2; simp [textR, stAV, St.zero, n8q b 33 33 rfl, n8q b 34 34 rfl, n8q b 39 39 rfl, n8q b 45 45 rfl, n8q b 47 47 rfl, n8q b 60 60 rfl, n8q b 61 61 rfl, n8q b 62 62 rfl, *]; done)
    | (refine i_new fun r hr => ?_; have hr := nk2 hr; have hqr : ¬ q = r := (fun e => hr.1 e.symm); have hpr : ¬ p = r := (fun e => hr.2.1 e.symm); simp (implicitDefEqProofs := false) only [sB, simprocAttr, stAV, x_r52, x_r47, x_r48 [] b (by decide), of_n8, *]; refine leaf hK ?_ hle3; simp [textR, stAV, St.zero, n8q b 33 33 rfl, n8q b 34 34 rfl, n8q b 39 39 rfl, n8q b 45 45 rfl, n8q b 47 47 rfl, n8q b 60 60 rfl, n8q b 61 61 rfl, n8q b 62 62 rfl, *]; done)
    | (refine i_if ?_ ?_ <;> intro h <;> (try simp only [beq_true, beq_false, Bool.not_eq_true', Bool.not_eq_false', Bool.not_not, decide_eq_true_eq, decide_eq_false_iff_not, beq_iff_eq, bne_iff_ne, Bool.not_eq_true, Bool.not_eq_false, ne_eq, Bool.true_eq, Bool.false_eq] at h) <;> (try exact absurd h (by decide)) <;> (try simp (implicitDefEqProofs := false) only [sB, simprocAttr, stAV, x_r52, x_r47, x_r48 [] b (by decide), of_n8, *]))
theorem w32 (P : Program) {ctx : Int} {name attr part : List UInt8} {b : UInt8} {H : Heap}  (K : Kv) (hK : ∀ H', Hle H H' → K.ap (stAV (commentR ⟨ctx, name, attr, part⟩ b)) H') : @xF (u2 P) f32 [stAV ⟨ctx, name, attr, part⟩, .int .u8 (n8 b)] H K := by
  simp (implicitDefEqProofs := false) only [sB, simprocAttr, f32, stAV, stAV]
  refine i_new fun p hp => ?_
  simp (implicitDefEqProofs := false) only [sB, simprocAttr]
  refine i_new fun q hq => ?_
  have hq := nk1 hq
  have hpq : ¬ p = q := fun e => hq.1 e.symm
  simp (implicitDefEqProofs := false) only [sB, simprocAttr, hq, hpq, stAV]
  all_goals repeat' first
    | (refine leaf hK ?_ hle2; simp [commentR, stAV, St.zero, *]; done)
    | (refine leaf hK ?_ hle2; simp [commentR, stAV, St.zero, n8q b 33 33 rfl, n8q b 34 34 rfl, n8q b 39 39 rfl, n8q b 45 45 rfl, n8q b 47 47 rfl, n8q b 60 60 rfl, n8q b 61 61 rfl, n8q b 62 62 rfl, *]; done)
    | (refine i_new fun r hr => ?_; have hr := nk2 hr; have hqr : ¬ q = r := (fun e => hr.1 e.symm); have hpr : ¬ p = r := (fun e => hr.2.1 e.symm); simp (implicitDefEqProofs := false) only [sB, simprocAttr, stAV, *]; refine leaf hK ?_ hle3; simp [commentR, stAV, St.zero, n8q b 33 33 rfl, n8q b 34 34 rfl, n8q b 39 39 rfl, n8q b 45 45 rfl, n8q b 47 47 rfl, n8q b 60 60 rfl, n8q b 61 61 rfl, n8q b 62 62 rfl, *]; done)
    | (refine i_if ?_ ?_ <;> intro h <;> (try simp only [beq_true, beq_false, Bool.not_eq_true', Bool.not_eq_false', Bool.not_not, decide_eq_true_eq, decide_eq_false_iff_not, beq_iff_eq, bne_iff_ne, Bool.not_eq_true, Bool.not_eq_false, ne_eq, Bool.true_eq, Bool.false_eq] at h) <;> (try exact absurd h (by decide)) <;> (try simp (implicitDefEqProofs := false) only [sB, simprocAttr, stAV, *]))
end Go.AL.Fun
