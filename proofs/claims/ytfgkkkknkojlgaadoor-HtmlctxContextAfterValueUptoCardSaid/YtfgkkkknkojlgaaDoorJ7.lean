/- The HTML context automaton: a step, the escaper, a run. -/
import Derived.Test.YtfgkkkknkojlgaaDoorJ6
set_option linter.unusedSimpArgs false
set_option linter.unusedVariables false
set_option maxRecDepth 100000
set_option maxHeartbeats 2000000
namespace Go.AL.Fun
open Go Go.AL

def j29 (xs : List AV) (H : Heap) (K : Kv) : Prop := ∃ (ctx : Int) (name attr part : List UInt8) (b : UInt8), xs = [.agg [.int .i64 ctx, .str name, .str attr, .str part], .int .u8 (n8 b)] ∧ (name.length ≤ 16 ∧ attr.length ≤ 16) ∧ K.ap (stAV (tagP ⟨ctx, name, attr, part⟩ b)) H
theorem x_j29 {ctx : Int} {name attr part : List UInt8} {b : UInt8} (hs : name.length ≤ 16 ∧ attr.length ≤ 16) (H : Heap) (K : Kv) : j29 [.agg [.int .i64 ctx, .str name, .str attr, .str part], .int .u8 (n8 b)] H K = K.ap (stAV (tagP ⟨ctx, name, attr, part⟩ b)) H := by
  simp only [j29, List.cons.injEq, AV.int.injEq, AV.str.injEq, AV.agg.injEq, true_and, and_true, n8_eq]
  exact propext ⟨fun ⟨_, _, _, _, _, ⟨⟨e1, e2, e3, e4⟩, f0⟩, _, h⟩ => by subst e1 e2 e3 e4 f0; exact h, fun h => ⟨_, _, _, _, _, ⟨⟨rfl, rfl, rfl, rfl⟩, rfl⟩, hs, h⟩⟩

def j28 (xs : List AV) (H : Heap) (K : Kv) : Prop := ∃ (ctx : Int) (name attr part : List UInt8) (code : Int) (e : List UInt8) (b : UInt8), xs = [.agg [.int .i64 ctx, .str name, .str attr, .str part], .int .i64 code, .str e, .int .u8 (n8 b)] ∧ part.length ≤ 16 ∧ code ≤ ctx ∧ ctx ≤ code + 2 ∧ ((code = 16 ∧ e = scriptE) ∨ (code = 19 ∧ e = styleE)) ∧ K.ap (stAV (rawP ⟨ctx, name, attr, part⟩ code e b)) H
theorem x_j28 {ctx : Int} {name attr part : List UInt8} {code : Int} {e : List UInt8} {b : UInt8} (h0 : part.length ≤ 16) (h1 : code ≤ ctx) (h2 : ctx ≤ code + 2) (h3 : (code = 16 ∧ e = scriptE) ∨ (code = 19 ∧ e = styleE)) (H : Heap) (K : Kv) (h : K.ap (stAV (rawP ⟨ctx, name, attr, part⟩ code e b)) H) : j28 [.agg [.int .i64 ctx, .str name, .str attr, .str part], .int .i64 code, .str e, .int .u8 (n8 b)] H K :=
  ⟨_, _, _, _, _, _, _, rfl, h0, h1, h2, h3, h⟩
theorem w28 (P : Program) {xs : List AV} {H : Heap} {K : Kv} (h : j28 xs H K) : @xF (tB P) f16 xs H ⟨fun v H' => ∃ H0, Hle H0 H' ∧ K.ap v H0⟩ := by
  obtain ⟨ctx, name, attr, part, code, e, b, rfl, h0, h1, h2, h3, h⟩ := h
  rcases h3 with ⟨rfl, rfl⟩ | ⟨rfl, rfl⟩
  · have : ctx = 16 ∨ ctx = 17 ∨ ctx = 18 := by omega
    rcases this with rfl | rfl | rfl
    · exact w28_16 P h0 _ fun H' hl => ⟨H, hl, h⟩
    · exact w28_17 P h0 _ fun H' hl => ⟨H, hl, h⟩
    · exact w28_18 P h0 _ fun H' hl => ⟨H, hl, h⟩
  · have : ctx = 19 ∨ ctx = 20 ∨ ctx = 21 := by omega
    rcases this with rfl | rfl | rfl
    · exact w28_19 P h0 _ fun H' hl => ⟨H, hl, h⟩
    · exact w28_20 P h0 _ fun H' hl => ⟨H, hl, h⟩
    · exact w28_21 P h0 _ fun H' hl => ⟨H, hl, h⟩
theorem x_c28_16 {name attr part : List UInt8} {b : UInt8} (hs : part.length ≤ 16) (H : Heap) (K : Kv) : j28 [.agg [.int .i64 16, .str name, .str attr, .str part], .int .i64 16, .str [60, 47, 115, 99, 114, 105, 112, 116], .int .u8 (n8 b)] H K = K.ap (stAV (rawP ⟨16, name, attr, part⟩ 16 scriptE b)) H := by
  refine propext ⟨fun ⟨_, _, _, _, _, _, _, e, _, _, _, h3, h⟩ => ?_, fun h => x_j28 hs (by decide) (by decide) (by decide) H K h⟩
  simp only [List.cons.injEq, AV.int.injEq, AV.str.injEq, AV.agg.injEq, true_and, and_true, n8_eq] at e
  obtain ⟨⟨rfl, rfl, rfl, rfl⟩, rfl, rfl, rfl⟩ := e
  exact h
theorem x_c28_17 {name attr part : List UInt8} {b : UInt8} (hs : part.length ≤ 16) (H : Heap) (K : Kv) : j28 [.agg [.int .i64 17, .str name, .str attr, .str part], .int .i64 16, .str [60, 47, 115, 99, 114, 105, 112, 116], .int .u8 (n8 b)] H K = K.ap (stAV (rawP ⟨17, name, attr, part⟩ 16 scriptE b)) H := by
  refine propext ⟨fun ⟨_, _, _, _, _, _, _, e, _, _, _, h3, h⟩ => ?_, fun h => x_j28 hs (by decide) (by decide) (by decide) H K h⟩
  simp only [List.cons.injEq, AV.int.injEq, AV.str.injEq, AV.agg.injEq, true_and, and_true, n8_eq] at e
  obtain ⟨⟨rfl, rfl, rfl, rfl⟩, rfl, rfl, rfl⟩ := e
  exact h
theorem x_c28_18 {name attr part : List UInt8} {b : UInt8} (hs : part.length ≤ 16) (H : Heap) (K : Kv) : j28 [.agg [.int .i64 18, .str name, .str attr, .str part], .int .i64 16, .str [60, 47, 115, 99, 114, 105, 112, 116], .int .u8 (n8 b)] H K = K.ap (stAV (rawP ⟨18, name, attr, part⟩ 16 scriptE b)) H := by
  refine propext ⟨fun ⟨_, _, _, _, _, _, _, e, _, _, _, h3, h⟩ => ?_, fun h => x_j28 hs (by decide) (by decide) (by decide) H K h⟩
  simp only [List.cons.injEq, AV.int.injEq, AV.str.injEq, AV.agg.injEq, true_and, and_true, n8_eq] at e
  obtain ⟨⟨rfl, rfl, rfl, rfl⟩, rfl, rfl, rfl⟩ := e
  exact h
theorem x_c28_19 {name attr part : List UInt8} {b : UInt8} (hs : part.length ≤ 16) (H : Heap) (K : Kv) : j28 [.agg [.int .i64 19, .str name, .str attr, .str part], .int .i64 19, .str [60, 47, 115, 116, 121, 108, 101], .int .u8 (n8 b)] H K = K.ap (stAV (rawP ⟨19, name, attr, part⟩ 19 styleE b)) H := by
  refine propext ⟨fun ⟨_, _, _, _, _, _, _, e, _, _, _, h3, h⟩ => ?_, fun h => x_j28 hs (by decide) (by decide) (by decide) H K h⟩
  simp only [List.cons.injEq, AV.int.injEq, AV.str.injEq, AV.agg.injEq, true_and, and_true, n8_eq] at e
  obtain ⟨⟨rfl, rfl, rfl, rfl⟩, rfl, rfl, rfl⟩ := e
  exact h
theorem x_c28_20 {name attr part : List UInt8} {b : UInt8} (hs : part.length ≤ 16) (H : Heap) (K : Kv) : j28 [.agg [.int .i64 20, .str name, .str attr, .str part], .int .i64 19, .str [60, 47, 115, 116, 121, 108, 101], .int .u8 (n8 b)] H K = K.ap (stAV (rawP ⟨20, name, attr, part⟩ 19 styleE b)) H := by
  refine propext ⟨fun ⟨_, _, _, _, _, _, _, e, _, _, _, h3, h⟩ => ?_, fun h => x_j28 hs (by decide) (by decide) (by decide) H K h⟩
  simp only [List.cons.injEq, AV.int.injEq, AV.str.injEq, AV.agg.injEq, true_and, and_true, n8_eq] at e
  obtain ⟨⟨rfl, rfl, rfl, rfl⟩, rfl, rfl, rfl⟩ := e
  exact h
theorem x_c28_21 {name attr part : List UInt8} {b : UInt8} (hs : part.length ≤ 16) (H : Heap) (K : Kv) : j28 [.agg [.int .i64 21, .str name, .str attr, .str part], .int .i64 19, .str [60, 47, 115, 116, 121, 108, 101], .int .u8 (n8 b)] H K = K.ap (stAV (rawP ⟨21, name, attr, part⟩ 19 styleE b)) H := by
  refine propext ⟨fun ⟨_, _, _, _, _, _, _, e, _, _, _, h3, h⟩ => ?_, fun h => x_j28 hs (by decide) (by decide) (by decide) H K h⟩
  simp only [List.cons.injEq, AV.int.injEq, AV.str.injEq, AV.agg.injEq, true_and, and_true, n8_eq] at e
  obtain ⟨⟨rfl, rfl, rfl, rfl⟩, rfl, rfl, rfl⟩ := e
  exact h
@[reducible] def tD (P : Program) : Th := ⟨GH, P, (16, j28) :: (17, j29) :: (14, j26) :: (15, j27) :: (tC P).T⟩
theorem w12 (P : Program) {ctx : Int} {name attr part : List UInt8} {b : UInt8} {H : Heap} (hn : name.length ≤ 16) (ha : attr.length ≤ 16) (hl : part.length ≤ 16) (K : Kv) (hK : ∀ H', Hle H H' → K.ap (stAV (stepP ⟨ctx, name, attr, part⟩ b)) H') : @xF (tD P) f9 [stAV ⟨ctx, name, attr, part⟩, .int .u8 (n8 b)] H K := by
  simp (implicitDefEqProofs := false) only [sB, simprocAttr, f9, stAV, stAV, x_j26, x_j27 hl, x_j29 ⟨hn, ha⟩, x_c28_16 hl, x_c28_17 hl, x_c28_18 hl, x_c28_19 hl, x_c28_20 hl, x_c28_21 hl]
  refine i_new fun p hp => ?_
  simp (implicitDefEqProofs := false) only [sB, simprocAttr]
  refine i_new fun q hq => ?_
  have hq := nk1 hq
  have hpq : ¬ p = q := fun e => hq.1 e.symm
  simp (implicitDefEqProofs := false) only [sB, simprocAttr, hq, hpq, stAV, x_j26, x_j27 hl, x_j29 ⟨hn, ha⟩, x_c28_16 hl, x_c28_17 hl, x_c28_18 hl, x_c28_19 hl, x_c28_20 hl, x_c28_21 hl]
  all_goals repeat' first
    | (refine leaf hK ?_ hle2; simp [stepP, St.zero, stAV, *]; done)
    | (refine leaf hK ?_ hle2; simp [stepP, St.zero, stAV, n8q b 33 33 rfl, n8q b 34 34 rfl, n8q b 39 39 rfl, n8q b 45 45 rfl, n8q b 47 47 rfl, n8q b 60 60 rfl, n8q b 61 61 rfl, n8q b 62 62 rfl, *]; done)
    | (refine i_new fun r hr => ?_; have hr := nk2 hr; have hqr : ¬ q = r := (fun e => hr.1 e.symm); have hpr : ¬ p = r := (fun e => hr.2.1 e.symm); simp (implicitDefEqProofs := false) only [sB, simprocAttr, stAV, x_j26, x_j27 hl, x_j29 ⟨hn, ha⟩, x_c28_16 hl, x_c28_17 hl, x_c28_18 hl, x_c28_19 hl, x_c28_20 hl, x_c28_21 hl, *]; refine leaf hK ?_ hle3; simp [stepP, St.zero, stAV, n8q b 33 33 rfl, n8q b 34 34 rfl, n8q b 39 39 rfl, n8q b 45 45 rfl, n8q b 47 47 rfl, n8q b 60 60 rfl, n8q b 61 61 rfl, n8q b 62 62 rfl, *]; done)
    | (refine i_if ?_ ?_ <;> intro h <;> (try simp only [beq_true, beq_false, Bool.not_eq_true', Bool.not_eq_false', Bool.not_not, decide_eq_true_eq, decide_eq_false_iff_not, beq_iff_eq, bne_iff_ne, Bool.not_eq_true, Bool.not_eq_false, ne_eq, Bool.true_eq, Bool.false_eq] at h) <;> (try exact absurd h (by decide)) <;> (try simp (implicitDefEqProofs := false) only [sB, simprocAttr, stAV, x_j26, x_j27 hl, x_j29 ⟨hn, ha⟩, x_c28_16 hl, x_c28_17 hl, x_c28_18 hl, x_c28_19 hl, x_c28_20 hl, x_c28_21 hl, *]))
end Go.AL.Fun
