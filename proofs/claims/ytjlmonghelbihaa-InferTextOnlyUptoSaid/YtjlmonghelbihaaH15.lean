/- The reference automaton: a step, the escaper. Law 3. -/
import Derived.Test.YtjlmonghelbihaaH14
set_option linter.unusedSimpArgs false
set_option linter.unusedVariables false
set_option maxRecDepth 100000
set_option maxHeartbeats 2000000
namespace Go.AL.Fun
open Go Go.AL

def r30 (xs : List AV) (H : Heap) (K : Kv) : Prop := ∃ (ctx : Int) (name attr part : List UInt8) (b : UInt8), xs = [.agg [.int .i64 ctx, .str name, .str attr, .str part], .int .u8 (n8 b)] ∧ K.ap (stAV (textR ⟨ctx, name, attr, part⟩ b)) H
theorem x_r30 {ctx : Int} {name attr part : List UInt8} {b : UInt8} (H : Heap) (K : Kv) : r30 [.agg [.int .i64 ctx, .str name, .str attr, .str part], .int .u8 (n8 b)] H K = K.ap (stAV (textR ⟨ctx, name, attr, part⟩ b)) H := by
  simp only [r30, List.cons.injEq, AV.int.injEq, AV.str.injEq, AV.agg.injEq, true_and, and_true, n8_eq]
  exact propext ⟨fun ⟨_, _, _, _, _, ⟨⟨e1, e2, e3, e4⟩, f0⟩, h⟩ => by subst e1 e2 e3 e4 f0; exact h, fun h => ⟨_, _, _, _, _, ⟨⟨rfl, rfl, rfl, rfl⟩, rfl⟩, h⟩⟩
def r31 (xs : List AV) (H : Heap) (K : Kv) : Prop := ∃ (ctx : Int) (name attr part : List UInt8) (b : UInt8), xs = [.agg [.int .i64 ctx, .str name, .str attr, .str part], .int .u8 (n8 b)] ∧ (1 ≤ ctx ∧ ctx ≤ 12 ∧ name.length ≤ 16 ∧ attr.length ≤ 16) ∧ K.ap (stAV (tagR ⟨ctx, name, attr, part⟩ b)) H
theorem x_r31 {ctx : Int} {name attr part : List UInt8} {b : UInt8} (hs : 1 ≤ ctx ∧ ctx ≤ 12 ∧ name.length ≤ 16 ∧ attr.length ≤ 16) (H : Heap) (K : Kv) : r31 [.agg [.int .i64 ctx, .str name, .str attr, .str part], .int .u8 (n8 b)] H K = K.ap (stAV (tagR ⟨ctx, name, attr, part⟩ b)) H := by
  simp only [r31, List.cons.injEq, AV.int.injEq, AV.str.injEq, AV.agg.injEq, true_and, and_true, n8_eq]
  exact propext ⟨fun ⟨_, _, _, _, _, ⟨⟨e1, e2, e3, e4⟩, f0⟩, _, h⟩ => by subst e1 e2 e3 e4 f0; exact h, fun h => ⟨_, _, _, _, _, ⟨⟨rfl, rfl, rfl, rfl⟩, rfl⟩, hs, h⟩⟩
def r32 (xs : List AV) (H : Heap) (K : Kv) : Prop := ∃ (ctx : Int) (name attr part : List UInt8) (b : UInt8), xs = [.agg [.int .i64 ctx, .str name, .str attr, .str part], .int .u8 (n8 b)] ∧ K.ap (stAV (commentR ⟨ctx, name, attr, part⟩ b)) H
theorem x_r32 {ctx : Int} {name attr part : List UInt8} {b : UInt8} (H : Heap) (K : Kv) : r32 [.agg [.int .i64 ctx, .str name, .str attr, .str part], .int .u8 (n8 b)] H K = K.ap (stAV (commentR ⟨ctx, name, attr, part⟩ b)) H := by
  simp only [r32, List.cons.injEq, AV.int.injEq, AV.str.injEq, AV.agg.injEq, true_and, and_true, n8_eq]
  exact propext ⟨fun ⟨_, _, _, _, _, ⟨⟨e1, e2, e3, e4⟩, f0⟩, h⟩ => by subst e1 e2 e3 e4 f0; exact h, fun h => ⟨_, _, _, _, _, ⟨⟨rfl, rfl, rfl, rfl⟩, rfl⟩, h⟩⟩
def r33 (xs : List AV) (H : Heap) (K : Kv) : Prop := ∃ (ctx : Int) (name attr part : List UInt8) (b : UInt8), xs = [.agg [.int .i64 ctx, .str name, .str attr, .str part], .int .u8 (n8 b)] ∧ (16 ≤ ctx ∧ ctx ≤ 21 ∧ part.length ≤ 16) ∧ K.ap (stAV (rawR ⟨ctx, name, attr, part⟩ b)) H
theorem x_r33 {ctx : Int} {name attr part : List UInt8} {b : UInt8} (hs : 16 ≤ ctx ∧ ctx ≤ 21 ∧ part.length ≤ 16) (H : Heap) (K : Kv) : r33 [.agg [.int .i64 ctx, .str name, .str attr, .str part], .int .u8 (n8 b)] H K = K.ap (stAV (rawR ⟨ctx, name, attr, part⟩ b)) H := by
  simp only [r33, List.cons.injEq, AV.int.injEq, AV.str.injEq, AV.agg.injEq, true_and, and_true, n8_eq]
  exact propext ⟨fun ⟨_, _, _, _, _, ⟨⟨e1, e2, e3, e4⟩, f0⟩, _, h⟩ => by subst e1 e2 e3 e4 f0; exact h, fun h => ⟨_, _, _, _, _, ⟨⟨rfl, rfl, rfl, rfl⟩, rfl⟩, hs, h⟩⟩
theorem r30_of (P : Program) {xs : List AV} {H : Heap} {K : Kv} (h : r30 xs H K) : @xF (u2 P) f30 xs H ⟨fun v H' => ∃ H0, Hle H0 H' ∧ K.ap v H0⟩ := by
  obtain ⟨ctx, name, attr, part, b, rfl, h⟩ := h
  exact w30 P _ fun H' hl => ⟨H, hl, h⟩
theorem r32_of (P : Program) {xs : List AV} {H : Heap} {K : Kv} (h : r32 xs H K) : @xF (u2 P) f32 xs H ⟨fun v H' => ∃ H0, Hle H0 H' ∧ K.ap v H0⟩ := by
  obtain ⟨ctx, name, attr, part, b, rfl, h⟩ := h
  exact w32 P _ fun H' hl => ⟨H, hl, h⟩
theorem r31_of (P : Program) {xs : List AV} {H : Heap} {K : Kv} (h : r31 xs H K) : @xF (u2 P) f31 xs H ⟨fun v H' => ∃ H0, Hle H0 H' ∧ K.ap v H0⟩ := by
  obtain ⟨ctx, name, attr, part, b, rfl, ⟨h1, h2, h3, h4⟩, h⟩ := h
  have : ctx = 1 ∨ ctx = 2 ∨ ctx = 3 ∨ ctx = 4 ∨ ctx = 5 ∨ ctx = 6 ∨ ctx = 7 ∨ ctx = 8 ∨ ctx = 9 ∨ ctx = 10 ∨ ctx = 11 ∨ ctx = 12 := by omega
  rcases this with rfl | rfl | rfl | rfl | rfl | rfl | rfl | rfl | rfl | rfl | rfl | rfl
  · exact w31_1 P h3 h4 _ fun H' hl => ⟨H, hl, h⟩
  · exact w31_2 P h3 h4 _ fun H' hl => ⟨H, hl, h⟩
  · exact w31_3 P h3 h4 _ fun H' hl => ⟨H, hl, h⟩
  · exact w31_4 P h3 h4 _ fun H' hl => ⟨H, hl, h⟩
  · exact w31_5 P h3 h4 _ fun H' hl => ⟨H, hl, h⟩
  · exact w31_6 P h3 h4 _ fun H' hl => ⟨H, hl, h⟩
  · exact w31_7 P h3 h4 _ fun H' hl => ⟨H, hl, h⟩
  · exact w31_8 P h3 h4 _ fun H' hl => ⟨H, hl, h⟩
  · exact w31_9 P h3 h4 _ fun H' hl => ⟨H, hl, h⟩
  · exact w31_10 P h3 h4 _ fun H' hl => ⟨H, hl, h⟩
  · exact w31_11 P h3 h4 _ fun H' hl => ⟨H, hl, h⟩
  · exact w31_12 P h3 h4 _ fun H' hl => ⟨H, hl, h⟩
theorem r33_of (P : Program) {xs : List AV} {H : Heap} {K : Kv} (h : r33 xs H K) : @xF (u2 P) f33 xs H ⟨fun v H' => ∃ H0, Hle H0 H' ∧ K.ap v H0⟩ := by
  obtain ⟨ctx, name, attr, part, b, rfl, ⟨h1, h2, h3⟩, h⟩ := h
  have : ctx = 16 ∨ ctx = 17 ∨ ctx = 18 ∨ ctx = 19 ∨ ctx = 20 ∨ ctx = 21 := by omega
  rcases this with rfl | rfl | rfl | rfl | rfl | rfl
  · exact w33_16 P h3 _ fun H' hl => ⟨H, hl, h⟩
  · exact w33_17 P h3 _ fun H' hl => ⟨H, hl, h⟩
  · exact w33_18 P h3 _ fun H' hl => ⟨H, hl, h⟩
  · exact w33_19 P h3 _ fun H' hl => ⟨H, hl, h⟩
  · exact w33_20 P h3 _ fun H' hl => ⟨H, hl, h⟩
  · exact w33_21 P h3 _ fun H' hl => ⟨H, hl, h⟩
@[reducible] def u3 (P : Program) : Th := ⟨fun _ => none, P, [(30, r30), (31, r31), (32, r32), (33, r33)]⟩
def r13 (xs : List AV) (H : Heap) (K : Kv) : Prop := ∃ s b, xs = [stAV s, .int .u8 (n8 b)] ∧ Inv s ∧ K.ap (stAV (stepP s b)) H
theorem r13_of (P : Program) {xs : List AV} {H : Heap} {K : Kv} (h : r13 xs H K) : @xF (u3 P) f13 xs H ⟨fun v H' => ∃ H0, Hle H0 H' ∧ K.ap v H0⟩ := by
  obtain ⟨⟨ctx, name, attr, part⟩, b, rfl, hi, h⟩ := h
  rw [step_eq hi] at h
  have i1 := hi.lo; have i2 := hi.hi; have i3 := hi.n16; have i4 := hi.a16; have i5 := (part_facts hi).2
  simp only at i1 i2 i3 i4 i5
  simp (implicitDefEqProofs := false) only [sB, simprocAttr, f13, stAV]
  refine i_new fun p hp => ?_
  simp (implicitDefEqProofs := false) only [sB, simprocAttr]
  refine i_new fun q hq => ?_
  simp (implicitDefEqProofs := false) only [sB, simprocAttr] at hq
  have hpq : ¬ p = q := fun e => hq.1 e.symm
  by_cases c0 : ctx = 0
  · simp (implicitDefEqProofs := false) only [sB, simprocAttr, hq, hpq, c0, x_r30, stAV]
    exact ⟨H, hle2, by simpa [stepR, c0, stAV] using h⟩
  · by_cases c1 : ctx ≤ 12
    · simp (implicitDefEqProofs := false) only [sB, simprocAttr, hq, hpq, c0, c1, x_r31 ⟨show 1 ≤ ctx by omega, c1, i3, i4⟩, stAV]
      exact ⟨H, hle2, by simpa [stepR, c0, c1, stAV] using h⟩
    · by_cases c2 : ctx = 13
      · simp (implicitDefEqProofs := false) only [sB, simprocAttr, hq, hpq, c0, c1, c2, x_r32, stAV]
        exact ⟨H, hle2, by simpa [stepR, c2, stAV] using h⟩
      · by_cases c3 : ctx ≤ 15
        · by_cases c4 : n8 b = 62
          · simp (implicitDefEqProofs := false) only [sB, simprocAttr, hq, hpq, c0, c1, c2, c3, c4, stAV]
            exact ⟨H, hle2, by simpa [stepR, c0, c1, c2, c3, c4, stAV, St.zero] using h⟩
          · simp (implicitDefEqProofs := false) only [sB, simprocAttr, hq, hpq, c0, c1, c2, c3, c4, stAV]
            exact ⟨H, hle2, by simpa [stepR, c0, c1, c2, c3, c4, stAV] using h⟩
        · simp (implicitDefEqProofs := false) only [sB, simprocAttr, hq, hpq, c0, c1, c2, c3, x_r33 ⟨show 16 ≤ ctx by omega, i2, show part.length ≤ 16 by omega⟩, stAV]
          exact ⟨H, hle2, by simpa [stepR, c0, c1, c2, c3, stAV] using h⟩
theorem x_r13 {ctx : Int} {name attr part : List UInt8} {b : UInt8} (hi : Inv ⟨ctx, name, attr, part⟩) (H : Heap) (K : Kv) : r13 [.agg [.int .i64 ctx, .str name, .str attr, .str part], .int .u8 (n8 b)] H K = K.ap (stAV (stepP ⟨ctx, name, attr, part⟩ b)) H := by
  refine propext ⟨fun ⟨s, b', e, _, h⟩ => ?_, fun h => ⟨_, _, rfl, hi, h⟩⟩
  obtain ⟨b1, b2, b3, b4⟩ := s
  simp only [stAV, List.cons.injEq, AV.int.injEq, AV.str.injEq, AV.agg.injEq, true_and, and_true, n8_eq] at e
  obtain ⟨⟨rfl, rfl, rfl, rfl⟩, rfl⟩ := e
  exact h
theorem x_c12 {ctx : Int} {name attr part : List UInt8} {b : UInt8} (hi : Inv ⟨ctx, name, attr, part⟩) (H : Heap) (K : Kv) : c12 [.agg [.int .i64 ctx, .str name, .str attr, .str part], .int .u8 (n8 b)] H K = K.ap (stAV (stepP ⟨ctx, name, attr, part⟩ b)) H := by
  refine propext ⟨fun ⟨s, b', e, _, h⟩ => ?_, fun h => ⟨_, _, rfl, hi, h⟩⟩
  obtain ⟨b1, b2, b3, b4⟩ := s
  simp only [stAV, List.cons.injEq, AV.int.injEq, AV.str.injEq, AV.agg.injEq, true_and, and_true, n8_eq] at e
  obtain ⟨⟨rfl, rfl, rfl, rfl⟩, rfl⟩ := e
  exact h
theorem r15_of (P : Program) {xs : List AV} {H : Heap} {K : Kv} (h : c14 xs H K) : @xF (t0 P) f15 xs H ⟨fun v H' => ∃ H0, Hle H0 H' ∧ K.ap v H0⟩ := by
  obtain ⟨⟨ctx, name, attr, part⟩, rfl, h⟩ := h
  simp (implicitDefEqProofs := false) only [sB, simprocAttr, f15, stAV]
  refine i_new fun p hp => ?_
  have hl : ∀ x : Nat × AObj, Hle H (x :: H) := fun x => .tail x H
  by_cases c0 : part = []
  · subst c0
    simp (implicitDefEqProofs := false) only [sB, simprocAttr]
    by_cases d0 : ctx = 0
    · simp (implicitDefEqProofs := false) only [sB, simprocAttr, d0]; exact ⟨H, hl _, by simpa [escP, d0] using h⟩
    · by_cases d1 : ctx = 7
      · simp (implicitDefEqProofs := false) only [sB, simprocAttr, d1]; exact ⟨H, hl _, by simpa [escP, d1] using h⟩
      · by_cases d2 : ctx = 8
        · simp (implicitDefEqProofs := false) only [sB, simprocAttr, d2]; exact ⟨H, hl _, by simpa [escP, d2] using h⟩
        · by_cases d3 : ctx = 9
          · simp (implicitDefEqProofs := false) only [sB, simprocAttr, d3]; exact ⟨H, hl _, by simpa [escP, d3] using h⟩
          · by_cases d4 : ctx = 10
            · simp (implicitDefEqProofs := false) only [sB, simprocAttr, d4]; exact ⟨H, hl _, by simpa [escP, d4] using h⟩
            · by_cases d5 : ctx = 17
              · simp (implicitDefEqProofs := false) only [sB, simprocAttr, d5]; exact ⟨H, hl _, by simpa [escP, d5] using h⟩
              · by_cases d6 : ctx = 18
                · simp (implicitDefEqProofs := false) only [sB, simprocAttr, d6]; exact ⟨H, hl _, by simpa [escP, d6] using h⟩
                · by_cases d7 : ctx = 20
                  · simp (implicitDefEqProofs := false) only [sB, simprocAttr, d7]; exact ⟨H, hl _, by simpa [escP, d7] using h⟩
                  · by_cases d8 : ctx = 21
                    · simp (implicitDefEqProofs := false) only [sB, simprocAttr, d8]; exact ⟨H, hl _, by simpa [escP, d8] using h⟩
                    · simp (implicitDefEqProofs := false) only [sB, simprocAttr, d0, d1, d2, d3, d4, d5, d6, d7, d8]; exact ⟨H, hl _, by simpa [escP, d0, d1, d2, d3, d4, d5, d6, d7, d8] using h⟩
  · simp (implicitDefEqProofs := false) only [sB, simprocAttr, c0]
    exact ⟨H, hl _, by simpa [escP, c0] using h⟩

theorem r16_of (P : Program) {ctx : Int} {name attr part : List UInt8} {H : Heap} {K : Kv} (h : K.ap (stAV ⟨ctx, name, attr, part⟩) H) : @xF (t0 P) f16 [stAV ⟨ctx, name, attr, part⟩] H ⟨fun v H' => ∃ H0, Hle H0 H' ∧ K.ap v H0⟩ := by
  simp (implicitDefEqProofs := false) only [sB, simprocAttr, f16, stAV]
  refine i_new fun p hp => ?_
  simp (implicitDefEqProofs := false) only [sB, simprocAttr]
  refine i_new fun q hq => ?_
  simp (implicitDefEqProofs := false) only [sB, simprocAttr] at hq
  have hpq : ¬ p = q := fun e => hq.1 e.symm
  simp (implicitDefEqProofs := false) only [sB, simprocAttr, hq, hpq]
  exact ⟨H, hle2, h⟩
def r16 (xs : List AV) (H : Heap) (K : Kv) : Prop := ∃ (ctx : Int) (name attr part : List UInt8), xs = [.agg [.int .i64 ctx, .str name, .str attr, .str part]] ∧ K.ap (stAV ⟨ctx, name, attr, part⟩) H
theorem x_r16 (ctx : Int) (name attr part : List UInt8) (H : Heap) (K : Kv) : r16 [.agg [.int .i64 ctx, .str name, .str attr, .str part]] H K = K.ap (stAV ⟨ctx, name, attr, part⟩) H := by
  simp only [r16, List.cons.injEq, AV.int.injEq, AV.str.injEq, AV.agg.injEq, true_and, and_true]
  exact propext ⟨fun ⟨_, _, _, _, ⟨e1, e2, e3, e4⟩, h⟩ => by subst e1 e2 e3 e4; exact h, fun h => ⟨_, _, _, _, ⟨rfl, rfl, rfl, rfl⟩, h⟩⟩
@[reducible] def tH (P : Program) : Th := ⟨fun _ => none, P, (13, r13) :: (15, c14) :: (16, r16) :: (tG P).T⟩
theorem law3 (P : Program) (t : List UInt8) (ht : t.length ≤ 1048576) (K : Kv) (hK : ∀ H, K.ap (.bool true) H) : @xF (tH P) f3 [.str t] [] K := by
  have z : Inv ⟨0, [], [], []⟩ := inv_zero 0 (by decide) (by decide)
  by_cases c : (3000 : Int) < t.length
  · simp (implicitDefEqProofs := false) only [sB, simprocAttr, f3, c, x_c11]
    exact hK _
  · simp (implicitDefEqProofs := false) only [sB, simprocAttr, f3, c, x_c11]
    refine i_new fun p hp => ?_
    simp (implicitDefEqProofs := false) only [sB, simprocAttr]
    refine i_new fun q hq => ?_
    simp (implicitDefEqProofs := false) only [sB, simprocAttr] at hq
    have hpq : ¬ p = q := fun e => hq e.symm
    simp (implicitDefEqProofs := false) only [sB, simprocAttr]
    refine i_loopJ (fun σ H1 => ∃ (i : Nat), H1 = (q, .cells (stAV (runP ⟨0, [], [], []⟩ (t.take i))).cells) :: (p, .cells (stAV (runP ⟨0, [], [], []⟩ (t.take i))).cells) :: [] ∧ i ≤ t.length ∧
        σ = [(0, .str t), (3, .ptr p 0), (4, .ptr q 0), (15, .int .i64 t.length), (16, .int .i64 i)])
      (fun σ _ => match σ.get 16 with | .int _ n => t.length - n.toNat | _ => 0)
      (fun e σ H1 => e = .exit 0 ∧ H1 = (q, .cells (stAV (runP ⟨0, [], [], []⟩ t)).cells) :: (p, .cells (stAV (runP ⟨0, [], [], []⟩ t)).cells) :: [] ∧ σ.get 0 = .str t ∧ σ.get 3 = .ptr p 0)
      ⟨_, .refl _, 0, rfl, Nat.zero_le _, rfl⟩ ?_ ?_
    · rintro e σ H1 ⟨rfl, rfl, q0, q3⟩
      simp (implicitDefEqProofs := false) only [sB, simprocAttr, q0, q3, hpq, hq, stAV, x_c11, x_c17 z (show t.length ≤ 1099511627776 by omega), x_eqst]
      exact hK _
    · rintro Q hQ σ H1 ⟨i, rfl, hi1, rfl⟩
      simp (implicitDefEqProofs := false) only [sB, simprocAttr]
      refine i_if (fun c => ?_) (fun c => ?_)
      · have c' : i < t.length := by simpa using c
        have hx : t[i]? = some t[i] := List.getElem?_eq_getElem c'
        have r9 := w_i64 ((i : Int) + 1) (by omega) (by omega)
        have zi : Inv ⟨(runP ⟨0, [], [], []⟩ (t.take i)).ctx, (runP ⟨0, [], [], []⟩ (t.take i)).name, (runP ⟨0, [], [], []⟩ (t.take i)).attr, (runP ⟨0, [], [], []⟩ (t.take i)).part⟩ := inv_run z _
        simp (implicitDefEqProofs := false) only [sB, simprocAttr, hx, hpq, hq, stAV, byteAV_n8, x_c12 zi, x_r13 zi, x_c14, x_r16, x_eqst, r9]
        refine ⟨by omega, by omega, _, .refl _, ⟨i + 1, ?_, by omega, by simp⟩, by omega⟩
        rw [run_take c']
      · have : i = t.length := by have : ¬ (i : Int) < t.length := by simpa using c
                                  omega
        subst this
        simp (implicitDefEqProofs := false) only [sB, simprocAttr]
        exact hQ _ _ _ ⟨rfl, rfl, rfl, rfl⟩
end Go.AL.Fun
