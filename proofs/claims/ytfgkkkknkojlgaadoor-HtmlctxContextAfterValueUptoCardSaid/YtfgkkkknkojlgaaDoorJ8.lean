/- The HTML context automaton: the escaper, a run, the example. -/
import Derived.Test.YtfgkkkknkojlgaaDoorJ7
set_option linter.unusedSimpArgs false
set_option linter.unusedVariables false
set_option maxRecDepth 100000
set_option maxHeartbeats 1000000
namespace Go.AL.Fun
open Go Go.AL

def j12 (xs : List AV) (H : Heap) (K : Kv) : Prop := ∃ s b, xs = [stAV s, .int .u8 (n8 b)] ∧ Inv s ∧ K.ap (stAV (stepP s b)) H
theorem j12_of (P : Program) {xs : List AV} {H : Heap} {K : Kv} (h : j12 xs H K) : @xF (tD P) f9 xs H ⟨fun v H' => ∃ H0, Hle H0 H' ∧ K.ap v H0⟩ := by
  obtain ⟨⟨ctx, name, attr, part⟩, b, rfl, hi, h⟩ := h
  exact w12 P hi.n16 hi.a16 (by have : part.length ≤ 7 := (part_facts hi).2; omega) _ fun H' hl => ⟨H, hl, h⟩
def j14 (xs : List AV) (H : Heap) (K : Kv) : Prop := ∃ s, xs = [stAV s] ∧ K.ap (.tup [.int .i64 (escH s).1, .bool (escH s).2]) H
theorem j14_of (P : Program) {xs : List AV} {H : Heap} {K : Kv} (h : j14 xs H K) : @xF (t0 P) f7 xs H ⟨fun v H' => ∃ H0, Hle H0 H' ∧ K.ap v H0⟩ := by
  obtain ⟨⟨ctx, name, attr, part⟩, rfl, h⟩ := h
  simp (implicitDefEqProofs := false) only [sB, simprocAttr, f7, stAV]
  refine i_new fun p hp => ?_
  have hl : ∀ x : Nat × AObj, Hle H (x :: H) := fun x => .tail x H
  by_cases j0 : part = []
  · subst j0
    simp (implicitDefEqProofs := false) only [sB, simprocAttr]
    by_cases d0 : ctx = 0
    · simp (implicitDefEqProofs := false) only [sB, simprocAttr, d0]; exact ⟨H, hl _, by simpa [escH, d0] using h⟩
    · by_cases d1 : ctx = 7
      · simp (implicitDefEqProofs := false) only [sB, simprocAttr, d1]; exact ⟨H, hl _, by simpa [escH, d1] using h⟩
      · by_cases d2 : ctx = 8
        · simp (implicitDefEqProofs := false) only [sB, simprocAttr, d2]; exact ⟨H, hl _, by simpa [escH, d2] using h⟩
        · by_cases d3 : ctx = 9
          · simp (implicitDefEqProofs := false) only [sB, simprocAttr, d3]; exact ⟨H, hl _, by simpa [escH, d3] using h⟩
          · by_cases d4 : ctx = 10
            · simp (implicitDefEqProofs := false) only [sB, simprocAttr, d4]; exact ⟨H, hl _, by simpa [escH, d4] using h⟩
            · by_cases d5 : ctx = 17
              · simp (implicitDefEqProofs := false) only [sB, simprocAttr, d5]; exact ⟨H, hl _, by simpa [escH, d5] using h⟩
              · by_cases d6 : ctx = 18
                · simp (implicitDefEqProofs := false) only [sB, simprocAttr, d6]; exact ⟨H, hl _, by simpa [escH, d6] using h⟩
                · by_cases d7 : ctx = 20
                  · simp (implicitDefEqProofs := false) only [sB, simprocAttr, d7]; exact ⟨H, hl _, by simpa [escH, d7] using h⟩
                  · by_cases d8 : ctx = 21
                    · simp (implicitDefEqProofs := false) only [sB, simprocAttr, d8]; exact ⟨H, hl _, by simpa [escH, d8] using h⟩
                    · simp (implicitDefEqProofs := false) only [sB, simprocAttr, d0, d1, d2, d3, d4, d5, d6, d7, d8]; exact ⟨H, hl _, by simpa [escH, d0, d1, d2, d3, d4, d5, d6, d7, d8] using h⟩
  · simp (implicitDefEqProofs := false) only [sB, simprocAttr, j0]
    exact ⟨H, hl _, by simpa [escH, j0] using h⟩

/-- Two states compared. -/
theorem x_eqst {t : Th} {H : Heap} {K : Kv} (neg : Bool) (a1 b1 : Int) (a2 a3 a4 b2 b3 b4 : List UInt8) :
    xE (.eqs neg [1, 2, 2, 2]) [.agg [.int .i64 a1, .str a2, .str a3, .str a4], .agg [.int .i64 b1, .str b2, .str b3, .str b4]] H (K := K) = K.ap (.bool (neg != decide (St.mk a1 a2 a3 a4 = St.mk b1 b2 b3 b4))) H := by
  have : sameL [.int .i64 a1, .str a2, .str a3, .str a4] [.int .i64 b1, .str b2, .str b3, .str b4] = some (decide (St.mk a1 a2 a3 a4 = St.mk b1 b2 b3 b4)) := by
    by_cases e1 : a1 = b1
    · by_cases e2 : a2 = b2
      · by_cases e3 : a3 = b3
        · by_cases e4 : a4 = b4 <;> simp [sameL, AV.same, e1, e2, e3, e4]
        · simp [sameL, AV.same, e1, e2, e3]
      · simp [sameL, AV.same, e1, e2]
    · simp [sameL, AV.same, e1]
  have h1 : pureF (.eqs neg [1, 2, 2, 2]) [.agg [.int .i64 a1, .str a2, .str a3, .str a4], .agg [.int .i64 b1, .str b2, .str b3, .str b4]] = some (.bool (neg != decide (St.mk a1 a2 a3 a4 = St.mk b1 b2 b3 b4))) := by
    simp [pureF, this, AV.kindN]
  have h2 : xE (.eqs neg [1, 2, 2, 2]) [.agg [.int .i64 a1, .str a2, .str a3, .str a4], .agg [.int .i64 b1, .str b2, .str b3, .str b4]] H (K := K) = optS (pureF (.eqs neg [1, 2, 2, 2]) [.agg [.int .i64 a1, .str a2, .str a3, .str a4], .agg [.int .i64 b1, .str b2, .str b3, .str b4]]) fun v => K.ap v H := rfl
  rw [h2, h1]; rfl

@[reducible] def tE (P : Program) : Th := ⟨GH, P, (9, j12) :: (7, j14) :: (tD P).T⟩
def j17 (xs : List AV) (H : Heap) (K : Kv) : Prop := ∃ s t, xs = [stAV s, .str t] ∧ Inv s ∧ t.length ≤ 1099511627776 ∧ K.ap (stAV (runP s t)) H
theorem run_take {s : St} {t : List UInt8} {i : Nat} (h : i < t.length) : runP s (t.take (i + 1)) = stepP (runP s (t.take i)) t[i] := by
  rw [List.take_add_one, List.getElem?_eq_getElem h, run_app]; rfl
theorem j17_of (P : Program) {xs : List AV} {H : Heap} {K : Kv} (h : j17 xs H K) : @xF (tE P) f6 xs H ⟨fun v H' => ∃ H0, Hle H0 H' ∧ K.ap v H0⟩ := by
  obtain ⟨s, t, rfl, hi, ht, h⟩ := h
  simp (implicitDefEqProofs := false) only [sB, simprocAttr, f6, stAV]
  refine i_new fun p hp => ?_
  simp (implicitDefEqProofs := false) only [sB, simprocAttr]
  refine i_new fun q hq => ?_
  simp (implicitDefEqProofs := false) only [sB, simprocAttr] at hq
  have hpq : ¬ p = q := fun e => hq.1 e.symm
  simp (implicitDefEqProofs := false) only [sB, simprocAttr]
  refine ⟨by omega, i_new fun o ho => ?_⟩
  simp (implicitDefEqProofs := false) only [sB, simprocAttr] at ho
  have hqo : ¬ q = o := fun e => ho.1 e.symm
  have hpo : ¬ p = o := fun e => ho.2.1 e.symm
  simp (implicitDefEqProofs := false) only [sB, simprocAttr]
  refine i_loopJ (fun σ H1 => ∃ (i : Nat), H1 = (o, .cells (bytesAV t)) :: (q, .cells [.int .i64 0, .str [], .str [], .str []]) :: (p, .cells (stAV (runP s (t.take i))).cells) :: H ∧ i ≤ t.length ∧
      σ = [(2, .ptr p 0), (4, .ptr q 0), (9, .msl o 0 t.length 1), (10, .int .i64 t.length), (11, .int .i64 i)])
    (fun σ _ => match σ.get 11 with | .int _ n => t.length - n.toNat | _ => 0)
    (fun e σ H1 => e = .exit 0 ∧ H1 = (o, .cells (bytesAV t)) :: (q, .cells [.int .i64 0, .str [], .str [], .str []]) :: (p, .cells (stAV (runP s t)).cells) :: H ∧ σ.get 2 = .ptr p 0 ∧ σ.get 4 = .ptr q 0)
    ⟨_, .refl _, 0, rfl, Nat.zero_le _, rfl⟩ ?_ ?_
  · rintro e σ H1 ⟨rfl, rfl, q2, q4⟩
    simp (implicitDefEqProofs := false) only [sB, simprocAttr, q2, q4, hpq, hqo, hpo, hq, ho, stAV]
    refine ⟨H, .of_sub (.cons _ (.cons _ (.cons _ (.refl _)))), h⟩
  · rintro Q hQ σ H1 ⟨i, rfl, hi1, rfl⟩
    simp (implicitDefEqProofs := false) only [sB, simprocAttr]
    refine i_if (fun c => ?_) (fun c => ?_)
    · have c' : i < t.length := by simpa using c
      have hx : t[i]? = some t[i] := List.getElem?_eq_getElem c'
      have r9 := w_i64 ((i : Int) + 1) (by omega) (by omega)
      simp (implicitDefEqProofs := false) only [sB, simprocAttr, hx, hpo, hqo, hpq, ho, hq, stAV, byteAV_n8]
      refine ⟨⟨by omega, by omega⟩, runP s (t.take i), t[i], rfl, inv_run hi _, ?_⟩
      simp (implicitDefEqProofs := false) only [sB, simprocAttr, stAV]
      refine i_new fun r hr => ?_
      simp (implicitDefEqProofs := false) only [sB, simprocAttr] at hr
      have hpr : ¬ p = r := fun e => hr.2.2.1 e.symm
      simp (implicitDefEqProofs := false) only [sB, simprocAttr, hpo, hqo, hpq, ho, hq, hr, hpr, stAV, x_eqst]
      by_cases e1 : stepP (runP s (t.take i)) t[i] = runP s (t.take i)
      · simp (implicitDefEqProofs := false) only [sB, simprocAttr, e1, r9]
        refine ⟨_, .tail _ _, ⟨i + 1, ?_, by omega, by simp⟩, by omega⟩
        rw [run_take c', e1]; rfl
      · have e2 : ¬ (St.mk (stepP (runP s (t.take i)) t[i]).ctx (stepP (runP s (t.take i)) t[i]).name (stepP (runP s (t.take i)) t[i]).attr (stepP (runP s (t.take i)) t[i]).part = St.mk (runP s (t.take i)).ctx (runP s (t.take i)).name (runP s (t.take i)).attr (runP s (t.take i)).part) := e1
        simp (implicitDefEqProofs := false) only [sB, simprocAttr, e2, hpo, hqo, hpq, ho, hq, hr, hpr, r9]
        refine ⟨_, .tail _ _, ⟨i + 1, ?_, by omega, by simp⟩, by omega⟩
        rw [run_take c']; rfl
    · have : i = t.length := by have : ¬ (i : Int) < t.length := by simpa using c
                                omega
      subst this
      simp (implicitDefEqProofs := false) only [sB, simprocAttr]
      exact hQ _ _ _ ⟨rfl, rfl, rfl, rfl⟩
@[reducible] def tF (P : Program) : Th := ⟨GH, P, (6, j17) :: (tE P).T⟩
theorem x_j17 {ctx : Int} {name attr part t : List UInt8} (hi : Inv ⟨ctx, name, attr, part⟩) (ht : t.length ≤ 1099511627776) (H : Heap) (K : Kv) :
    j17 [.agg [.int .i64 ctx, .str name, .str attr, .str part], .str t] H K = K.ap (stAV (runP ⟨ctx, name, attr, part⟩ t)) H := by
  refine propext ⟨fun ⟨s, t', e, _, _, h⟩ => ?_, fun h => ⟨_, _, rfl, hi, ht, h⟩⟩
  obtain ⟨b1, b2, b3, b4⟩ := s
  simp only [stAV, List.cons.injEq, AV.int.injEq, AV.str.injEq, AV.agg.injEq, true_and, and_true] at e
  obtain ⟨⟨rfl, rfl, rfl, rfl⟩, rfl⟩ := e
  exact h
theorem x_j14 {ctx : Int} {name attr part : List UInt8} (H : Heap) (K : Kv) : j14 [.agg [.int .i64 ctx, .str name, .str attr, .str part]] H K = K.ap (.tup [.int .i64 (escH ⟨ctx, name, attr, part⟩).1, .bool (escH ⟨ctx, name, attr, part⟩).2]) H := by
  refine propext ⟨fun ⟨s, e, h⟩ => ?_, fun h => ⟨_, rfl, h⟩⟩
  obtain ⟨b1, b2, b3, b4⟩ := s
  simp only [stAV, List.cons.injEq, AV.int.injEq, AV.str.injEq, AV.agg.injEq, true_and, and_true] at e
  obtain ⟨rfl, rfl, rfl, rfl⟩ := e
  exact h
def j11 (xs : List AV) (H : Heap) (K : Kv) : Prop := xs = [] ∧ K.ap (.bool true) H
theorem x_j11 (H : Heap) (K : Kv) : j11 [] H K = K.ap (.bool true) H := by simp [j11]
theorem j11_of (P : Program) {xs : List AV} {H : Heap} {K : Kv} (h : j11 xs H K) : @xF (tF P) f5 xs H ⟨fun v H' => ∃ H0, Hle H0 H' ∧ K.ap v H0⟩ := by
  obtain ⟨rfl, h⟩ := h
  have z : Inv ⟨0, [], [], []⟩ := inv_zero 0 (by decide) (by decide)
  have r1 : runP ⟨0, [], [], []⟩ [60, 97, 32, 104, 114, 101, 102, 61, 34] = ⟨9, [97], [], []⟩ := by decide
  have r2 : runP ⟨0, [], [], []⟩ [60, 115, 99, 114, 105, 112, 116, 62, 120, 32, 61, 32, 39, 121] = ⟨18, [], [], []⟩ := by decide
  have r3 : runP ⟨0, [], [], []⟩ [97, 60] = ⟨0, [], [], [60]⟩ := by decide
  have e1 : escH ⟨0, [], [], [60]⟩ = (0, false) := by decide
  have e2 : escH ⟨18, [], [], []⟩ = (3, true) := by decide
  simp (implicitDefEqProofs := false) only [sB, simprocAttr, f5, x_j17 z (show ([60, 97, 32, 104, 114, 101, 102, 61, 34] : List UInt8).length ≤ 1099511627776 by decide), r1, stAV]
  refine i_new fun p hp => ?_
  simp (implicitDefEqProofs := false) only [sB, simprocAttr, f5, x_j17 z (show ([60, 115, 99, 114, 105, 112, 116, 62, 120, 32, 61, 32, 39, 121] : List UInt8).length ≤ 1099511627776 by decide), r2, stAV]
  refine i_new fun q hq => ?_
  simp (implicitDefEqProofs := false) only [sB, simprocAttr] at hq
  have hpq : ¬ p = q := fun e => hq.1 e.symm
  simp (implicitDefEqProofs := false) only [sB, simprocAttr, f5, x_j17 z (show ([97, 60] : List UInt8).length ≤ 1099511627776 by decide), r1, r2, r3, stAV, x_j14, e1, e2, hq, hpq, x_eqst]
  exact ⟨H, hle2, h⟩
@[reducible] def tG (P : Program) : Th := ⟨GH, P, (5, j11) :: (tF P).T⟩

end Go.AL.Fun
