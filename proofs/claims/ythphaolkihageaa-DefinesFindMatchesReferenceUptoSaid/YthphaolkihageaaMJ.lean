/- Definitions of a template: the chapter's example; two laws. -/
import Derived.Test.YthphaolkihageaaMF
import Derived.Test.YthphaolkihageaaMI
set_option linter.unusedSimpArgs false
set_option linter.unusedVariables false
set_option maxRecDepth 100000
set_option maxHeartbeats 4000000
namespace Go.AL.Fun
open Go Go.AL

theorem tokc_nil {l : List Nd} (h : tokc l = .nil) : l = [] := by cases l with | nil => rfl | cons a l => cases h
theorem ex4 : sortS [[102], [103]] = [[102], [103]] := List.mergeSort_of_pairwise (by decide)
def exS : List UInt8 := [123, 123, 99, 97, 108, 108, 32, 102, 125, 125, 123, 123, 100, 101, 102, 105, 110, 101, 32, 102, 125, 125, 123, 123, 99, 97, 108, 108, 32, 103, 125, 125, 123, 123, 101, 110, 100, 125, 125, 123, 123, 100, 101, 102, 105, 110, 101, 32, 103, 125, 125, 123, 123, 101, 110, 100, 125, 125, 123, 123, 100, 101, 102, 105, 110, 101, 32, 104, 125, 125, 123, 123, 101, 110, 100, 125, 125]
def c8 (xs : List AV) (H : Heap) (K : Kv) : Prop := xs = [] ∧ H.keys.Nodup ∧ K.ap (.bool true) H
theorem c8_of (P : Program) {xs : List AV} {H : Heap} {K : Kv} (h : c8 xs H K) : @xF ⟨fun _ => none, P, [(5, c5), (13, c13), (11, c11), (18, c18), (19, c19)]⟩ f8 xs H ⟨fun v H' => ∃ H0, Hle H0 H' ∧ K.ap v H0⟩ := by
  obtain ⟨rfl, hn, h⟩ := h
  simp (implicitDefEqProofs := false) only [sB, simprocAttr, f8]
  refine x_c5 (s := exS) hn (by decide) _ ?_
  have h1 : checkR (parsedR exS) = (0, 0) := ex2
  have h2 : reachR (parsedR exS) = [[102], [103]] := ex1
  have h3 : (mainR (parsedR exS)).length = 1 := ex3
  have h4 := parsedR_ok exS
  generalize parsedR exS = l at h1 h2 h3 h4 ⊢
  have hc := h4.1
  have ll := cnts_len l
  have ht : tokc l = .nil → l = [] := tokc_nil
  generalize tokc l = t at ht ⊢
  simp (implicitDefEqProofs := false) only [sB, simprocAttr]
  refine x_c13 hn (by omega) ?_
  rw [h1]
  simp (implicitDefEqProofs := false) only [sB, simprocAttr]
  refine x_c11 hn (by omega) ht fun t1 => ?_
  rw [h2, ex4]
  simp (implicitDefEqProofs := false) only [sB, simprocAttr]
  refine i_sl ⟨⟨strs_all [[102], [103]], rfl, rfl⟩, i_new fun z hz => ?_⟩
  simp (implicitDefEqProofs := false) only [sB, simprocAttr]
  refine x_c18 (l := [[102], [103]]) (m := [[102], [103]]) (by decide) _ _ ?_
  simp (implicitDefEqProofs := false) only [sB, simprocAttr]
  refine x_c19 (List.nodup_cons.2 ⟨hz, hn⟩) (by omega) ht fun t2 => ?_
  simp (implicitDefEqProofs := false) only [sB, simprocAttr, nds_len, h3]
  exact ⟨_, .tail _ _, h⟩
@[reducible] def tF (P : Program) : Th := ⟨fun _ => none, P, [(5, c5), (6, c6), (7, c7), (8, c8), (9, c9 900001)]⟩
theorem law3 (P : Program) (src name : List UInt8) (h1 : src.length ≤ 1048576) (K : Kv) (hK : ∀ H, K.ap (.bool true) H) : @xF (tF P) f3 [.str src, .str name] [] K := by
  have n0 : (Heap.keys []).Nodup := List.nodup_nil
  simp (implicitDefEqProofs := false) only [sB, simprocAttr, f3]
  refine x_c5 n0 (by omega) _ ?_
  have h4 := parsedR_ok src
  generalize parsedR src = l at h4 ⊢
  have hc := h4.1
  have ll := cnts_len l
  generalize tokc l = t
  simp (implicitDefEqProofs := false) only [sB, simprocAttr]
  refine x_c6 (by omega) ?_
  cases hf : findD l name with
  | none =>
    simp (implicitDefEqProofs := false) only [sB, simprocAttr, resD, zeroN]
    refine i_new fun x hx => ?_
    simp (implicitDefEqProofs := false) only [sB, simprocAttr]
    refine x_c7 (by omega) ?_
    rw [hf]
    simp (implicitDefEqProofs := false) only [sB, simprocAttr, resD, zeroN]
    refine i_new fun y hy => ?_
    have e1 : ¬ x = y := fun e => by subst e; simp [Heap.keys] at hy
    have e2 : ¬ y = x := fun e => e1 e.symm
    have hn2 := List.nodup_cons.2 ⟨hy, List.nodup_cons.2 ⟨hx, List.nodup_nil⟩⟩
    simp (implicitDefEqProofs := false) only [sB, simprocAttr]
    refine ⟨rfl, hn2, ?_⟩
    simp (implicitDefEqProofs := false) only [sB, simprocAttr, e1, e2]
    refine i_bslN (by decide) (Nd.avs [Nd.mk 0 0 [] [] false false [] []]) (by simp [Nd.avs, Nd.cs, flat, AV.cells, fillL, splice, tokc]) (nds_all _) rfl fun z hz => ?_
    have e3 : ¬ y = z := fun e => hz (by subst e; simp [Heap.keys])
    have e4 : ¬ x = z := fun e => hz (by subst e; simp [Heap.keys])
    simp (implicitDefEqProofs := false) only [sB, simprocAttr, e1, e2, e3, e4]
    refine i_bslN (by decide) (Nd.avs [Nd.mk 0 0 [] [] false false [] []]) (by simp [Nd.avs, Nd.cs, flat, AV.cells, fillL, splice, tokc]) (nds_all _) rfl fun w hw => ?_
    simp (implicitDefEqProofs := false) only [sB, simprocAttr]
    refine x_c9 (by simp only [Nd.cnts, Nd.cnt]; decide) (by simp only [Nd.cnts, Nd.cnt]; decide) ?_
    simp (implicitDefEqProofs := false) only [sB, simprocAttr]
    exact hK _
  | some d =>
    have hd := cnts_mem (find_mem hf).1
    obtain ⟨k, p, s, q, hp, he, b, e⟩ := d
    simp (implicitDefEqProofs := false) only [sB, simprocAttr, resD, Nd.cs]
    refine i_new fun x hx => ?_
    simp (implicitDefEqProofs := false) only [sB, simprocAttr]
    refine x_c7 (by omega) ?_
    rw [hf]
    simp (implicitDefEqProofs := false) only [sB, simprocAttr, resD, Nd.cs]
    refine i_new fun y hy => ?_
    have e1 : ¬ x = y := fun e => by subst e; simp [Heap.keys] at hy
    have e2 : ¬ y = x := fun e => e1 e.symm
    have hn2 := List.nodup_cons.2 ⟨hy, List.nodup_cons.2 ⟨hx, List.nodup_nil⟩⟩
    simp (implicitDefEqProofs := false) only [sB, simprocAttr]
    refine ⟨rfl, hn2, ?_⟩
    simp (implicitDefEqProofs := false) only [sB, simprocAttr, e1, e2]
    refine i_bslN (by decide) (Nd.avs [Nd.mk k p s q hp he b e]) (by simp [Nd.avs, Nd.cs, flat, AV.cells, fillL, splice]) (nds_all _) rfl fun z hz => ?_
    have e3 : ¬ y = z := fun e => hz (by subst e; simp [Heap.keys])
    have e4 : ¬ x = z := fun e => hz (by subst e; simp [Heap.keys])
    simp (implicitDefEqProofs := false) only [sB, simprocAttr, e1, e2, e3, e4]
    refine i_bslN (by decide) (Nd.avs [Nd.mk k p s q hp he b e]) (by simp [Nd.avs, Nd.cs, flat, AV.cells, fillL, splice]) (nds_all _) rfl fun w hw => ?_
    simp (implicitDefEqProofs := false) only [sB, simprocAttr]
    refine x_c9 (by simp only [Nd.cnts]; omega) (by simp only [Nd.cnts]; omega) ?_
    simp (implicitDefEqProofs := false) only [sB, simprocAttr]
    exact hK _
end Go.AL.Fun
