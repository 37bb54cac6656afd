/- Definitions of a template: Reachable, walked. -/
import Derived.Test.YthphaolkihageaaMS
set_option linter.unusedSimpArgs false
set_option linter.unusedVariables false
set_option maxRecDepth 100000
set_option maxHeartbeats 4000000
namespace Go.AL.Fun
open Go Go.AL

theorem main_cnts : ∀ l : List Nd, Nd.cnts (mainR l) ≤ Nd.cnts l
  | [] => by simp [mainR, Nd.cnts]
  | n :: l => by
    have ih := main_cnts l
    unfold mainR at ih ⊢
    rw [List.filter_cons]
    split
    · simp only [Nd.cnts]; omega
    · simp only [Nd.cnts]; omega
def c11 (xs : List AV) (H : Heap) (K : Kv) : Prop := ∃ (l : List Nd) (t : Tok), xs = [.sl (Nd.avs l) t] ∧ H.keys.Nodup ∧ Nd.cnts l ≤ 4900 ∧ (t = .nil → l = []) ∧ ∀ t', K.ap (.sl (strsAV (sortS (reachR l))) t') H
theorem x_c11 {l : List Nd} {t : Tok} {H : Heap} {K : Kv} (hn : H.keys.Nodup) (h1 : Nd.cnts l ≤ 4900) (h2 : t = .nil → l = []) (k : ∀ t', K.ap (.sl (strsAV (sortS (reachR l))) t') H) : c11 [.sl (Nd.avs l) t] H K := ⟨l, t, rfl, hn, h1, h2, k⟩
theorem VX.sorted {lb nb vb : Nat} {l : List Nd} {tl : Tok} {ns : List (List UInt8)} {id : Nat} {R H : Heap} (h : VX lb nb vb l tl ns id R H) (h0 : ns ≠ []) (o : AObj) : ¬ nb = id ∧ Hle ((id, o) :: R) (setH id o H) := by
  have e : vA lb nb vb l tl ns id ++ R = [(lb, .cells [.sl (Nd.avs l) tl]), (nb, .cells [nmV ns id]), (vb, .cells [vF lb nb vb])] ++ (id, .cells (strsAV ns)) :: R := by simp [vA, nmH, h0]
  have hp := e ▸ h.p
  have hn := nodup_perm hp h.n
  simp only [List.cons_append, List.nil_append, Heap.keys, List.map_cons, List.nodup_cons, List.mem_cons, not_or] at hn
  have e1 : ¬ id = lb := fun e => hn.1.2.2.1 e.symm
  have e2 : ¬ id = nb := fun e => hn.2.1.2.1 e.symm
  have e3 : ¬ id = vb := fun e => hn.2.2.1.1 e.symm
  have hp2 := renH_perm (b := id) (id := id) (o := o) hp h.n
  have e4 : renH id id o ([(lb, .cells [.sl (Nd.avs l) tl]), (nb, .cells [nmV ns id]), (vb, .cells [vF lb nb vb])] ++ (id, .cells (strsAV ns)) :: R) = [(lb, .cells [.sl (Nd.avs l) tl]), (nb, .cells [nmV ns id]), (vb, .cells [vF lb nb vb])] ++ (id, o) :: R := by
    simp [renH, e1, e2, e3]
  rw [e4] at hp2
  exact ⟨fun e => e2 e.symm, hle_sub hp2 (List.sublist_append_right _ _)⟩
theorem VX.all {lb nb vb : Nat} {l : List Nd} {tl : Tok} {ns : List (List UInt8)} {id : Nat} {R H : Heap} (h : VX lb nb vb l tl ns id R H) : Hle R H := hle_sub h.p (List.sublist_append_right _ _)
theorem c11_of (P : Program) {xs : List AV} {H : Heap} {K : Kv} (h : c11 xs H K) : @xF ⟨fun _ => none, P, [(19, c19), (21, e21 5000 900001), (22, c22)]⟩ f11 xs H ⟨fun v H' => ∃ H0, Hle H0 H' ∧ (K.ap v H0 ∨ ∃ (id sz : Nat) (ys vs : List AV) (R : Heap), v = .msl id 0 ys.length sz ∧ AllSz sz ys ∧ H0.Perm ((id, .cells vs) :: R) ∧ vs.take (ys.length * sz) = flat ys ∧ K.ap (.sl ys .no) R)⟩ := by
  obtain ⟨l, t, rfl, hn, hl, h0, h⟩ := h
  have ll := cnts_len l
  simp (implicitDefEqProofs := false) only [sB, simprocAttr, f11]
  refine i_new fun lb hlb => ?_
  simp (implicitDefEqProofs := false) only [sB, simprocAttr]
  refine i_new fun nb hnb => ?_
  have e1 : ¬ nb = lb := by simp [Heap.keys] at hnb; exact hnb.1
  simp (implicitDefEqProofs := false) only [sB, simprocAttr, e1]
  refine i_new fun vb hvb => ?_
  have e2 : ¬ vb = nb ∧ ¬ vb = lb := by simp [Heap.keys] at hvb; exact ⟨hvb.1, hvb.2.1⟩
  have e3 : ¬ lb = vb := fun e => e2.2 e.symm
  have e4 : ¬ lb = nb := fun e => e1 e.symm
  have e5 : ¬ nb = vb := fun e => e2.1 e.symm
  have hn3 := List.nodup_cons.2 ⟨hvb, List.nodup_cons.2 ⟨hnb, List.nodup_cons.2 ⟨hlb, hn⟩⟩⟩
  simp (implicitDefEqProofs := false) only [sB, simprocAttr, e1, e2.1, e2.2, e3, e4, e5]
  refine x_c19 hn3 (by omega) h0 fun t' => ?_
  have v0 : VX lb nb vb l t [] 0 H ((vb, .cells [vF lb nb vb]) :: (nb, .cells [.sl [] .nil]) :: (lb, .cells [.sl (Nd.avs l) t]) :: H) := by
    refine ⟨?_, hn3⟩
    show List.Perm _ ((lb, AObj.cells [.sl (Nd.avs l) t]) :: (nb, .cells [.sl [] .nil]) :: (vb, .cells [vF lb nb vb]) :: H)
    exact ((List.Perm.swap _ _ _).trans ((List.Perm.swap _ _ _).cons _)).trans (List.Perm.swap _ _ _)
  have m1 := main_cnts l
  have u0 := unf_nil l
  simp (implicitDefEqProofs := false) only [sB, simprocAttr]
  refine e21_go v0 (by omega) (by omega) (by omega) (by simp only [List.length_nil]; omega) (by omega) fun id H' v1 => ?_
  have er : (callsR (mainR l)).foldl (visitR l 5000) [] = reachR l := rfl
  rw [er] at v1
  have gr := (fold_gr l 5000 (callsR (mainR l)) []).2.1
  rw [er] at gr
  simp only [List.length_nil] at gr
  generalize hns : reachR l = ns at v1 h gr
  simp (implicitDefEqProofs := false) only [sB, simprocAttr, v1.nm, nmV_cells]
  by_cases hz : ns = []
  · subst hz
    have hk := h .nil
    have e6 : sortS [] = [] := by simp [sortS]
    rw [e6] at hk
    refine .inl ⟨rfl, ?_⟩
    simp (implicitDefEqProofs := false) only [sB, simprocAttr, v1.nm, nmV_cells]
    exact ⟨H, v1.all, .inl hk⟩
  · have ev : nmV ns id = .msl id 0 ns.length 1 := if_neg hz
    obtain ⟨s1, s2⟩ := v1.sorted hz (.cells (strsAV (sortS ns)))
    refine .inr ⟨id, ns, ev ▸ rfl, v1.names hz, v1.n, by omega, ?_⟩
    simp (implicitDefEqProofs := false) only [sB, simprocAttr, s1, v1.nm, nmV_cells]
    refine ⟨_, s2, .inr ⟨id, 1, strsAV (sortS ns), strsAV (sortS ns), H, ?_, strs_all _, .refl _, ?_, h _⟩⟩
    · rw [ev, strs_len, sortS_len]
    · rw [strs_flat, Nat.mul_one, List.take_length]
end Go.AL.Fun
