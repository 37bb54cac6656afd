/- The reference provider: a name got. -/
import Derived.Test.YtpeaphpibnikcaaV10
set_option linter.unusedSimpArgs false
set_option linter.unusedVariables false
set_option maxRecDepth 100000
set_option maxHeartbeats 2000000
namespace Go.AL.Fun
open Go Go.AL

theorem perm_up (A T : Heap) (a b : Nat × AObj) (R : Heap) : (A ++ (T ++ (a :: b :: R))).Perm (a :: b :: (A ++ (T ++ R))) := by
  rw [← List.append_assoc, ← List.append_assoc]
  exact List.perm_middle.trans (List.Perm.cons _ List.perm_middle)
def mH (p : Nat) (fs : List Fld) (t1 : Tok) (l : List (List UInt8)) (t2 : Tok) (pulls : List (List UInt8)) (t3 : Tok) (R : Heap) : Heap :=
  (p, .cells [.sl (Val.fvs fs) t1, .sl (strsAV l) t2, .sl (strsAV pulls) t3]) :: R
def refR (fs : List Fld) (l : List (List UInt8)) (name : List UInt8) : Res := if name ∈ l then (zeroV, 20) else fieldR fs name
def refP (pulls : List (List UInt8)) (name : List UInt8) : List (List UInt8) := if name ∈ pulls then pulls else pulls ++ [name]
def c12 (xs : List AV) (H : Heap) (K : Kv) : Prop := ∃ (p : Nat) (fs : List Fld) (t1 : Tok) (l : List (List UInt8)) (t2 : Tok) (pulls : List (List UInt8)) (t3 : Tok) (R : Heap) (name : List UInt8),
  xs = [.ptr p 0, .str name] ∧ H = mH p fs t1 l t2 pulls t3 R ∧ H.keys.Nodup ∧ fs.length ≤ 1048576 ∧ l.length ≤ 1048576 ∧ pulls.length ≤ 1048576 ∧ name.length ≤ 1099511627776 ∧
  (nameB name = false → K.ap (.tup [.agg zeroV.cs, .int .i64 11]) H) ∧
  (nameB name = true → ∀ t3', K.ap (.tup [.agg (refR fs l name).1.cs, .int .i64 (refR fs l name).2]) (mH p fs t1 l t2 (refP pulls name) t3' R))
/-- What comes after the pulls. -/
theorem c12_rest (P : Program) {p q : Nat} {fs : List Fld} {t1 t2 t3 : Tok} {l pulls : List (List UInt8)} {R H L : Heap} {name : List UInt8} {K : Kv} : True := trivial
theorem c12_of (P : Program) {xs : List AV} {H : Heap} {K : Kv} (h : c12 xs H K) : @xF ⟨fun _ => none, P, [(23, c23), (24, c24), (25, c25)]⟩ f12 xs H ⟨fun v H' => ∃ H0, Hle H0 H' ∧ K.ap v H0⟩ := by
  obtain ⟨p, fs, t1, l, t2, pulls, t3, R, name, rfl, rfl, hn, b1, b2, b3, hs, h1, h2⟩ := h
  unfold mH at h1 h2 hn ⊢
  simp (implicitDefEqProofs := false) only [sB, simprocAttr, f12]
  refine i_new fun q hq0 => ?_
  have hq := hq0
  simp (implicitDefEqProofs := false) only [sB, simprocAttr] at hq
  have hpq : ¬ p = q := fun e => hq.1 e.symm
  by_cases nm : nameB name = true
  · have h3 := h2 nm
    simp (implicitDefEqProofs := false) only [sB, simprocAttr, hq, hpq, x_c23 hs, nm]
    refine x_c24 (by omega) _ _ ?_
    by_cases mem : name ∈ pulls
    · rw [show refP pulls name = pulls by unfold refP; rw [if_pos mem]] at h3
      simp (implicitDefEqProofs := false) only [sB, simprocAttr, decide_eq_true mem, hq, hpq]
      refine x_c24 (by omega) _ _ ?_
      by_cases fl : name ∈ l
      · rw [show refR fs l name = (zeroV, 20) by unfold refR; rw [if_pos fl]] at h3
        simp (implicitDefEqProofs := false) only [sB, simprocAttr, decide_eq_true fl, hq, hpq]
        exact ⟨_, .tail _ _, h3 t3⟩
      · rw [show refR fs l name = fieldR fs name by unfold refR; rw [if_neg fl]] at h3
        simp (implicitDefEqProofs := false) only [sB, simprocAttr, decide_eq_false fl, hq, hpq]
        refine x_c25 (by omega) _ _ ?_
        generalize fieldR fs name = r at h3 ⊢
        obtain ⟨⟨k', s', n', b', it', is', ft', fs'⟩, e'⟩ := r
        simp only [Val.cs] at h3 ⊢
        simp (implicitDefEqProofs := false) only [sB, simprocAttr, hq, hpq]
        exact ⟨_, .tail _ _, h3 t3⟩
    · rw [show refP pulls name = pulls ++ [name] by unfold refP; rw [if_neg mem]] at h3
      simp (implicitDefEqProofs := false) only [sB, simprocAttr, decide_eq_false mem, hq, hpq]
      have hnq := List.nodup_cons.2 ⟨hq0, hn⟩
      refine i_emp hnq fun w hw hnw => ?_
      simp (implicitDefEqProofs := false) only [sB, simprocAttr] at hw
      have hpw : ¬ p = w := fun e => hw.2.1 e.symm
      simp (implicitDefEqProofs := false) only [sB, simprocAttr, hq, hpq, hw, hpw]
      refine i_app (A := []) (tk := .at w 0 1) (xs := []) (ys := strsAV pulls) (.refl _) hnw rfl (.inl ⟨_, rfl⟩) (strs_all _) (by rw [allSz_nil]; trivial) ?_ ?_ fun t' H1 g1 g2 g3 => ?_
      · simp only [strs_len, List.length_nil, maxLen_eq]; omega
      · simp only [strs_len, List.length_nil]; omega
      · simp only [List.nil_append] at g1 g2 ⊢
        simp (implicitDefEqProofs := false) only [sB, simprocAttr]
        refine i_sl ⟨⟨strs_all [name], rfl, rfl⟩, i_new fun v hv => ?_⟩
        simp (implicitDefEqProofs := false) only [sB, simprocAttr]
        refine i_app (A := [(v, .spare 1)]) (tk := t') (xs := strsAV pulls) (ys := strsAV [name]) (g2.cons _) (List.nodup_cons.2 ⟨hv, g3⟩) g1 (.inl ⟨_, rfl⟩) (strs_all _) (strs_all _) ?_ ?_ fun t3' H2 k1 k2 k3 => ?_
        · simp only [strs_len, List.length_cons, List.length_nil, maxLen_eq]; omega
        · simp only [strs_len, List.length_cons, List.length_nil]; omega
        · have es : strsAV pulls ++ strsAV [name] = strsAV (pulls ++ [name]) := by simp [strsAV]
          rw [es] at k1 ⊢
          have k4 := k2.trans (perm_up _ _ _ _ _)
          simp (implicitDefEqProofs := false) only [sB, simprocAttr, lk0 k4 k3, lk1 k4 k3, lk2 k4 k3, hq, hpq]
          refine x_c24 (by omega) _ _ ?_
          have kp : ∀ c : List AV, Hle ((p, .cells [.sl (Val.fvs fs) t1, .sl (strsAV l) t2, .sl (strsAV (pulls ++ [name])) t3']) :: R) (renH q q (.cells c) (renH p p (.cells [.sl (Val.fvs fs) t1, .sl (strsAV l) t2, .sl (strsAV (pulls ++ [name])) t3']) H2)) := by
            intro c
            have hp2 := setH_perm (id := q) (o := .cells c) (setH_perm (id := p) (o := .cells [.sl (Val.fvs fs) t1, .sl (strsAV l) t2, .sl (strsAV (pulls ++ [name])) t3']) k4 k3) (set_nodup _ k3)
            simp only [setH, renH, hq, hpq, if_true, if_false] at hp2
            exact (Hle.of_sub (.cons _ (.cons_cons _ ((List.sublist_append_right _ _).trans (List.sublist_append_right _ _))))).trans (.of_perm hp2)
          by_cases fl : name ∈ l
          · rw [show refR fs l name = (zeroV, 20) by unfold refR; rw [if_pos fl]] at h3
            simp (implicitDefEqProofs := false) only [sB, simprocAttr, decide_eq_true fl, lk0 k4 k3, lk1 k4 k3, lk2 k4 k3, hq, hpq]
            exact ⟨_, kp _, h3 t3'⟩
          · rw [show refR fs l name = fieldR fs name by unfold refR; rw [if_neg fl]] at h3
            simp (implicitDefEqProofs := false) only [sB, simprocAttr, decide_eq_false fl, lk0 k4 k3, lk1 k4 k3, lk2 k4 k3, hq, hpq]
            refine x_c25 (by omega) _ _ ?_
            generalize fieldR fs name = r at h3 ⊢
            obtain ⟨⟨k', s', n', b', it', is', ft', fs'⟩, e'⟩ := r
            simp only [Val.cs] at h3 ⊢
            simp (implicitDefEqProofs := false) only [sB, simprocAttr, lk0 k4 k3, lk1 k4 k3, lk2 k4 k3, hq, hpq]
            exact ⟨_, kp _, h3 t3'⟩
  · simp (implicitDefEqProofs := false) only [sB, simprocAttr, hq, hpq, x_c23 hs, nm]
    exact ⟨_, .tail _ _, h1 (by simpa using nm)⟩
end Go.AL.Fun
