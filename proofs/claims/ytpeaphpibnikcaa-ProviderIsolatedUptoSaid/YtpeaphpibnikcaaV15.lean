/- The provider: what its calls do, told for the laws. -/
import Derived.Test.YtpeaphpibnikcaaV14
set_option linter.unusedSimpArgs false
set_option linter.unusedVariables false
set_option maxRecDepth 100000
set_option maxHeartbeats 2000000
namespace Go.AL.Fun
open Go Go.AL

/-- Get, for the laws. -/
def s6 (xs : List AV) (H : Heap) (K : Kv) : Prop := ∃ (p a b : Nat) (D : RMap) (fs : List Fld) (l pulls : List (List UInt8)) (tk : Tok) (R : Heap) (name : List UInt8),
  xs = [.ptr p 0, .str name] ∧ Hle (pH p a b D (provM fs l) pulls tk R) H ∧ (pH p a b D (provM fs l) pulls tk R).keys.Nodup ∧ GT (strsAV pulls) tk ∧ pulls.length ≤ 1048576 ∧ name.length ≤ 1099511627776 ∧ (fs.map (·.1)).Nodup ∧ DOk fs l pulls D ∧
  (nameB name = false → K.ap (.tup [.agg zeroV.cs, .int .i64 11]) (pH p a b D (provM fs l) pulls tk R)) ∧
  (nameB name = true → ∀ D' tk', DOk fs l (refP pulls name) D' → GT (strsAV (refP pulls name)) tk' → (pH p a b D' (provM fs l) (refP pulls name) tk' R).keys.Nodup →
    K.ap (.tup [.agg (refR fs l name).1.cs, .int .i64 (refR fs l name).2]) (pH p a b D' (provM fs l) (refP pulls name) tk' R))
theorem s6_c {xs : List AV} {H : Heap} {K : Kv} (h : s6 xs H K) : ∃ H', Hle H' H ∧ c6 xs H' K := by
  obtain ⟨p, a, b, D, fs, l, pulls, tk, R, name, rfl, hl, hn, hg, h1, h2, h3, h4, h5, h6⟩ := h
  refine ⟨_, hl, p, a, b, D, provM fs l, pulls, tk, R, name, rfl, rfl, hn, hg, h1, h2, h5, fun nm r hr => ?_, fun nm hr tk' H' g e n => ?_⟩
  · have hm : name ∈ pulls := by
      by_cases c : name ∈ pulls
      · exact c
      · rw [h4 name, if_neg c] at hr; cases hr
    have e : r = refR fs l name := by rw [h4 name, if_pos hm] at hr; exact (Option.some.inj hr).symm
    have k := h6 nm D tk (by unfold refP; rw [if_pos hm]; exact h4) (by unfold refP; rw [if_pos hm]; exact hg) (by unfold refP; rw [if_pos hm]; exact hn)
    rw [e]
    unfold refP at k
    rw [if_pos hm] at k
    exact k
  · have hm : name ∉ pulls := by
      intro c; rw [h4 name, if_pos c] at hr; cases hr
    obtain ⟨e1, e2⟩ := dok_step h3 h4 hm
    subst e
    have k := h6 nm (rupd name (getR D (provM fs l) name) D) tk' (by unfold refP; rw [if_neg hm]; exact e2) (by unfold refP; rw [if_neg hm]; exact g) (by unfold refP; rw [if_neg hm]; exact n)
    unfold refP at k
    rw [if_neg hm] at k
    rw [e1] at k ⊢
    exact k
def s7 (xs : List AV) (H : Heap) (K : Kv) : Prop := ∃ H', Hle H' H ∧ c7 xs H' K
def s12 (xs : List AV) (H : Heap) (K : Kv) : Prop := ∃ H', Hle H' H ∧ c12 xs H' K
/-- Pulls of nothing; Get of nothing. -/
def n6 (xs : List AV) (H : Heap) (K : Kv) : Prop := ∃ name, xs = [.nilp, .str name] ∧ K.ap (.tup [.agg zeroV.cs, .int .i64 1]) H
theorem n6_of (P : Program) {xs : List AV} {H : Heap} {K : Kv} (h : n6 xs H K) : @xF (t0 P) f6 xs H ⟨fun v H' => ∃ H0, Hle H0 H' ∧ K.ap v H0⟩ := by
  obtain ⟨name, rfl, h⟩ := h
  simp (implicitDefEqProofs := false) only [sB, simprocAttr, f6]
  refine i_new fun q hq => ?_
  simp (implicitDefEqProofs := false) only [sB, simprocAttr]
  exact ⟨_, .tail _ _, h⟩
def n7 (xs : List AV) (H : Heap) (K : Kv) : Prop := xs = [.nilp] ∧ K.ap (.sl [] .nil) H
theorem n7_of (P : Program) {xs : List AV} {H : Heap} {K : Kv} (h : n7 xs H K) : @xF (t0 P) f7 xs H K := by
  obtain ⟨rfl, h⟩ := h
  simp (implicitDefEqProofs := false) only [sB, simprocAttr, f7]
  exact h
def o6 (xs : List AV) (H : Heap) (K : Kv) : Prop := s6 xs H K ∨ n6 xs H K
def o7 (xs : List AV) (H : Heap) (K : Kv) : Prop := s7 xs H K ∨ n7 xs H K
@[reducible] def tP (P : Program) : Th := ⟨fun _ => none, P, [(10, c10), (6, o6), (7, o7), (14, c14)]⟩
theorem fv1 : Val.fvs [([97], zeroV)] = [.agg [.str [97], .int .i64 0, .str [], .int .i64 0, .bool false, .sl [] .nil, .sl [] .nil]] := rfl
theorem chk_one (t : Tok) : chkM [([97], zeroV)] t = 0 := by
  have n1 : nameB [97] = true := by decide
  simp [chkM, zeroV, chk, chkI, chkF, chk1, ownV, n1]
theorem hle_pH (p a b : Nat) (D F : RMap) (pulls : List (List UInt8)) (tk : Tok) (R : Heap) : Hle R (pH p a b D F pulls tk R) := .of_sub (.cons _ (.cons _ (.cons _ (List.sublist_append_right _ _))))
def c9 (xs : List AV) (H : Heap) (K : Kv) : Prop := xs = [] ∧ H.keys.Nodup ∧ K.ap (.bool true) H
theorem c9_of (P : Program) {xs : List AV} {H : Heap} {K : Kv} (h : c9 xs H K) : @xF (tP P) f9 xs H ⟨fun v H' => ∃ H0, Hle H0 H' ∧ K.ap v H0⟩ := by
  obtain ⟨rfl, hn, h⟩ := h
  simp (implicitDefEqProofs := false) only [sB, simprocAttr, f9]
  refine i_bsl (by decide) (Val.fvs [([97], zeroV)]) rfl (flds_all _) rfl fun x hx => ?_
  simp (implicitDefEqProofs := false) only [sB, simprocAttr]
  refine i_sl ⟨⟨strs_all [[98]], rfl, rfl⟩, i_new fun y hy => ?_⟩
  simp (implicitDefEqProofs := false) only [sB, simprocAttr]
  refine ⟨[([97], zeroV)], _, [[98]], _, rfl, List.nodup_cons.2 ⟨hy, List.nodup_cons.2 ⟨hx, hn⟩⟩, by decide, by decide, by decide, fun e => absurd (chk_one _) e, fun _ e => absurd e (by decide), fun _ _ p a b hnp => ?_⟩
  have r1 : refR [([97], zeroV)] [[98]] [98] = (zeroV, 20) := by simp [refR]
  have r2 : refR [([97], zeroV)] [[98]] [99] = (zeroV, 17) := by simp [refR, fieldR]
  have p1 : refP [] [98] = [[98]] := by simp [refP]
  have p2 : refP [[98]] [99] = [[98], [99]] := by simp [refP]
  have p3 : refP [[98], [99]] [98] = [[98], [99]] := by simp [refP]
  have zc : zeroV.cs = [.int .i64 0, .str [], .int .i64 0, .bool false, .sl [] .nil, .sl [] .nil] := rfl
  simp (implicitDefEqProofs := false) only [sB, simprocAttr]
  refine .inl ⟨p, a, b, [], [([97], zeroV)], [[98]], [], .nil, _, [98], rfl, .refl _, hnp, rfl, by decide, by decide, by decide, dok_nil _ _, fun e => absurd e (by decide), fun _ D1 t1 d1 g1 n1 => ?_⟩
  rw [p1] at d1 g1 n1 ⊢
  rw [r1]
  simp only [zc]
  simp (implicitDefEqProofs := false) only [sB, simprocAttr]
  refine i_new fun v1 hv1 => ?_
  simp (implicitDefEqProofs := false) only [sB, simprocAttr]
  refine .inl ⟨p, a, b, D1, [([97], zeroV)], [[98]], [[98]], t1, _, [99], rfl, .tail _ _, n1, g1, by decide, by decide, by decide, d1, fun e => absurd e (by decide), fun _ D2 t2 d2 g2 n2 => ?_⟩
  rw [p2] at d2 g2 n2 ⊢
  rw [r2]
  simp only [zc]
  simp (implicitDefEqProofs := false) only [sB, simprocAttr]
  refine i_new fun v2 hv2 => ?_
  simp (implicitDefEqProofs := false) only [sB, simprocAttr]
  refine .inl ⟨p, a, b, D2, [([97], zeroV)], [[98]], [[98], [99]], t2, _, [98], rfl, .tail _ _, n2, g2, by decide, by decide, by decide, d2, fun e => absurd e (by decide), fun _ D3 t3 d3 g3 n3 => ?_⟩
  rw [p3] at d3 g3 n3 ⊢
  rw [r1]
  simp only [zc]
  simp (implicitDefEqProofs := false) only [sB, simprocAttr]
  refine i_new fun v3 hv3 => ?_
  simp (implicitDefEqProofs := false) only [sB, simprocAttr]
  refine .inl ⟨_, .tail _ _, p, a, b, D3, _, [[98], [99]], t3, _, rfl, rfl, n3, g3, by decide, fun t' => ?_⟩
  simp (implicitDefEqProofs := false) only [sB, simprocAttr]
  refine i_sl ⟨⟨strs_all [[98], [99]], rfl, rfl⟩, i_new fun z hz => ?_⟩
  simp (implicitDefEqProofs := false) only [sB, simprocAttr]
  refine x_c14 (m := [[98], [99]]) (by decide) _ _ ?_
  simp (implicitDefEqProofs := false) only [sB, simprocAttr]
  refine ⟨H, ?_, h⟩
  exact (Hle.of_sub (.cons _ (.cons _ (.refl _)))).trans ((hle_pH _ _ _ _ _ _ _ _).trans (.tail _ _))
end Go.AL.Fun
