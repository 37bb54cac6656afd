/- The provider: a name got. -/
import Derived.Test.YtpeaphpibnikcaaV9
set_option linter.unusedSimpArgs false
set_option linter.unusedVariables false
set_option maxRecDepth 100000
set_option maxHeartbeats 2000000
namespace Go.AL.Fun
open Go Go.AL

theorem lk0 {H L : Heap} (hp : H.Perm L) (hn : H.keys.Nodup) (j : Nat) : lookH j H = lookH j L := lookH_perm hp hn j
theorem lk1 {H L : Heap} (hp : H.Perm L) (hn : H.keys.Nodup) (i : Nat) (o : AObj) (j : Nat) : lookH j (setH i o H) = lookH j (setH i o L) := lookH_perm (setH_perm hp hn) (set_nodup _ hn) j
theorem lk2 {H L : Heap} (hp : H.Perm L) (hn : H.keys.Nodup) (i : Nat) (o : AObj) (i' : Nat) (o' : AObj) (j : Nat) : lookH j (setH i' o' (setH i o H)) = lookH j (setH i' o' (setH i o L)) :=
  lookH_perm (setH_perm (setH_perm hp hn) (set_nodup _ hn)) (set_nodup _ (set_nodup _ hn)) j

/-- The provider's memory. -/
def pH (p a b : Nat) (D F : RMap) (pulls : List (List UInt8)) (tk : Tok) (R : Heap) : Heap :=
  (p, .cells [.map a, .map b, .sl (strsAV pulls) tk]) :: (b, .map (resM D)) :: (a, .map (resM F)) :: (tokH tk ++ R)
theorem pH_ne {p a b : Nat} {D F : RMap} {pulls : List (List UInt8)} {tk : Tok} {R : Heap} (h : (pH p a b D F pulls tk R).keys.Nodup) : ¬ p = b ∧ ¬ p = a ∧ ¬ b = a := by
  simp only [pH, Heap.keys, List.map_cons, List.nodup_cons, List.mem_cons, not_or] at h
  exact ⟨h.1.1, h.1.2.1, h.2.1.1⟩
def c7 (xs : List AV) (H : Heap) (K : Kv) : Prop := ∃ (p a b : Nat) (D F : RMap) (pulls : List (List UInt8)) (tk : Tok) (R : Heap), xs = [.ptr p 0] ∧ H = pH p a b D F pulls tk R ∧ H.keys.Nodup ∧ GT (strsAV pulls) tk ∧ pulls.length ≤ 1048576 ∧ ∀ t', K.ap (.sl (strsAV pulls) t') H
theorem c7_of (P : Program) {xs : List AV} {H : Heap} {K : Kv} (h : c7 xs H K) : @xF ⟨fun _ => none, P, [(17, c17)]⟩ f7 xs H K := by
  obtain ⟨p, a, b, D, F, pulls, tk, R, rfl, rfl, hn, hg, hl, h⟩ := h
  have nil0 : tk = .nil → pulls = [] := fun e => by
    subst e
    have : strsAV pulls = [] := hg
    cases pulls with
    | nil => rfl
    | cons x l => cases this
  unfold pH at h hn ⊢
  simp (implicitDefEqProofs := false) only [sB, simprocAttr, f7]
  refine x_c17 nil0 hl hn _ fun t' => ?_
  simp (implicitDefEqProofs := false) only [sB, simprocAttr]
  exact h t'

def getR (D F : RMap) (name : List UInt8) : Res := match rlook name D with | some r => r | none => (rlook name F).getD (zeroV, 17)
def c6 (xs : List AV) (H : Heap) (K : Kv) : Prop := ∃ (p a b : Nat) (D F : RMap) (pulls : List (List UInt8)) (tk : Tok) (R : Heap) (name : List UInt8), xs = [.ptr p 0, .str name] ∧ H = pH p a b D F pulls tk R ∧ H.keys.Nodup ∧ GT (strsAV pulls) tk ∧ pulls.length ≤ 1048576 ∧ name.length ≤ 1099511627776 ∧
  (nameB name = false → K.ap (.tup [.agg zeroV.cs, .int .i64 11]) H) ∧
  (nameB name = true → ∀ r, rlook name D = some r → K.ap (.tup [.agg r.1.cs, .int .i64 r.2]) H) ∧
  (nameB name = true → rlook name D = none → ∀ tk' H', GT (strsAV (pulls ++ [name])) tk' → H' = pH p a b (rupd name (getR D F name) D) F (pulls ++ [name]) tk' R → H'.keys.Nodup → K.ap (.tup [.agg (getR D F name).1.cs, .int .i64 (getR D F name).2]) H')
theorem c6_of (P : Program) {xs : List AV} {H : Heap} {K : Kv} (h : c6 xs H K) : @xF ⟨fun _ => none, P, [(16, c16)]⟩ f6 xs H ⟨fun v H' => ∃ H0, Hle H0 H' ∧ K.ap v H0⟩ := by
  obtain ⟨p, a, b, D, F, pulls, tk, R, name, rfl, rfl, hn, hg, hl, hs, h1, h2, h3⟩ := h
  obtain ⟨npb, npa, nba⟩ := pH_ne hn
  have nbp : ¬ b = p := fun e => npb e.symm
  have nap : ¬ a = p := fun e => npa e.symm
  have nab : ¬ a = b := fun e => nba e.symm
  unfold pH at h1 h2 hn ⊢
  simp (implicitDefEqProofs := false) only [sB, simprocAttr, f6]
  refine i_new fun q hq0 => ?_
  have hq := hq0
  simp (implicitDefEqProofs := false) only [sB, simprocAttr] at hq
  have hpq : ¬ p = q := fun e => hq.1 e.symm
  have hbq : ¬ b = q := fun e => hq.2.1 e.symm
  have haq : ¬ a = q := fun e => hq.2.2.1 e.symm
  by_cases nm : nameB name = true
  · simp (implicitDefEqProofs := false) only [sB, simprocAttr, hq, hpq, hbq, haq, npb, npa, nba, nbp, nap, nab, x_c16 hs, nm, res_look]
    cases hD : rlook name D with
    | some r =>
      have h4 := h2 nm r hD
      obtain ⟨⟨k', s', n', b', it', is', ft', fs'⟩, e'⟩ := r
      simp only [Val.cs] at h4
      simp (implicitDefEqProofs := false) only [sB, simprocAttr, hD, Option.map_some, resAV, Val.cs, List.cons_append, List.nil_append]
      refine i_new fun u hu0 => ?_
      have hu := hu0
      simp (implicitDefEqProofs := false) only [sB, simprocAttr] at hu
      have hqu : ¬ q = u := fun e => hu.1 e.symm
      simp (implicitDefEqProofs := false) only [sB, simprocAttr, hu, hqu, hq, hpq, hbq, haq, npb, npa, nba, nbp, nap, nab]
      exact ⟨_, .of_sub (.cons _ (.cons _ (.refl _))), h4⟩
    | none =>
      simp (implicitDefEqProofs := false) only [sB, simprocAttr, hD, Option.map_none]
      refine i_new fun u hu0 => ?_
      have hu := hu0
      simp (implicitDefEqProofs := false) only [sB, simprocAttr] at hu
      have hqu : ¬ q = u := fun e => hu.1 e.symm
      have hpu : ¬ p = u := fun e => hu.2.1 e.symm
      have hbu : ¬ b = u := fun e => hu.2.2.1 e.symm
      have hau : ¬ a = u := fun e => hu.2.2.2.1 e.symm
      cases hF : rlook name F with
      | none =>
        have hup := res_upd name (zeroV, 17) D
        simp only [resAV, zeroV, Val.cs, Val.avs, Val.fvs, List.cons_append, List.nil_append] at hup
        have hg2 : getR D F name = (zeroV, 17) := by unfold getR; rw [hD, hF]; rfl
        simp (implicitDefEqProofs := false) only [sB, simprocAttr, hu, hqu, hpu, hbu, hau, hq, hpq, hbq, haq, npb, npa, nba, nbp, nap, nab, res_look, hF, Option.map_none]
        simp (implicitDefEqProofs := false) only [sB, simprocAttr, hu, hqu, hpu, hbu, hau, hq, hpq, hbq, haq, npb, npa, nba, nbp, nap, nab, hup]
        refine i_sl ⟨⟨strs_all [name], rfl, rfl⟩, i_new fun w hw0 => ?_⟩
        have hw := hw0
        simp (implicitDefEqProofs := false) only [sB, simprocAttr] at hw
        have huw : ¬ u = w := fun e => hw.1 e.symm
        have hqw : ¬ q = w := fun e => hw.2.1 e.symm
        have hpw : ¬ p = w := fun e => hw.2.2.1 e.symm
        simp (implicitDefEqProofs := false) only [sB, simprocAttr, hw, huw, hqw, hpw, hu, hqu, hpu, hbu, hau, hq, hpq, hbq, haq, npb, npa, nba, nbp, nap, nab]
        have hnw : (Heap.keys ((w, .spare 1) :: (u, .cells [.int .i64 0, .str [], .int .i64 0, .bool false, .sl [] .nil, .sl [] .nil, .int .i64 17]) :: (q, .cells [.int .i64 0, .str [], .int .i64 0, .bool false, .sl [] .nil, .sl [] .nil]) :: (p, .cells [.map a, .map b, .sl (strsAV pulls) tk]) :: (b, .map (resM (rupd name (zeroV, 17) D))) :: (a, .map (resM F)) :: (tokH tk ++ R))).Nodup :=
          List.nodup_cons.2 ⟨hw0, List.nodup_cons.2 ⟨hu0, List.nodup_cons.2 ⟨hq0, hn⟩⟩⟩
        refine i_app (A := [(w, .spare 1), (u, .cells [.int .i64 0, .str [], .int .i64 0, .bool false, .sl [] .nil, .sl [] .nil, .int .i64 17]), (q, .cells [.int .i64 0, .str [], .int .i64 0, .bool false, .sl [] .nil, .sl [] .nil]), (p, .cells [.map a, .map b, .sl (strsAV pulls) tk]), (b, .map (resM (rupd name (zeroV, 17) D))), (a, .map (resM F))]) (R := R) (tk := tk) (xs := strsAV pulls) (ys := strsAV [name]) (.refl _) hnw hg (.inl ⟨_, rfl⟩) (strs_all _) (strs_all _) ?_ ?_ fun tk' H' g1 g2 g3 => ?_
        · simp only [strs_len, List.length_cons, List.length_nil, maxLen_eq]; omega
        · simp only [strs_len, List.length_cons, List.length_nil]; omega
        · have es : strsAV pulls ++ strsAV [name] = strsAV (pulls ++ [name]) := by simp [strsAV]
          rw [es] at g1 ⊢
          simp only [List.cons_append, List.nil_append] at g2
          simp (implicitDefEqProofs := false) only [sB, simprocAttr, lk0 g2 g3, lk1 g2 g3, lk2 g2 g3, hw, huw, hqw, hpw, hu, hqu, hpu, hbu, hau, hq, hpq, hbq, haq, npb, npa, nba, nbp, nap, nab]
          have hL := nodup_perm g2 g3
          have hn4 := (List.nodup_cons.1 (List.nodup_cons.1 (List.nodup_cons.1 hL).2).2).2
          have hp2 := setH_perm (id := q) (o := .cells [.int .i64 0, .str [], .int .i64 0, .bool false, .sl [] .nil, .sl [] .nil]) (setH_perm (id := p) (o := .cells [.map a, .map b, .sl (strsAV (pulls ++ [name])) tk']) g2 g3) (set_nodup _ g3)
          simp only [setH, renH, hw, huw, hqw, hpw, hu, hqu, hpu, hbu, hau, hq, hpq, hbq, haq, npb, npa, nba, nbp, nap, nab, if_true, if_false] at hp2
          rw [hg2] at h3
          exact ⟨_, (Hle.of_sub (.cons _ (.cons _ (.cons _ (.refl _))))).trans (.of_perm hp2), h3 nm hD tk' _ g1 rfl hn4⟩
      | some r =>
        have hg2 : getR D F name = r := by unfold getR; rw [hD, hF]; rfl
        have hup := res_upd name r D
        rw [hg2] at h3
        generalize hr : r = r0 at h3 hup hg2
        obtain ⟨⟨k', s', n', b', it', is', ft', fs'⟩, e'⟩ := r0
        subst hr
        simp only [resAV, Val.cs, List.cons_append, List.nil_append] at hup
        simp (implicitDefEqProofs := false) only [sB, simprocAttr, hu, hqu, hpu, hbu, hau, hq, hpq, hbq, haq, npb, npa, nba, nbp, nap, nab, res_look, hF, Option.map_some, resAV, Val.cs, List.cons_append, List.nil_append]
        simp (implicitDefEqProofs := false) only [sB, simprocAttr, hu, hqu, hpu, hbu, hau, hq, hpq, hbq, haq, npb, npa, nba, nbp, nap, nab, hup]
        refine i_sl ⟨⟨strs_all [name], rfl, rfl⟩, i_new fun w hw0 => ?_⟩
        have hw := hw0
        simp (implicitDefEqProofs := false) only [sB, simprocAttr] at hw
        have huw : ¬ u = w := fun e => hw.1 e.symm
        have hqw : ¬ q = w := fun e => hw.2.1 e.symm
        have hpw : ¬ p = w := fun e => hw.2.2.1 e.symm
        simp (implicitDefEqProofs := false) only [sB, simprocAttr, hw, huw, hqw, hpw, hu, hqu, hpu, hbu, hau, hq, hpq, hbq, haq, npb, npa, nba, nbp, nap, nab]
        have hnw : (Heap.keys ((w, .spare 1) :: (u, .cells [.int .i64 k', .str s', .int .i64 n', .bool b', .sl (Val.avs is') it', .sl (Val.fvs fs') ft', .int .i64 e']) :: (q, .cells [.int .i64 0, .str [], .int .i64 0, .bool false, .sl [] .nil, .sl [] .nil]) :: (p, .cells [.map a, .map b, .sl (strsAV pulls) tk]) :: (b, .map (resM (rupd name (Val.mk k' s' n' b' it' is' ft' fs', e') D))) :: (a, .map (resM F)) :: (tokH tk ++ R))).Nodup :=
          List.nodup_cons.2 ⟨hw0, List.nodup_cons.2 ⟨hu0, List.nodup_cons.2 ⟨hq0, hn⟩⟩⟩
        refine i_app (A := [(w, .spare 1), (u, .cells [.int .i64 k', .str s', .int .i64 n', .bool b', .sl (Val.avs is') it', .sl (Val.fvs fs') ft', .int .i64 e']), (q, .cells [.int .i64 0, .str [], .int .i64 0, .bool false, .sl [] .nil, .sl [] .nil]), (p, .cells [.map a, .map b, .sl (strsAV pulls) tk]), (b, .map (resM (rupd name (Val.mk k' s' n' b' it' is' ft' fs', e') D))), (a, .map (resM F))]) (R := R) (tk := tk) (xs := strsAV pulls) (ys := strsAV [name]) (.refl _) hnw hg (.inl ⟨_, rfl⟩) (strs_all _) (strs_all _) ?_ ?_ fun tk' H' g1 g2 g3 => ?_
        · simp only [strs_len, List.length_cons, List.length_nil, maxLen_eq]; omega
        · simp only [strs_len, List.length_cons, List.length_nil]; omega
        · have es : strsAV pulls ++ strsAV [name] = strsAV (pulls ++ [name]) := by simp [strsAV]
          rw [es] at g1 ⊢
          simp only [List.cons_append, List.nil_append] at g2
          simp (implicitDefEqProofs := false) only [sB, simprocAttr, lk0 g2 g3, lk1 g2 g3, lk2 g2 g3, hw, huw, hqw, hpw, hu, hqu, hpu, hbu, hau, hq, hpq, hbq, haq, npb, npa, nba, nbp, nap, nab]
          have hL := nodup_perm g2 g3
          have hn4 := (List.nodup_cons.1 (List.nodup_cons.1 (List.nodup_cons.1 hL).2).2).2
          have hp2 := setH_perm (id := q) (o := .cells [.int .i64 k', .str s', .int .i64 n', .bool b', .sl (Val.avs is') it', .sl (Val.fvs fs') ft']) (setH_perm (id := p) (o := .cells [.map a, .map b, .sl (strsAV (pulls ++ [name])) tk']) g2 g3) (set_nodup _ g3)
          simp only [setH, renH, hw, huw, hqw, hpw, hu, hqu, hpu, hbu, hau, hq, hpq, hbq, haq, npb, npa, nba, nbp, nap, nab, if_true, if_false] at hp2
          exact ⟨_, (Hle.of_sub (.cons _ (.cons _ (.cons _ (.refl _))))).trans (.of_perm hp2), h3 nm hD tk' _ g1 rfl hn4⟩
  · simp (implicitDefEqProofs := false) only [sB, simprocAttr, hq, hpq, hbq, haq, npb, npa, nba, nbp, nap, nab, x_c16 hs, nm]
    exact ⟨_, .tail _ _, h1 (by simpa using nm)⟩
end Go.AL.Fun
