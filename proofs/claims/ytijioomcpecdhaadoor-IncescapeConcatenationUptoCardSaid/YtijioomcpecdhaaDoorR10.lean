/- The decoder: New, Write, Held, Close. -/
import Derived.Test.YtijioomcpecdhaaDoorR9
set_option linter.unusedSimpArgs false
set_option linter.unusedVariables false
set_option maxRecDepth 100000
set_option maxHeartbeats 4000000
namespace Go.AL.Fun
open Go Go.AL

theorem x_c88 {x y : AV} {a b : List UInt8} {t : Tok} {H : Heap} {K : Kv} (hn : H.keys.Nodup) (hx : BSrc H x a) (hy : BSrc H y b) (ha : a.length ≤ 1073741824) (hb : b.length ≤ 1073741824) (k : K.ap (.sl (bytesAV (a ++ b)) (tokc (a ++ b))) H) : c88 [.sl [x, y] t] H K := ⟨x, y, a, b, t, rfl, hn, hx, hy, ha, hb, k⟩
theorem x_c89 {p : List UInt8} {t : Tok} {H : Heap} {K : Kv} (hl : p.length ≤ 1099511627776) (k : K.ap (.bool (fullP p)) H) : c89 [.sl (bytesAV p) t] H K := ⟨p, t, rfl, hl, k⟩
theorem x_c90 {p : List UInt8} {t : Tok} {H : Heap} {K : Kv} (hne : p ≠ []) (hl : p.length ≤ 1099511627776) (k : K.ap (.tup [.int .i32 (dec1 p).1, .int .i64 (dec1 p).2]) H) : c90 [.sl (bytesAV p) t] H K := ⟨p, t, rfl, hne, hl, k⟩
theorem fullP_of {s : List UInt8} (h : s ≠ []) : fullP s = !(fst s).2 := by
  cases s with
  | nil => exact absurd rfl h
  | cons _ _ => rfl
theorem hle_perm {X H H' : Heap} (h : Hle X H) (hp : H'.Perm H) : Hle X H' := by
  obtain ⟨L, l1, l2⟩ := h
  exact ⟨_, ((List.exists_perm_sublist l1 hp.symm).choose_spec).2, ((List.exists_perm_sublist l1 hp.symm).choose_spec).1.trans l2⟩

theorem key_ne {pp q : Nat} {H : Heap} {o : AObj} (h : lookH pp H = some o) (hq : q ∉ Heap.keys H) : ¬ pp = q := by
  intro e
  subst e
  induction H with
  | nil => simp [lookH] at h
  | cons a H ih =>
    obtain ⟨j, o'⟩ := a
    simp only [Heap.keys, List.map_cons, List.mem_cons, not_or] at hq
    simp only [lookH, if_neg hq.1] at h
    exact ih h hq.2
def dO (h : List UInt8) (tk : Tok) (rs : List AV) : AObj := .cells (.sl (bytesAV h) tk :: rs)
def c65 (xs : List AV) (H : Heap) (K : Kv) : Prop := ∃ (pp : Nat) (h p : List UInt8) (tk : Tok) (rs : List AV) (x : AV) (R : Heap), xs = [.ptr pp 0, x] ∧ H.Perm ((pp, dO h tk rs) :: R) ∧ H.keys.Nodup ∧ BSrc H x p ∧ h.length + p.length ≤ 1073741824 ∧
  ∀ tk2 H', H'.Perm ((pp, dO (wrP (h ++ p)).2 tk2 rs) :: R) → H'.keys.Nodup → K.ap (.sl (i32AV (wrP (h ++ p)).1) (tokc (wrP (h ++ p)).1)) H'
theorem c65_of (P : Program) {G : Nat → Option (List AV)} {xs : List AV} {H : Heap} {K : Kv} (h : c65 xs H K) : @xF ⟨G, P, [(88, c88), (89, c89), (90, c90)]⟩ f65 xs H ⟨fun v H' => ∃ H0, Hle H0 H' ∧ ∃ v', AVle v v' ∧ K.ap v' H0⟩ := by
  obtain ⟨pp, h, p, tk, rs, x, R, rfl, hp, hn, hx, hl, k⟩ := h
  have hlk : lookH pp H = some (.cells (.sl (bytesAV h) tk :: rs)) := look_head hp hn
  have hxc := hx.cells
  have fl : flat [AV.sl (bytesAV h) tk, x] = [.sl (bytesAV h) tk, x] := by simp only [flat, List.flatMap_cons, List.flatMap_nil, hxc]; rfl
  simp (implicitDefEqProofs := false) only [sB, simprocAttr, f65, hlk, hxc]
  refine i_sl ⟨⟨?_, ?_⟩, i_new fun z hz => ?_⟩
  · intro y hy
    simp only [List.mem_cons, List.not_mem_nil, or_false] at hy
    rcases hy with rfl | rfl
    · rfl
    · rw [hxc]; rfl
  · exact ⟨rfl, fl⟩
  simp (implicitDefEqProofs := false) only [sB, simprocAttr]
  refine x_c88 (List.nodup_cons.2 ⟨hz, hn⟩) (.sl _ _) (hx.mono fun id o hh => ?_) (by omega) (by omega) ?_
  · have : ¬ id = z := key_ne hh hz
    simp only [lookH, this, if_false]; exact hh
  simp (implicitDefEqProofs := false) only [sB, simprocAttr]
  have hL : (h ++ p).length ≤ 1073741824 := by rw [List.length_append]; omega
  generalize h ++ p = S at hL k ⊢
  refine i_loopJ (fun σ H1 => ∃ (s : List UInt8) (t5 : Tok) (out : List Int) (tk' : Tok), H1.Perm (tokH tk' ++ ((z, .spare 2) :: H)) ∧ H1.keys.Nodup ∧ GC 1 (i32AV out) tk' ∧ out.length + s.length ≤ 1073741824 ∧ out ++ (wrP s).1 = (wrP S).1 ∧ (wrP s).2 = (wrP S).2 ∧ σ = [(0, .ptr pp 0), (5, .sl (bytesAV s) t5), (6, .sl (i32AV out) tk')])
    (fun σ _ => match σ.get 5 with | .sl l _ => l.length | _ => 0)
    (fun e σ H1 => e = .exit 0 ∧ ∃ (t5 tk' : Tok), H1.Perm (tokH tk' ++ ((z, .spare 2) :: H)) ∧ H1.keys.Nodup ∧ GC 1 (i32AV (wrP S).1) tk' ∧ σ.get 0 = .ptr pp 0 ∧ σ.get 5 = .sl (bytesAV (wrP S).2) t5 ∧ σ.get 6 = .sl (i32AV (wrP S).1) tk')
    ⟨_, .refl _, S, _, [], .nil, .refl _, List.nodup_cons.2 ⟨hz, hn⟩, rfl, by simpa using hL, rfl, rfl, rfl⟩ ?_ ?_
  · rintro e σ H1 ⟨rfl, t5, tk', hp1, hn1, hg, q0, q5, q6⟩
    have hp2 : H1.Perm ((pp, dO h tk rs) :: (tokH tk' ++ ((z, .spare 2) :: R))) :=
      hp1.trans (((hp.cons _).append_left _).trans ((List.Perm.append_left _ (.swap _ _ _)).trans List.perm_middle))
    have hlk1 : lookH pp H1 = some (.cells (.sl (bytesAV h) tk :: rs)) := look_head hp2 hn1
    have hp3 := set_head (dO (wrP S).2 t5 rs) hp2 hn1
    have hs : ((pp, dO (wrP S).2 t5 rs) :: R).Sublist ((pp, dO (wrP S).2 t5 rs) :: (tokH tk' ++ ((z, .spare 2) :: R))) := .cons_cons _ (.trans (.cons _ (.refl _)) (List.sublist_append_right _ _))
    simp (implicitDefEqProofs := false) only [sB, simprocAttr, q0, q5, q6, hlk1]
    refine ⟨_, hle_sub hp3 hs, _, AVle.tok hg, ?_⟩
    rw [i32_tok]
    exact k _ _ (.refl _) (nodup_sub hp3 hs (set_nodup _ hn1))
  · rintro Q hQ σ H1 ⟨s, t5, out, tk', hp1, hn1, hg, hle, hd1, hd2, rfl⟩
    by_cases e0 : s = []
    · subst e0
      rw [wrP_stop (.inl rfl), List.append_nil] at hd1
      rw [wrP_stop (.inl rfl)] at hd2
      subst hd1
      simp (implicitDefEqProofs := false) only [sB, simprocAttr]
      exact hQ _ _ _ ⟨rfl, t5, tk', hp1, hn1, hg, rfl, by rw [← hd2]; rfl, rfl⟩
    · have hlp := List.length_pos_iff.2 e0
      have l0 : (0 : Int) < (s.length : Int) := by omega
      simp (implicitDefEqProofs := false) only [sB, simprocAttr, by_len, l0]
      refine x_c89 (by omega) ?_
      rw [fullP_of e0]
      by_cases hf : (fst s).2 = true
      · rw [wrP_stop (.inr hf), List.append_nil] at hd1
        rw [wrP_stop (.inr hf)] at hd2
        subst hd1
        simp (implicitDefEqProofs := false) only [sB, simprocAttr, hf]
        exact hQ _ _ _ ⟨rfl, t5, tk', hp1, hn1, hg, rfl, by rw [← hd2]; rfl, rfl⟩
      · have hf' : (fst s).2 = false := by simpa using hf
        rw [wrP_step e0 hf'] at hd1 hd2
        have d1 := dec1_pos s
        have d2 := dec1_le e0
        have z1 : (0 : Int) ≤ ((dec1 s).2 : Int) := by omega
        have z2 : ((dec1 s).2 : Int) ≤ (s.length : Int) := by omega
        simp (implicitDefEqProofs := false) only [sB, simprocAttr, hf', by_len]
        refine x_c90 e0 (by omega) ?_
        simp (implicitDefEqProofs := false) only [sB, simprocAttr]
        refine i_sl ⟨⟨i32_all [(dec1 s).1], rfl, rfl⟩, i_new fun w hw => ?_⟩
        simp (implicitDefEqProofs := false) only [sB, simprocAttr]
        refine app_i32 (A := [(w, .spare 1)]) (dec1 s).1 _ (hp1.cons _) (List.nodup_cons.2 ⟨hw, hn1⟩) hg (by omega) fun tk2 H' g1 g2 g3 => ?_
        simp (implicitDefEqProofs := false) only [sB, simprocAttr, z1, z2, by_len]
        exact ⟨_, g2, ⟨s.drop (dec1 s).2, t5, out ++ [(dec1 s).1], tk2, .refl _, g3, g1, by rw [List.length_append, List.length_singleton, List.length_drop]; omega, by rw [List.append_assoc]; exact hd1, hd2, rfl, rfl⟩, by omega⟩

theorem x_c23 {s : List UInt8} {H : Heap} {K : Kv} (hn : H.keys.Nodup) (hl : s.length ≤ 1073741824) (k : ∀ id H', H'.Perm ((id, .cells (i32AV (decP s))) :: H) → H'.keys.Nodup → K.ap (.msl id 0 (decP s).length 1) H') : c23 [.str s] H K := ⟨s, rfl, hn, hl, k⟩
def c66 (xs : List AV) (H : Heap) (K : Kv) : Prop := ∃ (pp : Nat) (h : List UInt8) (tk : Tok) (rs : List AV) (R : Heap), xs = [.ptr pp 0] ∧ H.Perm ((pp, dO h tk rs) :: R) ∧ H.keys.Nodup ∧ h.length ≤ 1073741824 ∧
  ∀ id H', H'.Perm ((id, .cells (i32AV (decP h))) :: (pp, dO [] .nil rs) :: R) → H'.keys.Nodup → K.ap (.msl id 0 (decP h).length 1) H'
theorem c66_of (P : Program) {G : Nat → Option (List AV)} {xs : List AV} {H : Heap} {K : Kv} (h : c66 xs H K) : @xF ⟨G, P, [(23, c23)]⟩ f66 xs H ⟨fun v H' => ∃ H0, Hle H0 H' ∧ K.ap v H0⟩ := by
  obtain ⟨pp, h, tk, rs, R, rfl, hp, hn, hl, k⟩ := h
  have hlk : lookH pp H = some (.cells (.sl (bytesAV h) tk :: rs)) := look_head hp hn
  simp (implicitDefEqProofs := false) only [sB, simprocAttr, f66, hlk, by_of]
  refine x_c23 hn hl fun id H' g1 g2 => ?_
  have hp2 : H'.Perm ((pp, dO h tk rs) :: (id, .cells (i32AV (decP h))) :: R) := g1.trans ((hp.cons _).trans (.swap _ _ _))
  have hlk2 : lookH pp H' = some (.cells (.sl (bytesAV h) tk :: rs)) := look_head hp2 g2
  have hp3 := set_head (dO [] .nil rs) hp2 g2
  simp (implicitDefEqProofs := false) only [sB, simprocAttr, hlk2]
  exact ⟨_, .refl _, k id _ (hp3.trans (.swap _ _ _)) (set_nodup _ g2)⟩
end Go.AL.Fun
