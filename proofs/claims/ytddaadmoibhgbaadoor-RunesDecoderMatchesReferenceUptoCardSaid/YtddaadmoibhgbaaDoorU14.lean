/- RunesSplitIrrelevant, walked. -/
import Derived.Test.YtddaadmoibhgbaaDoorU13
set_option linter.unusedSimpArgs false
set_option linter.unusedVariables false
set_option maxRecDepth 100000
set_option maxHeartbeats 4000000
namespace Go.AL.Fun
open Go Go.AL Go.Proofs

theorem x_c14 {x y : AV} {l m : List Int} {H : Heap} {K : Kv} (hx : RSrc H x l) (hy : RSrc H y m) (hl : l.length ≤ 1073741824) (k : K.ap (.bool (decide (l = m))) H) : c14 [x, y] H K := ⟨x, y, l, m, rfl, hx, hy, hl, k⟩
theorem rs_src {H : Heap} {x : AV} {l : List Int} (h : RSrc H x l) : ∀ K' : Kl AV, K'.ap (i32AV l) → xSrc 1 x H (K := K') := by
  intro K' k
  cases h with
  | sl l u => rw [xsrc_sl]; exact ⟨i32_all _, k⟩
  | msl id l hid =>
    have e : ((i32AV l).drop 0).take l.length = i32AV l := by rw [List.drop_zero, List.take_of_length_le (by rw [i32_len]; exact Nat.le_refl _)]
    rw [xsrc_msl1, hid, x_cells]
    exact ⟨rfl, ⟨by rw [i32_len]; omega, by rw [e]; exact i32_all _, by rw [e]; exact i32_flat _⟩, by rw [e]; exact k⟩
theorem law4 (P : Program) (s cs : List UInt8) (t : Tok) (hs : s.length ≤ 1048576) (hc : cs.length ≤ 1048576) (K : Kv) (hK : ∀ H, K.ap (.bool true) H) : @xF ⟨Gu, P, tA⟩ f4 [.str s, .sl (bytesAV cs) t] [] K := by
  have hn : (Heap.keys []).Nodup := List.nodup_nil
  have alive : ∀ (H : Heap) (K' : Kv), H.keys.Nodup → K'.ap (.bool true) H → c12 [] H K' := fun H K' h k => ⟨rfl, h, k⟩
  simp (implicitDefEqProofs := false) only [sB, simprocAttr, f4]
  refine x_c13 fun pp hpp => ?_
  have hn1 := List.nodup_cons.2 ⟨hpp, hn⟩
  by_cases q1 : (3000 : Int) < s.length
  · simp (implicitDefEqProofs := false) only [sB, simprocAttr, q1]
    refine alive _ _ hn1 ?_
    simp (implicitDefEqProofs := false) only [sB, simprocAttr]
    exact hK _
  by_cases q2 : cs = []
  · subst q2
    simp (implicitDefEqProofs := false) only [sB, simprocAttr, q1]
    refine alive _ _ hn1 ?_
    simp (implicitDefEqProofs := false) only [sB, simprocAttr]
    exact hK _
  have q2' : 0 < cs.length := List.length_pos_iff.2 q2
  have q3 : ¬ (cs.length : Int) = 0 := by omega
  by_cases q4 : (100 : Int) < cs.length
  · simp (implicitDefEqProofs := false) only [sB, simprocAttr, q1, q3, q4, by_len]
    refine alive _ _ hn1 ?_
    simp (implicitDefEqProofs := false) only [sB, simprocAttr]
    exact hK _
  simp (implicitDefEqProofs := false) only [sB, simprocAttr, q1, q2, q3, q4, by_len]
  refine ⟨by omega, i_new fun b hb => ?_⟩
  simp (implicitDefEqProofs := false) only [sB, simprocAttr]
  refine i_loopJ (fun σ H1 => ∃ (k i : Nat) (h : List UInt8) (out : List Int) (tk tk2 : Tok) (V : AV), H1.Perm (tokH tk ++ ((pp, dO h tk2) :: (b, .cells (bytesAV s)) :: [])) ∧ H1.keys.Nodup ∧ GC 1 (i32AV out) tk ∧ k ≤ s.length ∧ (h = [] ∨ (fst h).2 = true) ∧ out ++ decP (h ++ s.drop k) = decP s ∧ i ≤ k ∧ V = .msl b k (s.length - k) 1 ∧ σ = [(0, .str s), (1, .sl (bytesAV cs) t), (5, .ptr pp 0), (6, .sl (i32AV out) tk), (7, V), (8, .int .i64 i)])
    (fun σ _ => match σ.get 7 with | .msl _ _ n _ => n | _ => 0)
    (fun e σ H1 => e = .exit 0 ∧ ∃ (h : List UInt8) (out : List Int) (tk tk2 : Tok), H1.Perm (tokH tk ++ ((pp, dO h tk2) :: (b, .cells (bytesAV s)) :: [])) ∧ H1.keys.Nodup ∧ GC 1 (i32AV out) tk ∧ (h = [] ∨ (fst h).2 = true) ∧ out ++ decP h = decP s ∧ σ.get 0 = .str s ∧ σ.get 5 = .ptr pp 0 ∧ σ.get 6 = .sl (i32AV out) tk)
    ⟨_, .refl _, 0, 0, [], [], .nil, .nil, _, .swap _ _ _, List.nodup_cons.2 ⟨hb, hn1⟩, rfl, by omega, .inl rfl, rfl, by omega, rfl, rfl⟩ ?_ ?_
  · rintro e σ H1 ⟨rfl, h, out, tk, tk2, hp, hn2, hg, hh, hd, e0, e5, e6⟩
    simp (implicitDefEqProofs := false) only [sB, simprocAttr, e0, e5, e6]
    have h3 : h.length ≤ 3 := by rcases hh with rfl | hh; exact Nat.zero_le _; exact (fst_more hh).1
    have dl := (round_trip _ s (Nat.le_refl _)).2.2.1
    have ol : out.length + (decP h).length ≤ s.length := by
      have := congrArg List.length hd
      rw [List.length_append] at this; omega
    refine x_c10 (h := h) (R := tokH tk ++ [(b, .cells (bytesAV s))]) (hp.trans List.perm_middle) hn2 (by omega) fun id H2 g1 g2 => ?_
    simp (implicitDefEqProofs := false) only [sB, simprocAttr]
    refine i_appC (by decide) (A := [(id, .cells (i32AV (decP h))), (pp, dO [] .nil)]) (R := [(b, .cells (bytesAV s))]) g1 g2 hg (rs_src (.msl id (decP h) (look_head g1 g2))) (i32_all _) ?_ ?_ fun tk4 H3 g3 g4 g5 => ?_
    · simp only [i32_len, maxLen_eq]; omega
    · simp only [i32_len]; omega
    rw [i32_app, hd] at g3 ⊢
    have hlk := look_head (g4.trans (.swap _ _ _)) g5
    simp (implicitDefEqProofs := false) only [sB, simprocAttr]
    refine alive _ _ g5 ?_
    simp (implicitDefEqProofs := false) only [sB, simprocAttr, e0, e5]
    refine x_c17 (s := s) g5 (by omega) fun id2 H4 g6 g7 => ?_
    simp (implicitDefEqProofs := false) only [sB, simprocAttr, e0, e5]
    refine x_c14 (l := decP s) (m := decP s) (.sl _ _) (.msl id2 _ (look_head g6 g7)) (by omega) ?_
    have hlk4 : lookH pp H4 = some (dO [] .nil) := look_app (A := [(id2, .cells (i32AV (decP s)))]) g6 g7 _ _ hlk
    simp (implicitDefEqProofs := false) only [sB, simprocAttr, e0, e5]
    refine x_c11 hlk4 ?_
    simp (implicitDefEqProofs := false) only [sB, simprocAttr, e0, e5]
    exact hK _
  · rintro Q hQ σ H1 ⟨k, i, h, out, tk, tk2, V, hp, hn2, hg, hk, hh, hd, hik, rfl, rfl⟩
    by_cases c0 : k = s.length
    · subst c0
      rw [List.drop_length, List.append_nil] at hd
      simp (implicitDefEqProofs := false) only [sB, simprocAttr, Nat.sub_self]
      exact hQ _ _ _ ⟨rfl, h, out, tk, tk2, hp, hn2, hg, hh, hd, rfl, rfl, rfl⟩
    · have n0 : (0 : Int) < ((s.length - k : Nat) : Int) := by omega
      have m0 : 0 ≤ (i : Int).tmod cs.length := Int.tmod_nonneg _ (by omega)
      have m1 : (i : Int).tmod cs.length < cs.length := Int.tmod_lt_of_pos _ (by omega)
      have r9 := w_i64 ((i : Int) + 1) (by omega) (by omega)
      obtain ⟨m, hm⟩ := Int.eq_ofNat_of_zero_le m0
      rw [hm] at m0 m1
      have mlt : m < cs.length := by omega
      have hy : cs[m]? = some cs[m] := List.getElem?_eq_getElem mlt
      have hc8 := n8_lt cs[m]
      have r8 := w_i64 (1 + n8 cs[m]) (by omega) (by omega)
      have r7 := w_i64 (n8 cs[m]) (by omega) (by omega)
      simp (implicitDefEqProofs := false) only [sB, simprocAttr, n0, q3, hm, m0, by_get, hy, Option.map_some, byteAV_n8, r7, r8]
      obtain ⟨j, hj, j1, j2⟩ : ∃ j : Nat, (if 1 + n8 cs[m] < ((s.length - k : Nat) : Int) then 1 + n8 cs[m] else ((s.length - k : Nat) : Int)) = (j : Int) ∧ 1 ≤ j ∧ j ≤ s.length - k := by
        split
        · exact ⟨(1 + n8 cs[m]).toNat, by omega, by omega, by omega⟩
        · exact ⟨s.length - k, rfl, by omega, by omega⟩
      rw [hj, Int.toNat_natCast]
      refine ⟨⟨by omega, by omega⟩, ?_⟩
      obtain ⟨p, hpe⟩ : ∃ p, p = (s.drop k).take j := ⟨_, rfl⟩
      have plen : p.length = j := by rw [hpe, List.length_take, List.length_drop]; omega
      have h3 : h.length ≤ 3 := by rcases hh with rfl | hh; exact Nat.zero_le _; exact (fst_more hh).1
      have hbk : lookH b H1 = some (.cells (bytesAV s)) := by rw [lookH_iff hn2]; exact hp.mem_iff.2 (by simp)
      have hx : BSrc H1 (.msl b k j 1) p := by
        have := BSrc.msl (H := H1) b k (bytesAV s) p hbk (by rw [plen, by_len]; omega) (by rw [plen, by_drop, by_take, hpe])
        rwa [plen] at this
      have hsp : h ++ s.drop k = (h ++ p) ++ s.drop (k + j) := by rw [hpe, List.append_assoc, ← List.drop_drop, List.take_append_drop]
      obtain ⟨w1, w2, w3, w4⟩ := wr_dec (s.drop (k + j)) _ (h ++ p) (Nat.le_refl _)
      rw [hsp, w1, ← List.append_assoc] at hd
      have dl := (round_trip _ s (Nat.le_refl _)).2.2.1
      have ol : out.length + (wrP (h ++ p)).1.length ≤ s.length := by
        have := congrArg List.length hd
        rw [List.length_append, List.length_append] at this; omega
      have h3' : ¬ (3 : Int) < ((wrP (h ++ p)).2.length : Int) := by
        rcases w2 with e | e
        · rw [e]; simp
        · have := (fst_more e).1; omega
      refine x_c9 (R := tokH tk ++ [(b, .cells (bytesAV s))]) (hp.trans List.perm_middle) hn2 hx (by rw [plen]; omega) fun tk3 H2 g1 g2 => ?_
      simp (implicitDefEqProofs := false) only [sB, simprocAttr]
      refine i_appC (by decide) (A := [(pp, dO (wrP (h ++ p)).2 tk3)]) (R := [(b, .cells (bytesAV s))]) g1 g2 hg (src_sl_of _ _ (i32_all _)) (i32_all _) ?_ ?_ fun tk4 H3 g3 g4 g5 => ?_
      · simp only [i32_len, maxLen_eq]; omega
      · simp only [i32_len]; omega
      rw [i32_app] at g3 ⊢
      have hlk := look_head g4 g5
      have z2 : (j : Int) ≤ ((s.length - k : Nat) : Int) := by omega
      have z1 : (0 : Int) ≤ (j : Int) := by omega
      have zn : ¬ ((wrP (h ++ p)).2.length : Int) < 0 := by omega
      simp (implicitDefEqProofs := false) only [sB, simprocAttr, z1, z2]
      refine x_c11 hlk ?_
      simp (implicitDefEqProofs := false) only [sB, simprocAttr, zn]
      refine x_c11 hlk ?_
      simp (implicitDefEqProofs := false) only [sB, simprocAttr, h3', r9]
      exact ⟨H3, .refl _, ⟨k + j, i + 1, (wrP (h ++ p)).2, out ++ (wrP (h ++ p)).1, tk4, tk3, _, g4.trans (List.perm_middle (a := (pp, dO (wrP (h ++ p)).2 tk3)) (l₁ := tokH tk4) (l₂ := [(b, .cells (bytesAV s))])).symm, g5, g3, by omega, w2, hd, by omega, rfl, rfl, by rw [Nat.sub_sub], by simp⟩, by omega⟩
end Go.AL.Fun
