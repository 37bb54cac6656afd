/- Split: the program's and the reference's. -/
import Derived.Test.YtpeaphpibnikcaaDoorT10
set_option linter.unusedSimpArgs false
set_option linter.unusedVariables false
set_option maxRecDepth 100000
set_option maxHeartbeats 4000000
namespace Go.AL.Fun
open Go Go.AL Go.Proofs

theorem splitD_mem : ∀ (s : List UInt8) (x : List UInt8), x ∈ splitD s → x.length ≤ s.length
  | [], x, h => by
    have : x ∈ [[]] := h
    rw [List.mem_singleton] at this; subst this; simp
  | c :: s, x, h => by
    rw [splitD_cons] at h
    by_cases hc : c = 46
    · rw [if_pos hc] at h
      rcases List.mem_cons.1 h with rfl | h
      · simp
      · have := splitD_mem s x h; rw [List.length_cons]; omega
    · rw [if_neg hc] at h
      cases hs : splitD s with
      | nil => exact absurd hs (splitD_ne s)
      | cons y t =>
        rw [hs] at h
        rcases List.mem_cons.1 h with rfl | h
        · have := splitD_mem s y (by rw [hs]; simp); simp only [List.length_cons]; omega
        · have := splitD_mem s x (by rw [hs]; simp [h]); rw [List.length_cons]; omega
def splitR (s : List UInt8) : List (List UInt8) × Int := if s = [] then ([], 0) else if (splitD s).length ≤ 8 ∧ (splitD s).all nameB = true then (splitD s, 0) else ([], 11)
def c32 (xs : List AV) (H : Heap) (K : Kv) : Prop := ∃ s : List UInt8, xs = [.str s, .str [46]] ∧ H.keys.Nodup ∧ s.length ≤ 1048576 ∧ K.ap (.sl (strsAV (splitD s)) .no) H
theorem c32_of (P : Program) {G : Nat → Option (List AV)} {xs : List AV} {H : Heap} {K : Kv} (h : c32 xs H K) : @xF ⟨G, P, [(45, c45)]⟩ f32 xs H K := by
  obtain ⟨s, rfl, hn, hs, k⟩ := h
  simp (implicitDefEqProofs := false) only [sB, simprocAttr, f32]
  refine ⟨s, rfl, hn, hs, ?_⟩
  simp (implicitDefEqProofs := false) only [sB, simprocAttr]
  exact k
def c14 (xs : List AV) (H : Heap) (K : Kv) : Prop := ∃ s : List UInt8, xs = [.str s] ∧ H.keys.Nodup ∧ s.length ≤ 1048576 ∧ ∀ t, K.ap (.tup [.sl (strsAV (splitR s).1) t, .int .i64 (splitR s).2]) H
theorem c14_of (P : Program) {G : Nat → Option (List AV)} {xs : List AV} {H : Heap} {K : Kv} (h : c14 xs H K) : @xF ⟨G, P, [(32, c32), (33, c33)]⟩ f14 xs H K := by
  obtain ⟨s, rfl, hn, hs, k⟩ := h
  by_cases e0 : s = []
  · have e1 : splitR s = ([], 0) := by unfold splitR; rw [if_pos e0]
    rw [e1] at k
    subst e0
    simp (implicitDefEqProofs := false) only [sB, simprocAttr, f14]
    exact k _
  · simp (implicitDefEqProofs := false) only [sB, simprocAttr, f14, e0]
    refine ⟨s, rfl, hn, hs, ?_⟩
    have hm : ∀ x ∈ splitD s, x.length ≤ 1099511627776 := fun x hx => by have := splitD_mem s x hx; omega
    by_cases c : (8 : Int) < (splitD s).length
    · have e1 : splitR s = ([], 11) := by unfold splitR; rw [if_neg e0, if_neg (by omega)]
      rw [e1] at k
      simp (implicitDefEqProofs := false) only [sB, simprocAttr, strs_len, c]
      exact k _
    · have sl := splitD_len s
      have cl : s.count 46 ≤ s.length := List.count_le_length
      simp (implicitDefEqProofs := false) only [sB, simprocAttr, strs_len, c]
      refine x_c33 (by omega) hm _ _ ?_
      cases ha : (splitD s).all nameB with
      | false =>
        have e1 : splitR s = ([], 11) := by unfold splitR; rw [if_neg e0, if_neg (by rw [ha]; simp)]
        rw [e1] at k
        simp (implicitDefEqProofs := false) only [sB, simprocAttr]
        exact k _
      | true =>
        have e1 : splitR s = (splitD s, 0) := by unfold splitR; rw [if_neg e0, if_pos ⟨by omega, ha⟩]
        rw [e1] at k
        simp (implicitDefEqProofs := false) only [sB, simprocAttr]
        exact k _
def c15 (xs : List AV) (H : Heap) (K : Kv) : Prop := ∃ s : List UInt8, xs = [.str s] ∧ H.keys.Nodup ∧ s.length ≤ 1048576 ∧ ∀ t, K.ap (.tup [.sl (strsAV (splitR s).1) t, .int .i64 (splitR s).2]) H
theorem c15_of (P : Program) {G : Nat → Option (List AV)} {xs : List AV} {H : Heap} {K : Kv} (h : c15 xs H K) : @xF ⟨G, P, [(17, c17)]⟩ f15 xs H ⟨fun v H' => ∃ H0, Hle H0 H' ∧ K.ap v H0⟩ := by
  obtain ⟨s, rfl, hn, hs, k⟩ := h
  by_cases e0 : s = []
  · have e1 : splitR s = ([], 0) := by unfold splitR; rw [if_pos e0]
    rw [e1] at k
    subst e0
    simp (implicitDefEqProofs := false) only [sB, simprocAttr, f15]
    exact ⟨_, .refl _, k _⟩
  · simp (implicitDefEqProofs := false) only [sB, simprocAttr, f15, e0]
    refine i_loopJ (fun σ H1 => ∃ (i fr : Nat) (out : List (List UInt8)) (tk : Tok), H1.Perm (tokH tk ++ H) ∧ H1.keys.Nodup ∧ GC 1 (strsAV out) tk ∧ fr ≤ i ∧ out.length ≤ 8 ∧ out.all nameB = true ∧ i ≤ s.length + 1 ∧
        ((i ≤ s.length ∧ out ++ splitD (s.drop fr) = splitD s ∧ ∀ c ∈ (s.drop fr).take (i - fr), c ≠ 46) ∨ (i = s.length + 1 ∧ out = splitD s)) ∧
        σ = [(0, .str s), (4, .sl (strsAV out) tk), (5, .int .i64 fr), (6, .int .i64 i)])
      (fun σ _ => match σ.get 6 with | .int _ n => s.length + 1 - n.toNat | _ => 0)
      (fun e σ H1 => (e = .exit 0 ∧ Hle H H1 ∧ ∃ tk, splitR s = (splitD s, 0) ∧ σ.get 4 = .sl (strsAV (splitD s)) tk) ∨ (e = .ret ∧ Hle H H1 ∧ splitR s = ([], 11) ∧ σ.get 2 = .sl [] .nil ∧ σ.get 3 = .int .i64 11))
      ⟨_, .refl _, 0, 0, [], .nil, .refl _, hn, rfl, by omega, by simp, rfl, by omega, .inl ⟨by omega, rfl, by simp⟩, rfl⟩ ?_ ?_
    · rintro e σ H1 (⟨rfl, hl, tk, e1, q4⟩ | ⟨rfl, hl, e1, q2, q3⟩)
      · rw [e1] at k
        simp (implicitDefEqProofs := false) only [sB, simprocAttr, q4]
        exact ⟨_, hl, k _⟩
      · rw [e1] at k
        simp (implicitDefEqProofs := false) only [sB, simprocAttr, q2, q3]
        exact ⟨_, hl, k _⟩
    · rintro Q hQ σ H1 ⟨i, fr, out, tk, hp, hn1, hg, hfi, ho, ha, hi, hc, rfl⟩
      by_cases c : i ≤ s.length
      · have c' : (i : Int) ≤ (s.length : Int) := by omega
        rcases hc with ⟨_, hd, hno⟩ | ⟨e, _⟩
        · have r9 := w_i64 ((i : Int) + 1) (by omega) (by omega)
          have i0 : (0 : Int) ≤ (i : Int) := by omega
          have f0 : (0 : Int) ≤ (fr : Int) := by omega
          have fi : (fr : Int) ≤ (i : Int) := by omega
          by_cases ce : i = s.length
          · have ce' : (i : Int) = (s.length : Int) := by omega
            have e : (s.drop fr).take (i - fr) = s.drop fr := List.take_of_length_le (by rw [List.length_drop]; omega)
            rw [e] at hno
            rw [splitD_none hno] at hd
            have pl : (s.drop fr).length ≤ s.length := by rw [List.length_drop]; omega
            have fs : (fr : Int) ≤ (s.length : Int) := by omega
            have r10 := w_i64 ((s.length : Int) + 1) (by omega) (by omega)
            simp (implicitDefEqProofs := false) only [sB, simprocAttr, c', ce', f0, fi, fs]
            rw [x_c17 (by omega)]
            simp (implicitDefEqProofs := false) only [sB, simprocAttr]
            cases hnm : nameB (s.drop fr) with
            | false =>
              have e1 : splitR s = ([], 11) := by unfold splitR; rw [if_neg e0, if_neg (by rintro ⟨_, h⟩; rw [← hd, List.all_append, List.all_cons, hnm] at h; simp at h)]
              simp (implicitDefEqProofs := false) only [sB, simprocAttr]
              exact hQ _ _ _ (.inr ⟨rfl, hle_tok hp, e1, rfl, rfl⟩)
            | true =>
              by_cases c8 : out.length = 8
              · have c8' : (out.length : Int) = 8 := by omega
                have e1 : splitR s = ([], 11) := by unfold splitR; rw [if_neg e0, if_neg (by rintro ⟨h, _⟩; rw [← hd, List.length_append, List.length_cons] at h; omega)]
                simp (implicitDefEqProofs := false) only [sB, simprocAttr, strs_len, c8']
                exact hQ _ _ _ (.inr ⟨rfl, hle_tok hp, e1, rfl, rfl⟩)
              · have c8' : ¬ (out.length : Int) = 8 := by omega
                simp (implicitDefEqProofs := false) only [sB, simprocAttr, strs_len, c8', f0, fs]
                refine i_sl ⟨⟨strs_all [s.drop fr], rfl, rfl⟩, i_new fun z hz => ?_⟩
                simp (implicitDefEqProofs := false) only [sB, simprocAttr]
                refine i_appC (by decide) (A := [(z, .spare 1)]) (R := H) (hp.cons _) (List.nodup_cons.2 ⟨hz, hn1⟩) hg (src_sl_of _ _ (strs_all [s.drop fr])) (strs_all _) ?_ ?_ fun tk4 H3 g3 g4 g5 => ?_
                · simp only [strs_len, List.length_singleton, maxLen_eq]; omega
                · simp only [strs_len, List.length_singleton]; omega
                simp (implicitDefEqProofs := false) only [sB, simprocAttr, r9, r10]
                have esv : strsAV out ++ [AV.str (s.drop fr)] = strsAV (out ++ [s.drop fr]) := by simp [strsAV]
                rw [esv] at g3 ⊢
                refine ⟨tokH tk4 ++ H, hle_sub g4 (List.sublist_append_right _ _), ⟨i + 1, i + 1, out ++ [s.drop fr], tk4, .refl _, nodup_sub g4 (List.sublist_append_right _ _) g5, g3, Nat.le_refl _, by rw [List.length_append, List.length_singleton]; omega, by rw [List.all_append, ha]; simp [hnm], by omega, .inr ⟨by omega, hd⟩, by rw [ce]; simp⟩, by omega⟩
          · have ci : i < s.length := by omega
            have ce' : ¬ (i : Int) = (s.length : Int) := by omega
            have c'' : (i : Int) < (s.length : Int) := by omega
            have hx : s[i]? = some s[i] := List.getElem?_eq_getElem ci
            have hby : byteAV s[i] = .int .u8 (s[i].toNat) := rfl
            by_cases cd : s[i] = 46
            · have hn8 : ((s[i].toNat : Nat) : Int) = 46 := by rw [cd]; rfl
              have hsp : s.drop fr = (s.drop fr).take (i - fr) ++ 46 :: s.drop (i + 1) := by
                conv => lhs; rw [← List.take_append_drop (i - fr) (s.drop fr)]
                rw [List.drop_drop, show fr + (i - fr) = i by omega, List.drop_eq_getElem_cons ci, cd]
              rw [hsp, splitD_cut hno] at hd
              have pl : ((s.drop fr).take (i - fr)).length ≤ s.length := by rw [List.length_take, List.length_drop]; omega
              simp (implicitDefEqProofs := false) only [sB, simprocAttr, c', ce', i0, c'', hx, hby, hn8, f0, fi, List.drop_take]
              rw [x_c17 (by omega)]
              simp (implicitDefEqProofs := false) only [sB, simprocAttr]
              cases hnm : nameB ((s.drop fr).take (i - fr)) with
              | false =>
                have e1 : splitR s = ([], 11) := by unfold splitR; rw [if_neg e0, if_neg (by rintro ⟨_, h⟩; rw [← hd, List.all_append, List.all_cons, hnm] at h; simp at h)]
                simp (implicitDefEqProofs := false) only [sB, simprocAttr]
                exact hQ _ _ _ (.inr ⟨rfl, hle_tok hp, e1, rfl, rfl⟩)
              | true =>
                by_cases c8 : out.length = 8
                · have c8' : (out.length : Int) = 8 := by omega
                  have e1 : splitR s = ([], 11) := by unfold splitR; rw [if_neg e0, if_neg (by rintro ⟨h, _⟩; rw [← hd, List.length_append, List.length_cons] at h; omega)]
                  simp (implicitDefEqProofs := false) only [sB, simprocAttr, strs_len, c8']
                  exact hQ _ _ _ (.inr ⟨rfl, hle_tok hp, e1, rfl, rfl⟩)
                · have c8' : ¬ (out.length : Int) = 8 := by omega
                  simp (implicitDefEqProofs := false) only [sB, simprocAttr, strs_len, c8', f0, fi, c', List.drop_take]
                  refine i_sl ⟨⟨strs_all [(s.drop fr).take (i - fr)], rfl, rfl⟩, i_new fun z hz => ?_⟩
                  simp (implicitDefEqProofs := false) only [sB, simprocAttr]
                  refine i_appC (by decide) (A := [(z, .spare 1)]) (R := H) (hp.cons _) (List.nodup_cons.2 ⟨hz, hn1⟩) hg (src_sl_of _ _ (strs_all [(s.drop fr).take (i - fr)])) (strs_all _) ?_ ?_ fun tk4 H3 g3 g4 g5 => ?_
                  · simp only [strs_len, List.length_singleton, maxLen_eq]; omega
                  · simp only [strs_len, List.length_singleton]; omega
                  simp (implicitDefEqProofs := false) only [sB, simprocAttr, r9]
                  have esv : strsAV out ++ [AV.str ((s.drop fr).take (i - fr))] = strsAV (out ++ [(s.drop fr).take (i - fr)]) := by simp [strsAV]
                  rw [esv] at g3 ⊢
                  refine ⟨tokH tk4 ++ H, hle_sub g4 (List.sublist_append_right _ _), ⟨i + 1, i + 1, out ++ [(s.drop fr).take (i - fr)], tk4, .refl _, nodup_sub g4 (List.sublist_append_right _ _) g5, g3, Nat.le_refl _, by rw [List.length_append, List.length_singleton]; omega, by rw [List.all_append, ha]; simp [hnm], by omega, .inl ⟨by omega, by rw [List.append_assoc]; exact hd, by rw [Nat.sub_self]; simp⟩, by simp⟩, by omega⟩
            · have hn8 : ¬ ((s[i].toNat : Nat) : Int) = 46 := fun e => cd (UInt8.toNat_inj.1 (by have : (46 : UInt8).toNat = 46 := rfl; omega))
              simp (implicitDefEqProofs := false) only [sB, simprocAttr, c', ce', i0, c'', hx, hby, hn8, r9]
              refine ⟨_, .refl _, ⟨i + 1, fr, out, tk, hp, hn1, hg, by omega, ho, ha, by omega, .inl ⟨by omega, hd, ?_⟩, by simp⟩, by omega⟩
              rw [show i + 1 - fr = (i - fr) + 1 by omega, List.take_add_one]
              intro c hc
              rcases List.mem_append.1 hc with hc | hc
              · exact hno c hc
              · rw [List.getElem?_drop, show fr + (i - fr) = i by omega, hx] at hc
                simp at hc; rw [hc]; exact cd
        · omega
      · have c' : ¬ (i : Int) ≤ (s.length : Int) := by omega
        rcases hc with ⟨h, _⟩ | ⟨_, rfl⟩
        · omega
        simp (implicitDefEqProofs := false) only [sB, simprocAttr, c']
        refine hQ _ _ _ (.inl ⟨rfl, hle_tok hp, tk, ?_, rfl⟩)
        unfold splitR; rw [if_neg e0, if_pos ⟨ho, ha⟩]
end Go.AL.Fun
