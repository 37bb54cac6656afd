/- Values, checked by the reference. -/
import Derived.Test.YtpeaphpibnikcaaV5
set_option linter.unusedSimpArgs false
set_option linter.unusedVariables false
set_option maxRecDepth 100000
set_option maxHeartbeats 2000000
namespace Go.AL.Fun
open Go Go.AL

theorem x_c34 (k : Int) (s : List UInt8) (n : Int) (b : Bool) (it : Tok) (is : List Val) (ft : Tok) (fs : List Fld) (H : Heap) (K : Kv) (h : K.ap (.bool (ownV k s n b is fs)) H) :
    c34 [.agg [.int .i64 k, .str s, .int .i64 n, .bool b, .sl (Val.avs is) it, .sl (Val.fvs fs) ft]] H K := ⟨_, _, _, _, _, _, _, _, rfl, h⟩
@[reducible] def t31 (N : Nat) (P : Program) : Th := ⟨fun _ => none, P, [(31, c29 N), (34, c34), (23, c23)]⟩
theorem c31_of (P : Program) {N : Nat} {xs : List AV} {H : Heap} {K : Kv} (h : c29 (N + 1) xs H K) : @xF (t31 N P) f31 xs H ⟨fun v H' => ∃ H0, Hle H0 H' ∧ K.ap v H0⟩ := by
  obtain ⟨k, s, n, b, it, is, ft, fs, d, rfl, hw, hN, hd0, hd, h⟩ := h
  simp only [Val.wt] at hw
  have wi := Val.wts_len is
  have wf := Val.wtf_len fs
  rw [chk] at h
  have r1 := w_i64 (d + 1) (by omega) (by omega)
  simp (implicitDefEqProofs := false) only [sB, simprocAttr, f31]
  refine i_new fun p hp => ?_
  by_cases d1 : 32 < d
  · simp (implicitDefEqProofs := false) only [sB, simprocAttr, d1]
    rw [if_pos d1] at h
    exact ⟨H, .tail _ _, h⟩
  · rw [if_neg d1] at h
    by_cases k1 : k < 0
    · simp (implicitDefEqProofs := false) only [sB, simprocAttr, d1, k1]
      rw [if_pos (.inl k1)] at h
      exact ⟨H, .tail _ _, h⟩
    · by_cases k2 : 4 < k
      · simp (implicitDefEqProofs := false) only [sB, simprocAttr, d1, k1, k2]
        rw [if_pos (.inr k2)] at h
        exact ⟨H, .tail _ _, h⟩
      · rw [if_neg (by omega)] at h
        simp (implicitDefEqProofs := false) only [sB, simprocAttr, d1, k1, k2]
        refine x_c34 _ _ _ _ _ _ _ _ _ _ ?_
        by_cases o1 : ownV k s n b is fs = true
        · rw [if_neg (by rw [o1]; decide)] at h
          simp (implicitDefEqProofs := false) only [sB, simprocAttr, o1, Val.avs_len, Val.fvs_len]
          refine i_loopJ (fun σ H1 => ∃ (i : Nat), H1 = (p, .cells [.int .i64 k, .str s, .int .i64 n, .bool b, .sl (Val.avs is) it, .sl (Val.fvs fs) ft]) :: H ∧ i ≤ is.length ∧ chkI is (d + 1) = chkI (is.drop i) (d + 1) ∧
              σ = [(1, .int .i64 d), (2, .ptr p 0), (5, .int .i64 i)])
            (fun σ _ => match σ.get 5 with | .int _ n => is.length - n.toNat | _ => 0)
            (fun e σ H1 => (e = .exit 0 ∧ H1 = (p, .cells [.int .i64 k, .str s, .int .i64 n, .bool b, .sl (Val.avs is) it, .sl (Val.fvs fs) ft]) :: H ∧ chkI is (d + 1) = 0 ∧ σ.get 1 = .int .i64 d ∧ σ.get 2 = .ptr p 0) ∨
              (e = .ret ∧ Hle H H1 ∧ σ.get 4 = .int .i64 (chkI is (d + 1)) ∧ chkI is (d + 1) ≠ 0))
            ⟨_, .refl _, 0, rfl, by omega, rfl, rfl⟩ ?_ ?_
          · rintro e σ H1 (⟨rfl, rfl, e0, q1, q2⟩ | ⟨rfl, hl, q4, ne⟩)
            · rw [if_neg (by rw [e0]; decide)] at h
              simp (implicitDefEqProofs := false) only [sB, simprocAttr, q1, q2, Val.avs_len, Val.fvs_len]
              refine i_loopJ (fun σ H1 => ∃ (i : Nat), H1 = (p, .cells [.int .i64 k, .str s, .int .i64 n, .bool b, .sl (Val.avs is) it, .sl (Val.fvs fs) ft]) :: H ∧ i ≤ fs.length ∧ chkF [] fs (d + 1) = chkF (keys fs i) (fs.drop i) (d + 1) ∧
                  σ = [(1, .int .i64 d), (2, .ptr p 0), (7, .int .i64 i)])
                (fun σ _ => match σ.get 7 with | .int _ n => fs.length - n.toNat | _ => 0)
                (fun e σ H1 => Hle H H1 ∧ ((e = .exit 2 ∧ chkF [] fs (d + 1) = 0) ∨ (e = .ret ∧ σ.get 4 = .int .i64 (chkF [] fs (d + 1)))))
                ⟨_, .refl _, 0, rfl, by omega, rfl, rfl⟩ ?_ ?_
              · rintro e σ H1 ⟨hl, ⟨rfl, e1⟩ | ⟨rfl, q4⟩⟩
                · rw [e1] at h
                  simp (implicitDefEqProofs := false) only [sB, simprocAttr]
                  exact ⟨_, hl, h⟩
                · simp (implicitDefEqProofs := false) only [sB, simprocAttr, q4]
                  exact ⟨_, hl, h⟩
              · rintro Q hQ σ H1 ⟨i, rfl, hi, hch, rfl⟩
                simp (implicitDefEqProofs := false) only [sB, simprocAttr, Val.fvs_len]
                refine i_if (fun c => ?_) (fun c => ?_)
                · have c' : i < fs.length := by simpa using c
                  rw [chkF_drop c'] at hch
                  have wl := Val.wtf_le _ (List.getElem_mem c')
                  have hx : (Val.fvs fs)[i]? = some (.agg (.str (fs[i]).1 :: (fs[i]).2.cs)) := by rw [Val.fvs_map, List.getElem?_map, List.getElem?_eq_getElem c']; rfl
                  have r9 := w_i64 ((i : Int) + 1) (by omega) (by omega)
                  have i0 : (0 : Int) ≤ (i : Int) := by omega
                  have ks := keys_succ c'
                  generalize fs[i] = v at hch wl hx ks
                  obtain ⟨key, k', s', n', b', it', is', ft', fs'⟩ := v
                  simp only [Val.cs] at hx hch wl ks
                  have kl : key.length ≤ 1099511627776 := by omega
                  by_cases nm : nameB key = true
                  · rw [if_neg (by rw [nm]; decide)] at hch
                    simp (implicitDefEqProofs := false) only [sB, simprocAttr, i0, hx, x_c23 kl, nm, Val.fvs_len]
                    refine i_loopJ (fun σ H2 => ∃ (j : Nat), H2 = (p, .cells [.int .i64 k, .str s, .int .i64 n, .bool b, .sl (Val.avs is) it, .sl (Val.fvs fs) ft]) :: H ∧ j ≤ i ∧ key ∉ keys fs j ∧
                        σ = [(1, .int .i64 d), (2, .ptr p 0), (7, .int .i64 i), (8, .int .i64 j)])
                      (fun σ _ => match σ.get 8 with | .int _ n => i - n.toNat | _ => 0)
                      (fun e σ H2 => H2 = (p, .cells [.int .i64 k, .str s, .int .i64 n, .bool b, .sl (Val.avs is) it, .sl (Val.fvs fs) ft]) :: H ∧ ((e = .exit 4 ∧ key ∉ keys fs i ∧ σ.get 1 = .int .i64 d ∧ σ.get 2 = .ptr p 0 ∧ σ.get 7 = .int .i64 i) ∨ (e = .ret ∧ σ.get 4 = .int .i64 12 ∧ key ∈ keys fs i)))
                      ⟨_, .refl _, 0, rfl, by omega, by simp [keys], rfl⟩ ?_ ?_
                    · rintro e σ H2 ⟨rfl, ⟨rfl, sn, q1, q2, q7⟩ | ⟨rfl, q4, sn⟩⟩
                      · rw [if_neg sn] at hch
                        simp (implicitDefEqProofs := false) only [sB, simprocAttr, q1, q2, q7, i0, hx, r1, Val.fvs_len]
                        refine x_c29 (by omega) (by omega) (by omega) (by omega) _ _ ?_
                        by_cases e0 : chk (.mk k' s' n' b' it' is' ft' fs') (d + 1) = 0
                        · simp (implicitDefEqProofs := false) only [sB, simprocAttr, e0, q1, q2, q7, r9]
                          rw [if_neg (by rw [e0]; decide)] at hch
                          exact ⟨_, .refl _, ⟨i + 1, rfl, by omega, by rw [ks]; exact hch, by simp⟩, by omega⟩
                        · rw [if_pos e0] at hch
                          simp (implicitDefEqProofs := false) only [sB, simprocAttr, e0, q1, q2, q7]
                          exact hQ _ _ _ ⟨.tail _ _, .inr ⟨rfl, by rw [hch]; rfl⟩⟩
                      · rw [if_pos sn] at hch
                        simp (implicitDefEqProofs := false) only [sB, simprocAttr, q4]
                        exact hQ _ _ _ ⟨.tail _ _, .inr ⟨rfl, by rw [hch]; exact q4⟩⟩
                    · rintro Q2 hQ2 σ H2 ⟨j, rfl, hj, hnk, rfl⟩
                      simp (implicitDefEqProofs := false) only [sB, simprocAttr, Val.fvs_len]
                      refine i_if (fun c => ?_) (fun c => ?_)
                      · have d' : j < i := by simpa using c
                        have dj : j < fs.length := by omega
                        have hy : (Val.fvs fs)[j]? = some (.agg (.str (fs[j]).1 :: (fs[j]).2.cs)) := by rw [Val.fvs_map, List.getElem?_map, List.getElem?_eq_getElem dj]; rfl
                        have r8 := w_i64 ((j : Int) + 1) (by omega) (by omega)
                        have j0 : (0 : Int) ≤ (j : Int) := by omega
                        have kj := keys_succ dj
                        have kin : (fs[j]).1 ∈ keys fs i := by
                          unfold keys
                          exact List.mem_map_of_mem (List.mem_take_iff_getElem.2 ⟨j, by omega, rfl⟩)
                        generalize fs[j] = u at hy kj kin
                        obtain ⟨uk, uv⟩ := u
                        simp only at hy kj kin
                        by_cases eq : uk = key
                        · subst eq
                          simp (implicitDefEqProofs := false) only [sB, simprocAttr, i0, j0, hx, hy, Val.cs_len, Val.fvs_len]
                          exact hQ2 _ _ _ ⟨rfl, .inr ⟨rfl, rfl, kin⟩⟩
                        · simp (implicitDefEqProofs := false) only [sB, simprocAttr, i0, j0, hx, hy, eq, r8, Val.cs_len, Val.fvs_len]
                          exact ⟨_, .refl _, ⟨j + 1, rfl, by omega, by rw [kj]; simp only [List.mem_append, List.mem_singleton, not_or]; exact ⟨hnk, fun h => eq h.symm⟩, by simp⟩, by omega⟩
                      · have : j = i := by have : ¬ (j : Int) < i := by simpa using c
                                           omega
                        subst this
                        simp (implicitDefEqProofs := false) only [sB, simprocAttr]
                        exact hQ2 _ _ _ ⟨rfl, .inl ⟨rfl, hnk, rfl, rfl, rfl⟩⟩
                  · rw [if_pos (by simpa using nm)] at hch
                    simp (implicitDefEqProofs := false) only [sB, simprocAttr, i0, hx, x_c23 kl, nm, Val.fvs_len]
                    exact hQ _ _ _ ⟨.tail _ _, .inr ⟨rfl, by rw [hch]; rfl⟩⟩
                · have : i = fs.length := by have : ¬ (i : Int) < fs.length := by simpa using c
                                             omega
                  subst this
                  rw [List.drop_length] at hch
                  simp (implicitDefEqProofs := false) only [sB, simprocAttr]
                  exact hQ _ _ _ ⟨.tail _ _, .inl ⟨rfl, hch⟩⟩
            · rw [if_pos ne] at h
              simp (implicitDefEqProofs := false) only [sB, simprocAttr, q4]
              exact ⟨_, hl, h⟩
          · rintro Q hQ σ H1 ⟨i, rfl, hi, hch, rfl⟩
            simp (implicitDefEqProofs := false) only [sB, simprocAttr, Val.avs_len]
            refine i_if (fun c => ?_) (fun c => ?_)
            · have c' : i < is.length := by simpa using c
              rw [chkI_drop c'] at hch
              have wl := Val.wts_le _ (List.getElem_mem c')
              have hx : (Val.avs is)[i]? = some (.agg (is[i]).cs) := by rw [Val.avs_map, List.getElem?_map, List.getElem?_eq_getElem c']; rfl
              have r9 := w_i64 ((i : Int) + 1) (by omega) (by omega)
              have i0 : (0 : Int) ≤ (i : Int) := by omega
              generalize is[i] = v at hch wl hx
              obtain ⟨k', s', n', b', it', is', ft', fs'⟩ := v
              simp only [Val.cs] at hx
              simp (implicitDefEqProofs := false) only [sB, simprocAttr, i0, hx, r1, Val.avs_len]
              refine x_c29 (by omega) (by omega) (by omega) (by omega) _ _ ?_
              by_cases e0 : chk (.mk k' s' n' b' it' is' ft' fs') (d + 1) = 0
              · simp (implicitDefEqProofs := false) only [sB, simprocAttr, e0, r9]
                rw [if_neg (by rw [e0]; decide)] at hch
                exact ⟨_, .refl _, ⟨i + 1, rfl, by omega, hch, by simp⟩, by omega⟩
              · rw [if_pos e0] at hch
                simp (implicitDefEqProofs := false) only [sB, simprocAttr, e0]
                exact hQ _ _ _ (.inr ⟨rfl, .tail _ _, by rw [hch]; rfl, by rw [hch]; exact e0⟩)
            · have : i = is.length := by have : ¬ (i : Int) < is.length := by simpa using c
                                         omega
              subst this
              rw [List.drop_length] at hch
              simp (implicitDefEqProofs := false) only [sB, simprocAttr]
              exact hQ _ _ _ (.inl ⟨rfl, rfl, hch, rfl, rfl⟩)
        · rw [if_pos (by simpa using o1)] at h
          simp (implicitDefEqProofs := false) only [sB, simprocAttr, o1]
          exact ⟨H, .tail _ _, h⟩
end Go.AL.Fun
