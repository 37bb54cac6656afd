/- ValidString walked. -/
import Derived.Test.YtijioomcpecdhaaDoorR17
set_option linter.unusedSimpArgs false
set_option linter.unusedVariables false
set_option maxRecDepth 100000
set_option maxHeartbeats 4000000
namespace Go.AL.Fun
open Go Go.AL

theorem and_m {W : Nat} (h : W < 18446744073709551616) : intB .and .u64 (W : Int) 9259542123273814144 = ((W &&& M80 : Nat) : Int) := and_u64w W M80 h (by decide)
def c56 (xs : List AV) (H : Heap) (K : Kv) : Prop := ∃ (s : List UInt8), xs = [.str s] ∧ s.length ≤ 1099511627776 ∧ K.ap (.bool (validP s)) H
theorem c56_of (P : Program) {xs : List AV} {H : Heap} {K : Kv} (h : c56 xs H K) : @xF (tU P [(83, c83)]) f56 xs H ⟨fun v H' => ∃ H0, Hle H0 H' ∧ K.ap v H0⟩ := by
  obtain ⟨s, rfl, hs, h⟩ := h
  simp (implicitDefEqProofs := false) only [sB, simprocAttr, f56]
  refine i_loopJ (fun σ H1 => ∃ (t : List UInt8), H1 = H ∧ t.length ≤ s.length ∧ validP t = validP s ∧ σ = [(0, .str t)])
    (fun σ _ => match σ.get 0 with | .str t => t.length | _ => 0)
    (fun e σ H1 => ∃ H0, Hle H0 H1 ∧ H0 = H ∧ ((e = .exit 0 ∧ validP s = true) ∨ (e = .ret ∧ σ.get 2 = .bool false ∧ validP s = false)))
    ⟨_, .refl _, s, rfl, Nat.le_refl _, rfl, rfl⟩ ?_ ?_
  · rintro e σ H1 ⟨H0, hle, rfl, ⟨rfl, e1⟩ | ⟨rfl, q2, e1⟩⟩
    · rw [e1] at h
      simp (implicitDefEqProofs := false) only [sB, simprocAttr]
      exact ⟨_, hle, h⟩
    · rw [e1] at h
      simp (implicitDefEqProofs := false) only [sB, simprocAttr, q2]
      exact ⟨_, hle, h⟩
  · rintro Q hQ σ H1 ⟨t, rfl, ht, hv, rfl⟩
    rcases t with _ | ⟨c, r⟩
    · simp (implicitDefEqProofs := false) only [sB, simprocAttr]
      exact hQ _ _ _ ⟨_, .refl _, rfl, .inl ⟨rfl, by rw [← hv]; rfl⟩⟩
    · have hc := n8_lt c
      have l0 : (0 : Int) < ((r.length + 1 : Nat) : Int) := by omega
      by_cases h1 : n8 c < 128
      · have hv1 : validP r = validP s := by rw [← hv]; exact (valid_lo (by unfold n8 at h1; omega)).symm
        have l1 : (1 : Int) ≤ ((r.length + 1 : Nat) : Int) := by omega
        simp only [List.length_cons] at ht
        by_cases a8 : (8 : Int) < r.length
        · simp (implicitDefEqProofs := false) only [sB, simprocAttr, byteAV_n8, l0, h1, l1, a8]
          refine x_c83 (by omega) ?_
          have am := and_m (wordL_lt r)
          by_cases z : wordL r &&& M80 = 0
          · have z' : ((wordL r &&& M80 : Nat) : Int) = 0 := by omega
            have hv2 : validP (r.drop 8) = validP s := by rw [← hv1]; exact wordL_skip (by omega) z
            have l8 : (8 : Int) ≤ (r.length : Int) := by omega
            have dl : (r.drop 8).length = r.length - 8 := List.length_drop
            by_cases a16 : (16 : Int) < ((r.length - 8 : Nat) : Int)
            · simp (implicitDefEqProofs := false) only [sB, simprocAttr, am, z', l8, a16]
              have dl2 : (r.drop 16).length = r.length - 16 := List.length_drop
              have dd : (r.drop 8).drop 8 = r.drop 16 := by rw [List.drop_drop]
              refine ⟨by omega, x_c83 (by rw [dl]; omega) ?_⟩
              simp (implicitDefEqProofs := false) only [sB, simprocAttr]
              refine x_c83 (by rw [dl2]; omega) ?_
              have om := or_u64 _ _ (wordL_lt (r.drop 8)) (wordL_lt (r.drop 16))
              have am2 := and_m (orS (wordL_lt (r.drop 8)) (wordL_lt (r.drop 16)))
              by_cases y : (wordL (r.drop 8) ||| wordL (r.drop 16)) &&& M80 = 0
              · have y' : (((wordL (r.drop 8) ||| wordL (r.drop 16)) &&& M80 : Nat) : Int) = 0 := by omega
                rw [or_m] at y
                have hv3 : validP (r.drop 24) = validP s := by
                  have e1 := wordL_skip (t := r.drop 8) (by rw [dl]; omega) y.1
                  have e2 := wordL_skip (t := r.drop 16) (by rw [dl2]; omega) y.2
                  rw [List.drop_drop] at e1 e2
                  rw [e2, e1, hv2]
                have l16 : (16 : Int) ≤ ((r.length - 8 : Nat) : Int) := by omega
                simp (implicitDefEqProofs := false) only [sB, simprocAttr, om, am2, y', l16]
                refine i_loopJ (fun σ H2 => ∃ (u : List UInt8), H2 = H1 ∧ u.length ≤ r.length ∧ validP u = validP s ∧ σ = [(0, .str u)])
                  (fun σ _ => match σ.get 0 with | .str t => t.length | _ => 0)
                  (fun e σ H2 => H2 = H1 ∧ e = .exit 2 ∧ ∃ (u : List UInt8), u.length ≤ r.length ∧ validP u = validP s ∧ σ.get 0 = .str u)
                  ⟨_, .refl _, r.drop 24, rfl, by rw [List.length_drop]; omega, hv3, rfl⟩ ?_ ?_
                · rintro e σ H2 ⟨rfl, rfl, u, u1, u2, q0⟩
                  simp (implicitDefEqProofs := false) only [sB, simprocAttr, q0]
                  exact ⟨_, .refl _, ⟨u, rfl, by omega, u2, rfl⟩, by omega⟩
                · rintro Q2 hQ2 σ H2 ⟨u, rfl, u1, u2, rfl⟩
                  by_cases a32 : (32 : Int) < u.length
                  · simp (implicitDefEqProofs := false) only [sB, simprocAttr, a32]
                    have d8 : (u.drop 8).length = u.length - 8 := List.length_drop
                    have d16 : (u.drop 16).length = u.length - 16 := List.length_drop
                    have d24 : (u.drop 24).length = u.length - 24 := List.length_drop
                    have o1 := or_u64 _ _ (wordL_lt u) (wordL_lt (u.drop 8))
                    have o2 := or_u64 _ _ (wordL_lt (u.drop 16)) (wordL_lt (u.drop 24))
                    have b1 := orS (wordL_lt u) (wordL_lt (u.drop 8))
                    have b2 := orS (wordL_lt (u.drop 16)) (wordL_lt (u.drop 24))
                    have o3 := or_u64 _ _ b1 b2
                    have am3 := and_m (orS b1 b2)
                    have l32 : (32 : Int) ≤ (u.length : Int) := by omega
                    refine ⟨by omega, by omega, by omega, x_c83 (by omega) ?_⟩
                    simp (implicitDefEqProofs := false) only [sB, simprocAttr]
                    refine x_c83 (by rw [d8]; omega) ?_
                    simp (implicitDefEqProofs := false) only [sB, simprocAttr, o1]
                    refine x_c83 (by rw [d16]; omega) ?_
                    simp (implicitDefEqProofs := false) only [sB, simprocAttr]
                    refine x_c83 (by rw [d24]; omega) ?_
                    by_cases y4 : ((wordL u ||| wordL (u.drop 8)) ||| (wordL (u.drop 16) ||| wordL (u.drop 24))) &&& M80 = 0
                    · have y5 : ((((wordL u ||| wordL (u.drop 8)) ||| (wordL (u.drop 16) ||| wordL (u.drop 24))) &&& M80 : Nat) : Int) = 0 := by omega
                      rw [or_m, or_m, or_m] at y4
                      have hv4 : validP (u.drop 32) = validP s := by
                        have e1 := wordL_skip (t := u) (by omega) y4.1.1
                        have e2 := wordL_skip (t := u.drop 8) (by rw [d8]; omega) y4.1.2
                        have e3 := wordL_skip (t := u.drop 16) (by rw [d16]; omega) y4.2.1
                        have e4 := wordL_skip (t := u.drop 24) (by rw [d24]; omega) y4.2.2
                        rw [List.drop_drop] at e2 e3 e4
                        rw [e4, e3, e2, e1, u2]
                      simp (implicitDefEqProofs := false) only [sB, simprocAttr, o1, o2, o3, am3, y5, l32]
                      exact ⟨_, .refl _, ⟨u.drop 32, rfl, by rw [List.length_drop]; omega, hv4, rfl⟩, by omega⟩
                    · have y5 : ¬ ((((wordL u ||| wordL (u.drop 8)) ||| (wordL (u.drop 16) ||| wordL (u.drop 24))) &&& M80 : Nat) : Int) = 0 := by omega
                      simp (implicitDefEqProofs := false) only [sB, simprocAttr, o1, o2, o3, am3, y5]
                      exact hQ2 _ _ _ ⟨rfl, rfl, u, u1, u2, rfl⟩
                  · simp (implicitDefEqProofs := false) only [sB, simprocAttr, a32]
                    exact hQ2 _ _ _ ⟨rfl, rfl, u, u1, u2, rfl⟩
              · have y' : ¬ (((wordL (r.drop 8) ||| wordL (r.drop 16)) &&& M80 : Nat) : Int) = 0 := by omega
                simp (implicitDefEqProofs := false) only [sB, simprocAttr, om, am2, y']
                exact ⟨_, .refl _, ⟨r.drop 8, rfl, by rw [dl]; omega, hv2, rfl⟩, by omega⟩
            · simp (implicitDefEqProofs := false) only [sB, simprocAttr, am, z', l8, a16]
              exact ⟨_, .refl _, ⟨r.drop 8, rfl, by rw [dl]; omega, hv2, rfl⟩, by omega⟩
          · have z' : ¬ ((wordL r &&& M80 : Nat) : Int) = 0 := by omega
            simp (implicitDefEqProofs := false) only [sB, simprocAttr, am, z']
            exact ⟨_, .refl _, ⟨r, rfl, by omega, hv1, rfl⟩, by omega⟩
        · simp (implicitDefEqProofs := false) only [sB, simprocAttr, byteAV_n8, l0, h1, l1, a8]
          exact ⟨_, .refl _, ⟨r, rfl, by omega, hv1, rfl⟩, by omega⟩
      · have hf := first_at c
        rcases cls_of c with ⟨k1, q⟩ | ⟨_, h0, q⟩ | ⟨_, h0, sz, lo, hi, v, hcl⟩
        · omega
        · rw [q] at hf
          have e : fst (c :: r) = (0, false) := by rw [fst, if_neg (by unfold n8 at h1; omega), if_pos h0]
          rw [validP_step (by simp), e, if_pos rfl] at hv
          simp (implicitDefEqProofs := false) only [sB, simprocAttr, byteAV_n8, l0, h1, opE_glob, G0, G1, Gu0, Gu1, hf, hc.1, hc.2, an7, wz, ac0, acl, sh4, fd4]
          refine i_new fun zz hzz => ?_
          simp (implicitDefEqProofs := false) only [sB, simprocAttr, an7, wz]
          exact ⟨by rw [acl]; rfl, hQ _ _ _ ⟨H1, .tail _ _, rfl, .inr ⟨rfl, rfl, hv.symm⟩⟩⟩
        · have h1' : 128 ≤ n8 c := by omega
          clear l0
          rcases r with _ | ⟨b, _ | ⟨d, _ | ⟨e, r⟩⟩⟩
          · have hF := fst_cls [] h1' h0
            cases hcl with
            | A k q e1 e2 e3 =>
              rw [q] at hf
              rw [e1, e2, e3] at hF
              have hG : (fst ([c])).1 = 0 := by rw [hF]; rfl
              rw [validP_step (by simp), if_pos hG] at hv
              simp (implicitDefEqProofs := false) only [sB, simprocAttr, byteAV_n8, h1, opE_glob, G0, G1, Gu0, Gu1, hf, hc.1, hc.2, an7, wz, ac0, acl, sh4, fd4]
              refine i_new fun zz hzz => ?_
              simp (implicitDefEqProofs := false) only [sB, simprocAttr, byteAV_n8, an7, wz, ac0, acl]
              exact hQ _ _ _ ⟨H1, .tail _ _, rfl, .inr ⟨rfl, rfl, hv.symm⟩⟩
            | B1 k q e1 e2 e3 =>
              rw [q] at hf
              rw [e1, e2, e3] at hF
              have hG : (fst ([c])).1 = 0 := by rw [hF]; rfl
              rw [validP_step (by simp), if_pos hG] at hv
              simp (implicitDefEqProofs := false) only [sB, simprocAttr, byteAV_n8, h1, opE_glob, G0, G1, Gu0, Gu1, hf, hc.1, hc.2, an7, wz, ac0, acl, sh4, fd4]
              refine i_new fun zz hzz => ?_
              simp (implicitDefEqProofs := false) only [sB, simprocAttr, byteAV_n8, an7, wz, ac0, acl]
              exact hQ _ _ _ ⟨H1, .tail _ _, rfl, .inr ⟨rfl, rfl, hv.symm⟩⟩
            | B2 k q e1 e2 e3 =>
              rw [q] at hf
              rw [e1, e2, e3] at hF
              have hG : (fst ([c])).1 = 0 := by rw [hF]; rfl
              rw [validP_step (by simp), if_pos hG] at hv
              simp (implicitDefEqProofs := false) only [sB, simprocAttr, byteAV_n8, h1, opE_glob, G0, G1, Gu0, Gu1, hf, hc.1, hc.2, an7, wz, ac0, acl, sh4, fd4]
              refine i_new fun zz hzz => ?_
              simp (implicitDefEqProofs := false) only [sB, simprocAttr, byteAV_n8, an7, wz, ac0, acl]
              exact hQ _ _ _ ⟨H1, .tail _ _, rfl, .inr ⟨rfl, rfl, hv.symm⟩⟩
            | B3 k q e1 e2 e3 =>
              rw [q] at hf
              rw [e1, e2, e3] at hF
              have hG : (fst ([c])).1 = 0 := by rw [hF]; rfl
              rw [validP_step (by simp), if_pos hG] at hv
              simp (implicitDefEqProofs := false) only [sB, simprocAttr, byteAV_n8, h1, opE_glob, G0, G1, Gu0, Gu1, hf, hc.1, hc.2, an7, wz, ac0, acl, sh4, fd4]
              refine i_new fun zz hzz => ?_
              simp (implicitDefEqProofs := false) only [sB, simprocAttr, byteAV_n8, an7, wz, ac0, acl]
              exact hQ _ _ _ ⟨H1, .tail _ _, rfl, .inr ⟨rfl, rfl, hv.symm⟩⟩
            | C1 k q e1 e2 e3 =>
              rw [q] at hf
              rw [e1, e2, e3] at hF
              have hG : (fst ([c])).1 = 0 := by rw [hF]; rfl
              rw [validP_step (by simp), if_pos hG] at hv
              simp (implicitDefEqProofs := false) only [sB, simprocAttr, byteAV_n8, h1, opE_glob, G0, G1, Gu0, Gu1, hf, hc.1, hc.2, an7, wz, ac0, acl, sh4, fd4]
              refine i_new fun zz hzz => ?_
              simp (implicitDefEqProofs := false) only [sB, simprocAttr, byteAV_n8, an7, wz, ac0, acl]
              exact hQ _ _ _ ⟨H1, .tail _ _, rfl, .inr ⟨rfl, rfl, hv.symm⟩⟩
            | C2 k q e1 e2 e3 =>
              rw [q] at hf
              rw [e1, e2, e3] at hF
              have hG : (fst ([c])).1 = 0 := by rw [hF]; rfl
              rw [validP_step (by simp), if_pos hG] at hv
              simp (implicitDefEqProofs := false) only [sB, simprocAttr, byteAV_n8, h1, opE_glob, G0, G1, Gu0, Gu1, hf, hc.1, hc.2, an7, wz, ac0, acl, sh4, fd4]
              refine i_new fun zz hzz => ?_
              simp (implicitDefEqProofs := false) only [sB, simprocAttr, byteAV_n8, an7, wz, ac0, acl]
              exact hQ _ _ _ ⟨H1, .tail _ _, rfl, .inr ⟨rfl, rfl, hv.symm⟩⟩
            | C3 k q e1 e2 e3 =>
              rw [q] at hf
              rw [e1, e2, e3] at hF
              have hG : (fst ([c])).1 = 0 := by rw [hF]; rfl
              rw [validP_step (by simp), if_pos hG] at hv
              simp (implicitDefEqProofs := false) only [sB, simprocAttr, byteAV_n8, h1, opE_glob, G0, G1, Gu0, Gu1, hf, hc.1, hc.2, an7, wz, ac0, acl, sh4, fd4]
              refine i_new fun zz hzz => ?_
              simp (implicitDefEqProofs := false) only [sB, simprocAttr, byteAV_n8, an7, wz, ac0, acl]
              exact hQ _ _ _ ⟨H1, .tail _ _, rfl, .inr ⟨rfl, rfl, hv.symm⟩⟩
          · have hF := fst_cls [b] h1' h0
            cases hcl with
            | A k q e1 e2 e3 =>
              rw [q] at hf
              rw [e1, e2, e3] at hF
              by_cases b1 : n8 b < 128
              · have hG : (fst ([c, b])).1 = 0 := by rw [hF, fgo, if_pos (.inl (by unfold n8 at b1; omega))]
                rw [validP_step (by simp), if_pos hG] at hv
                simp (implicitDefEqProofs := false) only [sB, simprocAttr, byteAV_n8, h1, opE_glob, G0, G1, Gu0, Gu1, hf, hc.1, hc.2, an7, wz, ac0, acl, sh4, fd4, b1]
                refine i_new fun zz hzz => ?_
                simp (implicitDefEqProofs := false) only [sB, simprocAttr, byteAV_n8, an7, wz, ac0, acl, b1]
                exact hQ _ _ _ ⟨H1, .tail _ _, rfl, .inr ⟨rfl, rfl, hv.symm⟩⟩
              by_cases b2 : 191 < n8 b
              · have hG : (fst ([c, b])).1 = 0 := by rw [hF, fgo, if_pos (.inr (by unfold n8 at b2; omega))]
                rw [validP_step (by simp), if_pos hG] at hv
                simp (implicitDefEqProofs := false) only [sB, simprocAttr, byteAV_n8, h1, opE_glob, G0, G1, Gu0, Gu1, hf, hc.1, hc.2, an7, wz, ac0, acl, sh4, fd4, b1, b2]
                refine i_new fun zz hzz => ?_
                simp (implicitDefEqProofs := false) only [sB, simprocAttr, byteAV_n8, an7, wz, ac0, acl, b1, b2]
                exact hQ _ _ _ ⟨H1, .tail _ _, rfl, .inr ⟨rfl, rfl, hv.symm⟩⟩
              have hG : fst ([c, b]) = (2, false) := by rw [hF, fgo, if_neg (by unfold n8 at b1 b2; omega), fgo]
              rw [validP_step (by simp), hG, if_neg (by decide)] at hv
              simp (implicitDefEqProofs := false) only [sB, simprocAttr, byteAV_n8, h1, opE_glob, G0, G1, Gu0, Gu1, hf, hc.1, hc.2, an7, wz, ac0, acl, sh4, fd4, b1, b2]
              refine i_new fun zz hzz => ?_
              simp (implicitDefEqProofs := false) only [sB, simprocAttr, byteAV_n8, an7, wz, ac0, acl, b1, b2]
              first | exact ⟨H1, .tail _ _, ⟨[], rfl, by simp only [List.length_cons, List.length_nil] at ht; (try simp only [List.length_cons, List.length_nil]); omega, hv, rfl⟩, by simp⟩ | exact ⟨H1, .tail _ _, [], rfl, by simp only [List.length_cons, List.length_nil] at ht; (try simp only [List.length_cons, List.length_nil]); omega, hv, rfl⟩ | exact ⟨H1, .tail _ _, ⟨[], rfl, by simp only [List.length_cons, List.length_nil] at ht; (try simp only [List.length_cons, List.length_nil]); omega, hv, rfl⟩, by omega⟩
            | B1 k q e1 e2 e3 =>
              rw [q] at hf
              rw [e1, e2, e3] at hF
              have hG : (fst ([c, b])).1 = 0 := by rw [hF]; simp only [fgo]; (repeat' split) <;> rfl
              rw [validP_step (by simp), if_pos hG] at hv
              simp (implicitDefEqProofs := false) only [sB, simprocAttr, byteAV_n8, h1, opE_glob, G0, G1, Gu0, Gu1, hf, hc.1, hc.2, an7, wz, ac0, acl, sh4, fd4]
              refine i_new fun zz hzz => ?_
              simp (implicitDefEqProofs := false) only [sB, simprocAttr, byteAV_n8, an7, wz, ac0, acl]
              exact hQ _ _ _ ⟨H1, .tail _ _, rfl, .inr ⟨rfl, rfl, hv.symm⟩⟩
            | B2 k q e1 e2 e3 =>
              rw [q] at hf
              rw [e1, e2, e3] at hF
              have hG : (fst ([c, b])).1 = 0 := by rw [hF]; simp only [fgo]; (repeat' split) <;> rfl
              rw [validP_step (by simp), if_pos hG] at hv
              simp (implicitDefEqProofs := false) only [sB, simprocAttr, byteAV_n8, h1, opE_glob, G0, G1, Gu0, Gu1, hf, hc.1, hc.2, an7, wz, ac0, acl, sh4, fd4]
              refine i_new fun zz hzz => ?_
              simp (implicitDefEqProofs := false) only [sB, simprocAttr, byteAV_n8, an7, wz, ac0, acl]
              exact hQ _ _ _ ⟨H1, .tail _ _, rfl, .inr ⟨rfl, rfl, hv.symm⟩⟩
            | B3 k q e1 e2 e3 =>
              rw [q] at hf
              rw [e1, e2, e3] at hF
              have hG : (fst ([c, b])).1 = 0 := by rw [hF]; simp only [fgo]; (repeat' split) <;> rfl
              rw [validP_step (by simp), if_pos hG] at hv
              simp (implicitDefEqProofs := false) only [sB, simprocAttr, byteAV_n8, h1, opE_glob, G0, G1, Gu0, Gu1, hf, hc.1, hc.2, an7, wz, ac0, acl, sh4, fd4]
              refine i_new fun zz hzz => ?_
              simp (implicitDefEqProofs := false) only [sB, simprocAttr, byteAV_n8, an7, wz, ac0, acl]
              exact hQ _ _ _ ⟨H1, .tail _ _, rfl, .inr ⟨rfl, rfl, hv.symm⟩⟩
            | C1 k q e1 e2 e3 =>
              rw [q] at hf
              rw [e1, e2, e3] at hF
              have hG : (fst ([c, b])).1 = 0 := by rw [hF]; simp only [fgo]; (repeat' split) <;> rfl
              rw [validP_step (by simp), if_pos hG] at hv
              simp (implicitDefEqProofs := false) only [sB, simprocAttr, byteAV_n8, h1, opE_glob, G0, G1, Gu0, Gu1, hf, hc.1, hc.2, an7, wz, ac0, acl, sh4, fd4]
              refine i_new fun zz hzz => ?_
              simp (implicitDefEqProofs := false) only [sB, simprocAttr, byteAV_n8, an7, wz, ac0, acl]
              exact hQ _ _ _ ⟨H1, .tail _ _, rfl, .inr ⟨rfl, rfl, hv.symm⟩⟩
            | C2 k q e1 e2 e3 =>
              rw [q] at hf
              rw [e1, e2, e3] at hF
              have hG : (fst ([c, b])).1 = 0 := by rw [hF]; simp only [fgo]; (repeat' split) <;> rfl
              rw [validP_step (by simp), if_pos hG] at hv
              simp (implicitDefEqProofs := false) only [sB, simprocAttr, byteAV_n8, h1, opE_glob, G0, G1, Gu0, Gu1, hf, hc.1, hc.2, an7, wz, ac0, acl, sh4, fd4]
              refine i_new fun zz hzz => ?_
              simp (implicitDefEqProofs := false) only [sB, simprocAttr, byteAV_n8, an7, wz, ac0, acl]
              exact hQ _ _ _ ⟨H1, .tail _ _, rfl, .inr ⟨rfl, rfl, hv.symm⟩⟩
            | C3 k q e1 e2 e3 =>
              rw [q] at hf
              rw [e1, e2, e3] at hF
              have hG : (fst ([c, b])).1 = 0 := by rw [hF]; simp only [fgo]; (repeat' split) <;> rfl
              rw [validP_step (by simp), if_pos hG] at hv
              simp (implicitDefEqProofs := false) only [sB, simprocAttr, byteAV_n8, h1, opE_glob, G0, G1, Gu0, Gu1, hf, hc.1, hc.2, an7, wz, ac0, acl, sh4, fd4]
              refine i_new fun zz hzz => ?_
              simp (implicitDefEqProofs := false) only [sB, simprocAttr, byteAV_n8, an7, wz, ac0, acl]
              exact hQ _ _ _ ⟨H1, .tail _ _, rfl, .inr ⟨rfl, rfl, hv.symm⟩⟩
          · have hF := fst_cls [b, d] h1' h0
            cases hcl with
            | A k q e1 e2 e3 =>
              rw [q] at hf
              rw [e1, e2, e3] at hF
              by_cases b1 : n8 b < 128
              · have hG : (fst ([c, b, d])).1 = 0 := by rw [hF, fgo, if_pos (.inl (by unfold n8 at b1; omega))]
                rw [validP_step (by simp), if_pos hG] at hv
                simp (implicitDefEqProofs := false) only [sB, simprocAttr, byteAV_n8, h1, opE_glob, G0, G1, Gu0, Gu1, hf, hc.1, hc.2, an7, wz, ac0, acl, sh4, fd4, b1]
                refine i_new fun zz hzz => ?_
                simp (implicitDefEqProofs := false) only [sB, simprocAttr, byteAV_n8, an7, wz, ac0, acl, b1]
                exact hQ _ _ _ ⟨H1, .tail _ _, rfl, .inr ⟨rfl, rfl, hv.symm⟩⟩
              by_cases b2 : 191 < n8 b
              · have hG : (fst ([c, b, d])).1 = 0 := by rw [hF, fgo, if_pos (.inr (by unfold n8 at b2; omega))]
                rw [validP_step (by simp), if_pos hG] at hv
                simp (implicitDefEqProofs := false) only [sB, simprocAttr, byteAV_n8, h1, opE_glob, G0, G1, Gu0, Gu1, hf, hc.1, hc.2, an7, wz, ac0, acl, sh4, fd4, b1, b2]
                refine i_new fun zz hzz => ?_
                simp (implicitDefEqProofs := false) only [sB, simprocAttr, byteAV_n8, an7, wz, ac0, acl, b1, b2]
                exact hQ _ _ _ ⟨H1, .tail _ _, rfl, .inr ⟨rfl, rfl, hv.symm⟩⟩
              have hG : fst ([c, b, d]) = (2, false) := by rw [hF, fgo, if_neg (by unfold n8 at b1 b2; omega), fgo]
              rw [validP_step (by simp), hG, if_neg (by decide)] at hv
              simp (implicitDefEqProofs := false) only [sB, simprocAttr, byteAV_n8, h1, opE_glob, G0, G1, Gu0, Gu1, hf, hc.1, hc.2, an7, wz, ac0, acl, sh4, fd4, b1, b2]
              refine i_new fun zz hzz => ?_
              simp (implicitDefEqProofs := false) only [sB, simprocAttr, byteAV_n8, an7, wz, ac0, acl, b1, b2]
              first | exact ⟨H1, .tail _ _, ⟨[d], rfl, by simp only [List.length_cons, List.length_nil] at ht; (try simp only [List.length_cons, List.length_nil]); omega, hv, rfl⟩, by simp⟩ | exact ⟨H1, .tail _ _, [d], rfl, by simp only [List.length_cons, List.length_nil] at ht; (try simp only [List.length_cons, List.length_nil]); omega, hv, rfl⟩ | exact ⟨H1, .tail _ _, ⟨[d], rfl, by simp only [List.length_cons, List.length_nil] at ht; (try simp only [List.length_cons, List.length_nil]); omega, hv, rfl⟩, by omega⟩
            | B1 k q e1 e2 e3 =>
              rw [q] at hf
              rw [e1, e2, e3] at hF
              by_cases b1 : n8 b < 160
              · have hG : (fst ([c, b, d])).1 = 0 := by rw [hF, fgo, if_pos (.inl (by unfold n8 at b1; omega))]
                rw [validP_step (by simp), if_pos hG] at hv
                simp (implicitDefEqProofs := false) only [sB, simprocAttr, byteAV_n8, h1, opE_glob, G0, G1, Gu0, Gu1, hf, hc.1, hc.2, an7, wz, ac0, acl, sh4, fd4, b1]
                refine i_new fun zz hzz => ?_
                simp (implicitDefEqProofs := false) only [sB, simprocAttr, byteAV_n8, an7, wz, ac0, acl, b1]
                exact hQ _ _ _ ⟨H1, .tail _ _, rfl, .inr ⟨rfl, rfl, hv.symm⟩⟩
              by_cases b2 : 191 < n8 b
              · have hG : (fst ([c, b, d])).1 = 0 := by rw [hF, fgo, if_pos (.inr (by unfold n8 at b2; omega))]
                rw [validP_step (by simp), if_pos hG] at hv
                simp (implicitDefEqProofs := false) only [sB, simprocAttr, byteAV_n8, h1, opE_glob, G0, G1, Gu0, Gu1, hf, hc.1, hc.2, an7, wz, ac0, acl, sh4, fd4, b1, b2]
                refine i_new fun zz hzz => ?_
                simp (implicitDefEqProofs := false) only [sB, simprocAttr, byteAV_n8, an7, wz, ac0, acl, b1, b2]
                exact hQ _ _ _ ⟨H1, .tail _ _, rfl, .inr ⟨rfl, rfl, hv.symm⟩⟩
              by_cases d1 : n8 d < 128
              · have hG : (fst ([c, b, d])).1 = 0 := by rw [hF, fgo, if_neg (by unfold n8 at b1 b2; omega), fgo, if_pos (.inl (by unfold n8 at d1; omega))]
                rw [validP_step (by simp), if_pos hG] at hv
                simp (implicitDefEqProofs := false) only [sB, simprocAttr, byteAV_n8, h1, opE_glob, G0, G1, Gu0, Gu1, hf, hc.1, hc.2, an7, wz, ac0, acl, sh4, fd4, b1, b2, d1]
                refine i_new fun zz hzz => ?_
                simp (implicitDefEqProofs := false) only [sB, simprocAttr, byteAV_n8, an7, wz, ac0, acl, b1, b2, d1]
                exact hQ _ _ _ ⟨H1, .tail _ _, rfl, .inr ⟨rfl, rfl, hv.symm⟩⟩
              by_cases d2 : 191 < n8 d
              · have hG : (fst ([c, b, d])).1 = 0 := by rw [hF, fgo, if_neg (by unfold n8 at b1 b2; omega), fgo, if_pos (.inr (by unfold n8 at d2; omega))]
                rw [validP_step (by simp), if_pos hG] at hv
                simp (implicitDefEqProofs := false) only [sB, simprocAttr, byteAV_n8, h1, opE_glob, G0, G1, Gu0, Gu1, hf, hc.1, hc.2, an7, wz, ac0, acl, sh4, fd4, b1, b2, d1, d2]
                refine i_new fun zz hzz => ?_
                simp (implicitDefEqProofs := false) only [sB, simprocAttr, byteAV_n8, an7, wz, ac0, acl, b1, b2, d1, d2]
                exact hQ _ _ _ ⟨H1, .tail _ _, rfl, .inr ⟨rfl, rfl, hv.symm⟩⟩
              have hG : fst ([c, b, d]) = (3, false) := by rw [hF, fgo, if_neg (by unfold n8 at b1 b2; omega), fgo, if_neg (by unfold n8 at d1 d2; omega), fgo]
              rw [validP_step (by simp), hG, if_neg (by decide)] at hv
              simp (implicitDefEqProofs := false) only [sB, simprocAttr, byteAV_n8, h1, opE_glob, G0, G1, Gu0, Gu1, hf, hc.1, hc.2, an7, wz, ac0, acl, sh4, fd4, b1, b2, d1, d2]
              refine i_new fun zz hzz => ?_
              simp (implicitDefEqProofs := false) only [sB, simprocAttr, byteAV_n8, an7, wz, ac0, acl, b1, b2, d1, d2]
              first | exact ⟨H1, .tail _ _, ⟨[], rfl, by simp only [List.length_cons, List.length_nil] at ht; (try simp only [List.length_cons, List.length_nil]); omega, hv, rfl⟩, by simp⟩ | exact ⟨H1, .tail _ _, [], rfl, by simp only [List.length_cons, List.length_nil] at ht; (try simp only [List.length_cons, List.length_nil]); omega, hv, rfl⟩ | exact ⟨H1, .tail _ _, ⟨[], rfl, by simp only [List.length_cons, List.length_nil] at ht; (try simp only [List.length_cons, List.length_nil]); omega, hv, rfl⟩, by omega⟩
            | B2 k q e1 e2 e3 =>
              rw [q] at hf
              rw [e1, e2, e3] at hF
              by_cases b1 : n8 b < 128
              · have hG : (fst ([c, b, d])).1 = 0 := by rw [hF, fgo, if_pos (.inl (by unfold n8 at b1; omega))]
                rw [validP_step (by simp), if_pos hG] at hv
                simp (implicitDefEqProofs := false) only [sB, simprocAttr, byteAV_n8, h1, opE_glob, G0, G1, Gu0, Gu1, hf, hc.1, hc.2, an7, wz, ac0, acl, sh4, fd4, b1]
                refine i_new fun zz hzz => ?_
                simp (implicitDefEqProofs := false) only [sB, simprocAttr, byteAV_n8, an7, wz, ac0, acl, b1]
                exact hQ _ _ _ ⟨H1, .tail _ _, rfl, .inr ⟨rfl, rfl, hv.symm⟩⟩
              by_cases b2 : 159 < n8 b
              · have hG : (fst ([c, b, d])).1 = 0 := by rw [hF, fgo, if_pos (.inr (by unfold n8 at b2; omega))]
                rw [validP_step (by simp), if_pos hG] at hv
                simp (implicitDefEqProofs := false) only [sB, simprocAttr, byteAV_n8, h1, opE_glob, G0, G1, Gu0, Gu1, hf, hc.1, hc.2, an7, wz, ac0, acl, sh4, fd4, b1, b2]
                refine i_new fun zz hzz => ?_
                simp (implicitDefEqProofs := false) only [sB, simprocAttr, byteAV_n8, an7, wz, ac0, acl, b1, b2]
                exact hQ _ _ _ ⟨H1, .tail _ _, rfl, .inr ⟨rfl, rfl, hv.symm⟩⟩
              by_cases d1 : n8 d < 128
              · have hG : (fst ([c, b, d])).1 = 0 := by rw [hF, fgo, if_neg (by unfold n8 at b1 b2; omega), fgo, if_pos (.inl (by unfold n8 at d1; omega))]
                rw [validP_step (by simp), if_pos hG] at hv
                simp (implicitDefEqProofs := false) only [sB, simprocAttr, byteAV_n8, h1, opE_glob, G0, G1, Gu0, Gu1, hf, hc.1, hc.2, an7, wz, ac0, acl, sh4, fd4, b1, b2, d1]
                refine i_new fun zz hzz => ?_
                simp (implicitDefEqProofs := false) only [sB, simprocAttr, byteAV_n8, an7, wz, ac0, acl, b1, b2, d1]
                exact hQ _ _ _ ⟨H1, .tail _ _, rfl, .inr ⟨rfl, rfl, hv.symm⟩⟩
              by_cases d2 : 191 < n8 d
              · have hG : (fst ([c, b, d])).1 = 0 := by rw [hF, fgo, if_neg (by unfold n8 at b1 b2; omega), fgo, if_pos (.inr (by unfold n8 at d2; omega))]
                rw [validP_step (by simp), if_pos hG] at hv
                simp (implicitDefEqProofs := false) only [sB, simprocAttr, byteAV_n8, h1, opE_glob, G0, G1, Gu0, Gu1, hf, hc.1, hc.2, an7, wz, ac0, acl, sh4, fd4, b1, b2, d1, d2]
                refine i_new fun zz hzz => ?_
                simp (implicitDefEqProofs := false) only [sB, simprocAttr, byteAV_n8, an7, wz, ac0, acl, b1, b2, d1, d2]
                exact hQ _ _ _ ⟨H1, .tail _ _, rfl, .inr ⟨rfl, rfl, hv.symm⟩⟩
              have hG : fst ([c, b, d]) = (3, false) := by rw [hF, fgo, if_neg (by unfold n8 at b1 b2; omega), fgo, if_neg (by unfold n8 at d1 d2; omega), fgo]
              rw [validP_step (by simp), hG, if_neg (by decide)] at hv
              simp (implicitDefEqProofs := false) only [sB, simprocAttr, byteAV_n8, h1, opE_glob, G0, G1, Gu0, Gu1, hf, hc.1, hc.2, an7, wz, ac0, acl, sh4, fd4, b1, b2, d1, d2]
              refine i_new fun zz hzz => ?_
              simp (implicitDefEqProofs := false) only [sB, simprocAttr, byteAV_n8, an7, wz, ac0, acl, b1, b2, d1, d2]
              first | exact ⟨H1, .tail _ _, ⟨[], rfl, by simp only [List.length_cons, List.length_nil] at ht; (try simp only [List.length_cons, List.length_nil]); omega, hv, rfl⟩, by simp⟩ | exact ⟨H1, .tail _ _, [], rfl, by simp only [List.length_cons, List.length_nil] at ht; (try simp only [List.length_cons, List.length_nil]); omega, hv, rfl⟩ | exact ⟨H1, .tail _ _, ⟨[], rfl, by simp only [List.length_cons, List.length_nil] at ht; (try simp only [List.length_cons, List.length_nil]); omega, hv, rfl⟩, by omega⟩
            | B3 k q e1 e2 e3 =>
              rw [q] at hf
              rw [e1, e2, e3] at hF
              by_cases b1 : n8 b < 128
              · have hG : (fst ([c, b, d])).1 = 0 := by rw [hF, fgo, if_pos (.inl (by unfold n8 at b1; omega))]
                rw [validP_step (by simp), if_pos hG] at hv
                simp (implicitDefEqProofs := false) only [sB, simprocAttr, byteAV_n8, h1, opE_glob, G0, G1, Gu0, Gu1, hf, hc.1, hc.2, an7, wz, ac0, acl, sh4, fd4, b1]
                refine i_new fun zz hzz => ?_
                simp (implicitDefEqProofs := false) only [sB, simprocAttr, byteAV_n8, an7, wz, ac0, acl, b1]
                exact hQ _ _ _ ⟨H1, .tail _ _, rfl, .inr ⟨rfl, rfl, hv.symm⟩⟩
              by_cases b2 : 191 < n8 b
              · have hG : (fst ([c, b, d])).1 = 0 := by rw [hF, fgo, if_pos (.inr (by unfold n8 at b2; omega))]
                rw [validP_step (by simp), if_pos hG] at hv
                simp (implicitDefEqProofs := false) only [sB, simprocAttr, byteAV_n8, h1, opE_glob, G0, G1, Gu0, Gu1, hf, hc.1, hc.2, an7, wz, ac0, acl, sh4, fd4, b1, b2]
                refine i_new fun zz hzz => ?_
                simp (implicitDefEqProofs := false) only [sB, simprocAttr, byteAV_n8, an7, wz, ac0, acl, b1, b2]
                exact hQ _ _ _ ⟨H1, .tail _ _, rfl, .inr ⟨rfl, rfl, hv.symm⟩⟩
              by_cases d1 : n8 d < 128
              · have hG : (fst ([c, b, d])).1 = 0 := by rw [hF, fgo, if_neg (by unfold n8 at b1 b2; omega), fgo, if_pos (.inl (by unfold n8 at d1; omega))]
                rw [validP_step (by simp), if_pos hG] at hv
                simp (implicitDefEqProofs := false) only [sB, simprocAttr, byteAV_n8, h1, opE_glob, G0, G1, Gu0, Gu1, hf, hc.1, hc.2, an7, wz, ac0, acl, sh4, fd4, b1, b2, d1]
                refine i_new fun zz hzz => ?_
                simp (implicitDefEqProofs := false) only [sB, simprocAttr, byteAV_n8, an7, wz, ac0, acl, b1, b2, d1]
                exact hQ _ _ _ ⟨H1, .tail _ _, rfl, .inr ⟨rfl, rfl, hv.symm⟩⟩
              by_cases d2 : 191 < n8 d
              · have hG : (fst ([c, b, d])).1 = 0 := by rw [hF, fgo, if_neg (by unfold n8 at b1 b2; omega), fgo, if_pos (.inr (by unfold n8 at d2; omega))]
                rw [validP_step (by simp), if_pos hG] at hv
                simp (implicitDefEqProofs := false) only [sB, simprocAttr, byteAV_n8, h1, opE_glob, G0, G1, Gu0, Gu1, hf, hc.1, hc.2, an7, wz, ac0, acl, sh4, fd4, b1, b2, d1, d2]
                refine i_new fun zz hzz => ?_
                simp (implicitDefEqProofs := false) only [sB, simprocAttr, byteAV_n8, an7, wz, ac0, acl, b1, b2, d1, d2]
                exact hQ _ _ _ ⟨H1, .tail _ _, rfl, .inr ⟨rfl, rfl, hv.symm⟩⟩
              have hG : fst ([c, b, d]) = (3, false) := by rw [hF, fgo, if_neg (by unfold n8 at b1 b2; omega), fgo, if_neg (by unfold n8 at d1 d2; omega), fgo]
              rw [validP_step (by simp), hG, if_neg (by decide)] at hv
              simp (implicitDefEqProofs := false) only [sB, simprocAttr, byteAV_n8, h1, opE_glob, G0, G1, Gu0, Gu1, hf, hc.1, hc.2, an7, wz, ac0, acl, sh4, fd4, b1, b2, d1, d2]
              refine i_new fun zz hzz => ?_
              simp (implicitDefEqProofs := false) only [sB, simprocAttr, byteAV_n8, an7, wz, ac0, acl, b1, b2, d1, d2]
              first | exact ⟨H1, .tail _ _, ⟨[], rfl, by simp only [List.length_cons, List.length_nil] at ht; (try simp only [List.length_cons, List.length_nil]); omega, hv, rfl⟩, by simp⟩ | exact ⟨H1, .tail _ _, [], rfl, by simp only [List.length_cons, List.length_nil] at ht; (try simp only [List.length_cons, List.length_nil]); omega, hv, rfl⟩ | exact ⟨H1, .tail _ _, ⟨[], rfl, by simp only [List.length_cons, List.length_nil] at ht; (try simp only [List.length_cons, List.length_nil]); omega, hv, rfl⟩, by omega⟩
            | C1 k q e1 e2 e3 =>
              rw [q] at hf
              rw [e1, e2, e3] at hF
              have hG : (fst ([c, b, d])).1 = 0 := by rw [hF]; simp only [fgo]; (repeat' split) <;> rfl
              rw [validP_step (by simp), if_pos hG] at hv
              simp (implicitDefEqProofs := false) only [sB, simprocAttr, byteAV_n8, h1, opE_glob, G0, G1, Gu0, Gu1, hf, hc.1, hc.2, an7, wz, ac0, acl, sh4, fd4]
              refine i_new fun zz hzz => ?_
              simp (implicitDefEqProofs := false) only [sB, simprocAttr, byteAV_n8, an7, wz, ac0, acl]
              exact hQ _ _ _ ⟨H1, .tail _ _, rfl, .inr ⟨rfl, rfl, hv.symm⟩⟩
            | C2 k q e1 e2 e3 =>
              rw [q] at hf
              rw [e1, e2, e3] at hF
              have hG : (fst ([c, b, d])).1 = 0 := by rw [hF]; simp only [fgo]; (repeat' split) <;> rfl
              rw [validP_step (by simp), if_pos hG] at hv
              simp (implicitDefEqProofs := false) only [sB, simprocAttr, byteAV_n8, h1, opE_glob, G0, G1, Gu0, Gu1, hf, hc.1, hc.2, an7, wz, ac0, acl, sh4, fd4]
              refine i_new fun zz hzz => ?_
              simp (implicitDefEqProofs := false) only [sB, simprocAttr, byteAV_n8, an7, wz, ac0, acl]
              exact hQ _ _ _ ⟨H1, .tail _ _, rfl, .inr ⟨rfl, rfl, hv.symm⟩⟩
            | C3 k q e1 e2 e3 =>
              rw [q] at hf
              rw [e1, e2, e3] at hF
              have hG : (fst ([c, b, d])).1 = 0 := by rw [hF]; simp only [fgo]; (repeat' split) <;> rfl
              rw [validP_step (by simp), if_pos hG] at hv
              simp (implicitDefEqProofs := false) only [sB, simprocAttr, byteAV_n8, h1, opE_glob, G0, G1, Gu0, Gu1, hf, hc.1, hc.2, an7, wz, ac0, acl, sh4, fd4]
              refine i_new fun zz hzz => ?_
              simp (implicitDefEqProofs := false) only [sB, simprocAttr, byteAV_n8, an7, wz, ac0, acl]
              exact hQ _ _ _ ⟨H1, .tail _ _, rfl, .inr ⟨rfl, rfl, hv.symm⟩⟩
          · have hF := fst_cls (b :: d :: e :: r) h1' h0
            have ne : (0 : Int) < ((r.length + 1 + 1 + 1 + 1 : Nat) : Int) := by omega
            have l2 : ¬ ((r.length + 1 + 1 + 1 + 1 : Nat) : Int) < 2 := by omega
            have m2 : (2 : Int) ≤ ((r.length + 1 + 1 + 1 + 1 : Nat) : Int) := by omega
            have l3 : ¬ ((r.length + 1 + 1 + 1 + 1 : Nat) : Int) < 3 := by omega
            have m3 : (3 : Int) ≤ ((r.length + 1 + 1 + 1 + 1 : Nat) : Int) := by omega
            have l4 : ¬ ((r.length + 1 + 1 + 1 + 1 : Nat) : Int) < 4 := by omega
            have m4 : (4 : Int) ≤ ((r.length + 1 + 1 + 1 + 1 : Nat) : Int) := by omega
            cases hcl with
            | A k q e1 e2 e3 =>
              rw [q] at hf
              rw [e1, e2, e3] at hF
              by_cases b1 : n8 b < 128
              · have hG : (fst (c :: b :: d :: e :: r)).1 = 0 := by rw [hF, fgo, if_pos (.inl (by unfold n8 at b1; omega))]
                rw [validP_step (by simp), if_pos hG] at hv
                simp (implicitDefEqProofs := false) only [sB, simprocAttr, byteAV_n8, h1, opE_glob, G0, G1, Gu0, Gu1, hf, hc.1, hc.2, an7, wz, ac0, acl, sh4, fd4, ne, l2, l3, l4, m2, m3, m4, b1]
                refine i_new fun zz hzz => ?_
                simp (implicitDefEqProofs := false) only [sB, simprocAttr, byteAV_n8, an7, wz, ac0, acl, ne, l2, l3, l4, m2, m3, m4, b1]
                exact hQ _ _ _ ⟨H1, .tail _ _, rfl, .inr ⟨rfl, rfl, hv.symm⟩⟩
              by_cases b2 : 191 < n8 b
              · have hG : (fst (c :: b :: d :: e :: r)).1 = 0 := by rw [hF, fgo, if_pos (.inr (by unfold n8 at b2; omega))]
                rw [validP_step (by simp), if_pos hG] at hv
                simp (implicitDefEqProofs := false) only [sB, simprocAttr, byteAV_n8, h1, opE_glob, G0, G1, Gu0, Gu1, hf, hc.1, hc.2, an7, wz, ac0, acl, sh4, fd4, ne, l2, l3, l4, m2, m3, m4, b1, b2]
                refine i_new fun zz hzz => ?_
                simp (implicitDefEqProofs := false) only [sB, simprocAttr, byteAV_n8, an7, wz, ac0, acl, ne, l2, l3, l4, m2, m3, m4, b1, b2]
                exact hQ _ _ _ ⟨H1, .tail _ _, rfl, .inr ⟨rfl, rfl, hv.symm⟩⟩
              have hG : fst (c :: b :: d :: e :: r) = (2, false) := by rw [hF, fgo, if_neg (by unfold n8 at b1 b2; omega), fgo]
              rw [validP_step (by simp), hG, if_neg (by decide)] at hv
              simp (implicitDefEqProofs := false) only [sB, simprocAttr, byteAV_n8, h1, opE_glob, G0, G1, Gu0, Gu1, hf, hc.1, hc.2, an7, wz, ac0, acl, sh4, fd4, ne, l2, l3, l4, m2, m3, m4, b1, b2]
              refine i_new fun zz hzz => ?_
              simp (implicitDefEqProofs := false) only [sB, simprocAttr, byteAV_n8, an7, wz, ac0, acl, ne, l2, l3, l4, m2, m3, m4, b1, b2]
              first | exact ⟨H1, .tail _ _, ⟨d :: e :: r, rfl, by simp only [List.length_cons, List.length_nil] at ht; (try simp only [List.length_cons, List.length_nil]); omega, hv, rfl⟩, by simp⟩ | exact ⟨H1, .tail _ _, d :: e :: r, rfl, by simp only [List.length_cons, List.length_nil] at ht; (try simp only [List.length_cons, List.length_nil]); omega, hv, rfl⟩ | exact ⟨H1, .tail _ _, ⟨d :: e :: r, rfl, by simp only [List.length_cons, List.length_nil] at ht; (try simp only [List.length_cons, List.length_nil]); omega, hv, rfl⟩, by omega⟩
            | B1 k q e1 e2 e3 =>
              rw [q] at hf
              rw [e1, e2, e3] at hF
              by_cases b1 : n8 b < 160
              · have hG : (fst (c :: b :: d :: e :: r)).1 = 0 := by rw [hF, fgo, if_pos (.inl (by unfold n8 at b1; omega))]
                rw [validP_step (by simp), if_pos hG] at hv
                simp (implicitDefEqProofs := false) only [sB, simprocAttr, byteAV_n8, h1, opE_glob, G0, G1, Gu0, Gu1, hf, hc.1, hc.2, an7, wz, ac0, acl, sh4, fd4, ne, l2, l3, l4, m2, m3, m4, b1]
                refine i_new fun zz hzz => ?_
                simp (implicitDefEqProofs := false) only [sB, simprocAttr, byteAV_n8, an7, wz, ac0, acl, ne, l2, l3, l4, m2, m3, m4, b1]
                exact hQ _ _ _ ⟨H1, .tail _ _, rfl, .inr ⟨rfl, rfl, hv.symm⟩⟩
              by_cases b2 : 191 < n8 b
              · have hG : (fst (c :: b :: d :: e :: r)).1 = 0 := by rw [hF, fgo, if_pos (.inr (by unfold n8 at b2; omega))]
                rw [validP_step (by simp), if_pos hG] at hv
                simp (implicitDefEqProofs := false) only [sB, simprocAttr, byteAV_n8, h1, opE_glob, G0, G1, Gu0, Gu1, hf, hc.1, hc.2, an7, wz, ac0, acl, sh4, fd4, ne, l2, l3, l4, m2, m3, m4, b1, b2]
                refine i_new fun zz hzz => ?_
                simp (implicitDefEqProofs := false) only [sB, simprocAttr, byteAV_n8, an7, wz, ac0, acl, ne, l2, l3, l4, m2, m3, m4, b1, b2]
                exact hQ _ _ _ ⟨H1, .tail _ _, rfl, .inr ⟨rfl, rfl, hv.symm⟩⟩
              by_cases d1 : n8 d < 128
              · have hG : (fst (c :: b :: d :: e :: r)).1 = 0 := by rw [hF, fgo, if_neg (by unfold n8 at b1 b2; omega), fgo, if_pos (.inl (by unfold n8 at d1; omega))]
                rw [validP_step (by simp), if_pos hG] at hv
                simp (implicitDefEqProofs := false) only [sB, simprocAttr, byteAV_n8, h1, opE_glob, G0, G1, Gu0, Gu1, hf, hc.1, hc.2, an7, wz, ac0, acl, sh4, fd4, ne, l2, l3, l4, m2, m3, m4, b1, b2, d1]
                refine i_new fun zz hzz => ?_
                simp (implicitDefEqProofs := false) only [sB, simprocAttr, byteAV_n8, an7, wz, ac0, acl, ne, l2, l3, l4, m2, m3, m4, b1, b2, d1]
                exact hQ _ _ _ ⟨H1, .tail _ _, rfl, .inr ⟨rfl, rfl, hv.symm⟩⟩
              by_cases d2 : 191 < n8 d
              · have hG : (fst (c :: b :: d :: e :: r)).1 = 0 := by rw [hF, fgo, if_neg (by unfold n8 at b1 b2; omega), fgo, if_pos (.inr (by unfold n8 at d2; omega))]
                rw [validP_step (by simp), if_pos hG] at hv
                simp (implicitDefEqProofs := false) only [sB, simprocAttr, byteAV_n8, h1, opE_glob, G0, G1, Gu0, Gu1, hf, hc.1, hc.2, an7, wz, ac0, acl, sh4, fd4, ne, l2, l3, l4, m2, m3, m4, b1, b2, d1, d2]
                refine i_new fun zz hzz => ?_
                simp (implicitDefEqProofs := false) only [sB, simprocAttr, byteAV_n8, an7, wz, ac0, acl, ne, l2, l3, l4, m2, m3, m4, b1, b2, d1, d2]
                exact hQ _ _ _ ⟨H1, .tail _ _, rfl, .inr ⟨rfl, rfl, hv.symm⟩⟩
              have hG : fst (c :: b :: d :: e :: r) = (3, false) := by rw [hF, fgo, if_neg (by unfold n8 at b1 b2; omega), fgo, if_neg (by unfold n8 at d1 d2; omega), fgo]
              rw [validP_step (by simp), hG, if_neg (by decide)] at hv
              simp (implicitDefEqProofs := false) only [sB, simprocAttr, byteAV_n8, h1, opE_glob, G0, G1, Gu0, Gu1, hf, hc.1, hc.2, an7, wz, ac0, acl, sh4, fd4, ne, l2, l3, l4, m2, m3, m4, b1, b2, d1, d2]
              refine i_new fun zz hzz => ?_
              simp (implicitDefEqProofs := false) only [sB, simprocAttr, byteAV_n8, an7, wz, ac0, acl, ne, l2, l3, l4, m2, m3, m4, b1, b2, d1, d2]
              first | exact ⟨H1, .tail _ _, ⟨e :: r, rfl, by simp only [List.length_cons, List.length_nil] at ht; (try simp only [List.length_cons, List.length_nil]); omega, hv, rfl⟩, by simp⟩ | exact ⟨H1, .tail _ _, e :: r, rfl, by simp only [List.length_cons, List.length_nil] at ht; (try simp only [List.length_cons, List.length_nil]); omega, hv, rfl⟩ | exact ⟨H1, .tail _ _, ⟨e :: r, rfl, by simp only [List.length_cons, List.length_nil] at ht; (try simp only [List.length_cons, List.length_nil]); omega, hv, rfl⟩, by omega⟩
            | B2 k q e1 e2 e3 =>
              rw [q] at hf
              rw [e1, e2, e3] at hF
              by_cases b1 : n8 b < 128
              · have hG : (fst (c :: b :: d :: e :: r)).1 = 0 := by rw [hF, fgo, if_pos (.inl (by unfold n8 at b1; omega))]
                rw [validP_step (by simp), if_pos hG] at hv
                simp (implicitDefEqProofs := false) only [sB, simprocAttr, byteAV_n8, h1, opE_glob, G0, G1, Gu0, Gu1, hf, hc.1, hc.2, an7, wz, ac0, acl, sh4, fd4, ne, l2, l3, l4, m2, m3, m4, b1]
                refine i_new fun zz hzz => ?_
                simp (implicitDefEqProofs := false) only [sB, simprocAttr, byteAV_n8, an7, wz, ac0, acl, ne, l2, l3, l4, m2, m3, m4, b1]
                exact hQ _ _ _ ⟨H1, .tail _ _, rfl, .inr ⟨rfl, rfl, hv.symm⟩⟩
              by_cases b2 : 159 < n8 b
              · have hG : (fst (c :: b :: d :: e :: r)).1 = 0 := by rw [hF, fgo, if_pos (.inr (by unfold n8 at b2; omega))]
                rw [validP_step (by simp), if_pos hG] at hv
                simp (implicitDefEqProofs := false) only [sB, simprocAttr, byteAV_n8, h1, opE_glob, G0, G1, Gu0, Gu1, hf, hc.1, hc.2, an7, wz, ac0, acl, sh4, fd4, ne, l2, l3, l4, m2, m3, m4, b1, b2]
                refine i_new fun zz hzz => ?_
                simp (implicitDefEqProofs := false) only [sB, simprocAttr, byteAV_n8, an7, wz, ac0, acl, ne, l2, l3, l4, m2, m3, m4, b1, b2]
                exact hQ _ _ _ ⟨H1, .tail _ _, rfl, .inr ⟨rfl, rfl, hv.symm⟩⟩
              by_cases d1 : n8 d < 128
              · have hG : (fst (c :: b :: d :: e :: r)).1 = 0 := by rw [hF, fgo, if_neg (by unfold n8 at b1 b2; omega), fgo, if_pos (.inl (by unfold n8 at d1; omega))]
                rw [validP_step (by simp), if_pos hG] at hv
                simp (implicitDefEqProofs := false) only [sB, simprocAttr, byteAV_n8, h1, opE_glob, G0, G1, Gu0, Gu1, hf, hc.1, hc.2, an7, wz, ac0, acl, sh4, fd4, ne, l2, l3, l4, m2, m3, m4, b1, b2, d1]
                refine i_new fun zz hzz => ?_
                simp (implicitDefEqProofs := false) only [sB, simprocAttr, byteAV_n8, an7, wz, ac0, acl, ne, l2, l3, l4, m2, m3, m4, b1, b2, d1]
                exact hQ _ _ _ ⟨H1, .tail _ _, rfl, .inr ⟨rfl, rfl, hv.symm⟩⟩
              by_cases d2 : 191 < n8 d
              · have hG : (fst (c :: b :: d :: e :: r)).1 = 0 := by rw [hF, fgo, if_neg (by unfold n8 at b1 b2; omega), fgo, if_pos (.inr (by unfold n8 at d2; omega))]
                rw [validP_step (by simp), if_pos hG] at hv
                simp (implicitDefEqProofs := false) only [sB, simprocAttr, byteAV_n8, h1, opE_glob, G0, G1, Gu0, Gu1, hf, hc.1, hc.2, an7, wz, ac0, acl, sh4, fd4, ne, l2, l3, l4, m2, m3, m4, b1, b2, d1, d2]
                refine i_new fun zz hzz => ?_
                simp (implicitDefEqProofs := false) only [sB, simprocAttr, byteAV_n8, an7, wz, ac0, acl, ne, l2, l3, l4, m2, m3, m4, b1, b2, d1, d2]
                exact hQ _ _ _ ⟨H1, .tail _ _, rfl, .inr ⟨rfl, rfl, hv.symm⟩⟩
              have hG : fst (c :: b :: d :: e :: r) = (3, false) := by rw [hF, fgo, if_neg (by unfold n8 at b1 b2; omega), fgo, if_neg (by unfold n8 at d1 d2; omega), fgo]
              rw [validP_step (by simp), hG, if_neg (by decide)] at hv
              simp (implicitDefEqProofs := false) only [sB, simprocAttr, byteAV_n8, h1, opE_glob, G0, G1, Gu0, Gu1, hf, hc.1, hc.2, an7, wz, ac0, acl, sh4, fd4, ne, l2, l3, l4, m2, m3, m4, b1, b2, d1, d2]
              refine i_new fun zz hzz => ?_
              simp (implicitDefEqProofs := false) only [sB, simprocAttr, byteAV_n8, an7, wz, ac0, acl, ne, l2, l3, l4, m2, m3, m4, b1, b2, d1, d2]
              first | exact ⟨H1, .tail _ _, ⟨e :: r, rfl, by simp only [List.length_cons, List.length_nil] at ht; (try simp only [List.length_cons, List.length_nil]); omega, hv, rfl⟩, by simp⟩ | exact ⟨H1, .tail _ _, e :: r, rfl, by simp only [List.length_cons, List.length_nil] at ht; (try simp only [List.length_cons, List.length_nil]); omega, hv, rfl⟩ | exact ⟨H1, .tail _ _, ⟨e :: r, rfl, by simp only [List.length_cons, List.length_nil] at ht; (try simp only [List.length_cons, List.length_nil]); omega, hv, rfl⟩, by omega⟩
            | B3 k q e1 e2 e3 =>
              rw [q] at hf
              rw [e1, e2, e3] at hF
              by_cases b1 : n8 b < 128
              · have hG : (fst (c :: b :: d :: e :: r)).1 = 0 := by rw [hF, fgo, if_pos (.inl (by unfold n8 at b1; omega))]
                rw [validP_step (by simp), if_pos hG] at hv
                simp (implicitDefEqProofs := false) only [sB, simprocAttr, byteAV_n8, h1, opE_glob, G0, G1, Gu0, Gu1, hf, hc.1, hc.2, an7, wz, ac0, acl, sh4, fd4, ne, l2, l3, l4, m2, m3, m4, b1]
                refine i_new fun zz hzz => ?_
                simp (implicitDefEqProofs := false) only [sB, simprocAttr, byteAV_n8, an7, wz, ac0, acl, ne, l2, l3, l4, m2, m3, m4, b1]
                exact hQ _ _ _ ⟨H1, .tail _ _, rfl, .inr ⟨rfl, rfl, hv.symm⟩⟩
              by_cases b2 : 191 < n8 b
              · have hG : (fst (c :: b :: d :: e :: r)).1 = 0 := by rw [hF, fgo, if_pos (.inr (by unfold n8 at b2; omega))]
                rw [validP_step (by simp), if_pos hG] at hv
                simp (implicitDefEqProofs := false) only [sB, simprocAttr, byteAV_n8, h1, opE_glob, G0, G1, Gu0, Gu1, hf, hc.1, hc.2, an7, wz, ac0, acl, sh4, fd4, ne, l2, l3, l4, m2, m3, m4, b1, b2]
                refine i_new fun zz hzz => ?_
                simp (implicitDefEqProofs := false) only [sB, simprocAttr, byteAV_n8, an7, wz, ac0, acl, ne, l2, l3, l4, m2, m3, m4, b1, b2]
                exact hQ _ _ _ ⟨H1, .tail _ _, rfl, .inr ⟨rfl, rfl, hv.symm⟩⟩
              by_cases d1 : n8 d < 128
              · have hG : (fst (c :: b :: d :: e :: r)).1 = 0 := by rw [hF, fgo, if_neg (by unfold n8 at b1 b2; omega), fgo, if_pos (.inl (by unfold n8 at d1; omega))]
                rw [validP_step (by simp), if_pos hG] at hv
                simp (implicitDefEqProofs := false) only [sB, simprocAttr, byteAV_n8, h1, opE_glob, G0, G1, Gu0, Gu1, hf, hc.1, hc.2, an7, wz, ac0, acl, sh4, fd4, ne, l2, l3, l4, m2, m3, m4, b1, b2, d1]
                refine i_new fun zz hzz => ?_
                simp (implicitDefEqProofs := false) only [sB, simprocAttr, byteAV_n8, an7, wz, ac0, acl, ne, l2, l3, l4, m2, m3, m4, b1, b2, d1]
                exact hQ _ _ _ ⟨H1, .tail _ _, rfl, .inr ⟨rfl, rfl, hv.symm⟩⟩
              by_cases d2 : 191 < n8 d
              · have hG : (fst (c :: b :: d :: e :: r)).1 = 0 := by rw [hF, fgo, if_neg (by unfold n8 at b1 b2; omega), fgo, if_pos (.inr (by unfold n8 at d2; omega))]
                rw [validP_step (by simp), if_pos hG] at hv
                simp (implicitDefEqProofs := false) only [sB, simprocAttr, byteAV_n8, h1, opE_glob, G0, G1, Gu0, Gu1, hf, hc.1, hc.2, an7, wz, ac0, acl, sh4, fd4, ne, l2, l3, l4, m2, m3, m4, b1, b2, d1, d2]
                refine i_new fun zz hzz => ?_
                simp (implicitDefEqProofs := false) only [sB, simprocAttr, byteAV_n8, an7, wz, ac0, acl, ne, l2, l3, l4, m2, m3, m4, b1, b2, d1, d2]
                exact hQ _ _ _ ⟨H1, .tail _ _, rfl, .inr ⟨rfl, rfl, hv.symm⟩⟩
              have hG : fst (c :: b :: d :: e :: r) = (3, false) := by rw [hF, fgo, if_neg (by unfold n8 at b1 b2; omega), fgo, if_neg (by unfold n8 at d1 d2; omega), fgo]
              rw [validP_step (by simp), hG, if_neg (by decide)] at hv
              simp (implicitDefEqProofs := false) only [sB, simprocAttr, byteAV_n8, h1, opE_glob, G0, G1, Gu0, Gu1, hf, hc.1, hc.2, an7, wz, ac0, acl, sh4, fd4, ne, l2, l3, l4, m2, m3, m4, b1, b2, d1, d2]
              refine i_new fun zz hzz => ?_
              simp (implicitDefEqProofs := false) only [sB, simprocAttr, byteAV_n8, an7, wz, ac0, acl, ne, l2, l3, l4, m2, m3, m4, b1, b2, d1, d2]
              first | exact ⟨H1, .tail _ _, ⟨e :: r, rfl, by simp only [List.length_cons, List.length_nil] at ht; (try simp only [List.length_cons, List.length_nil]); omega, hv, rfl⟩, by simp⟩ | exact ⟨H1, .tail _ _, e :: r, rfl, by simp only [List.length_cons, List.length_nil] at ht; (try simp only [List.length_cons, List.length_nil]); omega, hv, rfl⟩ | exact ⟨H1, .tail _ _, ⟨e :: r, rfl, by simp only [List.length_cons, List.length_nil] at ht; (try simp only [List.length_cons, List.length_nil]); omega, hv, rfl⟩, by omega⟩
            | C1 k q e1 e2 e3 =>
              rw [q] at hf
              rw [e1, e2, e3] at hF
              by_cases b1 : n8 b < 144
              · have hG : (fst (c :: b :: d :: e :: r)).1 = 0 := by rw [hF, fgo, if_pos (.inl (by unfold n8 at b1; omega))]
                rw [validP_step (by simp), if_pos hG] at hv
                simp (implicitDefEqProofs := false) only [sB, simprocAttr, byteAV_n8, h1, opE_glob, G0, G1, Gu0, Gu1, hf, hc.1, hc.2, an7, wz, ac0, acl, sh4, fd4, ne, l2, l3, l4, m2, m3, m4, b1]
                refine i_new fun zz hzz => ?_
                simp (implicitDefEqProofs := false) only [sB, simprocAttr, byteAV_n8, an7, wz, ac0, acl, ne, l2, l3, l4, m2, m3, m4, b1]
                exact hQ _ _ _ ⟨H1, .tail _ _, rfl, .inr ⟨rfl, rfl, hv.symm⟩⟩
              by_cases b2 : 191 < n8 b
              · have hG : (fst (c :: b :: d :: e :: r)).1 = 0 := by rw [hF, fgo, if_pos (.inr (by unfold n8 at b2; omega))]
                rw [validP_step (by simp), if_pos hG] at hv
                simp (implicitDefEqProofs := false) only [sB, simprocAttr, byteAV_n8, h1, opE_glob, G0, G1, Gu0, Gu1, hf, hc.1, hc.2, an7, wz, ac0, acl, sh4, fd4, ne, l2, l3, l4, m2, m3, m4, b1, b2]
                refine i_new fun zz hzz => ?_
                simp (implicitDefEqProofs := false) only [sB, simprocAttr, byteAV_n8, an7, wz, ac0, acl, ne, l2, l3, l4, m2, m3, m4, b1, b2]
                exact hQ _ _ _ ⟨H1, .tail _ _, rfl, .inr ⟨rfl, rfl, hv.symm⟩⟩
              by_cases d1 : n8 d < 128
              · have hG : (fst (c :: b :: d :: e :: r)).1 = 0 := by rw [hF, fgo, if_neg (by unfold n8 at b1 b2; omega), fgo, if_pos (.inl (by unfold n8 at d1; omega))]
                rw [validP_step (by simp), if_pos hG] at hv
                simp (implicitDefEqProofs := false) only [sB, simprocAttr, byteAV_n8, h1, opE_glob, G0, G1, Gu0, Gu1, hf, hc.1, hc.2, an7, wz, ac0, acl, sh4, fd4, ne, l2, l3, l4, m2, m3, m4, b1, b2, d1]
                refine i_new fun zz hzz => ?_
                simp (implicitDefEqProofs := false) only [sB, simprocAttr, byteAV_n8, an7, wz, ac0, acl, ne, l2, l3, l4, m2, m3, m4, b1, b2, d1]
                exact hQ _ _ _ ⟨H1, .tail _ _, rfl, .inr ⟨rfl, rfl, hv.symm⟩⟩
              by_cases d2 : 191 < n8 d
              · have hG : (fst (c :: b :: d :: e :: r)).1 = 0 := by rw [hF, fgo, if_neg (by unfold n8 at b1 b2; omega), fgo, if_pos (.inr (by unfold n8 at d2; omega))]
                rw [validP_step (by simp), if_pos hG] at hv
                simp (implicitDefEqProofs := false) only [sB, simprocAttr, byteAV_n8, h1, opE_glob, G0, G1, Gu0, Gu1, hf, hc.1, hc.2, an7, wz, ac0, acl, sh4, fd4, ne, l2, l3, l4, m2, m3, m4, b1, b2, d1, d2]
                refine i_new fun zz hzz => ?_
                simp (implicitDefEqProofs := false) only [sB, simprocAttr, byteAV_n8, an7, wz, ac0, acl, ne, l2, l3, l4, m2, m3, m4, b1, b2, d1, d2]
                exact hQ _ _ _ ⟨H1, .tail _ _, rfl, .inr ⟨rfl, rfl, hv.symm⟩⟩
              by_cases e1 : n8 e < 128
              · have hG : (fst (c :: b :: d :: e :: r)).1 = 0 := by rw [hF, fgo, if_neg (by unfold n8 at b1 b2; omega), fgo, if_neg (by unfold n8 at d1 d2; omega), fgo, if_pos (.inl (by unfold n8 at e1; omega))]
                rw [validP_step (by simp), if_pos hG] at hv
                simp (implicitDefEqProofs := false) only [sB, simprocAttr, byteAV_n8, h1, opE_glob, G0, G1, Gu0, Gu1, hf, hc.1, hc.2, an7, wz, ac0, acl, sh4, fd4, ne, l2, l3, l4, m2, m3, m4, b1, b2, d1, d2, e1]
                refine i_new fun zz hzz => ?_
                simp (implicitDefEqProofs := false) only [sB, simprocAttr, byteAV_n8, an7, wz, ac0, acl, ne, l2, l3, l4, m2, m3, m4, b1, b2, d1, d2, e1]
                exact hQ _ _ _ ⟨H1, .tail _ _, rfl, .inr ⟨rfl, rfl, hv.symm⟩⟩
              by_cases e2 : 191 < n8 e
              · have hG : (fst (c :: b :: d :: e :: r)).1 = 0 := by rw [hF, fgo, if_neg (by unfold n8 at b1 b2; omega), fgo, if_neg (by unfold n8 at d1 d2; omega), fgo, if_pos (.inr (by unfold n8 at e2; omega))]
                rw [validP_step (by simp), if_pos hG] at hv
                simp (implicitDefEqProofs := false) only [sB, simprocAttr, byteAV_n8, h1, opE_glob, G0, G1, Gu0, Gu1, hf, hc.1, hc.2, an7, wz, ac0, acl, sh4, fd4, ne, l2, l3, l4, m2, m3, m4, b1, b2, d1, d2, e1, e2]
                refine i_new fun zz hzz => ?_
                simp (implicitDefEqProofs := false) only [sB, simprocAttr, byteAV_n8, an7, wz, ac0, acl, ne, l2, l3, l4, m2, m3, m4, b1, b2, d1, d2, e1, e2]
                exact hQ _ _ _ ⟨H1, .tail _ _, rfl, .inr ⟨rfl, rfl, hv.symm⟩⟩
              have hG : fst (c :: b :: d :: e :: r) = (4, false) := by rw [hF, fgo, if_neg (by unfold n8 at b1 b2; omega), fgo, if_neg (by unfold n8 at d1 d2; omega), fgo, if_neg (by unfold n8 at e1 e2; omega), fgo]
              rw [validP_step (by simp), hG, if_neg (by decide)] at hv
              simp (implicitDefEqProofs := false) only [sB, simprocAttr, byteAV_n8, h1, opE_glob, G0, G1, Gu0, Gu1, hf, hc.1, hc.2, an7, wz, ac0, acl, sh4, fd4, ne, l2, l3, l4, m2, m3, m4, b1, b2, d1, d2, e1, e2]
              refine i_new fun zz hzz => ?_
              simp (implicitDefEqProofs := false) only [sB, simprocAttr, byteAV_n8, an7, wz, ac0, acl, ne, l2, l3, l4, m2, m3, m4, b1, b2, d1, d2, e1, e2]
              first | exact ⟨H1, .tail _ _, ⟨r, rfl, by simp only [List.length_cons, List.length_nil] at ht; (try simp only [List.length_cons, List.length_nil]); omega, hv, rfl⟩, by simp⟩ | exact ⟨H1, .tail _ _, r, rfl, by simp only [List.length_cons, List.length_nil] at ht; (try simp only [List.length_cons, List.length_nil]); omega, hv, rfl⟩ | exact ⟨H1, .tail _ _, ⟨r, rfl, by simp only [List.length_cons, List.length_nil] at ht; (try simp only [List.length_cons, List.length_nil]); omega, hv, rfl⟩, by omega⟩
            | C2 k q e1 e2 e3 =>
              rw [q] at hf
              rw [e1, e2, e3] at hF
              by_cases b1 : n8 b < 128
              · have hG : (fst (c :: b :: d :: e :: r)).1 = 0 := by rw [hF, fgo, if_pos (.inl (by unfold n8 at b1; omega))]
                rw [validP_step (by simp), if_pos hG] at hv
                simp (implicitDefEqProofs := false) only [sB, simprocAttr, byteAV_n8, h1, opE_glob, G0, G1, Gu0, Gu1, hf, hc.1, hc.2, an7, wz, ac0, acl, sh4, fd4, ne, l2, l3, l4, m2, m3, m4, b1]
                refine i_new fun zz hzz => ?_
                simp (implicitDefEqProofs := false) only [sB, simprocAttr, byteAV_n8, an7, wz, ac0, acl, ne, l2, l3, l4, m2, m3, m4, b1]
                exact hQ _ _ _ ⟨H1, .tail _ _, rfl, .inr ⟨rfl, rfl, hv.symm⟩⟩
              by_cases b2 : 143 < n8 b
              · have hG : (fst (c :: b :: d :: e :: r)).1 = 0 := by rw [hF, fgo, if_pos (.inr (by unfold n8 at b2; omega))]
                rw [validP_step (by simp), if_pos hG] at hv
                simp (implicitDefEqProofs := false) only [sB, simprocAttr, byteAV_n8, h1, opE_glob, G0, G1, Gu0, Gu1, hf, hc.1, hc.2, an7, wz, ac0, acl, sh4, fd4, ne, l2, l3, l4, m2, m3, m4, b1, b2]
                refine i_new fun zz hzz => ?_
                simp (implicitDefEqProofs := false) only [sB, simprocAttr, byteAV_n8, an7, wz, ac0, acl, ne, l2, l3, l4, m2, m3, m4, b1, b2]
                exact hQ _ _ _ ⟨H1, .tail _ _, rfl, .inr ⟨rfl, rfl, hv.symm⟩⟩
              by_cases d1 : n8 d < 128
              · have hG : (fst (c :: b :: d :: e :: r)).1 = 0 := by rw [hF, fgo, if_neg (by unfold n8 at b1 b2; omega), fgo, if_pos (.inl (by unfold n8 at d1; omega))]
                rw [validP_step (by simp), if_pos hG] at hv
                simp (implicitDefEqProofs := false) only [sB, simprocAttr, byteAV_n8, h1, opE_glob, G0, G1, Gu0, Gu1, hf, hc.1, hc.2, an7, wz, ac0, acl, sh4, fd4, ne, l2, l3, l4, m2, m3, m4, b1, b2, d1]
                refine i_new fun zz hzz => ?_
                simp (implicitDefEqProofs := false) only [sB, simprocAttr, byteAV_n8, an7, wz, ac0, acl, ne, l2, l3, l4, m2, m3, m4, b1, b2, d1]
                exact hQ _ _ _ ⟨H1, .tail _ _, rfl, .inr ⟨rfl, rfl, hv.symm⟩⟩
              by_cases d2 : 191 < n8 d
              · have hG : (fst (c :: b :: d :: e :: r)).1 = 0 := by rw [hF, fgo, if_neg (by unfold n8 at b1 b2; omega), fgo, if_pos (.inr (by unfold n8 at d2; omega))]
                rw [validP_step (by simp), if_pos hG] at hv
                simp (implicitDefEqProofs := false) only [sB, simprocAttr, byteAV_n8, h1, opE_glob, G0, G1, Gu0, Gu1, hf, hc.1, hc.2, an7, wz, ac0, acl, sh4, fd4, ne, l2, l3, l4, m2, m3, m4, b1, b2, d1, d2]
                refine i_new fun zz hzz => ?_
                simp (implicitDefEqProofs := false) only [sB, simprocAttr, byteAV_n8, an7, wz, ac0, acl, ne, l2, l3, l4, m2, m3, m4, b1, b2, d1, d2]
                exact hQ _ _ _ ⟨H1, .tail _ _, rfl, .inr ⟨rfl, rfl, hv.symm⟩⟩
              by_cases e1 : n8 e < 128
              · have hG : (fst (c :: b :: d :: e :: r)).1 = 0 := by rw [hF, fgo, if_neg (by unfold n8 at b1 b2; omega), fgo, if_neg (by unfold n8 at d1 d2; omega), fgo, if_pos (.inl (by unfold n8 at e1; omega))]
                rw [validP_step (by simp), if_pos hG] at hv
                simp (implicitDefEqProofs := false) only [sB, simprocAttr, byteAV_n8, h1, opE_glob, G0, G1, Gu0, Gu1, hf, hc.1, hc.2, an7, wz, ac0, acl, sh4, fd4, ne, l2, l3, l4, m2, m3, m4, b1, b2, d1, d2, e1]
                refine i_new fun zz hzz => ?_
                simp (implicitDefEqProofs := false) only [sB, simprocAttr, byteAV_n8, an7, wz, ac0, acl, ne, l2, l3, l4, m2, m3, m4, b1, b2, d1, d2, e1]
                exact hQ _ _ _ ⟨H1, .tail _ _, rfl, .inr ⟨rfl, rfl, hv.symm⟩⟩
              by_cases e2 : 191 < n8 e
              · have hG : (fst (c :: b :: d :: e :: r)).1 = 0 := by rw [hF, fgo, if_neg (by unfold n8 at b1 b2; omega), fgo, if_neg (by unfold n8 at d1 d2; omega), fgo, if_pos (.inr (by unfold n8 at e2; omega))]
                rw [validP_step (by simp), if_pos hG] at hv
                simp (implicitDefEqProofs := false) only [sB, simprocAttr, byteAV_n8, h1, opE_glob, G0, G1, Gu0, Gu1, hf, hc.1, hc.2, an7, wz, ac0, acl, sh4, fd4, ne, l2, l3, l4, m2, m3, m4, b1, b2, d1, d2, e1, e2]
                refine i_new fun zz hzz => ?_
                simp (implicitDefEqProofs := false) only [sB, simprocAttr, byteAV_n8, an7, wz, ac0, acl, ne, l2, l3, l4, m2, m3, m4, b1, b2, d1, d2, e1, e2]
                exact hQ _ _ _ ⟨H1, .tail _ _, rfl, .inr ⟨rfl, rfl, hv.symm⟩⟩
              have hG : fst (c :: b :: d :: e :: r) = (4, false) := by rw [hF, fgo, if_neg (by unfold n8 at b1 b2; omega), fgo, if_neg (by unfold n8 at d1 d2; omega), fgo, if_neg (by unfold n8 at e1 e2; omega), fgo]
              rw [validP_step (by simp), hG, if_neg (by decide)] at hv
              simp (implicitDefEqProofs := false) only [sB, simprocAttr, byteAV_n8, h1, opE_glob, G0, G1, Gu0, Gu1, hf, hc.1, hc.2, an7, wz, ac0, acl, sh4, fd4, ne, l2, l3, l4, m2, m3, m4, b1, b2, d1, d2, e1, e2]
              refine i_new fun zz hzz => ?_
              simp (implicitDefEqProofs := false) only [sB, simprocAttr, byteAV_n8, an7, wz, ac0, acl, ne, l2, l3, l4, m2, m3, m4, b1, b2, d1, d2, e1, e2]
              first | exact ⟨H1, .tail _ _, ⟨r, rfl, by simp only [List.length_cons, List.length_nil] at ht; (try simp only [List.length_cons, List.length_nil]); omega, hv, rfl⟩, by simp⟩ | exact ⟨H1, .tail _ _, r, rfl, by simp only [List.length_cons, List.length_nil] at ht; (try simp only [List.length_cons, List.length_nil]); omega, hv, rfl⟩ | exact ⟨H1, .tail _ _, ⟨r, rfl, by simp only [List.length_cons, List.length_nil] at ht; (try simp only [List.length_cons, List.length_nil]); omega, hv, rfl⟩, by omega⟩
            | C3 k q e1 e2 e3 =>
              rw [q] at hf
              rw [e1, e2, e3] at hF
              by_cases b1 : n8 b < 128
              · have hG : (fst (c :: b :: d :: e :: r)).1 = 0 := by rw [hF, fgo, if_pos (.inl (by unfold n8 at b1; omega))]
                rw [validP_step (by simp), if_pos hG] at hv
                simp (implicitDefEqProofs := false) only [sB, simprocAttr, byteAV_n8, h1, opE_glob, G0, G1, Gu0, Gu1, hf, hc.1, hc.2, an7, wz, ac0, acl, sh4, fd4, ne, l2, l3, l4, m2, m3, m4, b1]
                refine i_new fun zz hzz => ?_
                simp (implicitDefEqProofs := false) only [sB, simprocAttr, byteAV_n8, an7, wz, ac0, acl, ne, l2, l3, l4, m2, m3, m4, b1]
                exact hQ _ _ _ ⟨H1, .tail _ _, rfl, .inr ⟨rfl, rfl, hv.symm⟩⟩
              by_cases b2 : 191 < n8 b
              · have hG : (fst (c :: b :: d :: e :: r)).1 = 0 := by rw [hF, fgo, if_pos (.inr (by unfold n8 at b2; omega))]
                rw [validP_step (by simp), if_pos hG] at hv
                simp (implicitDefEqProofs := false) only [sB, simprocAttr, byteAV_n8, h1, opE_glob, G0, G1, Gu0, Gu1, hf, hc.1, hc.2, an7, wz, ac0, acl, sh4, fd4, ne, l2, l3, l4, m2, m3, m4, b1, b2]
                refine i_new fun zz hzz => ?_
                simp (implicitDefEqProofs := false) only [sB, simprocAttr, byteAV_n8, an7, wz, ac0, acl, ne, l2, l3, l4, m2, m3, m4, b1, b2]
                exact hQ _ _ _ ⟨H1, .tail _ _, rfl, .inr ⟨rfl, rfl, hv.symm⟩⟩
              by_cases d1 : n8 d < 128
              · have hG : (fst (c :: b :: d :: e :: r)).1 = 0 := by rw [hF, fgo, if_neg (by unfold n8 at b1 b2; omega), fgo, if_pos (.inl (by unfold n8 at d1; omega))]
                rw [validP_step (by simp), if_pos hG] at hv
                simp (implicitDefEqProofs := false) only [sB, simprocAttr, byteAV_n8, h1, opE_glob, G0, G1, Gu0, Gu1, hf, hc.1, hc.2, an7, wz, ac0, acl, sh4, fd4, ne, l2, l3, l4, m2, m3, m4, b1, b2, d1]
                refine i_new fun zz hzz => ?_
                simp (implicitDefEqProofs := false) only [sB, simprocAttr, byteAV_n8, an7, wz, ac0, acl, ne, l2, l3, l4, m2, m3, m4, b1, b2, d1]
                exact hQ _ _ _ ⟨H1, .tail _ _, rfl, .inr ⟨rfl, rfl, hv.symm⟩⟩
              by_cases d2 : 191 < n8 d
              · have hG : (fst (c :: b :: d :: e :: r)).1 = 0 := by rw [hF, fgo, if_neg (by unfold n8 at b1 b2; omega), fgo, if_pos (.inr (by unfold n8 at d2; omega))]
                rw [validP_step (by simp), if_pos hG] at hv
                simp (implicitDefEqProofs := false) only [sB, simprocAttr, byteAV_n8, h1, opE_glob, G0, G1, Gu0, Gu1, hf, hc.1, hc.2, an7, wz, ac0, acl, sh4, fd4, ne, l2, l3, l4, m2, m3, m4, b1, b2, d1, d2]
                refine i_new fun zz hzz => ?_
                simp (implicitDefEqProofs := false) only [sB, simprocAttr, byteAV_n8, an7, wz, ac0, acl, ne, l2, l3, l4, m2, m3, m4, b1, b2, d1, d2]
                exact hQ _ _ _ ⟨H1, .tail _ _, rfl, .inr ⟨rfl, rfl, hv.symm⟩⟩
              by_cases e1 : n8 e < 128
              · have hG : (fst (c :: b :: d :: e :: r)).1 = 0 := by rw [hF, fgo, if_neg (by unfold n8 at b1 b2; omega), fgo, if_neg (by unfold n8 at d1 d2; omega), fgo, if_pos (.inl (by unfold n8 at e1; omega))]
                rw [validP_step (by simp), if_pos hG] at hv
                simp (implicitDefEqProofs := false) only [sB, simprocAttr, byteAV_n8, h1, opE_glob, G0, G1, Gu0, Gu1, hf, hc.1, hc.2, an7, wz, ac0, acl, sh4, fd4, ne, l2, l3, l4, m2, m3, m4, b1, b2, d1, d2, e1]
                refine i_new fun zz hzz => ?_
                simp (implicitDefEqProofs := false) only [sB, simprocAttr, byteAV_n8, an7, wz, ac0, acl, ne, l2, l3, l4, m2, m3, m4, b1, b2, d1, d2, e1]
                exact hQ _ _ _ ⟨H1, .tail _ _, rfl, .inr ⟨rfl, rfl, hv.symm⟩⟩
              by_cases e2 : 191 < n8 e
              · have hG : (fst (c :: b :: d :: e :: r)).1 = 0 := by rw [hF, fgo, if_neg (by unfold n8 at b1 b2; omega), fgo, if_neg (by unfold n8 at d1 d2; omega), fgo, if_pos (.inr (by unfold n8 at e2; omega))]
                rw [validP_step (by simp), if_pos hG] at hv
                simp (implicitDefEqProofs := false) only [sB, simprocAttr, byteAV_n8, h1, opE_glob, G0, G1, Gu0, Gu1, hf, hc.1, hc.2, an7, wz, ac0, acl, sh4, fd4, ne, l2, l3, l4, m2, m3, m4, b1, b2, d1, d2, e1, e2]
                refine i_new fun zz hzz => ?_
                simp (implicitDefEqProofs := false) only [sB, simprocAttr, byteAV_n8, an7, wz, ac0, acl, ne, l2, l3, l4, m2, m3, m4, b1, b2, d1, d2, e1, e2]
                exact hQ _ _ _ ⟨H1, .tail _ _, rfl, .inr ⟨rfl, rfl, hv.symm⟩⟩
              have hG : fst (c :: b :: d :: e :: r) = (4, false) := by rw [hF, fgo, if_neg (by unfold n8 at b1 b2; omega), fgo, if_neg (by unfold n8 at d1 d2; omega), fgo, if_neg (by unfold n8 at e1 e2; omega), fgo]
              rw [validP_step (by simp), hG, if_neg (by decide)] at hv
              simp (implicitDefEqProofs := false) only [sB, simprocAttr, byteAV_n8, h1, opE_glob, G0, G1, Gu0, Gu1, hf, hc.1, hc.2, an7, wz, ac0, acl, sh4, fd4, ne, l2, l3, l4, m2, m3, m4, b1, b2, d1, d2, e1, e2]
              refine i_new fun zz hzz => ?_
              simp (implicitDefEqProofs := false) only [sB, simprocAttr, byteAV_n8, an7, wz, ac0, acl, ne, l2, l3, l4, m2, m3, m4, b1, b2, d1, d2, e1, e2]
              first | exact ⟨H1, .tail _ _, ⟨r, rfl, by simp only [List.length_cons, List.length_nil] at ht; (try simp only [List.length_cons, List.length_nil]); omega, hv, rfl⟩, by simp⟩ | exact ⟨H1, .tail _ _, r, rfl, by simp only [List.length_cons, List.length_nil] at ht; (try simp only [List.length_cons, List.length_nil]); omega, hv, rfl⟩ | exact ⟨H1, .tail _ _, ⟨r, rfl, by simp only [List.length_cons, List.length_nil] at ht; (try simp only [List.length_cons, List.length_nil]); omega, hv, rfl⟩, by omega⟩
end Go.AL.Fun
