/- DecodeRune. Printed by gu9.py. -/
import Derived.Test.YtijioomcpecdhaaDoorR8
set_option linter.unusedSimpArgs false
set_option linter.unusedVariables false
set_option maxRecDepth 100000
set_option maxHeartbeats 4000000
namespace Go.AL.Fun
open Go Go.AL

theorem or_i32 (x y : Nat) (hx : x < 2147483648) (hy : y < 2147483648) : intB .or .i32 x y = ((x ||| y : Nat) : Int) := by
  show IntKind.wrap .i32 (((BitVec.ofInt 32 (x : Int)) ||| (BitVec.ofInt 32 (y : Int))).toNat : Int) = _
  rw [ofInt_nat, ofInt_nat, BitVec.toNat_or, BitVec.toNat_ofNat, BitVec.toNat_ofNat, Nat.mod_eq_of_lt (by omega), Nat.mod_eq_of_lt (by omega)]
  have : x ||| y < 2 ^ 31 := Nat.or_lt_two_pow hx hy
  exact w_i32 _ (by omega) (by omega)
/-- An or of parts that do not meet. -/
theorem or_add (k : Nat) (A B : Int) (q : Int) (hA : A = q * 2 ^ k) (hq : 0 ≤ q) (h2 : 0 ≤ B) (h3 : B < 2 ^ k) (h4 : A < 2147483648) (h5 : (2 : Int) ^ k ≤ 2147483648) : intB .or .i32 A B = A + B := by
  obtain ⟨x, rfl⟩ := Int.eq_ofNat_of_zero_le hq
  obtain ⟨y, rfl⟩ := Int.eq_ofNat_of_zero_le h2
  have e : A = ((x <<< k : Nat) : Int) := by rw [hA, Nat.shiftLeft_eq, Int.natCast_mul, Int.natCast_pow]; rfl
  subst e
  have h3' : y < 2 ^ k := by
    have : ((y : Nat) : Int) < ((2 ^ k : Nat) : Int) := by rw [Int.natCast_pow]; exact h3
    exact Int.ofNat_lt.1 this
  have h5' : 2 ^ k ≤ 2147483648 := by
    have : ((2 ^ k : Nat) : Int) ≤ ((2147483648 : Nat) : Int) := by rw [Int.natCast_pow]; exact h5
    exact Int.ofNat_le.1 this
  rw [or_i32 _ _ (Int.ofNat_lt.1 (show ((x <<< k : Nat) : Int) < ((2147483648 : Nat) : Int) from h4)) (by omega), ← Nat.shiftLeft_add_eq_or_of_lt h3']
  exact Int.natCast_add _ _
theorem and31b (a : Int) (h0 : 0 ≤ a) (h1 : a < 256) : intB .and .u8 a 31 = a % 32 := by
  obtain ⟨n, rfl⟩ := Int.eq_ofNat_of_zero_le h0
  have := and_u8 n 31 (by omega) (by omega)
  rw [show (31 : Int) = ((31 : Nat) : Int) from rfl, this, show n &&& 31 = n % 32 from Nat.and_two_pow_sub_one_eq_mod n 5]
  omega
theorem and15b (a : Int) (h0 : 0 ≤ a) (h1 : a < 256) : intB .and .u8 a 15 = a % 16 := by
  obtain ⟨n, rfl⟩ := Int.eq_ofNat_of_zero_le h0
  have := and_u8 n 15 (by omega) (by omega)
  rw [show (15 : Int) = ((15 : Nat) : Int) from rfl, this, show n &&& 15 = n % 16 from Nat.and_two_pow_sub_one_eq_mod n 4]
  omega
theorem and7b (a : Int) (h0 : 0 ≤ a) (h1 : a < 256) : intB .and .u8 a 7 = a % 8 := by
  obtain ⟨n, rfl⟩ := Int.eq_ofNat_of_zero_le h0
  have := and_u8 n 7 (by omega) (by omega)
  rw [show (7 : Int) = ((7 : Nat) : Int) from rfl, this, show n &&& 7 = n % 8 from Nat.and_two_pow_sub_one_eq_mod n 3]
  omega
theorem andnf : ∀ x : Fin 256, intB .andNot .i32 (x.val : Int) (-1) = 0 := by decide +kernel
theorem andn (a : Int) (h0 : 0 ≤ a) (h1 : a < 256) : intB .andNot .i32 a (-1) = 0 := by
  obtain ⟨n, rfl⟩ := Int.eq_ofNat_of_zero_le h0
  exact andnf ⟨n, by omega⟩
theorem e_anot {G : Nat → Option (List AV)} {P : Program} {T : Tbl} {H : Heap} {K : AV → Heap → Prop} (k : IntKind) (a b : Int) : effS G P T (.bin .andNot) [.int k a, .int k b] H K = K (.int k (intB .andNot k a b)) H := by simp [effS, AOp.quiet, quietS, pureF, binF, optS]
theorem x_anot {t : Th} {H : Heap} {K : Kv} (k : IntKind) (a b : Int) : xE (t := t) (.bin .andNot) [.int k a, .int k b] H (K := K) = K.ap (.int k (intB .andNot k a b)) H := e_anot _ _ _
theorem badm : intB .and .i32 65533 (-1) = 65533 ∧ intB .or .i32 0 65533 = 65533 := by decide
theorem sh31 : (2 : Int) ^ (if 31 ≤ IntKind.i32.bits then 31 else IntKind.i32.bits) = 2147483648 := by decide
theorem wbad : IntKind.wrap .i32 517543559168 = -2147483648 ∧ Int.fdiv (-2147483648) 2147483648 = -1 ∧ IntKind.wrap .i32 241 = 241 := by decide
theorem dec1_bad {s : List UInt8} (h : (fst s).1 = 0) : dec1 s = (65533, 1) := by unfold dec1; rw [if_pos h]

def c111 (xs : List AV) (H : Heap) (K : Kv) : Prop := ∃ (c : UInt8) (r : List UInt8) (t : Tok), xs = [.sl (bytesAV (c :: r)) t] ∧ 128 ≤ n8 c ∧ r.length ≤ 1099511627776 ∧ K.ap (.tup [.int .i32 (dec1 (c :: r)).1, .int .i64 (dec1 (c :: r)).2]) H
theorem c111_of (P : Program) {xs : List AV} {H : Heap} {K : Kv} (h : c111 xs H K) : @xF (tU P []) f111 xs H ⟨fun v H' => ∃ H0, Hle H0 H' ∧ K.ap v H0⟩ := by
  obtain ⟨c, r, t, rfl, h1, hl, h⟩ := h
  have hc := n8_lt c
  have hf := first_at c
  rcases cls_of c with ⟨k1, q⟩ | ⟨_, h0, q⟩ | ⟨_, h0, sz, lo, hi, v, hcl⟩
  · omega
  · rw [q] at hf
    have F : dec1 (c :: r) = (65533, 1) := dec1_bad (by rw [fst, if_neg (by unfold n8 at h1; omega), if_pos h0])
    rw [F] at h
    have ne : ¬ ((r.length + 1 : Nat) : Int) < 1 := by omega
    have wc := w_i32 (n8 c) (by omega) (by omega)
    have an := andn (n8 c) hc.1 hc.2
    simp (implicitDefEqProofs := false) only [sB, simprocAttr, f111, byteAV_n8, opE_glob, G0, G1, Gu0, Gu1, hf, hc.1, hc.2, an7, wz, ac0, acl, sh4, fd4, sh6, sh12, sh18, ne, sh31, wbad, wc, an, badm, x_anot]
    exact ⟨_, .refl _, h⟩
  · rcases r with _ | ⟨b, _ | ⟨d, _ | ⟨e, r⟩⟩⟩
    · have hF := fst_cls [] h1 h0
      cases hcl with
      | A k q e1 e2 e3 =>
        rw [q] at hf
        rw [e1, e2, e3] at hF
        have F : dec1 ([c]) = (65533, 1) := dec1_bad (by rw [hF]; rfl)
        rw [F] at h
        simp (implicitDefEqProofs := false) only [sB, simprocAttr, f111, byteAV_n8, opE_glob, G0, G1, Gu0, Gu1, hf, hc.1, hc.2, an7, wz, ac0, acl, sh4, fd4, sh6, sh12, sh18]
        refine i_new fun z hz => ?_
        simp (implicitDefEqProofs := false) only [sB, simprocAttr, ac0, acl, sh6, sh12, sh18]
        exact ⟨_, .tail _ _, h⟩
      | B1 k q e1 e2 e3 =>
        rw [q] at hf
        rw [e1, e2, e3] at hF
        have F : dec1 ([c]) = (65533, 1) := dec1_bad (by rw [hF]; rfl)
        rw [F] at h
        simp (implicitDefEqProofs := false) only [sB, simprocAttr, f111, byteAV_n8, opE_glob, G0, G1, Gu0, Gu1, hf, hc.1, hc.2, an7, wz, ac0, acl, sh4, fd4, sh6, sh12, sh18]
        refine i_new fun z hz => ?_
        simp (implicitDefEqProofs := false) only [sB, simprocAttr, ac0, acl, sh6, sh12, sh18]
        exact ⟨_, .tail _ _, h⟩
      | B2 k q e1 e2 e3 =>
        rw [q] at hf
        rw [e1, e2, e3] at hF
        have F : dec1 ([c]) = (65533, 1) := dec1_bad (by rw [hF]; rfl)
        rw [F] at h
        simp (implicitDefEqProofs := false) only [sB, simprocAttr, f111, byteAV_n8, opE_glob, G0, G1, Gu0, Gu1, hf, hc.1, hc.2, an7, wz, ac0, acl, sh4, fd4, sh6, sh12, sh18]
        refine i_new fun z hz => ?_
        simp (implicitDefEqProofs := false) only [sB, simprocAttr, ac0, acl, sh6, sh12, sh18]
        exact ⟨_, .tail _ _, h⟩
      | B3 k q e1 e2 e3 =>
        rw [q] at hf
        rw [e1, e2, e3] at hF
        have F : dec1 ([c]) = (65533, 1) := dec1_bad (by rw [hF]; rfl)
        rw [F] at h
        simp (implicitDefEqProofs := false) only [sB, simprocAttr, f111, byteAV_n8, opE_glob, G0, G1, Gu0, Gu1, hf, hc.1, hc.2, an7, wz, ac0, acl, sh4, fd4, sh6, sh12, sh18]
        refine i_new fun z hz => ?_
        simp (implicitDefEqProofs := false) only [sB, simprocAttr, ac0, acl, sh6, sh12, sh18]
        exact ⟨_, .tail _ _, h⟩
      | C1 k q e1 e2 e3 =>
        rw [q] at hf
        rw [e1, e2, e3] at hF
        have F : dec1 ([c]) = (65533, 1) := dec1_bad (by rw [hF]; rfl)
        rw [F] at h
        simp (implicitDefEqProofs := false) only [sB, simprocAttr, f111, byteAV_n8, opE_glob, G0, G1, Gu0, Gu1, hf, hc.1, hc.2, an7, wz, ac0, acl, sh4, fd4, sh6, sh12, sh18]
        refine i_new fun z hz => ?_
        simp (implicitDefEqProofs := false) only [sB, simprocAttr, ac0, acl, sh6, sh12, sh18]
        exact ⟨_, .tail _ _, h⟩
      | C2 k q e1 e2 e3 =>
        rw [q] at hf
        rw [e1, e2, e3] at hF
        have F : dec1 ([c]) = (65533, 1) := dec1_bad (by rw [hF]; rfl)
        rw [F] at h
        simp (implicitDefEqProofs := false) only [sB, simprocAttr, f111, byteAV_n8, opE_glob, G0, G1, Gu0, Gu1, hf, hc.1, hc.2, an7, wz, ac0, acl, sh4, fd4, sh6, sh12, sh18]
        refine i_new fun z hz => ?_
        simp (implicitDefEqProofs := false) only [sB, simprocAttr, ac0, acl, sh6, sh12, sh18]
        exact ⟨_, .tail _ _, h⟩
      | C3 k q e1 e2 e3 =>
        rw [q] at hf
        rw [e1, e2, e3] at hF
        have F : dec1 ([c]) = (65533, 1) := dec1_bad (by rw [hF]; rfl)
        rw [F] at h
        simp (implicitDefEqProofs := false) only [sB, simprocAttr, f111, byteAV_n8, opE_glob, G0, G1, Gu0, Gu1, hf, hc.1, hc.2, an7, wz, ac0, acl, sh4, fd4, sh6, sh12, sh18]
        refine i_new fun z hz => ?_
        simp (implicitDefEqProofs := false) only [sB, simprocAttr, ac0, acl, sh6, sh12, sh18]
        exact ⟨_, .tail _ _, h⟩
    · have hF := fst_cls [b] h1 h0
      cases hcl with
      | A k q e1 e2 e3 =>
        rw [q] at hf
        rw [e1, e2, e3] at hF
        by_cases b1 : n8 b < 128
        · have F : dec1 ([c, b]) = (65533, 1) := dec1_bad (by rw [hF, fgo, if_pos (.inl (by unfold n8 at b1; omega))])
          rw [F] at h
          simp (implicitDefEqProofs := false) only [sB, simprocAttr, f111, byteAV_n8, opE_glob, G0, G1, Gu0, Gu1, hf, hc.1, hc.2, an7, wz, ac0, acl, sh4, fd4, sh6, sh12, sh18, b1]
          refine i_new fun z hz => ?_
          simp (implicitDefEqProofs := false) only [sB, simprocAttr, ac0, acl, sh6, sh12, sh18, b1]
          exact ⟨_, .tail _ _, h⟩
        by_cases b2 : 191 < n8 b
        · have F : dec1 ([c, b]) = (65533, 1) := dec1_bad (by rw [hF, fgo, if_pos (.inr (by unfold n8 at b2; omega))])
          rw [F] at h
          simp (implicitDefEqProofs := false) only [sB, simprocAttr, f111, byteAV_n8, opE_glob, G0, G1, Gu0, Gu1, hf, hc.1, hc.2, an7, wz, ac0, acl, sh4, fd4, sh6, sh12, sh18, b1, b2]
          refine i_new fun z hz => ?_
          simp (implicitDefEqProofs := false) only [sB, simprocAttr, ac0, acl, sh6, sh12, sh18, b1, b2]
          exact ⟨_, .tail _ _, h⟩
        have hb := n8_lt b
        have hG : fst ([c, b]) = (2, false) := by rw [hF, fgo, if_neg (by unfold n8 at b1 b2; omega), fgo]
        have F : dec1 ([c, b]) = ((n8 c - 192) * 64 + (n8 b - 128), 2) := by rw [dec1, hG, if_neg (by decide)]; rfl
        rw [F] at h
        have a1 : intB .and .u8 (n8 c) 31 = n8 c - 192 := by rw [and31b _ hc.1 hc.2]; omega
        have a2 := w_i32 (n8 c - 192) (by omega) (by omega)
        have a3 := w_i32 ((n8 c - 192) * 64) (by omega) (by omega)
        have a4 : intB .and .u8 (n8 b) 63 = n8 b - 128 := by rw [and63b _ hb.1 hb.2]; omega
        have a5 := w_i32 (n8 b - 128) (by omega) (by omega)
        have a6 := or_add 6 ((n8 c - 192) * 64) (n8 b - 128) (n8 c - 192) rfl (by omega) (by omega) (by omega) (by omega) (by decide)
        simp (implicitDefEqProofs := false) only [sB, simprocAttr, f111, byteAV_n8, opE_glob, G0, G1, Gu0, Gu1, hf, hc.1, hc.2, an7, wz, ac0, acl, sh4, fd4, sh6, sh12, sh18, b1, b2, a1, a2, a3, a4, a5, a6]
        refine i_new fun z hz => ?_
        simp (implicitDefEqProofs := false) only [sB, simprocAttr, ac0, acl, sh6, sh12, sh18, b1, b2, a1, a2, a3, a4, a5, a6]
        exact ⟨_, .tail _ _, h⟩
      | B1 k q e1 e2 e3 =>
        rw [q] at hf
        rw [e1, e2, e3] at hF
        have F : dec1 ([c, b]) = (65533, 1) := dec1_bad (by rw [hF]; simp only [fgo]; (repeat' split) <;> rfl)
        rw [F] at h
        simp (implicitDefEqProofs := false) only [sB, simprocAttr, f111, byteAV_n8, opE_glob, G0, G1, Gu0, Gu1, hf, hc.1, hc.2, an7, wz, ac0, acl, sh4, fd4, sh6, sh12, sh18]
        refine i_new fun z hz => ?_
        simp (implicitDefEqProofs := false) only [sB, simprocAttr, ac0, acl, sh6, sh12, sh18]
        exact ⟨_, .tail _ _, h⟩
      | B2 k q e1 e2 e3 =>
        rw [q] at hf
        rw [e1, e2, e3] at hF
        have F : dec1 ([c, b]) = (65533, 1) := dec1_bad (by rw [hF]; simp only [fgo]; (repeat' split) <;> rfl)
        rw [F] at h
        simp (implicitDefEqProofs := false) only [sB, simprocAttr, f111, byteAV_n8, opE_glob, G0, G1, Gu0, Gu1, hf, hc.1, hc.2, an7, wz, ac0, acl, sh4, fd4, sh6, sh12, sh18]
        refine i_new fun z hz => ?_
        simp (implicitDefEqProofs := false) only [sB, simprocAttr, ac0, acl, sh6, sh12, sh18]
        exact ⟨_, .tail _ _, h⟩
      | B3 k q e1 e2 e3 =>
        rw [q] at hf
        rw [e1, e2, e3] at hF
        have F : dec1 ([c, b]) = (65533, 1) := dec1_bad (by rw [hF]; simp only [fgo]; (repeat' split) <;> rfl)
        rw [F] at h
        simp (implicitDefEqProofs := false) only [sB, simprocAttr, f111, byteAV_n8, opE_glob, G0, G1, Gu0, Gu1, hf, hc.1, hc.2, an7, wz, ac0, acl, sh4, fd4, sh6, sh12, sh18]
        refine i_new fun z hz => ?_
        simp (implicitDefEqProofs := false) only [sB, simprocAttr, ac0, acl, sh6, sh12, sh18]
        exact ⟨_, .tail _ _, h⟩
      | C1 k q e1 e2 e3 =>
        rw [q] at hf
        rw [e1, e2, e3] at hF
        have F : dec1 ([c, b]) = (65533, 1) := dec1_bad (by rw [hF]; simp only [fgo]; (repeat' split) <;> rfl)
        rw [F] at h
        simp (implicitDefEqProofs := false) only [sB, simprocAttr, f111, byteAV_n8, opE_glob, G0, G1, Gu0, Gu1, hf, hc.1, hc.2, an7, wz, ac0, acl, sh4, fd4, sh6, sh12, sh18]
        refine i_new fun z hz => ?_
        simp (implicitDefEqProofs := false) only [sB, simprocAttr, ac0, acl, sh6, sh12, sh18]
        exact ⟨_, .tail _ _, h⟩
      | C2 k q e1 e2 e3 =>
        rw [q] at hf
        rw [e1, e2, e3] at hF
        have F : dec1 ([c, b]) = (65533, 1) := dec1_bad (by rw [hF]; simp only [fgo]; (repeat' split) <;> rfl)
        rw [F] at h
        simp (implicitDefEqProofs := false) only [sB, simprocAttr, f111, byteAV_n8, opE_glob, G0, G1, Gu0, Gu1, hf, hc.1, hc.2, an7, wz, ac0, acl, sh4, fd4, sh6, sh12, sh18]
        refine i_new fun z hz => ?_
        simp (implicitDefEqProofs := false) only [sB, simprocAttr, ac0, acl, sh6, sh12, sh18]
        exact ⟨_, .tail _ _, h⟩
      | C3 k q e1 e2 e3 =>
        rw [q] at hf
        rw [e1, e2, e3] at hF
        have F : dec1 ([c, b]) = (65533, 1) := dec1_bad (by rw [hF]; simp only [fgo]; (repeat' split) <;> rfl)
        rw [F] at h
        simp (implicitDefEqProofs := false) only [sB, simprocAttr, f111, byteAV_n8, opE_glob, G0, G1, Gu0, Gu1, hf, hc.1, hc.2, an7, wz, ac0, acl, sh4, fd4, sh6, sh12, sh18]
        refine i_new fun z hz => ?_
        simp (implicitDefEqProofs := false) only [sB, simprocAttr, ac0, acl, sh6, sh12, sh18]
        exact ⟨_, .tail _ _, h⟩
    · have hF := fst_cls [b, d] h1 h0
      cases hcl with
      | A k q e1 e2 e3 =>
        rw [q] at hf
        rw [e1, e2, e3] at hF
        by_cases b1 : n8 b < 128
        · have F : dec1 ([c, b, d]) = (65533, 1) := dec1_bad (by rw [hF, fgo, if_pos (.inl (by unfold n8 at b1; omega))])
          rw [F] at h
          simp (implicitDefEqProofs := false) only [sB, simprocAttr, f111, byteAV_n8, opE_glob, G0, G1, Gu0, Gu1, hf, hc.1, hc.2, an7, wz, ac0, acl, sh4, fd4, sh6, sh12, sh18, b1]
          refine i_new fun z hz => ?_
          simp (implicitDefEqProofs := false) only [sB, simprocAttr, ac0, acl, sh6, sh12, sh18, b1]
          exact ⟨_, .tail _ _, h⟩
        by_cases b2 : 191 < n8 b
        · have F : dec1 ([c, b, d]) = (65533, 1) := dec1_bad (by rw [hF, fgo, if_pos (.inr (by unfold n8 at b2; omega))])
          rw [F] at h
          simp (implicitDefEqProofs := false) only [sB, simprocAttr, f111, byteAV_n8, opE_glob, G0, G1, Gu0, Gu1, hf, hc.1, hc.2, an7, wz, ac0, acl, sh4, fd4, sh6, sh12, sh18, b1, b2]
          refine i_new fun z hz => ?_
          simp (implicitDefEqProofs := false) only [sB, simprocAttr, ac0, acl, sh6, sh12, sh18, b1, b2]
          exact ⟨_, .tail _ _, h⟩
        have hb := n8_lt b
        have hG : fst ([c, b, d]) = (2, false) := by rw [hF, fgo, if_neg (by unfold n8 at b1 b2; omega), fgo]
        have F : dec1 ([c, b, d]) = ((n8 c - 192) * 64 + (n8 b - 128), 2) := by rw [dec1, hG, if_neg (by decide)]; rfl
        rw [F] at h
        have a1 : intB .and .u8 (n8 c) 31 = n8 c - 192 := by rw [and31b _ hc.1 hc.2]; omega
        have a2 := w_i32 (n8 c - 192) (by omega) (by omega)
        have a3 := w_i32 ((n8 c - 192) * 64) (by omega) (by omega)
        have a4 : intB .and .u8 (n8 b) 63 = n8 b - 128 := by rw [and63b _ hb.1 hb.2]; omega
        have a5 := w_i32 (n8 b - 128) (by omega) (by omega)
        have a6 := or_add 6 ((n8 c - 192) * 64) (n8 b - 128) (n8 c - 192) rfl (by omega) (by omega) (by omega) (by omega) (by decide)
        simp (implicitDefEqProofs := false) only [sB, simprocAttr, f111, byteAV_n8, opE_glob, G0, G1, Gu0, Gu1, hf, hc.1, hc.2, an7, wz, ac0, acl, sh4, fd4, sh6, sh12, sh18, b1, b2, a1, a2, a3, a4, a5, a6]
        refine i_new fun z hz => ?_
        simp (implicitDefEqProofs := false) only [sB, simprocAttr, ac0, acl, sh6, sh12, sh18, b1, b2, a1, a2, a3, a4, a5, a6]
        exact ⟨_, .tail _ _, h⟩
      | B1 k q e1 e2 e3 =>
        rw [q] at hf
        rw [e1, e2, e3] at hF
        by_cases b1 : n8 b < 160
        · have F : dec1 ([c, b, d]) = (65533, 1) := dec1_bad (by rw [hF, fgo, if_pos (.inl (by unfold n8 at b1; omega))])
          rw [F] at h
          simp (implicitDefEqProofs := false) only [sB, simprocAttr, f111, byteAV_n8, opE_glob, G0, G1, Gu0, Gu1, hf, hc.1, hc.2, an7, wz, ac0, acl, sh4, fd4, sh6, sh12, sh18, b1]
          refine i_new fun z hz => ?_
          simp (implicitDefEqProofs := false) only [sB, simprocAttr, ac0, acl, sh6, sh12, sh18, b1]
          exact ⟨_, .tail _ _, h⟩
        by_cases b2 : 191 < n8 b
        · have F : dec1 ([c, b, d]) = (65533, 1) := dec1_bad (by rw [hF, fgo, if_pos (.inr (by unfold n8 at b2; omega))])
          rw [F] at h
          simp (implicitDefEqProofs := false) only [sB, simprocAttr, f111, byteAV_n8, opE_glob, G0, G1, Gu0, Gu1, hf, hc.1, hc.2, an7, wz, ac0, acl, sh4, fd4, sh6, sh12, sh18, b1, b2]
          refine i_new fun z hz => ?_
          simp (implicitDefEqProofs := false) only [sB, simprocAttr, ac0, acl, sh6, sh12, sh18, b1, b2]
          exact ⟨_, .tail _ _, h⟩
        have hb := n8_lt b
        have hd := n8_lt d
        by_cases d1 : n8 d < 128
        · have F : dec1 ([c, b, d]) = (65533, 1) := dec1_bad (by rw [hF, fgo, if_neg (by unfold n8 at b1 b2; omega), fgo, if_pos (.inl (by unfold n8 at d1; omega))])
          rw [F] at h
          simp (implicitDefEqProofs := false) only [sB, simprocAttr, f111, byteAV_n8, opE_glob, G0, G1, Gu0, Gu1, hf, hc.1, hc.2, an7, wz, ac0, acl, sh4, fd4, sh6, sh12, sh18, b1, b2, d1]
          refine i_new fun z hz => ?_
          simp (implicitDefEqProofs := false) only [sB, simprocAttr, ac0, acl, sh6, sh12, sh18, b1, b2, d1]
          exact ⟨_, .tail _ _, h⟩
        by_cases d2 : 191 < n8 d
        · have F : dec1 ([c, b, d]) = (65533, 1) := dec1_bad (by rw [hF, fgo, if_neg (by unfold n8 at b1 b2; omega), fgo, if_pos (.inr (by unfold n8 at d2; omega))])
          rw [F] at h
          simp (implicitDefEqProofs := false) only [sB, simprocAttr, f111, byteAV_n8, opE_glob, G0, G1, Gu0, Gu1, hf, hc.1, hc.2, an7, wz, ac0, acl, sh4, fd4, sh6, sh12, sh18, b1, b2, d1, d2]
          refine i_new fun z hz => ?_
          simp (implicitDefEqProofs := false) only [sB, simprocAttr, ac0, acl, sh6, sh12, sh18, b1, b2, d1, d2]
          exact ⟨_, .tail _ _, h⟩
        have hG : fst ([c, b, d]) = (3, false) := by rw [hF, fgo, if_neg (by unfold n8 at b1 b2; omega), fgo, if_neg (by unfold n8 at d1 d2; omega), fgo]
        have F : dec1 ([c, b, d]) = ((n8 c - 224) * 4096 + (n8 b - 128) * 64 + (n8 d - 128), 3) := by rw [dec1, hG, if_neg (by decide)]; rfl
        rw [F] at h
        have a1 : intB .and .u8 (n8 c) 15 = n8 c - 224 := by rw [and15b _ hc.1 hc.2]; omega
        have a2 := w_i32 (n8 c - 224) (by omega) (by omega)
        have a3 := w_i32 ((n8 c - 224) * 4096) (by omega) (by omega)
        have a4 : intB .and .u8 (n8 b) 63 = n8 b - 128 := by rw [and63b _ hb.1 hb.2]; omega
        have a5 := w_i32 (n8 b - 128) (by omega) (by omega)
        have a6 := w_i32 ((n8 b - 128) * 64) (by omega) (by omega)
        have a7 : intB .and .u8 (n8 d) 63 = n8 d - 128 := by rw [and63b _ hd.1 hd.2]; omega
        have a8 := w_i32 (n8 d - 128) (by omega) (by omega)
        have o1 := or_add 12 ((n8 c - 224) * 4096) ((n8 b - 128) * 64) (n8 c - 224) rfl (by omega) (by omega) (by omega) (by omega) (by decide)
        have o2 := or_add 6 ((n8 c - 224) * 4096 + (n8 b - 128) * 64) (n8 d - 128) ((n8 c - 224) * 64 + (n8 b - 128)) (by omega) (by omega) (by omega) (by omega) (by omega) (by decide)
        simp (implicitDefEqProofs := false) only [sB, simprocAttr, f111, byteAV_n8, opE_glob, G0, G1, Gu0, Gu1, hf, hc.1, hc.2, an7, wz, ac0, acl, sh4, fd4, sh6, sh12, sh18, b1, b2, d1, d2, a1, a2, a3, a4, a5, a6, a7, a8, o1, o2]
        refine i_new fun z hz => ?_
        simp (implicitDefEqProofs := false) only [sB, simprocAttr, ac0, acl, sh6, sh12, sh18, b1, b2, d1, d2, a1, a2, a3, a4, a5, a6, a7, a8, o1, o2]
        exact ⟨_, .tail _ _, h⟩
      | B2 k q e1 e2 e3 =>
        rw [q] at hf
        rw [e1, e2, e3] at hF
        by_cases b1 : n8 b < 128
        · have F : dec1 ([c, b, d]) = (65533, 1) := dec1_bad (by rw [hF, fgo, if_pos (.inl (by unfold n8 at b1; omega))])
          rw [F] at h
          simp (implicitDefEqProofs := false) only [sB, simprocAttr, f111, byteAV_n8, opE_glob, G0, G1, Gu0, Gu1, hf, hc.1, hc.2, an7, wz, ac0, acl, sh4, fd4, sh6, sh12, sh18, b1]
          refine i_new fun z hz => ?_
          simp (implicitDefEqProofs := false) only [sB, simprocAttr, ac0, acl, sh6, sh12, sh18, b1]
          exact ⟨_, .tail _ _, h⟩
        by_cases b2 : 159 < n8 b
        · have F : dec1 ([c, b, d]) = (65533, 1) := dec1_bad (by rw [hF, fgo, if_pos (.inr (by unfold n8 at b2; omega))])
          rw [F] at h
          simp (implicitDefEqProofs := false) only [sB, simprocAttr, f111, byteAV_n8, opE_glob, G0, G1, Gu0, Gu1, hf, hc.1, hc.2, an7, wz, ac0, acl, sh4, fd4, sh6, sh12, sh18, b1, b2]
          refine i_new fun z hz => ?_
          simp (implicitDefEqProofs := false) only [sB, simprocAttr, ac0, acl, sh6, sh12, sh18, b1, b2]
          exact ⟨_, .tail _ _, h⟩
        have hb := n8_lt b
        have hd := n8_lt d
        by_cases d1 : n8 d < 128
        · have F : dec1 ([c, b, d]) = (65533, 1) := dec1_bad (by rw [hF, fgo, if_neg (by unfold n8 at b1 b2; omega), fgo, if_pos (.inl (by unfold n8 at d1; omega))])
          rw [F] at h
          simp (implicitDefEqProofs := false) only [sB, simprocAttr, f111, byteAV_n8, opE_glob, G0, G1, Gu0, Gu1, hf, hc.1, hc.2, an7, wz, ac0, acl, sh4, fd4, sh6, sh12, sh18, b1, b2, d1]
          refine i_new fun z hz => ?_
          simp (implicitDefEqProofs := false) only [sB, simprocAttr, ac0, acl, sh6, sh12, sh18, b1, b2, d1]
          exact ⟨_, .tail _ _, h⟩
        by_cases d2 : 191 < n8 d
        · have F : dec1 ([c, b, d]) = (65533, 1) := dec1_bad (by rw [hF, fgo, if_neg (by unfold n8 at b1 b2; omega), fgo, if_pos (.inr (by unfold n8 at d2; omega))])
          rw [F] at h
          simp (implicitDefEqProofs := false) only [sB, simprocAttr, f111, byteAV_n8, opE_glob, G0, G1, Gu0, Gu1, hf, hc.1, hc.2, an7, wz, ac0, acl, sh4, fd4, sh6, sh12, sh18, b1, b2, d1, d2]
          refine i_new fun z hz => ?_
          simp (implicitDefEqProofs := false) only [sB, simprocAttr, ac0, acl, sh6, sh12, sh18, b1, b2, d1, d2]
          exact ⟨_, .tail _ _, h⟩
        have hG : fst ([c, b, d]) = (3, false) := by rw [hF, fgo, if_neg (by unfold n8 at b1 b2; omega), fgo, if_neg (by unfold n8 at d1 d2; omega), fgo]
        have F : dec1 ([c, b, d]) = ((n8 c - 224) * 4096 + (n8 b - 128) * 64 + (n8 d - 128), 3) := by rw [dec1, hG, if_neg (by decide)]; rfl
        rw [F] at h
        have a1 : intB .and .u8 (n8 c) 15 = n8 c - 224 := by rw [and15b _ hc.1 hc.2]; omega
        have a2 := w_i32 (n8 c - 224) (by omega) (by omega)
        have a3 := w_i32 ((n8 c - 224) * 4096) (by omega) (by omega)
        have a4 : intB .and .u8 (n8 b) 63 = n8 b - 128 := by rw [and63b _ hb.1 hb.2]; omega
        have a5 := w_i32 (n8 b - 128) (by omega) (by omega)
        have a6 := w_i32 ((n8 b - 128) * 64) (by omega) (by omega)
        have a7 : intB .and .u8 (n8 d) 63 = n8 d - 128 := by rw [and63b _ hd.1 hd.2]; omega
        have a8 := w_i32 (n8 d - 128) (by omega) (by omega)
        have o1 := or_add 12 ((n8 c - 224) * 4096) ((n8 b - 128) * 64) (n8 c - 224) rfl (by omega) (by omega) (by omega) (by omega) (by decide)
        have o2 := or_add 6 ((n8 c - 224) * 4096 + (n8 b - 128) * 64) (n8 d - 128) ((n8 c - 224) * 64 + (n8 b - 128)) (by omega) (by omega) (by omega) (by omega) (by omega) (by decide)
        simp (implicitDefEqProofs := false) only [sB, simprocAttr, f111, byteAV_n8, opE_glob, G0, G1, Gu0, Gu1, hf, hc.1, hc.2, an7, wz, ac0, acl, sh4, fd4, sh6, sh12, sh18, b1, b2, d1, d2, a1, a2, a3, a4, a5, a6, a7, a8, o1, o2]
        refine i_new fun z hz => ?_
        simp (implicitDefEqProofs := false) only [sB, simprocAttr, ac0, acl, sh6, sh12, sh18, b1, b2, d1, d2, a1, a2, a3, a4, a5, a6, a7, a8, o1, o2]
        exact ⟨_, .tail _ _, h⟩
      | B3 k q e1 e2 e3 =>
        rw [q] at hf
        rw [e1, e2, e3] at hF
        by_cases b1 : n8 b < 128
        · have F : dec1 ([c, b, d]) = (65533, 1) := dec1_bad (by rw [hF, fgo, if_pos (.inl (by unfold n8 at b1; omega))])
          rw [F] at h
          simp (implicitDefEqProofs := false) only [sB, simprocAttr, f111, byteAV_n8, opE_glob, G0, G1, Gu0, Gu1, hf, hc.1, hc.2, an7, wz, ac0, acl, sh4, fd4, sh6, sh12, sh18, b1]
          refine i_new fun z hz => ?_
          simp (implicitDefEqProofs := false) only [sB, simprocAttr, ac0, acl, sh6, sh12, sh18, b1]
          exact ⟨_, .tail _ _, h⟩
        by_cases b2 : 191 < n8 b
        · have F : dec1 ([c, b, d]) = (65533, 1) := dec1_bad (by rw [hF, fgo, if_pos (.inr (by unfold n8 at b2; omega))])
          rw [F] at h
          simp (implicitDefEqProofs := false) only [sB, simprocAttr, f111, byteAV_n8, opE_glob, G0, G1, Gu0, Gu1, hf, hc.1, hc.2, an7, wz, ac0, acl, sh4, fd4, sh6, sh12, sh18, b1, b2]
          refine i_new fun z hz => ?_
          simp (implicitDefEqProofs := false) only [sB, simprocAttr, ac0, acl, sh6, sh12, sh18, b1, b2]
          exact ⟨_, .tail _ _, h⟩
        have hb := n8_lt b
        have hd := n8_lt d
        by_cases d1 : n8 d < 128
        · have F : dec1 ([c, b, d]) = (65533, 1) := dec1_bad (by rw [hF, fgo, if_neg (by unfold n8 at b1 b2; omega), fgo, if_pos (.inl (by unfold n8 at d1; omega))])
          rw [F] at h
          simp (implicitDefEqProofs := false) only [sB, simprocAttr, f111, byteAV_n8, opE_glob, G0, G1, Gu0, Gu1, hf, hc.1, hc.2, an7, wz, ac0, acl, sh4, fd4, sh6, sh12, sh18, b1, b2, d1]
          refine i_new fun z hz => ?_
          simp (implicitDefEqProofs := false) only [sB, simprocAttr, ac0, acl, sh6, sh12, sh18, b1, b2, d1]
          exact ⟨_, .tail _ _, h⟩
        by_cases d2 : 191 < n8 d
        · have F : dec1 ([c, b, d]) = (65533, 1) := dec1_bad (by rw [hF, fgo, if_neg (by unfold n8 at b1 b2; omega), fgo, if_pos (.inr (by unfold n8 at d2; omega))])
          rw [F] at h
          simp (implicitDefEqProofs := false) only [sB, simprocAttr, f111, byteAV_n8, opE_glob, G0, G1, Gu0, Gu1, hf, hc.1, hc.2, an7, wz, ac0, acl, sh4, fd4, sh6, sh12, sh18, b1, b2, d1, d2]
          refine i_new fun z hz => ?_
          simp (implicitDefEqProofs := false) only [sB, simprocAttr, ac0, acl, sh6, sh12, sh18, b1, b2, d1, d2]
          exact ⟨_, .tail _ _, h⟩
        have hG : fst ([c, b, d]) = (3, false) := by rw [hF, fgo, if_neg (by unfold n8 at b1 b2; omega), fgo, if_neg (by unfold n8 at d1 d2; omega), fgo]
        have F : dec1 ([c, b, d]) = ((n8 c - 224) * 4096 + (n8 b - 128) * 64 + (n8 d - 128), 3) := by rw [dec1, hG, if_neg (by decide)]; rfl
        rw [F] at h
        have a1 : intB .and .u8 (n8 c) 15 = n8 c - 224 := by rw [and15b _ hc.1 hc.2]; omega
        have a2 := w_i32 (n8 c - 224) (by omega) (by omega)
        have a3 := w_i32 ((n8 c - 224) * 4096) (by omega) (by omega)
        have a4 : intB .and .u8 (n8 b) 63 = n8 b - 128 := by rw [and63b _ hb.1 hb.2]; omega
        have a5 := w_i32 (n8 b - 128) (by omega) (by omega)
        have a6 := w_i32 ((n8 b - 128) * 64) (by omega) (by omega)
        have a7 : intB .and .u8 (n8 d) 63 = n8 d - 128 := by rw [and63b _ hd.1 hd.2]; omega
        have a8 := w_i32 (n8 d - 128) (by omega) (by omega)
        have o1 := or_add 12 ((n8 c - 224) * 4096) ((n8 b - 128) * 64) (n8 c - 224) rfl (by omega) (by omega) (by omega) (by omega) (by decide)
        have o2 := or_add 6 ((n8 c - 224) * 4096 + (n8 b - 128) * 64) (n8 d - 128) ((n8 c - 224) * 64 + (n8 b - 128)) (by omega) (by omega) (by omega) (by omega) (by omega) (by decide)
        simp (implicitDefEqProofs := false) only [sB, simprocAttr, f111, byteAV_n8, opE_glob, G0, G1, Gu0, Gu1, hf, hc.1, hc.2, an7, wz, ac0, acl, sh4, fd4, sh6, sh12, sh18, b1, b2, d1, d2, a1, a2, a3, a4, a5, a6, a7, a8, o1, o2]
        refine i_new fun z hz => ?_
        simp (implicitDefEqProofs := false) only [sB, simprocAttr, ac0, acl, sh6, sh12, sh18, b1, b2, d1, d2, a1, a2, a3, a4, a5, a6, a7, a8, o1, o2]
        exact ⟨_, .tail _ _, h⟩
      | C1 k q e1 e2 e3 =>
        rw [q] at hf
        rw [e1, e2, e3] at hF
        have F : dec1 ([c, b, d]) = (65533, 1) := dec1_bad (by rw [hF]; simp only [fgo]; (repeat' split) <;> rfl)
        rw [F] at h
        simp (implicitDefEqProofs := false) only [sB, simprocAttr, f111, byteAV_n8, opE_glob, G0, G1, Gu0, Gu1, hf, hc.1, hc.2, an7, wz, ac0, acl, sh4, fd4, sh6, sh12, sh18]
        refine i_new fun z hz => ?_
        simp (implicitDefEqProofs := false) only [sB, simprocAttr, ac0, acl, sh6, sh12, sh18]
        exact ⟨_, .tail _ _, h⟩
      | C2 k q e1 e2 e3 =>
        rw [q] at hf
        rw [e1, e2, e3] at hF
        have F : dec1 ([c, b, d]) = (65533, 1) := dec1_bad (by rw [hF]; simp only [fgo]; (repeat' split) <;> rfl)
        rw [F] at h
        simp (implicitDefEqProofs := false) only [sB, simprocAttr, f111, byteAV_n8, opE_glob, G0, G1, Gu0, Gu1, hf, hc.1, hc.2, an7, wz, ac0, acl, sh4, fd4, sh6, sh12, sh18]
        refine i_new fun z hz => ?_
        simp (implicitDefEqProofs := false) only [sB, simprocAttr, ac0, acl, sh6, sh12, sh18]
        exact ⟨_, .tail _ _, h⟩
      | C3 k q e1 e2 e3 =>
        rw [q] at hf
        rw [e1, e2, e3] at hF
        have F : dec1 ([c, b, d]) = (65533, 1) := dec1_bad (by rw [hF]; simp only [fgo]; (repeat' split) <;> rfl)
        rw [F] at h
        simp (implicitDefEqProofs := false) only [sB, simprocAttr, f111, byteAV_n8, opE_glob, G0, G1, Gu0, Gu1, hf, hc.1, hc.2, an7, wz, ac0, acl, sh4, fd4, sh6, sh12, sh18]
        refine i_new fun z hz => ?_
        simp (implicitDefEqProofs := false) only [sB, simprocAttr, ac0, acl, sh6, sh12, sh18]
        exact ⟨_, .tail _ _, h⟩
    · have hF := fst_cls (b :: d :: e :: r) h1 h0
      have ne : ¬ ((r.length + 1 + 1 + 1 + 1 : Nat) : Int) < 1 := by omega
      have l2 : ¬ ((r.length + 1 + 1 + 1 + 1 : Nat) : Int) < 2 := by omega
      have l3 : ¬ ((r.length + 1 + 1 + 1 + 1 : Nat) : Int) < 3 := by omega
      have l4 : ¬ ((r.length + 1 + 1 + 1 + 1 : Nat) : Int) < 4 := by omega
      cases hcl with
      | A k q e1 e2 e3 =>
        rw [q] at hf
        rw [e1, e2, e3] at hF
        by_cases b1 : n8 b < 128
        · have F : dec1 (c :: b :: d :: e :: r) = (65533, 1) := dec1_bad (by rw [hF, fgo, if_pos (.inl (by unfold n8 at b1; omega))])
          rw [F] at h
          simp (implicitDefEqProofs := false) only [sB, simprocAttr, f111, byteAV_n8, opE_glob, G0, G1, Gu0, Gu1, hf, hc.1, hc.2, an7, wz, ac0, acl, sh4, fd4, sh6, sh12, sh18, ne, l2, l3, l4, b1]
          refine i_new fun z hz => ?_
          simp (implicitDefEqProofs := false) only [sB, simprocAttr, ac0, acl, sh6, sh12, sh18, ne, l2, l3, l4, b1]
          exact ⟨_, .tail _ _, h⟩
        by_cases b2 : 191 < n8 b
        · have F : dec1 (c :: b :: d :: e :: r) = (65533, 1) := dec1_bad (by rw [hF, fgo, if_pos (.inr (by unfold n8 at b2; omega))])
          rw [F] at h
          simp (implicitDefEqProofs := false) only [sB, simprocAttr, f111, byteAV_n8, opE_glob, G0, G1, Gu0, Gu1, hf, hc.1, hc.2, an7, wz, ac0, acl, sh4, fd4, sh6, sh12, sh18, ne, l2, l3, l4, b1, b2]
          refine i_new fun z hz => ?_
          simp (implicitDefEqProofs := false) only [sB, simprocAttr, ac0, acl, sh6, sh12, sh18, ne, l2, l3, l4, b1, b2]
          exact ⟨_, .tail _ _, h⟩
        have hb := n8_lt b
        have hG : fst (c :: b :: d :: e :: r) = (2, false) := by rw [hF, fgo, if_neg (by unfold n8 at b1 b2; omega), fgo]
        have F : dec1 (c :: b :: d :: e :: r) = ((n8 c - 192) * 64 + (n8 b - 128), 2) := by rw [dec1, hG, if_neg (by decide)]; rfl
        rw [F] at h
        have a1 : intB .and .u8 (n8 c) 31 = n8 c - 192 := by rw [and31b _ hc.1 hc.2]; omega
        have a2 := w_i32 (n8 c - 192) (by omega) (by omega)
        have a3 := w_i32 ((n8 c - 192) * 64) (by omega) (by omega)
        have a4 : intB .and .u8 (n8 b) 63 = n8 b - 128 := by rw [and63b _ hb.1 hb.2]; omega
        have a5 := w_i32 (n8 b - 128) (by omega) (by omega)
        have a6 := or_add 6 ((n8 c - 192) * 64) (n8 b - 128) (n8 c - 192) rfl (by omega) (by omega) (by omega) (by omega) (by decide)
        simp (implicitDefEqProofs := false) only [sB, simprocAttr, f111, byteAV_n8, opE_glob, G0, G1, Gu0, Gu1, hf, hc.1, hc.2, an7, wz, ac0, acl, sh4, fd4, sh6, sh12, sh18, ne, l2, l3, l4, b1, b2, a1, a2, a3, a4, a5, a6]
        refine i_new fun z hz => ?_
        simp (implicitDefEqProofs := false) only [sB, simprocAttr, ac0, acl, sh6, sh12, sh18, ne, l2, l3, l4, b1, b2, a1, a2, a3, a4, a5, a6]
        exact ⟨_, .tail _ _, h⟩
      | B1 k q e1 e2 e3 =>
        rw [q] at hf
        rw [e1, e2, e3] at hF
        by_cases b1 : n8 b < 160
        · have F : dec1 (c :: b :: d :: e :: r) = (65533, 1) := dec1_bad (by rw [hF, fgo, if_pos (.inl (by unfold n8 at b1; omega))])
          rw [F] at h
          simp (implicitDefEqProofs := false) only [sB, simprocAttr, f111, byteAV_n8, opE_glob, G0, G1, Gu0, Gu1, hf, hc.1, hc.2, an7, wz, ac0, acl, sh4, fd4, sh6, sh12, sh18, ne, l2, l3, l4, b1]
          refine i_new fun z hz => ?_
          simp (implicitDefEqProofs := false) only [sB, simprocAttr, ac0, acl, sh6, sh12, sh18, ne, l2, l3, l4, b1]
          exact ⟨_, .tail _ _, h⟩
        by_cases b2 : 191 < n8 b
        · have F : dec1 (c :: b :: d :: e :: r) = (65533, 1) := dec1_bad (by rw [hF, fgo, if_pos (.inr (by unfold n8 at b2; omega))])
          rw [F] at h
          simp (implicitDefEqProofs := false) only [sB, simprocAttr, f111, byteAV_n8, opE_glob, G0, G1, Gu0, Gu1, hf, hc.1, hc.2, an7, wz, ac0, acl, sh4, fd4, sh6, sh12, sh18, ne, l2, l3, l4, b1, b2]
          refine i_new fun z hz => ?_
          simp (implicitDefEqProofs := false) only [sB, simprocAttr, ac0, acl, sh6, sh12, sh18, ne, l2, l3, l4, b1, b2]
          exact ⟨_, .tail _ _, h⟩
        have hb := n8_lt b
        have hd := n8_lt d
        by_cases d1 : n8 d < 128
        · have F : dec1 (c :: b :: d :: e :: r) = (65533, 1) := dec1_bad (by rw [hF, fgo, if_neg (by unfold n8 at b1 b2; omega), fgo, if_pos (.inl (by unfold n8 at d1; omega))])
          rw [F] at h
          simp (implicitDefEqProofs := false) only [sB, simprocAttr, f111, byteAV_n8, opE_glob, G0, G1, Gu0, Gu1, hf, hc.1, hc.2, an7, wz, ac0, acl, sh4, fd4, sh6, sh12, sh18, ne, l2, l3, l4, b1, b2, d1]
          refine i_new fun z hz => ?_
          simp (implicitDefEqProofs := false) only [sB, simprocAttr, ac0, acl, sh6, sh12, sh18, ne, l2, l3, l4, b1, b2, d1]
          exact ⟨_, .tail _ _, h⟩
        by_cases d2 : 191 < n8 d
        · have F : dec1 (c :: b :: d :: e :: r) = (65533, 1) := dec1_bad (by rw [hF, fgo, if_neg (by unfold n8 at b1 b2; omega), fgo, if_pos (.inr (by unfold n8 at d2; omega))])
          rw [F] at h
          simp (implicitDefEqProofs := false) only [sB, simprocAttr, f111, byteAV_n8, opE_glob, G0, G1, Gu0, Gu1, hf, hc.1, hc.2, an7, wz, ac0, acl, sh4, fd4, sh6, sh12, sh18, ne, l2, l3, l4, b1, b2, d1, d2]
          refine i_new fun z hz => ?_
          simp (implicitDefEqProofs := false) only [sB, simprocAttr, ac0, acl, sh6, sh12, sh18, ne, l2, l3, l4, b1, b2, d1, d2]
          exact ⟨_, .tail _ _, h⟩
        have hG : fst (c :: b :: d :: e :: r) = (3, false) := by rw [hF, fgo, if_neg (by unfold n8 at b1 b2; omega), fgo, if_neg (by unfold n8 at d1 d2; omega), fgo]
        have F : dec1 (c :: b :: d :: e :: r) = ((n8 c - 224) * 4096 + (n8 b - 128) * 64 + (n8 d - 128), 3) := by rw [dec1, hG, if_neg (by decide)]; rfl
        rw [F] at h
        have a1 : intB .and .u8 (n8 c) 15 = n8 c - 224 := by rw [and15b _ hc.1 hc.2]; omega
        have a2 := w_i32 (n8 c - 224) (by omega) (by omega)
        have a3 := w_i32 ((n8 c - 224) * 4096) (by omega) (by omega)
        have a4 : intB .and .u8 (n8 b) 63 = n8 b - 128 := by rw [and63b _ hb.1 hb.2]; omega
        have a5 := w_i32 (n8 b - 128) (by omega) (by omega)
        have a6 := w_i32 ((n8 b - 128) * 64) (by omega) (by omega)
        have a7 : intB .and .u8 (n8 d) 63 = n8 d - 128 := by rw [and63b _ hd.1 hd.2]; omega
        have a8 := w_i32 (n8 d - 128) (by omega) (by omega)
        have o1 := or_add 12 ((n8 c - 224) * 4096) ((n8 b - 128) * 64) (n8 c - 224) rfl (by omega) (by omega) (by omega) (by omega) (by decide)
        have o2 := or_add 6 ((n8 c - 224) * 4096 + (n8 b - 128) * 64) (n8 d - 128) ((n8 c - 224) * 64 + (n8 b - 128)) (by omega) (by omega) (by omega) (by omega) (by omega) (by decide)
        simp (implicitDefEqProofs := false) only [sB, simprocAttr, f111, byteAV_n8, opE_glob, G0, G1, Gu0, Gu1, hf, hc.1, hc.2, an7, wz, ac0, acl, sh4, fd4, sh6, sh12, sh18, ne, l2, l3, l4, b1, b2, d1, d2, a1, a2, a3, a4, a5, a6, a7, a8, o1, o2]
        refine i_new fun z hz => ?_
        simp (implicitDefEqProofs := false) only [sB, simprocAttr, ac0, acl, sh6, sh12, sh18, ne, l2, l3, l4, b1, b2, d1, d2, a1, a2, a3, a4, a5, a6, a7, a8, o1, o2]
        exact ⟨_, .tail _ _, h⟩
      | B2 k q e1 e2 e3 =>
        rw [q] at hf
        rw [e1, e2, e3] at hF
        by_cases b1 : n8 b < 128
        · have F : dec1 (c :: b :: d :: e :: r) = (65533, 1) := dec1_bad (by rw [hF, fgo, if_pos (.inl (by unfold n8 at b1; omega))])
          rw [F] at h
          simp (implicitDefEqProofs := false) only [sB, simprocAttr, f111, byteAV_n8, opE_glob, G0, G1, Gu0, Gu1, hf, hc.1, hc.2, an7, wz, ac0, acl, sh4, fd4, sh6, sh12, sh18, ne, l2, l3, l4, b1]
          refine i_new fun z hz => ?_
          simp (implicitDefEqProofs := false) only [sB, simprocAttr, ac0, acl, sh6, sh12, sh18, ne, l2, l3, l4, b1]
          exact ⟨_, .tail _ _, h⟩
        by_cases b2 : 159 < n8 b
        · have F : dec1 (c :: b :: d :: e :: r) = (65533, 1) := dec1_bad (by rw [hF, fgo, if_pos (.inr (by unfold n8 at b2; omega))])
          rw [F] at h
          simp (implicitDefEqProofs := false) only [sB, simprocAttr, f111, byteAV_n8, opE_glob, G0, G1, Gu0, Gu1, hf, hc.1, hc.2, an7, wz, ac0, acl, sh4, fd4, sh6, sh12, sh18, ne, l2, l3, l4, b1, b2]
          refine i_new fun z hz => ?_
          simp (implicitDefEqProofs := false) only [sB, simprocAttr, ac0, acl, sh6, sh12, sh18, ne, l2, l3, l4, b1, b2]
          exact ⟨_, .tail _ _, h⟩
        have hb := n8_lt b
        have hd := n8_lt d
        by_cases d1 : n8 d < 128
        · have F : dec1 (c :: b :: d :: e :: r) = (65533, 1) := dec1_bad (by rw [hF, fgo, if_neg (by unfold n8 at b1 b2; omega), fgo, if_pos (.inl (by unfold n8 at d1; omega))])
          rw [F] at h
          simp (implicitDefEqProofs := false) only [sB, simprocAttr, f111, byteAV_n8, opE_glob, G0, G1, Gu0, Gu1, hf, hc.1, hc.2, an7, wz, ac0, acl, sh4, fd4, sh6, sh12, sh18, ne, l2, l3, l4, b1, b2, d1]
          refine i_new fun z hz => ?_
          simp (implicitDefEqProofs := false) only [sB, simprocAttr, ac0, acl, sh6, sh12, sh18, ne, l2, l3, l4, b1, b2, d1]
          exact ⟨_, .tail _ _, h⟩
        by_cases d2 : 191 < n8 d
        · have F : dec1 (c :: b :: d :: e :: r) = (65533, 1) := dec1_bad (by rw [hF, fgo, if_neg (by unfold n8 at b1 b2; omega), fgo, if_pos (.inr (by unfold n8 at d2; omega))])
          rw [F] at h
          simp (implicitDefEqProofs := false) only [sB, simprocAttr, f111, byteAV_n8, opE_glob, G0, G1, Gu0, Gu1, hf, hc.1, hc.2, an7, wz, ac0, acl, sh4, fd4, sh6, sh12, sh18, ne, l2, l3, l4, b1, b2, d1, d2]
          refine i_new fun z hz => ?_
          simp (implicitDefEqProofs := false) only [sB, simprocAttr, ac0, acl, sh6, sh12, sh18, ne, l2, l3, l4, b1, b2, d1, d2]
          exact ⟨_, .tail _ _, h⟩
        have hG : fst (c :: b :: d :: e :: r) = (3, false) := by rw [hF, fgo, if_neg (by unfold n8 at b1 b2; omega), fgo, if_neg (by unfold n8 at d1 d2; omega), fgo]
        have F : dec1 (c :: b :: d :: e :: r) = ((n8 c - 224) * 4096 + (n8 b - 128) * 64 + (n8 d - 128), 3) := by rw [dec1, hG, if_neg (by decide)]; rfl
        rw [F] at h
        have a1 : intB .and .u8 (n8 c) 15 = n8 c - 224 := by rw [and15b _ hc.1 hc.2]; omega
        have a2 := w_i32 (n8 c - 224) (by omega) (by omega)
        have a3 := w_i32 ((n8 c - 224) * 4096) (by omega) (by omega)
        have a4 : intB .and .u8 (n8 b) 63 = n8 b - 128 := by rw [and63b _ hb.1 hb.2]; omega
        have a5 := w_i32 (n8 b - 128) (by omega) (by omega)
        have a6 := w_i32 ((n8 b - 128) * 64) (by omega) (by omega)
        have a7 : intB .and .u8 (n8 d) 63 = n8 d - 128 := by rw [and63b _ hd.1 hd.2]; omega
        have a8 := w_i32 (n8 d - 128) (by omega) (by omega)
        have o1 := or_add 12 ((n8 c - 224) * 4096) ((n8 b - 128) * 64) (n8 c - 224) rfl (by omega) (by omega) (by omega) (by omega) (by decide)
        have o2 := or_add 6 ((n8 c - 224) * 4096 + (n8 b - 128) * 64) (n8 d - 128) ((n8 c - 224) * 64 + (n8 b - 128)) (by omega) (by omega) (by omega) (by omega) (by omega) (by decide)
        simp (implicitDefEqProofs := false) only [sB, simprocAttr, f111, byteAV_n8, opE_glob, G0, G1, Gu0, Gu1, hf, hc.1, hc.2, an7, wz, ac0, acl, sh4, fd4, sh6, sh12, sh18, ne, l2, l3, l4, b1, b2, d1, d2, a1, a2, a3, a4, a5, a6, a7, a8, o1, o2]
        refine i_new fun z hz => ?_
        simp (implicitDefEqProofs := false) only [sB, simprocAttr, ac0, acl, sh6, sh12, sh18, ne, l2, l3, l4, b1, b2, d1, d2, a1, a2, a3, a4, a5, a6, a7, a8, o1, o2]
        exact ⟨_, .tail _ _, h⟩
      | B3 k q e1 e2 e3 =>
        rw [q] at hf
        rw [e1, e2, e3] at hF
        by_cases b1 : n8 b < 128
        · have F : dec1 (c :: b :: d :: e :: r) = (65533, 1) := dec1_bad (by rw [hF, fgo, if_pos (.inl (by unfold n8 at b1; omega))])
          rw [F] at h
          simp (implicitDefEqProofs := false) only [sB, simprocAttr, f111, byteAV_n8, opE_glob, G0, G1, Gu0, Gu1, hf, hc.1, hc.2, an7, wz, ac0, acl, sh4, fd4, sh6, sh12, sh18, ne, l2, l3, l4, b1]
          refine i_new fun z hz => ?_
          simp (implicitDefEqProofs := false) only [sB, simprocAttr, ac0, acl, sh6, sh12, sh18, ne, l2, l3, l4, b1]
          exact ⟨_, .tail _ _, h⟩
        by_cases b2 : 191 < n8 b
        · have F : dec1 (c :: b :: d :: e :: r) = (65533, 1) := dec1_bad (by rw [hF, fgo, if_pos (.inr (by unfold n8 at b2; omega))])
          rw [F] at h
          simp (implicitDefEqProofs := false) only [sB, simprocAttr, f111, byteAV_n8, opE_glob, G0, G1, Gu0, Gu1, hf, hc.1, hc.2, an7, wz, ac0, acl, sh4, fd4, sh6, sh12, sh18, ne, l2, l3, l4, b1, b2]
          refine i_new fun z hz => ?_
          simp (implicitDefEqProofs := false) only [sB, simprocAttr, ac0, acl, sh6, sh12, sh18, ne, l2, l3, l4, b1, b2]
          exact ⟨_, .tail _ _, h⟩
        have hb := n8_lt b
        have hd := n8_lt d
        by_cases d1 : n8 d < 128
        · have F : dec1 (c :: b :: d :: e :: r) = (65533, 1) := dec1_bad (by rw [hF, fgo, if_neg (by unfold n8 at b1 b2; omega), fgo, if_pos (.inl (by unfold n8 at d1; omega))])
          rw [F] at h
          simp (implicitDefEqProofs := false) only [sB, simprocAttr, f111, byteAV_n8, opE_glob, G0, G1, Gu0, Gu1, hf, hc.1, hc.2, an7, wz, ac0, acl, sh4, fd4, sh6, sh12, sh18, ne, l2, l3, l4, b1, b2, d1]
          refine i_new fun z hz => ?_
          simp (implicitDefEqProofs := false) only [sB, simprocAttr, ac0, acl, sh6, sh12, sh18, ne, l2, l3, l4, b1, b2, d1]
          exact ⟨_, .tail _ _, h⟩
        by_cases d2 : 191 < n8 d
        · have F : dec1 (c :: b :: d :: e :: r) = (65533, 1) := dec1_bad (by rw [hF, fgo, if_neg (by unfold n8 at b1 b2; omega), fgo, if_pos (.inr (by unfold n8 at d2; omega))])
          rw [F] at h
          simp (implicitDefEqProofs := false) only [sB, simprocAttr, f111, byteAV_n8, opE_glob, G0, G1, Gu0, Gu1, hf, hc.1, hc.2, an7, wz, ac0, acl, sh4, fd4, sh6, sh12, sh18, ne, l2, l3, l4, b1, b2, d1, d2]
          refine i_new fun z hz => ?_
          simp (implicitDefEqProofs := false) only [sB, simprocAttr, ac0, acl, sh6, sh12, sh18, ne, l2, l3, l4, b1, b2, d1, d2]
          exact ⟨_, .tail _ _, h⟩
        have hG : fst (c :: b :: d :: e :: r) = (3, false) := by rw [hF, fgo, if_neg (by unfold n8 at b1 b2; omega), fgo, if_neg (by unfold n8 at d1 d2; omega), fgo]
        have F : dec1 (c :: b :: d :: e :: r) = ((n8 c - 224) * 4096 + (n8 b - 128) * 64 + (n8 d - 128), 3) := by rw [dec1, hG, if_neg (by decide)]; rfl
        rw [F] at h
        have a1 : intB .and .u8 (n8 c) 15 = n8 c - 224 := by rw [and15b _ hc.1 hc.2]; omega
        have a2 := w_i32 (n8 c - 224) (by omega) (by omega)
        have a3 := w_i32 ((n8 c - 224) * 4096) (by omega) (by omega)
        have a4 : intB .and .u8 (n8 b) 63 = n8 b - 128 := by rw [and63b _ hb.1 hb.2]; omega
        have a5 := w_i32 (n8 b - 128) (by omega) (by omega)
        have a6 := w_i32 ((n8 b - 128) * 64) (by omega) (by omega)
        have a7 : intB .and .u8 (n8 d) 63 = n8 d - 128 := by rw [and63b _ hd.1 hd.2]; omega
        have a8 := w_i32 (n8 d - 128) (by omega) (by omega)
        have o1 := or_add 12 ((n8 c - 224) * 4096) ((n8 b - 128) * 64) (n8 c - 224) rfl (by omega) (by omega) (by omega) (by omega) (by decide)
        have o2 := or_add 6 ((n8 c - 224) * 4096 + (n8 b - 128) * 64) (n8 d - 128) ((n8 c - 224) * 64 + (n8 b - 128)) (by omega) (by omega) (by omega) (by omega) (by omega) (by decide)
        simp (implicitDefEqProofs := false) only [sB, simprocAttr, f111, byteAV_n8, opE_glob, G0, G1, Gu0, Gu1, hf, hc.1, hc.2, an7, wz, ac0, acl, sh4, fd4, sh6, sh12, sh18, ne, l2, l3, l4, b1, b2, d1, d2, a1, a2, a3, a4, a5, a6, a7, a8, o1, o2]
        refine i_new fun z hz => ?_
        simp (implicitDefEqProofs := false) only [sB, simprocAttr, ac0, acl, sh6, sh12, sh18, ne, l2, l3, l4, b1, b2, d1, d2, a1, a2, a3, a4, a5, a6, a7, a8, o1, o2]
        exact ⟨_, .tail _ _, h⟩
      | C1 k q e1 e2 e3 =>
        rw [q] at hf
        rw [e1, e2, e3] at hF
        by_cases b1 : n8 b < 144
        · have F : dec1 (c :: b :: d :: e :: r) = (65533, 1) := dec1_bad (by rw [hF, fgo, if_pos (.inl (by unfold n8 at b1; omega))])
          rw [F] at h
          simp (implicitDefEqProofs := false) only [sB, simprocAttr, f111, byteAV_n8, opE_glob, G0, G1, Gu0, Gu1, hf, hc.1, hc.2, an7, wz, ac0, acl, sh4, fd4, sh6, sh12, sh18, ne, l2, l3, l4, b1]
          refine i_new fun z hz => ?_
          simp (implicitDefEqProofs := false) only [sB, simprocAttr, ac0, acl, sh6, sh12, sh18, ne, l2, l3, l4, b1]
          exact ⟨_, .tail _ _, h⟩
        by_cases b2 : 191 < n8 b
        · have F : dec1 (c :: b :: d :: e :: r) = (65533, 1) := dec1_bad (by rw [hF, fgo, if_pos (.inr (by unfold n8 at b2; omega))])
          rw [F] at h
          simp (implicitDefEqProofs := false) only [sB, simprocAttr, f111, byteAV_n8, opE_glob, G0, G1, Gu0, Gu1, hf, hc.1, hc.2, an7, wz, ac0, acl, sh4, fd4, sh6, sh12, sh18, ne, l2, l3, l4, b1, b2]
          refine i_new fun z hz => ?_
          simp (implicitDefEqProofs := false) only [sB, simprocAttr, ac0, acl, sh6, sh12, sh18, ne, l2, l3, l4, b1, b2]
          exact ⟨_, .tail _ _, h⟩
        have hb := n8_lt b
        have hd := n8_lt d
        by_cases d1 : n8 d < 128
        · have F : dec1 (c :: b :: d :: e :: r) = (65533, 1) := dec1_bad (by rw [hF, fgo, if_neg (by unfold n8 at b1 b2; omega), fgo, if_pos (.inl (by unfold n8 at d1; omega))])
          rw [F] at h
          simp (implicitDefEqProofs := false) only [sB, simprocAttr, f111, byteAV_n8, opE_glob, G0, G1, Gu0, Gu1, hf, hc.1, hc.2, an7, wz, ac0, acl, sh4, fd4, sh6, sh12, sh18, ne, l2, l3, l4, b1, b2, d1]
          refine i_new fun z hz => ?_
          simp (implicitDefEqProofs := false) only [sB, simprocAttr, ac0, acl, sh6, sh12, sh18, ne, l2, l3, l4, b1, b2, d1]
          exact ⟨_, .tail _ _, h⟩
        by_cases d2 : 191 < n8 d
        · have F : dec1 (c :: b :: d :: e :: r) = (65533, 1) := dec1_bad (by rw [hF, fgo, if_neg (by unfold n8 at b1 b2; omega), fgo, if_pos (.inr (by unfold n8 at d2; omega))])
          rw [F] at h
          simp (implicitDefEqProofs := false) only [sB, simprocAttr, f111, byteAV_n8, opE_glob, G0, G1, Gu0, Gu1, hf, hc.1, hc.2, an7, wz, ac0, acl, sh4, fd4, sh6, sh12, sh18, ne, l2, l3, l4, b1, b2, d1, d2]
          refine i_new fun z hz => ?_
          simp (implicitDefEqProofs := false) only [sB, simprocAttr, ac0, acl, sh6, sh12, sh18, ne, l2, l3, l4, b1, b2, d1, d2]
          exact ⟨_, .tail _ _, h⟩
        have he := n8_lt e
        by_cases g1 : n8 e < 128
        · have F : dec1 (c :: b :: d :: e :: r) = (65533, 1) := dec1_bad (by rw [hF, fgo, if_neg (by unfold n8 at b1 b2; omega), fgo, if_neg (by unfold n8 at d1 d2; omega), fgo, if_pos (.inl (by unfold n8 at g1; omega))])
          rw [F] at h
          simp (implicitDefEqProofs := false) only [sB, simprocAttr, f111, byteAV_n8, opE_glob, G0, G1, Gu0, Gu1, hf, hc.1, hc.2, an7, wz, ac0, acl, sh4, fd4, sh6, sh12, sh18, ne, l2, l3, l4, b1, b2, d1, d2, g1]
          refine i_new fun z hz => ?_
          simp (implicitDefEqProofs := false) only [sB, simprocAttr, ac0, acl, sh6, sh12, sh18, ne, l2, l3, l4, b1, b2, d1, d2, g1]
          exact ⟨_, .tail _ _, h⟩
        by_cases g2 : 191 < n8 e
        · have F : dec1 (c :: b :: d :: e :: r) = (65533, 1) := dec1_bad (by rw [hF, fgo, if_neg (by unfold n8 at b1 b2; omega), fgo, if_neg (by unfold n8 at d1 d2; omega), fgo, if_pos (.inr (by unfold n8 at g2; omega))])
          rw [F] at h
          simp (implicitDefEqProofs := false) only [sB, simprocAttr, f111, byteAV_n8, opE_glob, G0, G1, Gu0, Gu1, hf, hc.1, hc.2, an7, wz, ac0, acl, sh4, fd4, sh6, sh12, sh18, ne, l2, l3, l4, b1, b2, d1, d2, g1, g2]
          refine i_new fun z hz => ?_
          simp (implicitDefEqProofs := false) only [sB, simprocAttr, ac0, acl, sh6, sh12, sh18, ne, l2, l3, l4, b1, b2, d1, d2, g1, g2]
          exact ⟨_, .tail _ _, h⟩
        have hG : fst (c :: b :: d :: e :: r) = (4, false) := by rw [hF, fgo, if_neg (by unfold n8 at b1 b2; omega), fgo, if_neg (by unfold n8 at d1 d2; omega), fgo, if_neg (by unfold n8 at g1 g2; omega), fgo]
        have F : dec1 (c :: b :: d :: e :: r) = ((n8 c - 240) * 262144 + (n8 b - 128) * 4096 + (n8 d - 128) * 64 + (n8 e - 128), 4) := by rw [dec1, hG, if_neg (by decide)]; rfl
        rw [F] at h
        have a1 : intB .and .u8 (n8 c) 7 = n8 c - 240 := by rw [and7b _ hc.1 hc.2]; omega
        have a2 := w_i32 (n8 c - 240) (by omega) (by omega)
        have a3 := w_i32 ((n8 c - 240) * 262144) (by omega) (by omega)
        have a4 : intB .and .u8 (n8 b) 63 = n8 b - 128 := by rw [and63b _ hb.1 hb.2]; omega
        have a5 := w_i32 (n8 b - 128) (by omega) (by omega)
        have a6 := w_i32 ((n8 b - 128) * 4096) (by omega) (by omega)
        have a7 : intB .and .u8 (n8 d) 63 = n8 d - 128 := by rw [and63b _ hd.1 hd.2]; omega
        have a8 := w_i32 (n8 d - 128) (by omega) (by omega)
        have a9 := w_i32 ((n8 d - 128) * 64) (by omega) (by omega)
        have a10 : intB .and .u8 (n8 e) 63 = n8 e - 128 := by rw [and63b _ he.1 he.2]; omega
        have a11 := w_i32 (n8 e - 128) (by omega) (by omega)
        have o1 := or_add 18 ((n8 c - 240) * 262144) ((n8 b - 128) * 4096) (n8 c - 240) rfl (by omega) (by omega) (by omega) (by omega) (by decide)
        have o2 := or_add 12 ((n8 c - 240) * 262144 + (n8 b - 128) * 4096) ((n8 d - 128) * 64) ((n8 c - 240) * 64 + (n8 b - 128)) (by omega) (by omega) (by omega) (by omega) (by omega) (by decide)
        have o3 := or_add 6 ((n8 c - 240) * 262144 + (n8 b - 128) * 4096 + (n8 d - 128) * 64) (n8 e - 128) ((n8 c - 240) * 4096 + (n8 b - 128) * 64 + (n8 d - 128)) (by omega) (by omega) (by omega) (by omega) (by omega) (by decide)
        simp (implicitDefEqProofs := false) only [sB, simprocAttr, f111, byteAV_n8, opE_glob, G0, G1, Gu0, Gu1, hf, hc.1, hc.2, an7, wz, ac0, acl, sh4, fd4, sh6, sh12, sh18, ne, l2, l3, l4, b1, b2, d1, d2, a1, a2, a3, a4, a5, a6, a7, a8, g1, g2, a9, a10, a11, o1, o2, o3]
        refine i_new fun z hz => ?_
        simp (implicitDefEqProofs := false) only [sB, simprocAttr, ac0, acl, sh6, sh12, sh18, ne, l2, l3, l4, b1, b2, d1, d2, a1, a2, a3, a4, a5, a6, a7, a8, g1, g2, a9, a10, a11, o1, o2, o3]
        exact ⟨_, .tail _ _, h⟩
      | C2 k q e1 e2 e3 =>
        rw [q] at hf
        rw [e1, e2, e3] at hF
        by_cases b1 : n8 b < 128
        · have F : dec1 (c :: b :: d :: e :: r) = (65533, 1) := dec1_bad (by rw [hF, fgo, if_pos (.inl (by unfold n8 at b1; omega))])
          rw [F] at h
          simp (implicitDefEqProofs := false) only [sB, simprocAttr, f111, byteAV_n8, opE_glob, G0, G1, Gu0, Gu1, hf, hc.1, hc.2, an7, wz, ac0, acl, sh4, fd4, sh6, sh12, sh18, ne, l2, l3, l4, b1]
          refine i_new fun z hz => ?_
          simp (implicitDefEqProofs := false) only [sB, simprocAttr, ac0, acl, sh6, sh12, sh18, ne, l2, l3, l4, b1]
          exact ⟨_, .tail _ _, h⟩
        by_cases b2 : 143 < n8 b
        · have F : dec1 (c :: b :: d :: e :: r) = (65533, 1) := dec1_bad (by rw [hF, fgo, if_pos (.inr (by unfold n8 at b2; omega))])
          rw [F] at h
          simp (implicitDefEqProofs := false) only [sB, simprocAttr, f111, byteAV_n8, opE_glob, G0, G1, Gu0, Gu1, hf, hc.1, hc.2, an7, wz, ac0, acl, sh4, fd4, sh6, sh12, sh18, ne, l2, l3, l4, b1, b2]
          refine i_new fun z hz => ?_
          simp (implicitDefEqProofs := false) only [sB, simprocAttr, ac0, acl, sh6, sh12, sh18, ne, l2, l3, l4, b1, b2]
          exact ⟨_, .tail _ _, h⟩
        have hb := n8_lt b
        have hd := n8_lt d
        by_cases d1 : n8 d < 128
        · have F : dec1 (c :: b :: d :: e :: r) = (65533, 1) := dec1_bad (by rw [hF, fgo, if_neg (by unfold n8 at b1 b2; omega), fgo, if_pos (.inl (by unfold n8 at d1; omega))])
          rw [F] at h
          simp (implicitDefEqProofs := false) only [sB, simprocAttr, f111, byteAV_n8, opE_glob, G0, G1, Gu0, Gu1, hf, hc.1, hc.2, an7, wz, ac0, acl, sh4, fd4, sh6, sh12, sh18, ne, l2, l3, l4, b1, b2, d1]
          refine i_new fun z hz => ?_
          simp (implicitDefEqProofs := false) only [sB, simprocAttr, ac0, acl, sh6, sh12, sh18, ne, l2, l3, l4, b1, b2, d1]
          exact ⟨_, .tail _ _, h⟩
        by_cases d2 : 191 < n8 d
        · have F : dec1 (c :: b :: d :: e :: r) = (65533, 1) := dec1_bad (by rw [hF, fgo, if_neg (by unfold n8 at b1 b2; omega), fgo, if_pos (.inr (by unfold n8 at d2; omega))])
          rw [F] at h
          simp (implicitDefEqProofs := false) only [sB, simprocAttr, f111, byteAV_n8, opE_glob, G0, G1, Gu0, Gu1, hf, hc.1, hc.2, an7, wz, ac0, acl, sh4, fd4, sh6, sh12, sh18, ne, l2, l3, l4, b1, b2, d1, d2]
          refine i_new fun z hz => ?_
          simp (implicitDefEqProofs := false) only [sB, simprocAttr, ac0, acl, sh6, sh12, sh18, ne, l2, l3, l4, b1, b2, d1, d2]
          exact ⟨_, .tail _ _, h⟩
        have he := n8_lt e
        by_cases g1 : n8 e < 128
        · have F : dec1 (c :: b :: d :: e :: r) = (65533, 1) := dec1_bad (by rw [hF, fgo, if_neg (by unfold n8 at b1 b2; omega), fgo, if_neg (by unfold n8 at d1 d2; omega), fgo, if_pos (.inl (by unfold n8 at g1; omega))])
          rw [F] at h
          simp (implicitDefEqProofs := false) only [sB, simprocAttr, f111, byteAV_n8, opE_glob, G0, G1, Gu0, Gu1, hf, hc.1, hc.2, an7, wz, ac0, acl, sh4, fd4, sh6, sh12, sh18, ne, l2, l3, l4, b1, b2, d1, d2, g1]
          refine i_new fun z hz => ?_
          simp (implicitDefEqProofs := false) only [sB, simprocAttr, ac0, acl, sh6, sh12, sh18, ne, l2, l3, l4, b1, b2, d1, d2, g1]
          exact ⟨_, .tail _ _, h⟩
        by_cases g2 : 191 < n8 e
        · have F : dec1 (c :: b :: d :: e :: r) = (65533, 1) := dec1_bad (by rw [hF, fgo, if_neg (by unfold n8 at b1 b2; omega), fgo, if_neg (by unfold n8 at d1 d2; omega), fgo, if_pos (.inr (by unfold n8 at g2; omega))])
          rw [F] at h
          simp (implicitDefEqProofs := false) only [sB, simprocAttr, f111, byteAV_n8, opE_glob, G0, G1, Gu0, Gu1, hf, hc.1, hc.2, an7, wz, ac0, acl, sh4, fd4, sh6, sh12, sh18, ne, l2, l3, l4, b1, b2, d1, d2, g1, g2]
          refine i_new fun z hz => ?_
          simp (implicitDefEqProofs := false) only [sB, simprocAttr, ac0, acl, sh6, sh12, sh18, ne, l2, l3, l4, b1, b2, d1, d2, g1, g2]
          exact ⟨_, .tail _ _, h⟩
        have hG : fst (c :: b :: d :: e :: r) = (4, false) := by rw [hF, fgo, if_neg (by unfold n8 at b1 b2; omega), fgo, if_neg (by unfold n8 at d1 d2; omega), fgo, if_neg (by unfold n8 at g1 g2; omega), fgo]
        have F : dec1 (c :: b :: d :: e :: r) = ((n8 c - 240) * 262144 + (n8 b - 128) * 4096 + (n8 d - 128) * 64 + (n8 e - 128), 4) := by rw [dec1, hG, if_neg (by decide)]; rfl
        rw [F] at h
        have a1 : intB .and .u8 (n8 c) 7 = n8 c - 240 := by rw [and7b _ hc.1 hc.2]; omega
        have a2 := w_i32 (n8 c - 240) (by omega) (by omega)
        have a3 := w_i32 ((n8 c - 240) * 262144) (by omega) (by omega)
        have a4 : intB .and .u8 (n8 b) 63 = n8 b - 128 := by rw [and63b _ hb.1 hb.2]; omega
        have a5 := w_i32 (n8 b - 128) (by omega) (by omega)
        have a6 := w_i32 ((n8 b - 128) * 4096) (by omega) (by omega)
        have a7 : intB .and .u8 (n8 d) 63 = n8 d - 128 := by rw [and63b _ hd.1 hd.2]; omega
        have a8 := w_i32 (n8 d - 128) (by omega) (by omega)
        have a9 := w_i32 ((n8 d - 128) * 64) (by omega) (by omega)
        have a10 : intB .and .u8 (n8 e) 63 = n8 e - 128 := by rw [and63b _ he.1 he.2]; omega
        have a11 := w_i32 (n8 e - 128) (by omega) (by omega)
        have o1 := or_add 18 ((n8 c - 240) * 262144) ((n8 b - 128) * 4096) (n8 c - 240) rfl (by omega) (by omega) (by omega) (by omega) (by decide)
        have o2 := or_add 12 ((n8 c - 240) * 262144 + (n8 b - 128) * 4096) ((n8 d - 128) * 64) ((n8 c - 240) * 64 + (n8 b - 128)) (by omega) (by omega) (by omega) (by omega) (by omega) (by decide)
        have o3 := or_add 6 ((n8 c - 240) * 262144 + (n8 b - 128) * 4096 + (n8 d - 128) * 64) (n8 e - 128) ((n8 c - 240) * 4096 + (n8 b - 128) * 64 + (n8 d - 128)) (by omega) (by omega) (by omega) (by omega) (by omega) (by decide)
        simp (implicitDefEqProofs := false) only [sB, simprocAttr, f111, byteAV_n8, opE_glob, G0, G1, Gu0, Gu1, hf, hc.1, hc.2, an7, wz, ac0, acl, sh4, fd4, sh6, sh12, sh18, ne, l2, l3, l4, b1, b2, d1, d2, a1, a2, a3, a4, a5, a6, a7, a8, g1, g2, a9, a10, a11, o1, o2, o3]
        refine i_new fun z hz => ?_
        simp (implicitDefEqProofs := false) only [sB, simprocAttr, ac0, acl, sh6, sh12, sh18, ne, l2, l3, l4, b1, b2, d1, d2, a1, a2, a3, a4, a5, a6, a7, a8, g1, g2, a9, a10, a11, o1, o2, o3]
        exact ⟨_, .tail _ _, h⟩
      | C3 k q e1 e2 e3 =>
        rw [q] at hf
        rw [e1, e2, e3] at hF
        by_cases b1 : n8 b < 128
        · have F : dec1 (c :: b :: d :: e :: r) = (65533, 1) := dec1_bad (by rw [hF, fgo, if_pos (.inl (by unfold n8 at b1; omega))])
          rw [F] at h
          simp (implicitDefEqProofs := false) only [sB, simprocAttr, f111, byteAV_n8, opE_glob, G0, G1, Gu0, Gu1, hf, hc.1, hc.2, an7, wz, ac0, acl, sh4, fd4, sh6, sh12, sh18, ne, l2, l3, l4, b1]
          refine i_new fun z hz => ?_
          simp (implicitDefEqProofs := false) only [sB, simprocAttr, ac0, acl, sh6, sh12, sh18, ne, l2, l3, l4, b1]
          exact ⟨_, .tail _ _, h⟩
        by_cases b2 : 191 < n8 b
        · have F : dec1 (c :: b :: d :: e :: r) = (65533, 1) := dec1_bad (by rw [hF, fgo, if_pos (.inr (by unfold n8 at b2; omega))])
          rw [F] at h
          simp (implicitDefEqProofs := false) only [sB, simprocAttr, f111, byteAV_n8, opE_glob, G0, G1, Gu0, Gu1, hf, hc.1, hc.2, an7, wz, ac0, acl, sh4, fd4, sh6, sh12, sh18, ne, l2, l3, l4, b1, b2]
          refine i_new fun z hz => ?_
          simp (implicitDefEqProofs := false) only [sB, simprocAttr, ac0, acl, sh6, sh12, sh18, ne, l2, l3, l4, b1, b2]
          exact ⟨_, .tail _ _, h⟩
        have hb := n8_lt b
        have hd := n8_lt d
        by_cases d1 : n8 d < 128
        · have F : dec1 (c :: b :: d :: e :: r) = (65533, 1) := dec1_bad (by rw [hF, fgo, if_neg (by unfold n8 at b1 b2; omega), fgo, if_pos (.inl (by unfold n8 at d1; omega))])
          rw [F] at h
          simp (implicitDefEqProofs := false) only [sB, simprocAttr, f111, byteAV_n8, opE_glob, G0, G1, Gu0, Gu1, hf, hc.1, hc.2, an7, wz, ac0, acl, sh4, fd4, sh6, sh12, sh18, ne, l2, l3, l4, b1, b2, d1]
          refine i_new fun z hz => ?_
          simp (implicitDefEqProofs := false) only [sB, simprocAttr, ac0, acl, sh6, sh12, sh18, ne, l2, l3, l4, b1, b2, d1]
          exact ⟨_, .tail _ _, h⟩
        by_cases d2 : 191 < n8 d
        · have F : dec1 (c :: b :: d :: e :: r) = (65533, 1) := dec1_bad (by rw [hF, fgo, if_neg (by unfold n8 at b1 b2; omega), fgo, if_pos (.inr (by unfold n8 at d2; omega))])
          rw [F] at h
          simp (implicitDefEqProofs := false) only [sB, simprocAttr, f111, byteAV_n8, opE_glob, G0, G1, Gu0, Gu1, hf, hc.1, hc.2, an7, wz, ac0, acl, sh4, fd4, sh6, sh12, sh18, ne, l2, l3, l4, b1, b2, d1, d2]
          refine i_new fun z hz => ?_
          simp (implicitDefEqProofs := false) only [sB, simprocAttr, ac0, acl, sh6, sh12, sh18, ne, l2, l3, l4, b1, b2, d1, d2]
          exact ⟨_, .tail _ _, h⟩
        have he := n8_lt e
        by_cases g1 : n8 e < 128
        · have F : dec1 (c :: b :: d :: e :: r) = (65533, 1) := dec1_bad (by rw [hF, fgo, if_neg (by unfold n8 at b1 b2; omega), fgo, if_neg (by unfold n8 at d1 d2; omega), fgo, if_pos (.inl (by unfold n8 at g1; omega))])
          rw [F] at h
          simp (implicitDefEqProofs := false) only [sB, simprocAttr, f111, byteAV_n8, opE_glob, G0, G1, Gu0, Gu1, hf, hc.1, hc.2, an7, wz, ac0, acl, sh4, fd4, sh6, sh12, sh18, ne, l2, l3, l4, b1, b2, d1, d2, g1]
          refine i_new fun z hz => ?_
          simp (implicitDefEqProofs := false) only [sB, simprocAttr, ac0, acl, sh6, sh12, sh18, ne, l2, l3, l4, b1, b2, d1, d2, g1]
          exact ⟨_, .tail _ _, h⟩
        by_cases g2 : 191 < n8 e
        · have F : dec1 (c :: b :: d :: e :: r) = (65533, 1) := dec1_bad (by rw [hF, fgo, if_neg (by unfold n8 at b1 b2; omega), fgo, if_neg (by unfold n8 at d1 d2; omega), fgo, if_pos (.inr (by unfold n8 at g2; omega))])
          rw [F] at h
          simp (implicitDefEqProofs := false) only [sB, simprocAttr, f111, byteAV_n8, opE_glob, G0, G1, Gu0, Gu1, hf, hc.1, hc.2, an7, wz, ac0, acl, sh4, fd4, sh6, sh12, sh18, ne, l2, l3, l4, b1, b2, d1, d2, g1, g2]
          refine i_new fun z hz => ?_
          simp (implicitDefEqProofs := false) only [sB, simprocAttr, ac0, acl, sh6, sh12, sh18, ne, l2, l3, l4, b1, b2, d1, d2, g1, g2]
          exact ⟨_, .tail _ _, h⟩
        have hG : fst (c :: b :: d :: e :: r) = (4, false) := by rw [hF, fgo, if_neg (by unfold n8 at b1 b2; omega), fgo, if_neg (by unfold n8 at d1 d2; omega), fgo, if_neg (by unfold n8 at g1 g2; omega), fgo]
        have F : dec1 (c :: b :: d :: e :: r) = ((n8 c - 240) * 262144 + (n8 b - 128) * 4096 + (n8 d - 128) * 64 + (n8 e - 128), 4) := by rw [dec1, hG, if_neg (by decide)]; rfl
        rw [F] at h
        have a1 : intB .and .u8 (n8 c) 7 = n8 c - 240 := by rw [and7b _ hc.1 hc.2]; omega
        have a2 := w_i32 (n8 c - 240) (by omega) (by omega)
        have a3 := w_i32 ((n8 c - 240) * 262144) (by omega) (by omega)
        have a4 : intB .and .u8 (n8 b) 63 = n8 b - 128 := by rw [and63b _ hb.1 hb.2]; omega
        have a5 := w_i32 (n8 b - 128) (by omega) (by omega)
        have a6 := w_i32 ((n8 b - 128) * 4096) (by omega) (by omega)
        have a7 : intB .and .u8 (n8 d) 63 = n8 d - 128 := by rw [and63b _ hd.1 hd.2]; omega
        have a8 := w_i32 (n8 d - 128) (by omega) (by omega)
        have a9 := w_i32 ((n8 d - 128) * 64) (by omega) (by omega)
        have a10 : intB .and .u8 (n8 e) 63 = n8 e - 128 := by rw [and63b _ he.1 he.2]; omega
        have a11 := w_i32 (n8 e - 128) (by omega) (by omega)
        have o1 := or_add 18 ((n8 c - 240) * 262144) ((n8 b - 128) * 4096) (n8 c - 240) rfl (by omega) (by omega) (by omega) (by omega) (by decide)
        have o2 := or_add 12 ((n8 c - 240) * 262144 + (n8 b - 128) * 4096) ((n8 d - 128) * 64) ((n8 c - 240) * 64 + (n8 b - 128)) (by omega) (by omega) (by omega) (by omega) (by omega) (by decide)
        have o3 := or_add 6 ((n8 c - 240) * 262144 + (n8 b - 128) * 4096 + (n8 d - 128) * 64) (n8 e - 128) ((n8 c - 240) * 4096 + (n8 b - 128) * 64 + (n8 d - 128)) (by omega) (by omega) (by omega) (by omega) (by omega) (by decide)
        simp (implicitDefEqProofs := false) only [sB, simprocAttr, f111, byteAV_n8, opE_glob, G0, G1, Gu0, Gu1, hf, hc.1, hc.2, an7, wz, ac0, acl, sh4, fd4, sh6, sh12, sh18, ne, l2, l3, l4, b1, b2, d1, d2, a1, a2, a3, a4, a5, a6, a7, a8, g1, g2, a9, a10, a11, o1, o2, o3]
        refine i_new fun z hz => ?_
        simp (implicitDefEqProofs := false) only [sB, simprocAttr, ac0, acl, sh6, sh12, sh18, ne, l2, l3, l4, b1, b2, d1, d2, a1, a2, a3, a4, a5, a6, a7, a8, g1, g2, a9, a10, a11, o1, o2, o3]
        exact ⟨_, .tail _ _, h⟩

theorem x_c111 {c : UInt8} {r : List UInt8} {t : Tok} {H : Heap} {K : Kv} (h1 : 128 ≤ n8 c) (hl : r.length ≤ 1099511627776) (k : K.ap (.tup [.int .i32 (dec1 (c :: r)).1, .int .i64 (dec1 (c :: r)).2]) H) : c111 [.sl (bytesAV (c :: r)) t] H K := ⟨c, r, t, rfl, h1, hl, k⟩
def c90 (xs : List AV) (H : Heap) (K : Kv) : Prop := ∃ (p : List UInt8) (t : Tok), xs = [.sl (bytesAV p) t] ∧ p ≠ [] ∧ p.length ≤ 1099511627776 ∧ K.ap (.tup [.int .i32 (dec1 p).1, .int .i64 (dec1 p).2]) H
theorem c90_of (P : Program) {G : Nat → Option (List AV)} {xs : List AV} {H : Heap} {K : Kv} (h : c90 xs H K) : @xF ⟨G, P, [(111, c111)]⟩ f90 xs H ⟨fun v H' => ∃ H0, Hle H0 H' ∧ K.ap v H0⟩ := by
  obtain ⟨p, t, rfl, hne, hl, h⟩ := h
  cases p with
  | nil => exact absurd rfl hne
  | cons c r =>
    have hc := n8_lt c
    have wc := w_i32 (n8 c) (by omega) (by omega)
    have np : (0 : Int) < ((r.length + 1 : Nat) : Int) := by omega
    have hl' : r.length ≤ 1099511627776 := by simp only [List.length_cons] at hl; omega
    simp (implicitDefEqProofs := false) only [sB, simprocAttr, f90, byteAV_n8]
    refine i_loopJ (fun σ H1 => H1 = H ∧ σ = [(0, .sl (.int .u8 (n8 c) :: bytesAV r) t), (6, .sl (.int .u8 (n8 c) :: bytesAV r) t), (7, .int .i64 ((r.length + 1 : Nat) : Int)), (8, .int .i64 0)])
      (fun _ _ => 0)
      (fun e σ H1 => H1 = H ∧ ((e = .ret ∧ n8 c < 128 ∧ σ.get 2 = .int .i32 (n8 c) ∧ σ.get 3 = .int .i64 1) ∨ (e = .exit 0 ∧ 128 ≤ n8 c ∧ σ.get 0 = .sl (.int .u8 (n8 c) :: bytesAV r) t)))
      ⟨_, .refl _, rfl, rfl⟩ ?_ ?_
    · rintro e σ H1 ⟨rfl, ⟨rfl, h1, q2, q3⟩ | ⟨rfl, h1, q0⟩⟩
      · have F : dec1 (c :: r) = (n8 c, 1) := by
          have : fst (c :: r) = (1, false) := by rw [fst, if_pos (by unfold n8 at h1; omega)]
          rw [dec1, this, if_neg (by decide)]; rfl
        rw [F] at h
        simp (implicitDefEqProofs := false) only [sB, simprocAttr, q2, q3]
        exact ⟨_, .refl _, h⟩
      · simp (implicitDefEqProofs := false) only [sB, simprocAttr, q0]
        refine x_c111 h1 hl' ?_
        simp (implicitDefEqProofs := false) only [sB, simprocAttr]
        exact ⟨_, .refl _, h⟩
    · rintro Q hQ σ H1 ⟨rfl, rfl⟩
      by_cases h1 : n8 c < 128
      · simp (implicitDefEqProofs := false) only [sB, simprocAttr, np, h1, wc]
        exact hQ _ _ _ ⟨rfl, .inl ⟨rfl, h1, rfl, rfl⟩⟩
      · simp (implicitDefEqProofs := false) only [sB, simprocAttr, np, h1, wc]
        exact hQ _ _ _ ⟨rfl, .inr ⟨rfl, by omega, rfl⟩⟩
end Go.AL.Fun
