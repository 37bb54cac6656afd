/- Runes encoded: the reference's and the program's walks. -/
import Derived.Test.YtijioomcpecdhaaDoorR3
set_option linter.unusedSimpArgs false
set_option linter.unusedVariables false
set_option maxRecDepth 100000
set_option maxHeartbeats 4000000
namespace Go.AL.Fun
open Go Go.AL

theorem ofInt_nat (w n : Nat) : BitVec.ofInt w (n : Int) = BitVec.ofNat w n := by simp
theorem and_i32 (x y : Nat) (hx : x < 2147483648) (hy : y < 2147483648) : intB .and .i32 x y = ((x &&& y : Nat) : Int) := by
  show IntKind.wrap .i32 (((BitVec.ofInt 32 (x : Int)) &&& (BitVec.ofInt 32 (y : Int))).toNat : Int) = _
  rw [ofInt_nat, ofInt_nat, BitVec.toNat_and, BitVec.toNat_ofNat, BitVec.toNat_ofNat, Nat.mod_eq_of_lt (by omega), Nat.mod_eq_of_lt (by omega)]
  have : x &&& y ≤ x := Nat.and_le_left
  exact w_i32 _ (by omega) (by omega)
theorem and_u8 (x y : Nat) (hx : x < 256) (hy : y < 256) : intB .and .u8 x y = ((x &&& y : Nat) : Int) := by
  show IntKind.wrap .u8 (((BitVec.ofInt 8 (x : Int)) &&& (BitVec.ofInt 8 (y : Int))).toNat : Int) = _
  rw [ofInt_nat, ofInt_nat, BitVec.toNat_and, BitVec.toNat_ofNat, BitVec.toNat_ofNat, Nat.mod_eq_of_lt (by omega), Nat.mod_eq_of_lt (by omega)]
  have : x &&& y ≤ x := Nat.and_le_left
  exact w_u8 _ (by omega) (by omega)
theorem or_u8 (x y : Nat) (hx : x < 256) (hy : y < 256) : intB .or .u8 x y = ((x ||| y : Nat) : Int) := by
  show IntKind.wrap .u8 (((BitVec.ofInt 8 (x : Int)) ||| (BitVec.ofInt 8 (y : Int))).toNat : Int) = _
  rw [ofInt_nat, ofInt_nat, BitVec.toNat_or, BitVec.toNat_ofNat, BitVec.toNat_ofNat, Nat.mod_eq_of_lt (by omega), Nat.mod_eq_of_lt (by omega)]
  have : x ||| y < 2 ^ 8 := Nat.or_lt_two_pow hx hy
  exact w_u8 _ (by omega) (by omega)
theorem and63 (a : Int) (h0 : 0 ≤ a) (h1 : a < 2147483648) : intB .and .i32 a 63 = a % 64 := by
  obtain ⟨n, rfl⟩ := Int.eq_ofNat_of_zero_le h0
  have := and_i32 n 63 (by omega) (by omega)
  rw [show (63 : Int) = ((63 : Nat) : Int) from rfl, this, show n &&& 63 = n % 64 from Nat.and_two_pow_sub_one_eq_mod n 6]
  omega
theorem and63b (a : Int) (h0 : 0 ≤ a) (h1 : a < 256) : intB .and .u8 a 63 = a % 64 := by
  obtain ⟨n, rfl⟩ := Int.eq_ofNat_of_zero_le h0
  have := and_u8 n 63 (by omega) (by omega)
  rw [show (63 : Int) = ((63 : Nat) : Int) from rfl, this, show n &&& 63 = n % 64 from Nat.and_two_pow_sub_one_eq_mod n 6]
  omega
theorem or128f : ∀ x : Fin 64, 128 ||| x.val = 128 + x.val := by decide
theorem or192f : ∀ x : Fin 32, 192 ||| x.val = 192 + x.val := by decide
theorem or224f : ∀ x : Fin 16, 224 ||| x.val = 224 + x.val := by decide
theorem or240f : ∀ x : Fin 8, 240 ||| x.val = 240 + x.val := by decide
theorem or128 (a : Int) (h0 : 0 ≤ a) (h1 : a < 64) : intB .or .u8 128 a = 128 + a := by
  obtain ⟨n, rfl⟩ := Int.eq_ofNat_of_zero_le h0
  rw [show (128 : Int) = ((128 : Nat) : Int) from rfl, or_u8 128 n (by omega) (by omega), or128f ⟨n, by omega⟩]; simp
theorem or192 (a : Int) (h0 : 0 ≤ a) (h1 : a < 32) : intB .or .u8 192 a = 192 + a := by
  obtain ⟨n, rfl⟩ := Int.eq_ofNat_of_zero_le h0
  rw [show (192 : Int) = ((192 : Nat) : Int) from rfl, or_u8 192 n (by omega) (by omega), or192f ⟨n, by omega⟩]; simp
theorem or224 (a : Int) (h0 : 0 ≤ a) (h1 : a < 16) : intB .or .u8 224 a = 224 + a := by
  obtain ⟨n, rfl⟩ := Int.eq_ofNat_of_zero_le h0
  rw [show (224 : Int) = ((224 : Nat) : Int) from rfl, or_u8 224 n (by omega) (by omega), or224f ⟨n, by omega⟩]; simp
theorem or240 (a : Int) (h0 : 0 ≤ a) (h1 : a < 8) : intB .or .u8 240 a = 240 + a := by
  obtain ⟨n, rfl⟩ := Int.eq_ofNat_of_zero_le h0
  rw [show (240 : Int) = ((240 : Nat) : Int) from rfl, or_u8 240 n (by omega) (by omega), or240f ⟨n, by omega⟩]; simp

def c81 (xs : List AV) (H : Heap) (K : Kv) : Prop := ∃ r : Int, xs = [.int .i32 r] ∧ -2147483648 ≤ r ∧ r < 2147483648 ∧ K.ap (.str (enc1 r)) H
theorem c28_good (P : Program) {G : Nat → Option (List AV)} {H : Heap} {K : Kv} (r : Int) (lo : 0 ≤ r) (hi : r ≤ 1114111) (hs : ¬ (55296 ≤ r ∧ r ≤ 57343)) (h : K.ap (.str (enc1 r)) H) : @xF ⟨G, P, []⟩ f81 [.int .i32 r] H ⟨fun v H' => ∃ H0, Hle H0 H' ∧ K.ap v H0⟩ := by
  have hC := enc_range lo hi hs
  have k1 : ¬ r < 0 := by omega
  have k2 : ¬ 1114111 < r := by omega
  by_cases k3 : 55296 ≤ r
  · have k4 : ¬ r ≤ 57343 := fun x => hs ⟨k3, x⟩
    have m1 : ¬ r < 128 := by omega
    have m2 : ¬ r < 2048 := by omega
    by_cases m3 : r < 65536
    · have f1 : r.fdiv 4096 = r / 4096 := Int.fdiv_eq_ediv_of_nonneg _ (by decide)
      have f6 : r.fdiv 64 = r / 64 := Int.fdiv_eq_ediv_of_nonneg _ (by decide)
      have a0 := w_i32 (224 + r / 4096) (by omega) (by omega)
      have b0 := w_u8 (224 + r / 4096) (by omega) (by omega)
      have c0 := and63 (r / 64) (by omega) (by omega)
      have d0 := w_i32 (128 + r / 64 % 64) (by omega) (by omega)
      have e0 := w_u8 (128 + r / 64 % 64) (by omega) (by omega)
      have c1 := and63 (r) (by omega) (by omega)
      have d1 := w_i32 (128 + r % 64) (by omega) (by omega)
      have e1 := w_u8 (128 + r % 64) (by omega) (by omega)
      have hE : enc1 r = [UInt8.ofNat (224 + r / 4096).toNat, UInt8.ofNat (128 + r / 64 % 64).toNat, UInt8.ofNat (128 + r % 64).toNat] := by
        unfold enc1
        rw [hC, if_neg (by omega), if_neg (by omega), if_pos (by omega)]
        congr 1 <;> first | (congr 1; omega) | (congr 1 <;> first | (congr 1; omega) | (congr 1 <;> first | (congr 1; omega) | (congr 1 <;> (congr 1; omega))))
      rw [hE] at h
      simp (implicitDefEqProofs := false) only [sB, simprocAttr, f81, k1, k2, k3, k4, m1, m2, m3, sh6, sh12, sh18, f1, f6, a0, b0, c0, d0, e0, c1, d1, e1]
      refine i_new fun z hz => ?_
      simp (implicitDefEqProofs := false) only [sB, simprocAttr, f1, f6, a0, b0, c0, d0, e0, c1, d1, e1]
      exact ⟨_, .tail _ _, h⟩
    · have f1 : r.fdiv 262144 = r / 262144 := Int.fdiv_eq_ediv_of_nonneg _ (by decide)
      have f12 : r.fdiv 4096 = r / 4096 := Int.fdiv_eq_ediv_of_nonneg _ (by decide)
      have f6 : r.fdiv 64 = r / 64 := Int.fdiv_eq_ediv_of_nonneg _ (by decide)
      have a0 := w_i32 (240 + r / 262144) (by omega) (by omega)
      have b0 := w_u8 (240 + r / 262144) (by omega) (by omega)
      have c0 := and63 (r / 4096) (by omega) (by omega)
      have d0 := w_i32 (128 + r / 4096 % 64) (by omega) (by omega)
      have e0 := w_u8 (128 + r / 4096 % 64) (by omega) (by omega)
      have c1 := and63 (r / 64) (by omega) (by omega)
      have d1 := w_i32 (128 + r / 64 % 64) (by omega) (by omega)
      have e1 := w_u8 (128 + r / 64 % 64) (by omega) (by omega)
      have c2 := and63 (r) (by omega) (by omega)
      have d2 := w_i32 (128 + r % 64) (by omega) (by omega)
      have e2 := w_u8 (128 + r % 64) (by omega) (by omega)
      have hE : enc1 r = [UInt8.ofNat (240 + r / 262144).toNat, UInt8.ofNat (128 + r / 4096 % 64).toNat, UInt8.ofNat (128 + r / 64 % 64).toNat, UInt8.ofNat (128 + r % 64).toNat] := by
        unfold enc1
        rw [hC, if_neg (by omega), if_neg (by omega), if_neg (by omega)]
        congr 1 <;> first | (congr 1; omega) | (congr 1 <;> first | (congr 1; omega) | (congr 1 <;> first | (congr 1; omega) | (congr 1 <;> (congr 1; omega))))
      rw [hE] at h
      simp (implicitDefEqProofs := false) only [sB, simprocAttr, f81, k1, k2, k3, k4, m1, m2, m3, sh6, sh12, sh18, f1, f12, f6, a0, b0, c0, d0, e0, c1, d1, e1, c2, d2, e2]
      refine i_new fun z hz => ?_
      simp (implicitDefEqProofs := false) only [sB, simprocAttr, f1, f12, f6, a0, b0, c0, d0, e0, c1, d1, e1, c2, d2, e2]
      exact ⟨_, .tail _ _, h⟩
  · by_cases m1 : r < 128
    · have b0 := w_u8 r (by omega) (by omega)
      have hE : enc1 r = [UInt8.ofNat r.toNat] := by
        unfold enc1
        rw [hC, if_pos (by omega)]
      rw [hE] at h
      simp (implicitDefEqProofs := false) only [sB, simprocAttr, f81, k1, k2, k3, m1, sh6, sh12, sh18, b0]
      refine i_new fun z hz => ?_
      simp (implicitDefEqProofs := false) only [sB, simprocAttr, b0]
      exact ⟨_, .tail _ _, h⟩
    · by_cases m2 : r < 2048
      · have f1 : r.fdiv 64 = r / 64 := Int.fdiv_eq_ediv_of_nonneg _ (by decide)
        have a0 := w_i32 (192 + r / 64) (by omega) (by omega)
        have b0 := w_u8 (192 + r / 64) (by omega) (by omega)
        have c0 := and63 (r) (by omega) (by omega)
        have d0 := w_i32 (128 + r % 64) (by omega) (by omega)
        have e0 := w_u8 (128 + r % 64) (by omega) (by omega)
        have hE : enc1 r = [UInt8.ofNat (192 + r / 64).toNat, UInt8.ofNat (128 + r % 64).toNat] := by
          unfold enc1
          rw [hC, if_neg (by omega), if_pos (by omega)]
          congr 1 <;> first | (congr 1; omega) | (congr 1 <;> first | (congr 1; omega) | (congr 1 <;> first | (congr 1; omega) | (congr 1 <;> (congr 1; omega))))
        rw [hE] at h
        simp (implicitDefEqProofs := false) only [sB, simprocAttr, f81, k1, k2, k3, m1, m2, sh6, sh12, sh18, f1, a0, b0, c0, d0, e0]
        refine i_new fun z hz => ?_
        simp (implicitDefEqProofs := false) only [sB, simprocAttr, f1, a0, b0, c0, d0, e0]
        exact ⟨_, .tail _ _, h⟩
      · have m3 : r < 65536 := by omega
        have f1 : r.fdiv 4096 = r / 4096 := Int.fdiv_eq_ediv_of_nonneg _ (by decide)
        have f6 : r.fdiv 64 = r / 64 := Int.fdiv_eq_ediv_of_nonneg _ (by decide)
        have a0 := w_i32 (224 + r / 4096) (by omega) (by omega)
        have b0 := w_u8 (224 + r / 4096) (by omega) (by omega)
        have c0 := and63 (r / 64) (by omega) (by omega)
        have d0 := w_i32 (128 + r / 64 % 64) (by omega) (by omega)
        have e0 := w_u8 (128 + r / 64 % 64) (by omega) (by omega)
        have c1 := and63 (r) (by omega) (by omega)
        have d1 := w_i32 (128 + r % 64) (by omega) (by omega)
        have e1 := w_u8 (128 + r % 64) (by omega) (by omega)
        have hE : enc1 r = [UInt8.ofNat (224 + r / 4096).toNat, UInt8.ofNat (128 + r / 64 % 64).toNat, UInt8.ofNat (128 + r % 64).toNat] := by
          unfold enc1
          rw [hC, if_neg (by omega), if_neg (by omega), if_pos (by omega)]
          congr 1 <;> first | (congr 1; omega) | (congr 1 <;> first | (congr 1; omega) | (congr 1 <;> first | (congr 1; omega) | (congr 1 <;> (congr 1; omega))))
        rw [hE] at h
        simp (implicitDefEqProofs := false) only [sB, simprocAttr, f81, k1, k2, k3, m1, m2, m3, sh6, sh12, sh18, f1, f6, a0, b0, c0, d0, e0, c1, d1, e1]
        refine i_new fun z hz => ?_
        simp (implicitDefEqProofs := false) only [sB, simprocAttr, f1, f6, a0, b0, c0, d0, e0, c1, d1, e1]
        exact ⟨_, .tail _ _, h⟩
theorem c81_of (P : Program) {G : Nat → Option (List AV)} {xs : List AV} {H : Heap} {K : Kv} (h : c81 xs H K) : @xF ⟨G, P, []⟩ f81 xs H ⟨fun v H' => ∃ H0, Hle H0 H' ∧ K.ap v H0⟩ := by
  obtain ⟨r, rfl, lo, hi, h⟩ := h
  by_cases b : 0 ≤ r ∧ r ≤ 1114111 ∧ ¬ (55296 ≤ r ∧ r ≤ 57343)
  · exact c28_good P r b.1 b.2.1 b.2.2 h
  · have hE : enc1 r = [239, 191, 189] := by
      have : encC r = 65533 := by unfold encC; rw [if_pos (by omega)]
      unfold enc1
      rw [this]; rfl
    rw [hE] at h
    have c1 : intB .and .i32 (Int.fdiv 65533 64) 63 = 63 := by decide
    have c2 : intB .and .i32 65533 63 = 61 := by decide
    have c3 : Int.fdiv 65533 4096 = 15 := by decide
    have c4 : Int.fdiv 65533 64 = 1023 := by decide
    have c5 : intB .and .i32 1023 63 = 63 := by decide
    have w1 := w_i32 239 (by decide) (by decide)
    have w2 := w_i32 191 (by decide) (by decide)
    have w3 := w_i32 189 (by decide) (by decide)
    have v1 := w_u8 239 (by decide) (by decide)
    have v2 := w_u8 191 (by decide) (by decide)
    have v3 := w_u8 189 (by decide) (by decide)
    by_cases k1 : r < 0
    · simp (implicitDefEqProofs := false) only [sB, simprocAttr, f81, k1, sh6, sh12, sh18, c1, c2, c3, c4, c5, w1, w2, w3, v1, v2, v3]
      refine i_new fun z hz => ?_
      simp (implicitDefEqProofs := false) only [sB, simprocAttr, c1, c2, c3, c4, c5, w1, w2, w3, v1, v2, v3]
      exact ⟨_, .tail _ _, h⟩
    · by_cases k2 : 1114111 < r
      · simp (implicitDefEqProofs := false) only [sB, simprocAttr, f81, k1, k2, sh6, sh12, sh18, c1, c2, c3, c4, c5, w1, w2, w3, v1, v2, v3]
        refine i_new fun z hz => ?_
        simp (implicitDefEqProofs := false) only [sB, simprocAttr, c1, c2, c3, c4, c5, w1, w2, w3, v1, v2, v3]
        exact ⟨_, .tail _ _, h⟩
      · have k3 : 55296 ≤ r := by omega
        have k4 : r ≤ 57343 := by omega
        simp (implicitDefEqProofs := false) only [sB, simprocAttr, f81, k1, k2, k3, k4, sh6, sh12, sh18, c1, c2, c3, c4, c5, w1, w2, w3, v1, v2, v3]
        refine i_new fun z hz => ?_
        simp (implicitDefEqProofs := false) only [sB, simprocAttr, c1, c2, c3, c4, c5, w1, w2, w3, v1, v2, v3]
        exact ⟨_, .tail _ _, h⟩
theorem w_u8m (n : Int) : IntKind.wrap .u8 n = n % 256 := by simp only [IntKind.wrap, IntKind.bits, IntKind.signed, Bool.false_and, Bool.false_eq_true, if_false]; omega
theorem w_u32 (n : Int) (h1 : 0 ≤ n) (h2 : n < 4294967296) : IntKind.wrap .u32 n = n := by simp only [IntKind.wrap, IntKind.bits, IntKind.signed, Bool.false_and, Bool.false_eq_true, if_false]; omega
theorem w_u32n (n : Int) (h1 : -2147483648 ≤ n) (h2 : n < 0) : IntKind.wrap .u32 n = n + 4294967296 := by simp only [IntKind.wrap, IntKind.bits, IntKind.signed, Bool.false_and, Bool.false_eq_true, if_false]; omega
def c76 (xs : List AV) (H : Heap) (K : Kv) : Prop := ∃ (bs : List UInt8) (tk : Tok) (R : Heap) (r : Int), xs = [.sl (bytesAV bs) tk, .int .i32 r] ∧ H.Perm (tokH tk ++ R) ∧ H.keys.Nodup ∧ GC 1 (bytesAV bs) tk ∧ bs.length ≤ 1099511627776 ∧ -2147483648 ≤ r ∧ r < 2147483648 ∧
  ∀ tk' H', GC 1 (bytesAV (bs ++ enc1 r)) tk' → H'.Perm (tokH tk' ++ R) → H'.keys.Nodup → K.ap (.sl (bytesAV (bs ++ enc1 r)) tk') H'
theorem enc1_len (r : Int) : (enc1 r).length ≤ 4 ∧ enc1 r ≠ [] := by unfold enc1; repeat' split
                                                                     all_goals exact ⟨by simp, by simp⟩
theorem app_enc {t : Th} {H R : Heap} {K : Kv} {bs e : List UInt8} {tk : Tok} (hp : H.Perm (tokH tk ++ R)) (hn : H.keys.Nodup) (hg : GC 1 (bytesAV bs) tk) (hl : bs.length ≤ 1099511627776) (he : e.length ≤ 4)
    (h : ∀ tk' H', GC 1 (bytesAV (bs ++ e)) tk' → H'.Perm (tokH tk' ++ R) → H'.keys.Nodup → K.ap (.sl (bytesAV (bs ++ e)) tk') H') (n : Nat) (hn0 : n = e.length) (z : Nat) (hz : z ∉ H.keys) :
    xE (t := t) (.app 1 1) [.sl (bytesAV bs) tk, .msl z 0 n 1] ((z, .cells (bytesAV e)) :: H) (K := ⟨fun v H' => ∃ H0, Hle H0 H' ∧ K.ap v H0⟩) := by
  obtain rfl : n = (bytesAV e).length := by rw [by_len]; exact hn0
  refine i_appC (by decide) (A := [(z, .cells (bytesAV e))]) (R := R) (tk := tk) (xs := bytesAV bs) (ys := bytesAV e) (hp.cons _) (List.nodup_cons.2 ⟨hz, hn⟩) hg (src_cells (by simp [lookH]) (by rw [by_all]; trivial) (by_flat e)) (by rw [by_all]; trivial) ?_ ?_ fun tk' H' g1 g2 g3 => ?_
  · simp only [by_len, maxLen_eq]; omega
  · simp only [by_len]; omega
  · rw [by_app] at g1 ⊢
    exact ⟨_, hle_sub g2 (List.sublist_append_right _ _), h tk' _ g1 (.refl _) (nodup_sub g2 (List.sublist_append_right _ _) g3)⟩
theorem c98_of (P : Program) {G : Nat → Option (List AV)} {xs : List AV} {H : Heap} {K : Kv} (h : c76 xs H K) (hr : ∀ r : Int, xs[1]? = some (.int .i32 r) → ¬ (0 ≤ r ∧ r ≤ 127)) : @xF ⟨G, P, []⟩ f98 xs H ⟨fun v H' => ∃ H0, Hle H0 H' ∧ K.ap v H0⟩ := by
  obtain ⟨bs, tk, R, r, rfl, hp, hn, hg, hl, lo, hi, h⟩ := h
  have hr := hr r rfl
  have he := (enc1_len r).1
  have fin := app_enc (t := ⟨G, P, []⟩) hp hn hg hl he h
  by_cases b : 0 ≤ r ∧ r ≤ 1114111 ∧ ¬ (55296 ≤ r ∧ r ≤ 57343)
  · have hC := enc_range b.1 b.2.1 b.2.2
    have u := w_u32 r (by omega) (by omega)
    by_cases m2 : r ≤ 2047
    · have f6 : r.fdiv 64 = r / 64 := Int.fdiv_eq_ediv_of_nonneg _ (by decide)
      have b0 := w_u8 (r / 64) (by omega) (by omega)
      have a0 := or192 (r / 64) (by omega) (by omega)
      have c0 : IntKind.wrap .u8 (r) = r % 256 := w_u8m _
      have d0 : intB .and .u8 (r % 256) 63 = r % 64 := by rw [and63b _ (by omega) (by omega)]; omega
      have e0 := or128 (r % 64) (by omega) (by omega)
      have hE : enc1 r = [UInt8.ofNat (192 + r / 64).toNat, UInt8.ofNat (128 + r % 64).toNat] := by
        unfold enc1
        rw [hC, if_neg (by omega), if_pos (by omega)]
        congr 1 <;> first | (congr 1; omega) | (congr 1 <;> first | (congr 1; omega) | (congr 1 <;> first | (congr 1; omega) | (congr 1 <;> (congr 1; omega))))
      have hB : [AV.int .u8 (192 + r / 64), AV.int .u8 (128 + r % 64)] = bytesAV (enc1 r) := by
        rw [hE]
        simp only [bytesAV, List.map_cons, List.map_nil, byteAV, UInt8.toNat_ofNat', List.cons.injEq, AV.int.injEq, true_and, and_true]; omega
      have hL : (enc1 r).length = 2 := by rw [hE]; rfl
      simp (implicitDefEqProofs := false) only [sB, simprocAttr, f98, u, m2, sh6, sh12, sh18, f6, b0, a0, c0, d0, e0]
      refine i_new fun z hz => ?_
      simp (implicitDefEqProofs := false) only [sB, simprocAttr, f6, b0, a0, c0, d0, e0]
      first | rw [hB] | skip
      exact fin 2 hL.symm z hz
    · by_cases m3 : r ≤ 65535
      · by_cases q1 : r < 55296
        · have f12 : r.fdiv 4096 = r / 4096 := Int.fdiv_eq_ediv_of_nonneg _ (by decide)
          have f6 : r.fdiv 64 = r / 64 := Int.fdiv_eq_ediv_of_nonneg _ (by decide)
          have b0 := w_u8 (r / 4096) (by omega) (by omega)
          have a0 := or224 (r / 4096) (by omega) (by omega)
          have c0 : IntKind.wrap .u8 (r / 64) = r / 64 % 256 := w_u8m _
          have d0 : intB .and .u8 (r / 64 % 256) 63 = r / 64 % 64 := by rw [and63b _ (by omega) (by omega)]; omega
          have e0 := or128 (r / 64 % 64) (by omega) (by omega)
          have c1 : IntKind.wrap .u8 (r) = r % 256 := w_u8m _
          have d1 : intB .and .u8 (r % 256) 63 = r % 64 := by rw [and63b _ (by omega) (by omega)]; omega
          have e1 := or128 (r % 64) (by omega) (by omega)
          have hE : enc1 r = [UInt8.ofNat (224 + r / 4096).toNat, UInt8.ofNat (128 + r / 64 % 64).toNat, UInt8.ofNat (128 + r % 64).toNat] := by
            unfold enc1
            rw [hC, if_neg (by omega), if_neg (by omega), if_pos (by omega)]
            congr 1 <;> first | (congr 1; omega) | (congr 1 <;> first | (congr 1; omega) | (congr 1 <;> first | (congr 1; omega) | (congr 1 <;> (congr 1; omega))))
          have hB : [AV.int .u8 (224 + r / 4096), AV.int .u8 (128 + r / 64 % 64), AV.int .u8 (128 + r % 64)] = bytesAV (enc1 r) := by
            rw [hE]
            simp only [bytesAV, List.map_cons, List.map_nil, byteAV, UInt8.toNat_ofNat', List.cons.injEq, AV.int.injEq, true_and, and_true]; omega
          have hL : (enc1 r).length = 3 := by rw [hE]; rfl
          simp (implicitDefEqProofs := false) only [sB, simprocAttr, f98, u, m2, m3, q1, sh6, sh12, sh18, f12, f6, b0, a0, c0, d0, e0, c1, d1, e1]
          refine i_new fun z hz => ?_
          simp (implicitDefEqProofs := false) only [sB, simprocAttr, f12, f6, b0, a0, c0, d0, e0, c1, d1, e1]
          first | rw [hB] | skip
          exact fin 3 hL.symm z hz
        · have q2 : 57343 < r := by omega
          have f12 : r.fdiv 4096 = r / 4096 := Int.fdiv_eq_ediv_of_nonneg _ (by decide)
          have f6 : r.fdiv 64 = r / 64 := Int.fdiv_eq_ediv_of_nonneg _ (by decide)
          have b0 := w_u8 (r / 4096) (by omega) (by omega)
          have a0 := or224 (r / 4096) (by omega) (by omega)
          have c0 : IntKind.wrap .u8 (r / 64) = r / 64 % 256 := w_u8m _
          have d0 : intB .and .u8 (r / 64 % 256) 63 = r / 64 % 64 := by rw [and63b _ (by omega) (by omega)]; omega
          have e0 := or128 (r / 64 % 64) (by omega) (by omega)
          have c1 : IntKind.wrap .u8 (r) = r % 256 := w_u8m _
          have d1 : intB .and .u8 (r % 256) 63 = r % 64 := by rw [and63b _ (by omega) (by omega)]; omega
          have e1 := or128 (r % 64) (by omega) (by omega)
          have hE : enc1 r = [UInt8.ofNat (224 + r / 4096).toNat, UInt8.ofNat (128 + r / 64 % 64).toNat, UInt8.ofNat (128 + r % 64).toNat] := by
            unfold enc1
            rw [hC, if_neg (by omega), if_neg (by omega), if_pos (by omega)]
            congr 1 <;> first | (congr 1; omega) | (congr 1 <;> first | (congr 1; omega) | (congr 1 <;> first | (congr 1; omega) | (congr 1 <;> (congr 1; omega))))
          have hB : [AV.int .u8 (224 + r / 4096), AV.int .u8 (128 + r / 64 % 64), AV.int .u8 (128 + r % 64)] = bytesAV (enc1 r) := by
            rw [hE]
            simp only [bytesAV, List.map_cons, List.map_nil, byteAV, UInt8.toNat_ofNat', List.cons.injEq, AV.int.injEq, true_and, and_true]; omega
          have hL : (enc1 r).length = 3 := by rw [hE]; rfl
          simp (implicitDefEqProofs := false) only [sB, simprocAttr, f98, u, m2, m3, q1, q2, sh6, sh12, sh18, f12, f6, b0, a0, c0, d0, e0, c1, d1, e1]
          refine i_new fun z hz => ?_
          simp (implicitDefEqProofs := false) only [sB, simprocAttr, f12, f6, b0, a0, c0, d0, e0, c1, d1, e1]
          first | rw [hB] | skip
          exact fin 3 hL.symm z hz
      · have q1 : ¬ r < 55296 := by omega
        have q2 : 57343 < r := by omega
        have q3 : 65535 < r := by omega
        have q4 := b.2.1
        have f18 : r.fdiv 262144 = r / 262144 := Int.fdiv_eq_ediv_of_nonneg _ (by decide)
        have f12 : r.fdiv 4096 = r / 4096 := Int.fdiv_eq_ediv_of_nonneg _ (by decide)
        have f6 : r.fdiv 64 = r / 64 := Int.fdiv_eq_ediv_of_nonneg _ (by decide)
        have b0 := w_u8 (r / 262144) (by omega) (by omega)
        have a0 := or240 (r / 262144) (by omega) (by omega)
        have c0 : IntKind.wrap .u8 (r / 4096) = r / 4096 % 256 := w_u8m _
        have d0 : intB .and .u8 (r / 4096 % 256) 63 = r / 4096 % 64 := by rw [and63b _ (by omega) (by omega)]; omega
        have e0 := or128 (r / 4096 % 64) (by omega) (by omega)
        have c1 : IntKind.wrap .u8 (r / 64) = r / 64 % 256 := w_u8m _
        have d1 : intB .and .u8 (r / 64 % 256) 63 = r / 64 % 64 := by rw [and63b _ (by omega) (by omega)]; omega
        have e1 := or128 (r / 64 % 64) (by omega) (by omega)
        have c2 : IntKind.wrap .u8 (r) = r % 256 := w_u8m _
        have d2 : intB .and .u8 (r % 256) 63 = r % 64 := by rw [and63b _ (by omega) (by omega)]; omega
        have e2 := or128 (r % 64) (by omega) (by omega)
        have hE : enc1 r = [UInt8.ofNat (240 + r / 262144).toNat, UInt8.ofNat (128 + r / 4096 % 64).toNat, UInt8.ofNat (128 + r / 64 % 64).toNat, UInt8.ofNat (128 + r % 64).toNat] := by
          unfold enc1
          rw [hC, if_neg (by omega), if_neg (by omega), if_neg (by omega)]
          congr 1 <;> first | (congr 1; omega) | (congr 1 <;> first | (congr 1; omega) | (congr 1 <;> first | (congr 1; omega) | (congr 1 <;> (congr 1; omega))))
        have hB : [AV.int .u8 (240 + r / 262144), AV.int .u8 (128 + r / 4096 % 64), AV.int .u8 (128 + r / 64 % 64), AV.int .u8 (128 + r % 64)] = bytesAV (enc1 r) := by
          rw [hE]
          simp only [bytesAV, List.map_cons, List.map_nil, byteAV, UInt8.toNat_ofNat', List.cons.injEq, AV.int.injEq, true_and, and_true]; omega
        have hL : (enc1 r).length = 4 := by rw [hE]; rfl
        simp (implicitDefEqProofs := false) only [sB, simprocAttr, f98, u, m2, m3, q1, q2, q3, q4, sh6, sh12, sh18, f18, f12, f6, b0, a0, c0, d0, e0, c1, d1, e1, c2, d2, e2]
        refine i_new fun z hz => ?_
        simp (implicitDefEqProofs := false) only [sB, simprocAttr, f18, f12, f6, b0, a0, c0, d0, e0, c1, d1, e1, c2, d2, e2]
        first | rw [hB] | skip
        exact fin 4 hL.symm z hz
  · have hE : enc1 r = [239, 191, 189] := by
      have : encC r = 65533 := by unfold encC; rw [if_pos (by omega)]
      unfold enc1
      rw [this]; rfl
    by_cases k1 : r < 0
    · have u := w_u32n r lo k1
      have m2 : ¬ r + 4294967296 ≤ 2047 := by omega
      have m3 : ¬ r + 4294967296 ≤ 65535 := by omega
      have q1 : ¬ r + 4294967296 < 55296 := by omega
      have q2 : 57343 < r + 4294967296 := by omega
      have q3 : 65535 < r + 4294967296 := by omega
      have q4 : ¬ r + 4294967296 ≤ 1114111 := by omega
      have hB : [AV.int .u8 (239), AV.int .u8 (191), AV.int .u8 (189)] = bytesAV (enc1 r) := by
        rw [hE]
        rfl
      have hL : (enc1 r).length = 3 := by rw [hE]; rfl
      simp (implicitDefEqProofs := false) only [sB, simprocAttr, f98, u, m2, m3, q1, q2, q3, q4, sh6, sh12, sh18]
      refine i_new fun z hz => ?_
      simp (implicitDefEqProofs := false) only [sB, simprocAttr]
      first | rw [hB] | skip
      exact fin 3 hL.symm z hz
    · have u := w_u32 r (by omega) (by omega)
      have m2 : ¬ r ≤ 2047 := by omega
      have q1 : ¬ r < 55296 := by omega
      by_cases q2 : 57343 < r
      · have m3 : ¬ r ≤ 65535 := by omega
        have q3 : 65535 < r := by omega
        have q4 : ¬ r ≤ 1114111 := by omega
        have hB : [AV.int .u8 (239), AV.int .u8 (191), AV.int .u8 (189)] = bytesAV (enc1 r) := by
          rw [hE]
          rfl
        have hL : (enc1 r).length = 3 := by rw [hE]; rfl
        simp (implicitDefEqProofs := false) only [sB, simprocAttr, f98, u, m2, m3, q1, q2, q3, q4, sh6, sh12, sh18]
        refine i_new fun z hz => ?_
        simp (implicitDefEqProofs := false) only [sB, simprocAttr]
        first | rw [hB] | skip
        exact fin 3 hL.symm z hz
      · have q3 : ¬ 65535 < r := by omega
        have hB : [AV.int .u8 (239), AV.int .u8 (191), AV.int .u8 (189)] = bytesAV (enc1 r) := by
          rw [hE]
          rfl
        have hL : (enc1 r).length = 3 := by rw [hE]; rfl
        simp (implicitDefEqProofs := false) only [sB, simprocAttr, f98, u, m2, q1, q2, q3, sh6, sh12, sh18]
        refine i_new fun z hz => ?_
        simp (implicitDefEqProofs := false) only [sB, simprocAttr]
        first | rw [hB] | skip
        exact fin 3 hL.symm z hz
def c98 (xs : List AV) (H : Heap) (K : Kv) : Prop := c76 xs H K ∧ ∀ r : Int, xs[1]? = some (.int .i32 r) → ¬ (0 ≤ r ∧ r ≤ 127)
theorem c76_of (P : Program) {G : Nat → Option (List AV)} {xs : List AV} {H : Heap} {K : Kv} (h : c76 xs H K) : @xF ⟨G, P, [(98, c98)]⟩ f76 xs H ⟨fun v H' => ∃ H0, Hle H0 H' ∧ K.ap v H0⟩ := by
  obtain ⟨bs, tk, R, r, rfl, hp, hn, hg, hl, lo, hi, h⟩ := h
  by_cases b : 0 ≤ r ∧ r ≤ 127
  · have hC := enc_range b.1 (by omega) (by omega)
    have u := w_u32 r (by omega) (by omega)
    have he := (enc1_len r).1
    have fin := app_enc (t := ⟨G, P, [(98, c98)]⟩) hp hn hg hl he h
    have m1 := b.2
    have b0 := w_u8 r (by omega) (by omega)
    have hE : enc1 r = [UInt8.ofNat r.toNat] := by
      unfold enc1
      rw [hC, if_pos (by omega)]
    have hB : [AV.int .u8 (r)] = bytesAV (enc1 r) := by
      rw [hE]
      simp only [bytesAV, List.map_cons, List.map_nil, byteAV, UInt8.toNat_ofNat', List.cons.injEq, AV.int.injEq, true_and, and_true]; omega
    have hL : (enc1 r).length = 1 := by rw [hE]; rfl
    simp (implicitDefEqProofs := false) only [sB, simprocAttr, f76, u, m1, sh6, sh12, sh18, b0]
    refine i_new fun z hz => ?_
    simp (implicitDefEqProofs := false) only [sB, simprocAttr, b0]
    first | rw [hB] | skip
    exact fin 1 hL.symm z hz
  · have m1 : ¬ IntKind.wrap .u32 r ≤ 127 := by
      by_cases k1 : r < 0
      · rw [w_u32n r lo k1]; omega
      · rw [w_u32 r (by omega) (by omega)]; omega
    simp (implicitDefEqProofs := false) only [sB, simprocAttr, f76, m1]
    refine ⟨⟨bs, tk, R, r, rfl, hp, hn, hg, hl, lo, hi, fun tk' H' g1 g2 g3 => ?_⟩, fun r' e => ?_⟩
    · simp (implicitDefEqProofs := false) only [sB, simprocAttr]
      exact ⟨_, .refl _, h tk' H' g1 g2 g3⟩
    · have : r = r' := by simpa using e
      subst this; exact b
end Go.AL.Fun
