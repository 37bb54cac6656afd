/- Eight bytes read as one word. -/
import Derived.Test.YtijioomcpecdhaaDoorR15
set_option linter.unusedSimpArgs false
set_option linter.unusedVariables false
set_option maxRecDepth 100000
set_option maxHeartbeats 4000000
namespace Go.AL.Fun
open Go Go.AL

theorem w_u64' (n : Int) (h1 : 0 ≤ n) (h2 : n < 18446744073709551616) : IntKind.wrap .u64 n = n := by simp only [IntKind.wrap, IntKind.bits, IntKind.signed, Bool.false_and, Bool.false_eq_true, if_false]; omega
theorem or_u64 (x y : Nat) (hx : x < 18446744073709551616) (hy : y < 18446744073709551616) : intB .or .u64 x y = ((x ||| y : Nat) : Int) := by
  show IntKind.wrap .u64 (((BitVec.ofInt 64 (x : Int)) ||| (BitVec.ofInt 64 (y : Int))).toNat : Int) = _
  rw [ofInt_nat, ofInt_nat, BitVec.toNat_or, BitVec.toNat_ofNat, BitVec.toNat_ofNat, Nat.mod_eq_of_lt (by omega), Nat.mod_eq_of_lt (by omega)]
  have : x ||| y < 2 ^ 64 := Nat.or_lt_two_pow hx hy
  exact w_u64' _ (by omega) (by omega)
theorem and_u64w (x y : Nat) (hx : x < 18446744073709551616) (hy : y < 18446744073709551616) : intB .and .u64 x y = ((x &&& y : Nat) : Int) := by
  show IntKind.wrap .u64 (((BitVec.ofInt 64 (x : Int)) &&& (BitVec.ofInt 64 (y : Int))).toNat : Int) = _
  rw [ofInt_nat, ofInt_nat, BitVec.toNat_and, BitVec.toNat_ofNat, BitVec.toNat_ofNat, Nat.mod_eq_of_lt (by omega), Nat.mod_eq_of_lt (by omega)]
  have : x &&& y ≤ x := Nat.and_le_left
  exact w_u64' _ (by omega) (by omega)
theorem shu (k : Nat) (hk : k ≤ 64) : (2 : Int) ^ (if k ≤ IntKind.u64.bits then k else IntKind.u64.bits) = 2 ^ k := by rw [if_pos (show k ≤ IntKind.u64.bits from hk)]
theorem shb (k : Nat) (hk : k ≤ 56) (b : UInt8) : IntKind.wrap .u64 (IntKind.wrap .u64 (n8 b) * 2 ^ (if k ≤ IntKind.u64.bits then k else IntKind.u64.bits)) = ((b.toNat <<< k : Nat) : Int) ∧ b.toNat <<< k < 18446744073709551616 := by
  have h1 : 2 ^ k ≤ 2 ^ 56 := Nat.pow_le_pow_right (by decide) hk
  have hb := b.toNat_lt
  have hc := n8_lt b
  have h2 : b.toNat * 2 ^ k ≤ 255 * 2 ^ 56 := Nat.mul_le_mul (by omega) h1
  have h3 : b.toNat <<< k < 18446744073709551616 := by rw [Nat.shiftLeft_eq]; omega
  refine ⟨?_, h3⟩
  rw [shu k (by omega), w_u64' (n8 b) (by omega) (by omega)]
  have e : n8 b * 2 ^ k = ((b.toNat <<< k : Nat) : Int) := by rw [Nat.shiftLeft_eq, Int.natCast_mul, Int.natCast_pow]; rfl
  rw [e]
  exact w_u64' _ (by omega) (by omega)
theorem orS {x y : Nat} (hx : x < 18446744073709551616) (hy : y < 18446744073709551616) : x ||| y < 18446744073709551616 := Nat.or_lt_two_pow (n := 64) hx hy
def wordL (s : List UInt8) : Nat := wordN (s[0]?.getD 0).toNat (s[1]?.getD 0).toNat (s[2]?.getD 0).toNat (s[3]?.getD 0).toNat (s[4]?.getD 0).toNat (s[5]?.getD 0).toNat (s[6]?.getD 0).toNat (s[7]?.getD 0).toNat
def c83 (xs : List AV) (H : Heap) (K : Kv) : Prop := ∃ (s : List UInt8), xs = [.str s] ∧ 8 ≤ s.length ∧ K.ap (.int .u64 (wordL s)) H
theorem c83_of (P : Program) {G : Nat → Option (List AV)} {xs : List AV} {H : Heap} {K : Kv} (h : c83 xs H K) : @xF ⟨G, P, []⟩ f83 xs H ⟨fun v H' => ∃ H0, Hle H0 H' ∧ K.ap v H0⟩ := by
  obtain ⟨s, rfl, hl, h⟩ := h
  rcases s with _ | ⟨a, _ | ⟨b, _ | ⟨c, _ | ⟨d, _ | ⟨e, _ | ⟨f, _ | ⟨g, _ | ⟨i, r⟩⟩⟩⟩⟩⟩⟩⟩
  all_goals first | (simp only [List.length_cons, List.length_nil] at hl; omega) | skip
  simp (implicitDefEqProofs := false) only [sB, simprocAttr, f83, byteAV_n8]
  have hc := n8_lt a
  have ha := a.toNat_lt
  have w0 : IntKind.wrap .u64 (n8 a) = (a.toNat : Int) := w_u64' (n8 a) (by omega) (by omega)
  obtain ⟨s1, t1⟩ := shb 8 (by decide) b
  obtain ⟨s2, t2⟩ := shb 16 (by decide) c
  obtain ⟨s3, t3⟩ := shb 24 (by decide) d
  obtain ⟨s4, t4⟩ := shb 32 (by decide) e
  obtain ⟨s5, t5⟩ := shb 40 (by decide) f
  obtain ⟨s6, t6⟩ := shb 48 (by decide) g
  obtain ⟨s7, t7⟩ := shb 56 (by decide) i
  have t0 : a.toNat < 18446744073709551616 := by omega
  have u1 := orS t0 t1
  have u2 := orS u1 t2
  have u3 := orS u2 t3
  have u4 := orS u3 t4
  have u5 := orS u4 t5
  have u6 := orS u5 t6
  rw [w0, s1, s2, s3, s4, s5, s6, s7, or_u64 _ _ t0 t1, or_u64 _ _ u1 t2, or_u64 _ _ u2 t3, or_u64 _ _ u3 t4, or_u64 _ _ u4 t5, or_u64 _ _ u5 t6, or_u64 _ _ u6 t7]
  exact ⟨_, .refl _, h⟩
end Go.AL.Fun
