/- One rune decoded: the tables, the library's decoder. -/
import Derived.Test.YtcmgeflfapffoaaDoorF1
import Derived.Test.YtcmgeflfapffoaaDoorU1
import Derived.Test.YtcmgeflfapffoaaDoorE1
set_option linter.unusedSimpArgs false
set_option linter.unusedVariables false
set_option maxRecDepth 100000
set_option maxHeartbeats 4000000
namespace Go.AL.Fun
open Go Go.AL

def n8 (b : UInt8) : Int := (b.toNat : Int)
theorem n8_lt (b : UInt8) : 0 ≤ n8 b ∧ n8 b < 256 := by have := b.toNat_lt; unfold n8; omega
theorem byteAV_n8 (b : UInt8) : byteAV b = .int .u8 (n8 b) := rfl
theorem sh6 : (2 : Int) ^ (if 6 ≤ IntKind.i32.bits then 6 else IntKind.i32.bits) = 64 := by decide
theorem sh12 : (2 : Int) ^ (if 12 ≤ IntKind.i32.bits then 12 else IntKind.i32.bits) = 4096 := by decide
theorem sh18 : (2 : Int) ^ (if 18 ≤ IntKind.i32.bits then 18 else IntKind.i32.bits) = 262144 := by decide
theorem ofInt_nat (w n : Nat) : BitVec.ofInt w (n : Int) = BitVec.ofNat w n := by simp
theorem and_u8 (x y : Nat) (hx : x < 256) (hy : y < 256) : intB .and .u8 x y = ((x &&& y : Nat) : Int) := by
  show IntKind.wrap .u8 (((BitVec.ofInt 8 (x : Int)) &&& (BitVec.ofInt 8 (y : Int))).toNat : Int) = _
  rw [ofInt_nat, ofInt_nat, BitVec.toNat_and, BitVec.toNat_ofNat, BitVec.toNat_ofNat, Nat.mod_eq_of_lt (by omega), Nat.mod_eq_of_lt (by omega)]
  have : x &&& y ≤ x := Nat.and_le_left
  exact w_u8 _ (by omega) (by omega)
theorem and63b (a : Int) (h0 : 0 ≤ a) (h1 : a < 256) : intB .and .u8 a 63 = a % 64 := by
  obtain ⟨n, rfl⟩ := Int.eq_ofNat_of_zero_le h0
  have := and_u8 n 63 (by omega) (by omega)
  rw [show (63 : Int) = ((63 : Nat) : Int) from rfl, this, show n &&& 63 = n % 64 from Nat.and_two_pow_sub_one_eq_mod n 6]
  omega
def firstT (c : Nat) : Int := if c < 128 then 240 else if c < 194 then 241 else if c < 224 then 2 else if c = 224 then 19 else if c = 237 then 35 else if c < 240 then 3 else if c = 240 then 52 else if c < 244 then 4 else if c = 244 then 68 else 241
def firstL : List AV := (List.range 256).map fun c => .int .u8 (firstT c)
def accL : List AV := [.int .u8 128, .int .u8 191, .int .u8 160, .int .u8 191, .int .u8 128, .int .u8 159, .int .u8 144, .int .u8 191, .int .u8 128, .int .u8 143] ++ List.replicate 22 (.int .u8 0)
def tab64Z : List Int := [0, 1, 56, 2, 57, 49, 28, 3, 61, 58, 42, 50, 38, 29, 17, 4, 62, 47, 59, 36, 45, 43, 51, 22, 53, 39, 33, 30, 24, 18, 12, 5, 63, 55, 48, 27, 60, 41, 37, 16, 46, 35, 44, 21, 52, 32, 23, 11, 54, 26, 40, 15, 34, 20, 31, 10, 25, 14, 19, 9, 13, 8, 7, 6]
def tab64L : List AV := tab64Z.map (.int .u8)
def Gu : Nat → Option (List AV) := fun g => match g with | 2 => some firstL | 3 => some accL | _ => none
@[reducible] def tU (P : Program) (T : XT) : Th := ⟨Gu, P, T⟩
theorem opE_glob (G : Nat → Option (List AV)) (σ : Env) (g : Nat) : opE G σ (.global g) = match G g with | some cs => .iptr cs | none => .any := rfl
theorem G0 (P : Program) (T : XT) : @Th.G (tU P T) 2 = some firstL := rfl
theorem G1 (P : Program) (T : XT) : @Th.G (tU P T) 3 = some accL := rfl
theorem Gu0 : Gu 2 = some firstL := rfl
theorem Gu1 : Gu 3 = some accL := rfl
theorem first_at (c : UInt8) : (firstL.drop (n8 c).toNat)[0]? = some (.int .u8 (firstT c.toNat)) := by
  have := c.toNat_lt
  have e : (n8 c).toNat = c.toNat := by unfold n8; omega
  rw [e]
  simp only [List.getElem?_drop, Nat.add_zero, firstL, List.getElem?_map, List.getElem?_range (show c.toNat < 256 by omega), Option.map_some]
theorem an7 : intB .and .u8 240 7 = 0 ∧ intB .and .u8 241 7 = 1 ∧ intB .and .u8 2 7 = 2 ∧ intB .and .u8 19 7 = 3 ∧ intB .and .u8 35 7 = 3 ∧ intB .and .u8 3 7 = 3 ∧ intB .and .u8 52 7 = 4 ∧ intB .and .u8 68 7 = 4 ∧ intB .and .u8 4 7 = 4 := by decide
theorem wz : IntKind.wrap .i64 0 = 0 ∧ IntKind.wrap .i64 1 = 1 ∧ IntKind.wrap .i64 2 = 2 ∧ IntKind.wrap .i64 3 = 3 ∧ IntKind.wrap .i64 4 = 4 := by decide
theorem ac0 : (accL.drop 0).take 2 = [.int .u8 128, .int .u8 191] ∧ (accL.drop 2).take 2 = [.int .u8 160, .int .u8 191] ∧ (accL.drop 4).take 2 = [.int .u8 128, .int .u8 159] ∧ (accL.drop 6).take 2 = [.int .u8 144, .int .u8 191] ∧ (accL.drop 8).take 2 = [.int .u8 128, .int .u8 143] ∧ accL.take 2 = [.int .u8 128, .int .u8 191] := ⟨rfl, rfl, rfl, rfl, rfl, rfl⟩
theorem acl : accL.length = 32 := rfl
theorem sh4 : (2 : Int) ^ (if 4 ≤ IntKind.u8.bits then 4 else IntKind.u8.bits) = 16 := by decide
theorem fd4 : Int.fdiv 2 16 = 0 ∧ Int.fdiv 3 16 = 0 ∧ Int.fdiv 4 16 = 0 ∧ Int.fdiv 19 16 = 1 ∧ Int.fdiv 35 16 = 2 ∧ Int.fdiv 52 16 = 3 ∧ Int.fdiv 68 16 = 4 := by decide
/-- The classes of first bytes. -/
inductive Cls (c : UInt8) : Nat → Nat → Nat → Int → Prop
  | A (h : 194 ≤ n8 c ∧ n8 c ≤ 223) (h1 : firstT c.toNat = 2) (h2 : szOf c.toNat = 2) (h3 : loOf c.toNat = 128) (h4 : hiOf c.toNat = 191) : Cls c 2 128 191 2
  | B1 (h : n8 c = 224) (h1 : firstT c.toNat = 19) (h2 : szOf c.toNat = 3) (h3 : loOf c.toNat = 160) (h4 : hiOf c.toNat = 191) : Cls c 3 160 191 19
  | B2 (h : n8 c = 237) (h1 : firstT c.toNat = 35) (h2 : szOf c.toNat = 3) (h3 : loOf c.toNat = 128) (h4 : hiOf c.toNat = 159) : Cls c 3 128 159 35
  | B3 (h : 224 ≤ n8 c ∧ n8 c ≤ 239 ∧ n8 c ≠ 224 ∧ n8 c ≠ 237) (h1 : firstT c.toNat = 3) (h2 : szOf c.toNat = 3) (h3 : loOf c.toNat = 128) (h4 : hiOf c.toNat = 191) : Cls c 3 128 191 3
  | C1 (h : n8 c = 240) (h1 : firstT c.toNat = 52) (h2 : szOf c.toNat = 4) (h3 : loOf c.toNat = 144) (h4 : hiOf c.toNat = 191) : Cls c 4 144 191 52
  | C2 (h : n8 c = 244) (h1 : firstT c.toNat = 68) (h2 : szOf c.toNat = 4) (h3 : loOf c.toNat = 128) (h4 : hiOf c.toNat = 143) : Cls c 4 128 143 68
  | C3 (h : 240 ≤ n8 c ∧ n8 c ≤ 244 ∧ n8 c ≠ 240 ∧ n8 c ≠ 244) (h1 : firstT c.toNat = 4) (h2 : szOf c.toNat = 4) (h3 : loOf c.toNat = 128) (h4 : hiOf c.toNat = 191) : Cls c 4 128 191 4
theorem cls_of (c : UInt8) : (n8 c < 128 ∧ firstT c.toNat = 240) ∨ (128 ≤ n8 c ∧ szOf c.toNat = 0 ∧ firstT c.toNat = 241) ∨ (128 ≤ n8 c ∧ szOf c.toNat ≠ 0 ∧ ∃ sz lo hi v, Cls c sz lo hi v) := by
  have hc := n8_lt c
  by_cases h1 : n8 c < 128
  · exact .inl ⟨h1, by unfold firstT; unfold n8 at h1; rw [if_pos (by omega)]⟩
  by_cases h0 : szOf c.toNat = 0
  · refine .inr (.inl ⟨by omega, h0, ?_⟩)
    unfold szOf at h0
    unfold firstT
    unfold n8 at h1 hc
    (repeat' split at h0) <;> first | omega | skip
    all_goals (repeat' split) <;> omega
  refine .inr (.inr ⟨by omega, h0, ?_⟩)
  have cls : (194 ≤ n8 c ∧ n8 c ≤ 223) ∨ (n8 c = 224) ∨ (n8 c = 237) ∨ (224 ≤ n8 c ∧ n8 c ≤ 239 ∧ n8 c ≠ 224 ∧ n8 c ≠ 237) ∨ (n8 c = 240) ∨ (n8 c = 244) ∨ (240 ≤ n8 c ∧ n8 c ≤ 244 ∧ n8 c ≠ 240 ∧ n8 c ≠ 244) := by
    have e : ¬ szOf c.toNat = 0 := h0
    unfold szOf at e
    unfold n8
    repeat' split at e
    all_goals first | omega | exact absurd rfl e
  rcases cls with k | k | k | k | k | k | k
  · exact ⟨_, _, _, _, .A k (by unfold firstT; unfold n8 at k; (repeat' split) <;> omega) (by unfold szOf; unfold n8 at k; (repeat' split) <;> omega) (by unfold loOf; unfold n8 at k; (repeat' split) <;> omega) (by unfold hiOf; unfold n8 at k; (repeat' split) <;> omega)⟩
  · exact ⟨_, _, _, _, .B1 k (by unfold firstT; unfold n8 at k; (repeat' split) <;> omega) (by unfold szOf; unfold n8 at k; (repeat' split) <;> omega) (by unfold loOf; unfold n8 at k; (repeat' split) <;> omega) (by unfold hiOf; unfold n8 at k; (repeat' split) <;> omega)⟩
  · exact ⟨_, _, _, _, .B2 k (by unfold firstT; unfold n8 at k; (repeat' split) <;> omega) (by unfold szOf; unfold n8 at k; (repeat' split) <;> omega) (by unfold loOf; unfold n8 at k; (repeat' split) <;> omega) (by unfold hiOf; unfold n8 at k; (repeat' split) <;> omega)⟩
  · exact ⟨_, _, _, _, .B3 k (by unfold firstT; unfold n8 at k; (repeat' split) <;> omega) (by unfold szOf; unfold n8 at k; (repeat' split) <;> omega) (by unfold loOf; unfold n8 at k; (repeat' split) <;> omega) (by unfold hiOf; unfold n8 at k; (repeat' split) <;> omega)⟩
  · exact ⟨_, _, _, _, .C1 k (by unfold firstT; unfold n8 at k; (repeat' split) <;> omega) (by unfold szOf; unfold n8 at k; (repeat' split) <;> omega) (by unfold loOf; unfold n8 at k; (repeat' split) <;> omega) (by unfold hiOf; unfold n8 at k; (repeat' split) <;> omega)⟩
  · exact ⟨_, _, _, _, .C2 k (by unfold firstT; unfold n8 at k; (repeat' split) <;> omega) (by unfold szOf; unfold n8 at k; (repeat' split) <;> omega) (by unfold loOf; unfold n8 at k; (repeat' split) <;> omega) (by unfold hiOf; unfold n8 at k; (repeat' split) <;> omega)⟩
  · exact ⟨_, _, _, _, .C3 k (by unfold firstT; unfold n8 at k; (repeat' split) <;> omega) (by unfold szOf; unfold n8 at k; (repeat' split) <;> omega) (by unfold loOf; unfold n8 at k; (repeat' split) <;> omega) (by unfold hiOf; unfold n8 at k; (repeat' split) <;> omega)⟩
def fullP (p : List UInt8) : Bool := match p with | [] => false | _ => !(fst p).2
theorem fst_cls {c : UInt8} (r : List UInt8) (h : 128 ≤ n8 c) (h0 : szOf c.toNat ≠ 0) : fst (c :: r) = fgo (szOf c.toNat) (szOf c.toNat - 1) (loOf c.toNat) (hiOf c.toNat) r := by
  rw [fst, if_neg (by unfold n8 at h; omega), if_neg h0]
theorem or_i32 (x y : Nat) (hx : x < 2147483648) (hy : y < 2147483648) : intB .or .i32 x y = ((x ||| y : Nat) : Int) := by
  show IntKind.wrap .i32 (((BitVec.ofInt 32 (x : Int)) ||| (BitVec.ofInt 32 (y : Int))).toNat : Int) = _
  rw [ofInt_nat, ofInt_nat, BitVec.toNat_or, BitVec.toNat_ofNat, BitVec.toNat_ofNat, Nat.mod_eq_of_lt (by omega), Nat.mod_eq_of_lt (by omega)]
  have : x ||| y < 2 ^ 31 := Nat.or_lt_two_pow hx hy
  exact w_i32 _ (by omega) (by omega)
/-- An or of parts that do not meet. -/
theorem or_add (k : Nat) (A B : Int) (q : Int) (hA : A = q * 2 ^ k) (hq : 0 ≤ q) (h2 : 0 ≤ B) (h3 : B < 2 ^ k) (h4 : A < 2147483648) (h5 : (2 : Int) ^ k ≤ 2147483648) : intB .or .i32 A B = A + B := by
  obtain ⟨x, rfl⟩ := Int.eq_ofNat_of_zero_le hq
  obtain ⟨y, rfl⟩ := Int.eq_ofNat_of_zero_le h2
  have e : A = ((x <<< k : Nat) : Int) := by rw [hA, Nat.shiftLeft_eq, Int.natCast_mul, Int.natCast_pow]; rfl
  subst e
  have h3' : y < 2 ^ k := by
    have : ((y : Nat) : Int) < ((2 ^ k : Nat) : Int) := by rw [Int.natCast_pow]; exact h3
    exact Int.ofNat_lt.1 this
  have h5' : 2 ^ k ≤ 2147483648 := by
    have : ((2 ^ k : Nat) : Int) ≤ ((2147483648 : Nat) : Int) := by rw [Int.natCast_pow]; exact h5
    exact Int.ofNat_le.1 this
  rw [or_i32 _ _ (Int.ofNat_lt.1 (show ((x <<< k : Nat) : Int) < ((2147483648 : Nat) : Int) from h4)) (by omega), ← Nat.shiftLeft_add_eq_or_of_lt h3']
  exact Int.natCast_add _ _
theorem and31b (a : Int) (h0 : 0 ≤ a) (h1 : a < 256) : intB .and .u8 a 31 = a % 32 := by
  obtain ⟨n, rfl⟩ := Int.eq_ofNat_of_zero_le h0
  have := and_u8 n 31 (by omega) (by omega)
  rw [show (31 : Int) = ((31 : Nat) : Int) from rfl, this, show n &&& 31 = n % 32 from Nat.and_two_pow_sub_one_eq_mod n 5]
  omega
theorem and15b (a : Int) (h0 : 0 ≤ a) (h1 : a < 256) : intB .and .u8 a 15 = a % 16 := by
  obtain ⟨n, rfl⟩ := Int.eq_ofNat_of_zero_le h0
  have := and_u8 n 15 (by omega) (by omega)
  rw [show (15 : Int) = ((15 : Nat) : Int) from rfl, this, show n &&& 15 = n % 16 from Nat.and_two_pow_sub_one_eq_mod n 4]
  omega
theorem and7b (a : Int) (h0 : 0 ≤ a) (h1 : a < 256) : intB .and .u8 a 7 = a % 8 := by
  obtain ⟨n, rfl⟩ := Int.eq_ofNat_of_zero_le h0
  have := and_u8 n 7 (by omega) (by omega)
  rw [show (7 : Int) = ((7 : Nat) : Int) from rfl, this, show n &&& 7 = n % 8 from Nat.and_two_pow_sub_one_eq_mod n 3]
  omega
theorem andnf : ∀ x : Fin 256, intB .andNot .i32 (x.val : Int) (-1) = 0 := by decide +kernel
theorem andn (a : Int) (h0 : 0 ≤ a) (h1 : a < 256) : intB .andNot .i32 a (-1) = 0 := by
  obtain ⟨n, rfl⟩ := Int.eq_ofNat_of_zero_le h0
  exact andnf ⟨n, by omega⟩
theorem e_anot {G : Nat → Option (List AV)} {P : Program} {T : Tbl} {H : Heap} {K : AV → Heap → Prop} (k : IntKind) (a b : Int) : effS G P T (.bin .andNot) [.int k a, .int k b] H K = K (.int k (intB .andNot k a b)) H := by simp [effS, AOp.quiet, quietS, pureF, binF, optS]
theorem x_anot {t : Th} {H : Heap} {K : Kv} (k : IntKind) (a b : Int) : xE (t := t) (.bin .andNot) [.int k a, .int k b] H (K := K) = K.ap (.int k (intB .andNot k a b)) H := e_anot _ _ _
theorem badm : intB .and .i32 65533 (-1) = 65533 ∧ intB .or .i32 0 65533 = 65533 := by decide
theorem sh31 : (2 : Int) ^ (if 31 ≤ IntKind.i32.bits then 31 else IntKind.i32.bits) = 2147483648 := by decide
theorem wbad : IntKind.wrap .i32 517543559168 = -2147483648 ∧ Int.fdiv (-2147483648) 2147483648 = -1 ∧ IntKind.wrap .i32 241 = 241 := by decide
theorem dec1_bad {s : List UInt8} (h : (fst s).1 = 0) : dec1 s = (65533, 1) := by unfold dec1; rw [if_pos h]

def c55 (xs : List AV) (H : Heap) (K : Kv) : Prop := ∃ (c : UInt8) (r : List UInt8) (t : Tok), xs = [.sl (bytesAV (c :: r)) t] ∧ 128 ≤ n8 c ∧ r.length ≤ 1099511627776 ∧ K.ap (.tup [.int .i32 (dec1 (c :: r)).1, .int .i64 (dec1 (c :: r)).2]) H
theorem c55_of (P : Program) {xs : List AV} {H : Heap} {K : Kv} (h : c55 xs H K) : @xF (tU P []) f73 xs H ⟨fun v H' => ∃ H0, Hle H0 H' ∧ K.ap v H0⟩ := by
  obtain ⟨c, r, t, rfl, h1, hl, h⟩ := h
  have hc := n8_lt c
  have hf := first_at c
  rcases cls_of c with ⟨k1, q⟩ | ⟨_, h0, q⟩ | ⟨_, h0, sz, lo, hi, v, hcl⟩
  · omega
  · rw [q] at hf
    have F : dec1 (c :: r) = (65533, 1) := dec1_bad (by rw [fst, if_neg (by unfold n8 at h1; omega), if_pos h0])
    rw [F] at h
    have ne : ¬ ((r.length + 1 : Nat) : Int) < 1 := by omega
    have wc := w_i32 (n8 c) (by omega) (by omega)
    have an := andn (n8 c) hc.1 hc.2
    simp (implicitDefEqProofs := false) only [sB, simprocAttr, f73, byteAV_n8, opE_glob, G0, G1, Gu0, Gu1, hf, hc.1, hc.2, an7, wz, ac0, acl, sh4, fd4, sh6, sh12, sh18, ne, sh31, wbad, wc, an, badm, x_anot]
    exact ⟨_, .refl _, h⟩
  · rcases r with _ | ⟨b, _ | ⟨d, _ | ⟨e, r⟩⟩⟩
    · have hF := fst_cls [] h1 h0
      cases hcl with
      | A k q e1 e2 e3 =>
        rw [q] at hf
        rw [e1, e2, e3] at hF
        have F : dec1 ([c]) = (65533, 1) := dec1_bad (by rw [hF]; rfl)
        rw [F] at h
        simp (implicitDefEqProofs := false) only [sB, simprocAttr, f73, byteAV_n8, opE_glob, G0, G1, Gu0, Gu1, hf, hc.1, hc.2, an7, wz, ac0, acl, sh4, fd4, sh6, sh12, sh18]
        refine i_new fun z hz => ?_
        simp (implicitDefEqProofs := false) only [sB, simprocAttr, ac0, acl, sh6, sh12, sh18]
        exact ⟨_, .tail _ _, h⟩
      | B1 k q e1 e2 e3 =>
        rw [q] at hf
        rw [e1, e2, e3] at hF
        have F : dec1 ([c]) = (65533, 1) := dec1_bad (by rw [hF]; rfl)
        rw [F] at h
        simp (implicitDefEqProofs := false) only [sB, simprocAttr, f73, byteAV_n8, opE_glob, G0, G1, Gu0, Gu1, hf, hc.1, hc.2, an7, wz, ac0, acl, sh4, fd4, sh6, sh12, sh18]
        refine i_new fun z hz => ?_
        simp (implicitDefEqProofs := false) only [sB, simprocAttr, ac0, acl, sh6, sh12, sh18]
        exact ⟨_, .tail _ _, h⟩
      | B2 k q e1 e2 e3 =>
        rw [q] at hf
        rw [e1, e2, e3] at hF
        have F : dec1 ([c]) = (65533, 1) := dec1_bad (by rw [hF]; rfl)
        rw [F] at h
        simp (implicitDefEqProofs := false) only [sB, simprocAttr, f73, byteAV_n8, opE_glob, G0, G1, Gu0, Gu1, hf, hc.1, hc.2, an7, wz, ac0, acl, sh4, fd4, sh6, sh12, sh18]
        refine i_new fun z hz => ?_
        simp (implicitDefEqProofs := false) only [sB, simprocAttr, ac0, acl, sh6, sh12, sh18]
        exact ⟨_, .tail _ _, h⟩
      | B3 k q e1 e2 e3 =>
        rw [q] at hf
        rw [e1, e2, e3] at hF
        have F : dec1 ([c]) = (65533, 1) := dec1_bad (by rw [hF]; rfl)
        rw [F] at h
        simp (implicitDefEqProofs := false) only [sB, simprocAttr, f73, byteAV_n8, opE_glob, G0, G1, Gu0, Gu1, hf, hc.1, hc.2, an7, wz, ac0, acl, sh4, fd4, sh6, sh12, sh18]
        refine i_new fun z hz => ?_
        simp (implicitDefEqProofs := false) only [sB, simprocAttr, ac0, acl, sh6, sh12, sh18]
        exact ⟨_, .tail _ _, h⟩
      | C1 k q e1 e2 e3 =>
        rw [q] at hf
        rw [e1, e2, e3] at hF
        have F : dec1 ([c]) = (65533, 1) := dec1_bad (by rw [hF]; rfl)
        rw [F] at h
        simp (implicitDefEqProofs := false) only [sB, simprocAttr, f73, byteAV_n8, opE_glob, G0, G1, Gu0, Gu1, hf, hc.1, hc.2, an7, wz, ac0, acl, sh4, fd4, sh6, sh12, sh18]
        refine i_new fun z hz => ?_
        simp (implicitDefEqProofs := false) only [sB, simprocAttr, ac0, acl, sh6, sh12, sh18]
        exact ⟨_, .tail _ _, h⟩
      | C2 k q e1 e2 e3 =>
        rw [q] at hf
        rw [e1, e2, e3] at hF
        have F : dec1 ([c]) = (65533, 1) := dec1_bad (by rw [hF]; rfl)
        rw [F] at h
        simp (implicitDefEqProofs := false) only [sB, simprocAttr, f73, byteAV_n8, opE_glob, G0, G1, Gu0, Gu1, hf, hc.1, hc.2, an7, wz, ac0, acl, sh4, fd4, sh6, sh12, sh18]
        refine i_new fun z hz => ?_
        simp (implicitDefEqProofs := false) only [sB, simprocAttr, ac0, acl, sh6, sh12, sh18]
        exact ⟨_, .tail _ _, h⟩
      | C3 k q e1 e2 e3 =>
        rw [q] at hf
        rw [e1, e2, e3] at hF
        have F : dec1 ([c]) = (65533, 1) := dec1_bad (by rw [hF]; rfl)
        rw [F] at h
        simp (implicitDefEqProofs := false) only [sB, simprocAttr, f73, byteAV_n8, opE_glob, G0, G1, Gu0, Gu1, hf, hc.1, hc.2, an7, wz, ac0, acl, sh4, fd4, sh6, sh12, sh18]
        refine i_new fun z hz => ?_
        simp (implicitDefEqProofs := false) only [sB, simprocAttr, ac0, acl, sh6, sh12, sh18]
        exact ⟨_, .tail _ _, h⟩
    · have hF := fst_cls [b] h1 h0
      cases hcl with
      | A k q e1 e2 e3 =>
        rw [q] at hf
        rw [e1, e2, e3] at hF
        by_cases b1 : n8 b < 128
        · have F : dec1 ([c, b]) = (65533, 1) := dec1_bad (by rw [hF, fgo, if_pos (.inl (by unfold n8 at b1; omega))])
          rw [F] at h
          simp (implicitDefEqProofs := false) only [sB, simprocAttr, f73, byteAV_n8, opE_glob, G0, G1, Gu0, Gu1, hf, hc.1, hc.2, an7, wz, ac0, acl, sh4, fd4, sh6, sh12, sh18, b1]
          refine i_new fun z hz => ?_
          simp (implicitDefEqProofs := false) only [sB, simprocAttr, ac0, acl, sh6, sh12, sh18, b1]
          exact ⟨_, .tail _ _, h⟩
        by_cases b2 : 191 < n8 b
        · have F : dec1 ([c, b]) = (65533, 1) := dec1_bad (by rw [hF, fgo, if_pos (.inr (by unfold n8 at b2; omega))])
          rw [F] at h
          simp (implicitDefEqProofs := false) only [sB, simprocAttr, f73, byteAV_n8, opE_glob, G0, G1, Gu0, Gu1, hf, hc.1, hc.2, an7, wz, ac0, acl, sh4, fd4, sh6, sh12, sh18, b1, b2]
          refine i_new fun z hz => ?_
          simp (implicitDefEqProofs := false) only [sB, simprocAttr, ac0, acl, sh6, sh12, sh18, b1, b2]
          exact ⟨_, .tail _ _, h⟩
        have hb := n8_lt b
        have hG : fst ([c, b]) = (2, false) := by rw [hF, fgo, if_neg (by unfold n8 at b1 b2; omega), fgo]
        have F : dec1 ([c, b]) = ((n8 c - 192) * 64 + (n8 b - 128), 2) := by rw [dec1, hG, if_neg (by decide)]; rfl
        rw [F] at h
        have a1 : intB .and .u8 (n8 c) 31 = n8 c - 192 := by rw [and31b _ hc.1 hc.2]; omega
        have a2 := w_i32 (n8 c - 192) (by omega) (by omega)
        have a3 := w_i32 ((n8 c - 192) * 64) (by omega) (by omega)
        have a4 : intB .and .u8 (n8 b) 63 = n8 b - 128 := by rw [and63b _ hb.1 hb.2]; omega
        have a5 := w_i32 (n8 b - 128) (by omega) (by omega)
        have a6 := or_add 6 ((n8 c - 192) * 64) (n8 b - 128) (n8 c - 192) rfl (by omega) (by omega) (by omega) (by omega) (by decide)
        simp (implicitDefEqProofs := false) only [sB, simprocAttr, f73, byteAV_n8, opE_glob, G0, G1, Gu0, Gu1, hf, hc.1, hc.2, an7, wz, ac0, acl, sh4, fd4, sh6, sh12, sh18, b1, b2, a1, a2, a3, a4, a5, a6]
        refine i_new fun z hz => ?_
        simp (implicitDefEqProofs := false) only [sB, simprocAttr, ac0, acl, sh6, sh12, sh18, b1, b2, a1, a2, a3, a4, a5, a6]
        exact ⟨_, .tail _ _, h⟩
      | B1 k q e1 e2 e3 =>
        rw [q] at hf
        rw [e1, e2, e3] at hF
        have F : dec1 ([c, b]) = (65533, 1) := dec1_bad (by rw [hF]; simp only [fgo]; (repeat' split) <;> rfl)
        rw [F] at h
        simp (implicitDefEqProofs := false) only [sB, simprocAttr, f73, byteAV_n8, opE_glob, G0, G1, Gu0, Gu1, hf, hc.1, hc.2, an7, wz, ac0, acl, sh4, fd4, sh6, sh12, sh18]
        refine i_new fun z hz => ?_
        simp (implicitDefEqProofs := false) only [sB, simprocAttr, ac0, acl, sh6, sh12, sh18]
        exact ⟨_, .tail _ _, h⟩
      | B2 k q e1 e2 e3 =>
        rw [q] at hf
        rw [e1, e2, e3] at hF
        have F : dec1 ([c, b]) = (65533, 1) := dec1_bad (by rw [hF]; simp only [fgo]; (repeat' split) <;> rfl)
        rw [F] at h
        simp (implicitDefEqProofs := false) only [sB, simprocAttr, f73, byteAV_n8, opE_glob, G0, G1, Gu0, Gu1, hf, hc.1, hc.2, an7, wz, ac0, acl, sh4, fd4, sh6, sh12, sh18]
        refine i_new fun z hz => ?_
        simp (implicitDefEqProofs := false) only [sB, simprocAttr, ac0, acl, sh6, sh12, sh18]
        exact ⟨_, .tail _ _, h⟩
      | B3 k q e1 e2 e3 =>
        rw [q] at hf
        rw [e1, e2, e3] at hF
        have F : dec1 ([c, b]) = (65533, 1) := dec1_bad (by rw [hF]; simp only [fgo]; (repeat' split) <;> rfl)
        rw [F] at h
        simp (implicitDefEqProofs := false) only [sB, simprocAttr, f73, byteAV_n8, opE_glob, G0, G1, Gu0, Gu1, hf, hc.1, hc.2, an7, wz, ac0, acl, sh4, fd4, sh6, sh12, sh18]
        refine i_new fun z hz => ?_
        simp (implicitDefEqProofs := false) only [sB, simprocAttr, ac0, acl, sh6, sh12, sh18]
        exact ⟨_, .tail _ _, h⟩
      | C1 k q e1 e2 e3 =>
        rw [q] at hf
        rw [e1, e2, e3] at hF
        have F : dec1 ([c, b]) = (65533, 1) := dec1_bad (by rw [hF]; simp only [fgo]; (repeat' split) <;> rfl)
        rw [F] at h
        simp (implicitDefEqProofs := false) only [sB, simprocAttr, f73, byteAV_n8, opE_glob, G0, G1, Gu0, Gu1, hf, hc.1, hc.2, an7, wz, ac0, acl, sh4, fd4, sh6, sh12, sh18]
        refine i_new fun z hz => ?_
        simp (implicitDefEqProofs := false) only [sB, simprocAttr, ac0, acl, sh6, sh12, sh18]
        exact ⟨_, .tail _ _, h⟩
      | C2 k q e1 e2 e3 =>
        rw [q] at hf
        rw [e1, e2, e3] at hF
        have F : dec1 ([c, b]) = (65533, 1) := dec1_bad (by rw [hF]; simp only [fgo]; (repeat' split) <;> rfl)
        rw [F] at h
        simp (implicitDefEqProofs := false) only [sB, simprocAttr, f73, byteAV_n8, opE_glob, G0, G1, Gu0, Gu1, hf, hc.1, hc.2, an7, wz, ac0, acl, sh4, fd4, sh6, sh12, sh18]
        refine i_new fun z hz => ?_
        simp (implicitDefEqProofs := false) only [sB, simprocAttr, ac0, acl, sh6, sh12, sh18]
        exact ⟨_, .tail _ _, h⟩
      | C3 k q e1 e2 e3 =>
        rw [q] at hf
        rw [e1, e2, e3] at hF
        have F : dec1 ([c, b]) = (65533, 1) := dec1_bad (by rw [hF]; simp only [fgo]; (repeat' split) <;> rfl)
        rw [F] at h
        simp (implicitDefEqProofs := false) only [sB, simprocAttr, f73, byteAV_n8, opE_glob, G0, G1, Gu0, Gu1, hf, hc.1, hc.2, an7, wz, ac0, acl, sh4, fd4, sh6, sh12, sh18]
        refine i_new fun z hz => ?_
        simp (implicitDefEqProofs := false) only [sB, simprocAttr, ac0, acl, sh6, sh12, sh18]
        exact ⟨_, .tail _ _, h⟩
    · have hF := fst_cls [b, d] h1 h0
      cases hcl with
      | A k q e1 e2 e3 =>
        rw [q] at hf
        rw [e1, e2, e3] at hF
        by_cases b1 : n8 b < 128
        · have F : dec1 ([c, b, d]) = (65533, 1) := dec1_bad (by rw [hF, fgo, if_pos (.inl (by unfold n8 at b1; omega))])
          rw [F] at h
          simp (implicitDefEqProofs := false) only [sB, simprocAttr, f73, byteAV_n8, opE_glob, G0, G1, Gu0, Gu1, hf, hc.1, hc.2, an7, wz, ac0, acl, sh4, fd4, sh6, sh12, sh18, b1]
          refine i_new fun z hz => ?_
          simp (implicitDefEqProofs := false) only [sB, simprocAttr, ac0, acl, sh6, sh12, sh18, b1]
          exact ⟨_, .tail _ _, h⟩
        by_cases b2 : 191 < n8 b
        · have F : dec1 ([c, b, d]) = (65533, 1) := dec1_bad (by rw [hF, fgo, if_pos (.inr (by unfold n8 at b2; omega))])
          rw [F] at h
          simp (implicitDefEqProofs := false) only [sB, simprocAttr, f73, byteAV_n8, opE_glob, G0, G1, Gu0, Gu1, hf, hc.1, hc.2, an7, wz, ac0, acl, sh4, fd4, sh6, sh12, sh18, b1, b2]
          refine i_new fun z hz => ?_
          simp (implicitDefEqProofs := false) only [sB, simprocAttr, ac0, acl, sh6, sh12, sh18, b1, b2]
          exact ⟨_, .tail _ _, h⟩
        have hb := n8_lt b
        have hG : fst ([c, b, d]) = (2, false) := by rw [hF, fgo, if_neg (by unfold n8 at b1 b2; omega), fgo]
        have F : dec1 ([c, b, d]) = ((n8 c - 192) * 64 + (n8 b - 128), 2) := by rw [dec1, hG, if_neg (by decide)]; rfl
        rw [F] at h
        have a1 : intB .and .u8 (n8 c) 31 = n8 c - 192 := by rw [and31b _ hc.1 hc.2]; omega
        have a2 := w_i32 (n8 c - 192) (by omega) (by omega)
        have a3 := w_i32 ((n8 c - 192) * 64) (by omega) (by omega)
        have a4 : intB .and .u8 (n8 b) 63 = n8 b - 128 := by rw [and63b _ hb.1 hb.2]; omega
        have a5 := w_i32 (n8 b - 128) (by omega) (by omega)
        have a6 := or_add 6 ((n8 c - 192) * 64) (n8 b - 128) (n8 c - 192) rfl (by omega) (by omega) (by omega) (by omega) (by decide)
        simp (implicitDefEqProofs := false) only [sB, simprocAttr, f73, byteAV_n8, opE_glob, G0, G1, Gu0, Gu1, hf, hc.1, hc.2, an7, wz, ac0, acl, sh4, fd4, sh6, sh12, sh18, b1, b2, a1, a2, a3, a4, a5, a6]
        refine i_new fun z hz => ?_
        simp (implicitDefEqProofs := false) only [sB, simprocAttr, ac0, acl, sh6, sh12, sh18, b1, b2, a1, a2, a3, a4, a5, a6]
        exact ⟨_, .tail _ _, h⟩
      | B1 k q e1 e2 e3 =>
        rw [q] at hf
        rw [e1, e2, e3] at hF
        by_cases b1 : n8 b < 160
        · have F : dec1 ([c, b, d]) = (65533, 1) := dec1_bad (by rw [hF, fgo, if_pos (.inl (by unfold n8 at b1; omega))])
          rw [F] at h
          simp (implicitDefEqProofs := false) only [sB, simprocAttr, f73, byteAV_n8, opE_glob, G0, G1, Gu0, Gu1, hf, hc.1, hc.2, an7, wz, ac0, acl, sh4, fd4, sh6, sh12, sh18, b1]
          refine i_new fun z hz => ?_
          simp (implicitDefEqProofs := false) only [sB, simprocAttr, ac0, acl, sh6, sh12, sh18, b1]
          exact ⟨_, .tail _ _, h⟩
        by_cases b2 : 191 < n8 b
        · have F : dec1 ([c, b, d]) = (65533, 1) := dec1_bad (by rw [hF, fgo, if_pos (.inr (by unfold n8 at b2; omega))])
          rw [F] at h
          simp (implicitDefEqProofs := false) only [sB, simprocAttr, f73, byteAV_n8, opE_glob, G0, G1, Gu0, Gu1, hf, hc.1, hc.2, an7, wz, ac0, acl, sh4, fd4, sh6, sh12, sh18, b1, b2]
          refine i_new fun z hz => ?_
          simp (implicitDefEqProofs := false) only [sB, simprocAttr, ac0, acl, sh6, sh12, sh18, b1, b2]
          exact ⟨_, .tail _ _, h⟩
        have hb := n8_lt b
        have hd := n8_lt d
        by_cases d1 : n8 d < 128
        · have F : dec1 ([c, b, d]) = (65533, 1) := dec1_bad (by rw [hF, fgo, if_neg (by unfold n8 at b1 b2; omega), fgo, if_pos (.inl (by unfold n8 at d1; omega))])
          rw [F] at h
          simp (implicitDefEqProofs := false) only [sB, simprocAttr, f73, byteAV_n8, opE_glob, G0, G1, Gu0, Gu1, hf, hc.1, hc.2, an7, wz, ac0, acl, sh4, fd4, sh6, sh12, sh18, b1, b2, d1]
          refine i_new fun z hz => ?_
          simp (implicitDefEqProofs := false) only [sB, simprocAttr, ac0, acl, sh6, sh12, sh18, b1, b2, d1]
          exact ⟨_, .tail _ _, h⟩
        by_cases d2 : 191 < n8 d
        · have F : dec1 ([c, b, d]) = (65533, 1) := dec1_bad (by rw [hF, fgo, if_neg (by unfold n8 at b1 b2; omega), fgo, if_pos (.inr (by unfold n8 at d2; omega))])
          rw [F] at h
          simp (implicitDefEqProofs := false) only [sB, simprocAttr, f73, byteAV_n8, opE_glob, G0, G1, Gu0, Gu1, hf, hc.1, hc.2, an7, wz, ac0, acl, sh4, fd4, sh6, sh12, sh18, b1, b2, d1, d2]
          refine i_new fun z hz => ?_
          simp (implicitDefEqProofs := false) only [sB, simprocAttr, ac0, acl, sh6, sh12, sh18, b1, b2, d1, d2]
          exact ⟨_, .tail _ _, h⟩
        have hG : fst ([c, b, d]) = (3, false) := by rw [hF, fgo, if_neg (by unfold n8 at b1 b2; omega), fgo, if_neg (by unfold n8 at d1 d2; omega), fgo]
        have F : dec1 ([c, b, d]) = ((n8 c - 224) * 4096 + (n8 b - 128) * 64 + (n8 d - 128), 3) := by rw [dec1, hG, if_neg (by decide)]; rfl
        rw [F] at h
        have a1 : intB .and .u8 (n8 c) 15 = n8 c - 224 := by rw [and15b _ hc.1 hc.2]; omega
        have a2 := w_i32 (n8 c - 224) (by omega) (by omega)
        have a3 := w_i32 ((n8 c - 224) * 4096) (by omega) (by omega)
        have a4 : intB .and .u8 (n8 b) 63 = n8 b - 128 := by rw [and63b _ hb.1 hb.2]; omega
        have a5 := w_i32 (n8 b - 128) (by omega) (by omega)
        have a6 := w_i32 ((n8 b - 128) * 64) (by omega) (by omega)
        have a7 : intB .and .u8 (n8 d) 63 = n8 d - 128 := by rw [and63b _ hd.1 hd.2]; omega
        have a8 := w_i32 (n8 d - 128) (by omega) (by omega)
        have o1 := or_add 12 ((n8 c - 224) * 4096) ((n8 b - 128) * 64) (n8 c - 224) rfl (by omega) (by omega) (by omega) (by omega) (by decide)
        have o2 := or_add 6 ((n8 c - 224) * 4096 + (n8 b - 128) * 64) (n8 d - 128) ((n8 c - 224) * 64 + (n8 b - 128)) (by omega) (by omega) (by omega) (by omega) (by omega) (by decide)
        simp (implicitDefEqProofs := false) only [sB, simprocAttr, f73, byteAV_n8, opE_glob, G0, G1, Gu0, Gu1, hf, hc.1, hc.2, an7, wz, ac0, acl, sh4, fd4, sh6, sh12, sh18, b1, b2, d1, d2, a1, a2, a3, a4, a5, a6, a7, a8, o1, o2]
        refine i_new fun z hz => ?_
        simp (implicitDefEqProofs := false) only [sB, simprocAttr, ac0, acl, sh6, sh12, sh18, b1, b2, d1, d2, a1, a2, a3, a4, a5, a6, a7, a8, o1, o2]
        exact ⟨_, .tail _ _, h⟩
      | B2 k q e1 e2 e3 =>
        rw [q] at hf
        rw [e1, e2, e3] at hF
        by_cases b1 : n8 b < 128
        · have F : dec1 ([c, b, d]) = (65533, 1) := dec1_bad (by rw [hF, fgo, if_pos (.inl (by unfold n8 at b1; omega))])
          rw [F] at h
          simp (implicitDefEqProofs := false) only [sB, simprocAttr, f73, byteAV_n8, opE_glob, G0, G1, Gu0, Gu1, hf, hc.1, hc.2, an7, wz, ac0, acl, sh4, fd4, sh6, sh12, sh18, b1]
          refine i_new fun z hz => ?_
          simp (implicitDefEqProofs := false) only [sB, simprocAttr, ac0, acl, sh6, sh12, sh18, b1]
          exact ⟨_, .tail _ _, h⟩
        by_cases b2 : 159 < n8 b
        · have F : dec1 ([c, b, d]) = (65533, 1) := dec1_bad (by rw [hF, fgo, if_pos (.inr (by unfold n8 at b2; omega))])
          rw [F] at h
          simp (implicitDefEqProofs := false) only [sB, simprocAttr, f73, byteAV_n8, opE_glob, G0, G1, Gu0, Gu1, hf, hc.1, hc.2, an7, wz, ac0, acl, sh4, fd4, sh6, sh12, sh18, b1, b2]
          refine i_new fun z hz => ?_
          simp (implicitDefEqProofs := false) only [sB, simprocAttr, ac0, acl, sh6, sh12, sh18, b1, b2]
          exact ⟨_, .tail _ _, h⟩
        have hb := n8_lt b
        have hd := n8_lt d
        by_cases d1 : n8 d < 128
        · have F : dec1 ([c, b, d]) = (65533, 1) := dec1_bad (by rw [hF, fgo, if_neg (by unfold n8 at b1 b2; omega), fgo, if_pos (.inl (by unfold n8 at d1; omega))])
          rw [F] at h
          simp (implicitDefEqProofs := false) only [sB, simprocAttr, f73, byteAV_n8, opE_glob, G0, G1, Gu0, Gu1, hf, hc.1, hc.2, an7, wz, ac0, acl, sh4, fd4, sh6, sh12, sh18, b1, b2, d1]
          refine i_new fun z hz => ?_
          simp (implicitDefEqProofs := false) only [sB, simprocAttr, ac0, acl, sh6, sh12, sh18, b1, b2, d1]
          exact ⟨_, .tail _ _, h⟩
        by_cases d2 : 191 < n8 d
        · have F : dec1 ([c, b, d]) = (65533, 1) := dec1_bad (by rw [hF, fgo, if_neg (by unfold n8 at b1 b2; omega), fgo, if_pos (.inr (by unfold n8 at d2; omega))])
          rw [F] at h
          simp (implicitDefEqProofs := false) only [sB, simprocAttr, f73, byteAV_n8, opE_glob, G0, G1, Gu0, Gu1, hf, hc.1, hc.2, an7, wz, ac0, acl, sh4, fd4, sh6, sh12, sh18, b1, b2, d1, d2]
          refine i_new fun z hz => ?_
          simp (implicitDefEqProofs := false) only [sB, simprocAttr, ac0, acl, sh6, sh12, sh18, b1, b2, d1, d2]
          exact ⟨_, .tail _ _, h⟩
        have hG : fst ([c, b, d]) = (3, false) := by rw [hF, fgo, if_neg (by unfold n8 at b1 b2; omega), fgo, if_neg (by unfold n8 at d1 d2; omega), fgo]
        have F : dec1 ([c, b, d]) = ((n8 c - 224) * 4096 + (n8 b - 128) * 64 + (n8 d - 128), 3) := by rw [dec1, hG, if_neg (by decide)]; rfl
        rw [F] at h
        have a1 : intB .and .u8 (n8 c) 15 = n8 c - 224 := by rw [and15b _ hc.1 hc.2]; omega
        have a2 := w_i32 (n8 c - 224) (by omega) (by omega)
        have a3 := w_i32 ((n8 c - 224) * 4096) (by omega) (by omega)
        have a4 : intB .and .u8 (n8 b) 63 = n8 b - 128 := by rw [and63b _ hb.1 hb.2]; omega
        have a5 := w_i32 (n8 b - 128) (by omega) (by omega)
        have a6 := w_i32 ((n8 b - 128) * 64) (by omega) (by omega)
        have a7 : intB .and .u8 (n8 d) 63 = n8 d - 128 := by rw [and63b _ hd.1 hd.2]; omega
        have a8 := w_i32 (n8 d - 128) (by omega) (by omega)
        have o1 := or_add 12 ((n8 c - 224) * 4096) ((n8 b - 128) * 64) (n8 c - 224) rfl (by omega) (by omega) (by omega) (by omega) (by decide)
        have o2 := or_add 6 ((n8 c - 224) * 4096 + (n8 b - 128) * 64) (n8 d - 128) ((n8 c - 224) * 64 + (n8 b - 128)) (by omega) (by omega) (by omega) (by omega) (by omega) (by decide)
        simp (implicitDefEqProofs := false) only [sB, simprocAttr, f73, byteAV_n8, opE_glob, G0, G1, Gu0, Gu1, hf, hc.1, hc.2, an7, wz, ac0, acl, sh4, fd4, sh6, sh12, sh18, b1, b2, d1, d2, a1, a2, a3, a4, a5, a6, a7, a8, o1, o2]
        refine i_new fun z hz => ?_
        simp (implicitDefEqProofs := false) only [sB, simprocAttr, ac0, acl, sh6, sh12, sh18, b1, b2, d1, d2, a1, a2, a3, a4, a5, a6, a7, a8, o1, o2]
        exact ⟨_, .tail _ _, h⟩
      | B3 k q e1 e2 e3 =>
        rw [q] at hf
        rw [e1, e2, e3] at hF
        by_cases b1 : n8 b < 128
        · have F : dec1 ([c, b, d]) = (65533, 1) := dec1_bad (by rw [hF, fgo, if_pos (.inl (by unfold n8 at b1; omega))])
          rw [F] at h
          simp (implicitDefEqProofs := false) only [sB, simprocAttr, f73, byteAV_n8, opE_glob, G0, G1, Gu0, Gu1, hf, hc.1, hc.2, an7, wz, ac0, acl, sh4, fd4, sh6, sh12, sh18, b1]
          refine i_new fun z hz => ?_
          simp (implicitDefEqProofs := false) only [sB, simprocAttr, ac0, acl, sh6, sh12, sh18, b1]
          exact ⟨_, .tail _ _, h⟩
        by_cases b2 : 191 < n8 b
        · have F : dec1 ([c, b, d]) = (65533, 1) := dec1_bad (by rw [hF, fgo, if_pos (.inr (by unfold n8 at b2; omega))])
          rw [F] at h
          simp (implicitDefEqProofs := false) only [sB, simprocAttr, f73, byteAV_n8, opE_glob, G0, G1, Gu0, Gu1, hf, hc.1, hc.2, an7, wz, ac0, acl, sh4, fd4, sh6, sh12, sh18, b1, b2]
          refine i_new fun z hz => ?_
          simp (implicitDefEqProofs := false) only [sB, simprocAttr, ac0, acl, sh6, sh12, sh18, b1, b2]
          exact ⟨_, .tail _ _, h⟩
        have hb := n8_lt b
        have hd := n8_lt d
        by_cases d1 : n8 d < 128
        · have F : dec1 ([c, b, d]) = (65533, 1) := dec1_bad (by rw [hF, fgo, if_neg (by unfold n8 at b1 b2; omega), fgo, if_pos (.inl (by unfold n8 at d1; omega))])
          rw [F] at h
          simp (implicitDefEqProofs := false) only [sB, simprocAttr, f73, byteAV_n8, opE_glob, G0, G1, Gu0, Gu1, hf, hc.1, hc.2, an7, wz, ac0, acl, sh4, fd4, sh6, sh12, sh18, b1, b2, d1]
          refine i_new fun z hz => ?_
          simp (implicitDefEqProofs := false) only [sB, simprocAttr, ac0, acl, sh6, sh12, sh18, b1, b2, d1]
          exact ⟨_, .tail _ _, h⟩
        by_cases d2 : 191 < n8 d
        · have F : dec1 ([c, b, d]) = (65533, 1) := dec1_bad (by rw [hF, fgo, if_neg (by unfold n8 at b1 b2; omega), fgo, if_pos (.inr (by unfold n8 at d2; omega))])
          rw [F] at h
          simp (implicitDefEqProofs := false) only [sB, simprocAttr, f73, byteAV_n8, opE_glob, G0, G1, Gu0, Gu1, hf, hc.1, hc.2, an7, wz, ac0, acl, sh4, fd4, sh6, sh12, sh18, b1, b2, d1, d2]
          refine i_new fun z hz => ?_
          simp (implicitDefEqProofs := false) only [sB, simprocAttr, ac0, acl, sh6, sh12, sh18, b1, b2, d1, d2]
          exact ⟨_, .tail _ _, h⟩
        have hG : fst ([c, b, d]) = (3, false) := by rw [hF, fgo, if_neg (by unfold n8 at b1 b2; omega), fgo, if_neg (by unfold n8 at d1 d2; omega), fgo]
        have F : dec1 ([c, b, d]) = ((n8 c - 224) * 4096 + (n8 b - 128) * 64 + (n8 d - 128), 3) := by rw [dec1, hG, if_neg (by decide)]; rfl
        rw [F] at h
        have a1 : intB .and .u8 (n8 c) 15 = n8 c - 224 := by rw [and15b _ hc.1 hc.2]; omega
        have a2 := w_i32 (n8 c - 224) (by omega) (by omega)
        have a3 := w_i32 ((n8 c - 224) * 4096) (by omega) (by omega)
        have a4 : intB .and .u8 (n8 b) 63 = n8 b - 128 := by rw [and63b _ hb.1 hb.2]; omega
        have a5 := w_i32 (n8 b - 128) (by omega) (by omega)
        have a6 := w_i32 ((n8 b - 128) * 64) (by omega) (by omega)
        have a7 : intB .and .u8 (n8 d) 63 = n8 d - 128 := by rw [and63b _ hd.1 hd.2]; omega
        have a8 := w_i32 (n8 d - 128) (by omega) (by omega)
        have o1 := or_add 12 ((n8 c - 224) * 4096) ((n8 b - 128) * 64) (n8 c - 224) rfl (by omega) (by omega) (by omega) (by omega) (by decide)
        have o2 := or_add 6 ((n8 c - 224) * 4096 + (n8 b - 128) * 64) (n8 d - 128) ((n8 c - 224) * 64 + (n8 b - 128)) (by omega) (by omega) (by omega) (by omega) (by omega) (by decide)
        simp (implicitDefEqProofs := false) only [sB, simprocAttr, f73, byteAV_n8, opE_glob, G0, G1, Gu0, Gu1, hf, hc.1, hc.2, an7, wz, ac0, acl, sh4, fd4, sh6, sh12, sh18, b1, b2, d1, d2, a1, a2, a3, a4, a5, a6, a7, a8, o1, o2]
        refine i_new fun z hz => ?_
        simp (implicitDefEqProofs := false) only [sB, simprocAttr, ac0, acl, sh6, sh12, sh18, b1, b2, d1, d2, a1, a2, a3, a4, a5, a6, a7, a8, o1, o2]
        exact ⟨_, .tail _ _, h⟩
      | C1 k q e1 e2 e3 =>
        rw [q] at hf
        rw [e1, e2, e3] at hF
        have F : dec1 ([c, b, d]) = (65533, 1) := dec1_bad (by rw [hF]; simp only [fgo]; (repeat' split) <;> rfl)
        rw [F] at h
        simp (implicitDefEqProofs := false) only [sB, simprocAttr, f73, byteAV_n8, opE_glob, G0, G1, Gu0, Gu1, hf, hc.1, hc.2, an7, wz, ac0, acl, sh4, fd4, sh6, sh12, sh18]
        refine i_new fun z hz => ?_
        simp (implicitDefEqProofs := false) only [sB, simprocAttr, ac0, acl, sh6, sh12, sh18]
        exact ⟨_, .tail _ _, h⟩
      | C2 k q e1 e2 e3 =>
        rw [q] at hf
        rw [e1, e2, e3] at hF
        have F : dec1 ([c, b, d]) = (65533, 1) := dec1_bad (by rw [hF]; simp only [fgo]; (repeat' split) <;> rfl)
        rw [F] at h
        simp (implicitDefEqProofs := false) only [sB, simprocAttr, f73, byteAV_n8, opE_glob, G0, G1, Gu0, Gu1, hf, hc.1, hc.2, an7, wz, ac0, acl, sh4, fd4, sh6, sh12, sh18]
        refine i_new fun z hz => ?_
        simp (implicitDefEqProofs := false) only [sB, simprocAttr, ac0, acl, sh6, sh12, sh18]
        exact ⟨_, .tail _ _, h⟩
      | C3 k q e1 e2 e3 =>
        rw [q] at hf
        rw [e1, e2, e3] at hF
        have F : dec1 ([c, b, d]) = (65533, 1) := dec1_bad (by rw [hF]; simp only [fgo]; (repeat' split) <;> rfl)
        rw [F] at h
        simp (implicitDefEqProofs := false) only [sB, simprocAttr, f73, byteAV_n8, opE_glob, G0, G1, Gu0, Gu1, hf, hc.1, hc.2, an7, wz, ac0, acl, sh4, fd4, sh6, sh12, sh18]
        refine i_new fun z hz => ?_
        simp (implicitDefEqProofs := false) only [sB, simprocAttr, ac0, acl, sh6, sh12, sh18]
        exact ⟨_, .tail _ _, h⟩
    · have hF := fst_cls (b :: d :: e :: r) h1 h0
      have ne : ¬ ((r.length + 1 + 1 + 1 + 1 : Nat) : Int) < 1 := by omega
      have l2 : ¬ ((r.length + 1 + 1 + 1 + 1 : Nat) : Int) < 2 := by omega
      have l3 : ¬ ((r.length + 1 + 1 + 1 + 1 : Nat) : Int) < 3 := by omega
      have l4 : ¬ ((r.length + 1 + 1 + 1 + 1 : Nat) : Int) < 4 := by omega
      cases hcl with
      | A k q e1 e2 e3 =>
        rw [q] at hf
        rw [e1, e2, e3] at hF
        by_cases b1 : n8 b < 128
        · have F : dec1 (c :: b :: d :: e :: r) = (65533, 1) := dec1_bad (by rw [hF, fgo, if_pos (.inl (by unfold n8 at b1; omega))])
          rw [F] at h
          simp (implicitDefEqProofs := false) only [sB, simprocAttr, f73, byteAV_n8, opE_glob, G0, G1, Gu0, Gu1, hf, hc.1, hc.2, an7, wz, ac0, acl, sh4, fd4, sh6, sh12, sh18, ne, l2, l3, l4, b1]
          refine i_new fun z hz => ?_
          simp (implicitDefEqProofs := false) only [sB, simprocAttr, ac0, acl, sh6, sh12, sh18, ne, l2, l3, l4, b1]
          exact ⟨_, .tail _ _, h⟩
        by_cases b2 : 191 < n8 b
        · have F : dec1 (c :: b :: d :: e :: r) = (65533, 1) := dec1_bad (by rw [hF, fgo, if_pos (.inr (by unfold n8 at b2; omega))])
          rw [F] at h
          simp (implicitDefEqProofs := false) only [sB, simprocAttr, f73, byteAV_n8, opE_glob, G0, G1, Gu0, Gu1, hf, hc.1, hc.2, an7, wz, ac0, acl, sh4, fd4, sh6, sh12, sh18, ne, l2, l3, l4, b1, b2]
          refine i_new fun z hz => ?_
          simp (implicitDefEqProofs := false) only [sB, simprocAttr, ac0, acl, sh6, sh12, sh18, ne, l2, l3, l4, b1, b2]
          exact ⟨_, .tail _ _, h⟩
        have hb := n8_lt b
        have hG : fst (c :: b :: d :: e :: r) = (2, false) := by rw [hF, fgo, if_neg (by unfold n8 at b1 b2; omega), fgo]
        have F : dec1 (c :: b :: d :: e :: r) = ((n8 c - 192) * 64 + (n8 b - 128), 2) := by rw [dec1, hG, if_neg (by decide)]; rfl
        rw [F] at h
        have a1 : intB .and .u8 (n8 c) 31 = n8 c - 192 := by rw [and31b _ hc.1 hc.2]; omega
        have a2 := w_i32 (n8 c - 192) (by omega) (by omega)
        have a3 := w_i32 ((n8 c - 192) * 64) (by omega) (by omega)
        have a4 : intB .and .u8 (n8 b) 63 = n8 b - 128 := by rw [and63b _ hb.1 hb.2]; omega
        have a5 := w_i32 (n8 b - 128) (by omega) (by omega)
        have a6 := or_add 6 ((n8 c - 192) * 64) (n8 b - 128) (n8 c - 192) rfl (by omega) (by omega) (by omega) (by omega) (by decide)
        simp (implicitDefEqProofs := false) only [sB, simprocAttr, f73, byteAV_n8, opE_glob, G0, G1, Gu0, Gu1, hf, hc.1, hc.2, an7, wz, ac0, acl, sh4, fd4, sh6, sh12, sh18, ne, l2, l3, l4, b1, b2, a1, a2, a3, a4, a5, a6]
        refine i_new fun z hz => ?_
        simp (implicitDefEqProofs := false) only [sB, simprocAttr, ac0, acl, sh6, sh12, sh18, ne, l2, l3, l4, b1, b2, a1, a2, a3, a4, a5, a6]
        exact ⟨_, .tail _ _, h⟩
      | B1 k q e1 e2 e3 =>
        rw [q] at hf
        rw [e1, e2, e3] at hF
        by_cases b1 : n8 b < 160
        · have F : dec1 (c :: b :: d :: e :: r) = (65533, 1) := dec1_bad (by rw [hF, fgo, if_pos (.inl (by unfold n8 at b1; omega))])
          rw [F] at h
          simp (implicitDefEqProofs := false) only [sB, simprocAttr, f73, byteAV_n8, opE_glob, G0, G1, Gu0, Gu1, hf, hc.1, hc.2, an7, wz, ac0, acl, sh4, fd4, sh6, sh12, sh18, ne, l2, l3, l4, b1]
          refine i_new fun z hz => ?_
          simp (implicitDefEqProofs := false) only [sB, simprocAttr, ac0, acl, sh6, sh12, sh18, ne, l2, l3, l4, b1]
          exact ⟨_, .tail _ _, h⟩
        by_cases b2 : 191 < n8 b
        · have F : dec1 (c :: b :: d :: e :: r) = (65533, 1) := dec1_bad (by rw [hF, fgo, if_pos (.inr (by unfold n8 at b2; omega))])
          rw [F] at h
          simp (implicitDefEqProofs := false) only [sB, simprocAttr, f73, byteAV_n8, opE_glob, G0, G1, Gu0, Gu1, hf, hc.1, hc.2, an7, wz, ac0, acl, sh4, fd4, sh6, sh12, sh18, ne, l2, l3, l4, b1, b2]
          refine i_new fun z hz => ?_
          simp (implicitDefEqProofs := false) only [sB, simprocAttr, ac0, acl, sh6, sh12, sh18, ne, l2, l3, l4, b1, b2]
          exact ⟨_, .tail _ _, h⟩
        have hb := n8_lt b
        have hd := n8_lt d
        by_cases d1 : n8 d < 128
        · have F : dec1 (c :: b :: d :: e :: r) = (65533, 1) := dec1_bad (by rw [hF, fgo, if_neg (by unfold n8 at b1 b2; omega), fgo, if_pos (.inl (by unfold n8 at d1; omega))])
          rw [F] at h
          simp (implicitDefEqProofs := false) only [sB, simprocAttr, f73, byteAV_n8, opE_glob, G0, G1, Gu0, Gu1, hf, hc.1, hc.2, an7, wz, ac0, acl, sh4, fd4, sh6, sh12, sh18, ne, l2, l3, l4, b1, b2, d1]
          refine i_new fun z hz => ?_
          simp (implicitDefEqProofs := false) only [sB, simprocAttr, ac0, acl, sh6, sh12, sh18, ne, l2, l3, l4, b1, b2, d1]
          exact ⟨_, .tail _ _, h⟩
        by_cases d2 : 191 < n8 d
        · have F : dec1 (c :: b :: d :: e :: r) = (65533, 1) := dec1_bad (by rw [hF, fgo, if_neg (by unfold n8 at b1 b2; omega), fgo, if_pos (.inr (by unfold n8 at d2; omega))])
          rw [F] at h
          simp (implicitDefEqProofs := false) only [sB, simprocAttr, f73, byteAV_n8, opE_glob, G0, G1, Gu0, Gu1, hf, hc.1, hc.2, an7, wz, ac0, acl, sh4, fd4, sh6, sh12, sh18, ne, l2, l3, l4, b1, b2, d1, d2]
          refine i_new fun z hz => ?_
          simp (implicitDefEqProofs := false) only [sB, simprocAttr, ac0, acl, sh6, sh12, sh18, ne, l2, l3, l4, b1, b2, d1, d2]
          exact ⟨_, .tail _ _, h⟩
        have hG : fst (c :: b :: d :: e :: r) = (3, false) := by rw [hF, fgo, if_neg (by unfold n8 at b1 b2; omega), fgo, if_neg (by unfold n8 at d1 d2; omega), fgo]
        have F : dec1 (c :: b :: d :: e :: r) = ((n8 c - 224) * 4096 + (n8 b - 128) * 64 + (n8 d - 128), 3) := by rw [dec1, hG, if_neg (by decide)]; rfl
        rw [F] at h
        have a1 : intB .and .u8 (n8 c) 15 = n8 c - 224 := by rw [and15b _ hc.1 hc.2]; omega
        have a2 := w_i32 (n8 c - 224) (by omega) (by omega)
        have a3 := w_i32 ((n8 c - 224) * 4096) (by omega) (by omega)
        have a4 : intB .and .u8 (n8 b) 63 = n8 b - 128 := by rw [and63b _ hb.1 hb.2]; omega
        have a5 := w_i32 (n8 b - 128) (by omega) (by omega)
        have a6 := w_i32 ((n8 b - 128) * 64) (by omega) (by omega)
        have a7 : intB .and .u8 (n8 d) 63 = n8 d - 128 := by rw [and63b _ hd.1 hd.2]; omega
        have a8 := w_i32 (n8 d - 128) (by omega) (by omega)
        have o1 := or_add 12 ((n8 c - 224) * 4096) ((n8 b - 128) * 64) (n8 c - 224) rfl (by omega) (by omega) (by omega) (by omega) (by decide)
        have o2 := or_add 6 ((n8 c - 224) * 4096 + (n8 b - 128) * 64) (n8 d - 128) ((n8 c - 224) * 64 + (n8 b - 128)) (by omega) (by omega) (by omega) (by omega) (by omega) (by decide)
        simp (implicitDefEqProofs := false) only [sB, simprocAttr, f73, byteAV_n8, opE_glob, G0, G1, Gu0, Gu1, hf, hc.1, hc.2, an7, wz, ac0, acl, sh4, fd4, sh6, sh12, sh18, ne, l2, l3, l4, b1, b2, d1, d2, a1, a2, a3, a4, a5, a6, a7, a8, o1, o2]
        refine i_new fun z hz => ?_
        simp (implicitDefEqProofs := false) only [sB, simprocAttr, ac0, acl, sh6, sh12, sh18, ne, l2, l3, l4, b1, b2, d1, d2, a1, a2, a3, a4, a5, a6, a7, a8, o1, o2]
        exact ⟨_, .tail _ _, h⟩
      | B2 k q e1 e2 e3 =>
        rw [q] at hf
        rw [e1, e2, e3] at hF
        by_cases b1 : n8 b < 128
        · have F : dec1 (c :: b :: d :: e :: r) = (65533, 1) := dec1_bad (by rw [hF, fgo, if_pos (.inl (by unfold n8 at b1; omega))])
          rw [F] at h
          simp (implicitDefEqProofs := false) only [sB, simprocAttr, f73, byteAV_n8, opE_glob, G0, G1, Gu0, Gu1, hf, hc.1, hc.2, an7, wz, ac0, acl, sh4, fd4, sh6, sh12, sh18, ne, l2, l3, l4, b1]
          refine i_new fun z hz => ?_
          simp (implicitDefEqProofs := false) only [sB, simprocAttr, ac0, acl, sh6, sh12, sh18, ne, l2, l3, l4, b1]
          exact ⟨_, .tail _ _, h⟩
        by_cases b2 : 159 < n8 b
        · have F : dec1 (c :: b :: d :: e :: r) = (65533, 1) := dec1_bad (by rw [hF, fgo, if_pos (.inr (by unfold n8 at b2; omega))])
          rw [F] at h
          simp (implicitDefEqProofs := false) only [sB, simprocAttr, f73, byteAV_n8, opE_glob, G0, G1, Gu0, Gu1, hf, hc.1, hc.2, an7, wz, ac0, acl, sh4, fd4, sh6, sh12, sh18, ne, l2, l3, l4, b1, b2]
          refine i_new fun z hz => ?_
          simp (implicitDefEqProofs := false) only [sB, simprocAttr, ac0, acl, sh6, sh12, sh18, ne, l2, l3, l4, b1, b2]
          exact ⟨_, .tail _ _, h⟩
        have hb := n8_lt b
        have hd := n8_lt d
        by_cases d1 : n8 d < 128
        · have F : dec1 (c :: b :: d :: e :: r) = (65533, 1) := dec1_bad (by rw [hF, fgo, if_neg (by unfold n8 at b1 b2; omega), fgo, if_pos (.inl (by unfold n8 at d1; omega))])
          rw [F] at h
          simp (implicitDefEqProofs := false) only [sB, simprocAttr, f73, byteAV_n8, opE_glob, G0, G1, Gu0, Gu1, hf, hc.1, hc.2, an7, wz, ac0, acl, sh4, fd4, sh6, sh12, sh18, ne, l2, l3, l4, b1, b2, d1]
          refine i_new fun z hz => ?_
          simp (implicitDefEqProofs := false) only [sB, simprocAttr, ac0, acl, sh6, sh12, sh18, ne, l2, l3, l4, b1, b2, d1]
          exact ⟨_, .tail _ _, h⟩
        by_cases d2 : 191 < n8 d
        · have F : dec1 (c :: b :: d :: e :: r) = (65533, 1) := dec1_bad (by rw [hF, fgo, if_neg (by unfold n8 at b1 b2; omega), fgo, if_pos (.inr (by unfold n8 at d2; omega))])
          rw [F] at h
          simp (implicitDefEqProofs := false) only [sB, simprocAttr, f73, byteAV_n8, opE_glob, G0, G1, Gu0, Gu1, hf, hc.1, hc.2, an7, wz, ac0, acl, sh4, fd4, sh6, sh12, sh18, ne, l2, l3, l4, b1, b2, d1, d2]
          refine i_new fun z hz => ?_
          simp (implicitDefEqProofs := false) only [sB, simprocAttr, ac0, acl, sh6, sh12, sh18, ne, l2, l3, l4, b1, b2, d1, d2]
          exact ⟨_, .tail _ _, h⟩
        have hG : fst (c :: b :: d :: e :: r) = (3, false) := by rw [hF, fgo, if_neg (by unfold n8 at b1 b2; omega), fgo, if_neg (by unfold n8 at d1 d2; omega), fgo]
        have F : dec1 (c :: b :: d :: e :: r) = ((n8 c - 224) * 4096 + (n8 b - 128) * 64 + (n8 d - 128), 3) := by rw [dec1, hG, if_neg (by decide)]; rfl
        rw [F] at h
        have a1 : intB .and .u8 (n8 c) 15 = n8 c - 224 := by rw [and15b _ hc.1 hc.2]; omega
        have a2 := w_i32 (n8 c - 224) (by omega) (by omega)
        have a3 := w_i32 ((n8 c - 224) * 4096) (by omega) (by omega)
        have a4 : intB .and .u8 (n8 b) 63 = n8 b - 128 := by rw [and63b _ hb.1 hb.2]; omega
        have a5 := w_i32 (n8 b - 128) (by omega) (by omega)
        have a6 := w_i32 ((n8 b - 128) * 64) (by omega) (by omega)
        have a7 : intB .and .u8 (n8 d) 63 = n8 d - 128 := by rw [and63b _ hd.1 hd.2]; omega
        have a8 := w_i32 (n8 d - 128) (by omega) (by omega)
        have o1 := or_add 12 ((n8 c - 224) * 4096) ((n8 b - 128) * 64) (n8 c - 224) rfl (by omega) (by omega) (by omega) (by omega) (by decide)
        have o2 := or_add 6 ((n8 c - 224) * 4096 + (n8 b - 128) * 64) (n8 d - 128) ((n8 c - 224) * 64 + (n8 b - 128)) (by omega) (by omega) (by omega) (by omega) (by omega) (by decide)
        simp (implicitDefEqProofs := false) only [sB, simprocAttr, f73, byteAV_n8, opE_glob, G0, G1, Gu0, Gu1, hf, hc.1, hc.2, an7, wz, ac0, acl, sh4, fd4, sh6, sh12, sh18, ne, l2, l3, l4, b1, b2, d1, d2, a1, a2, a3, a4, a5, a6, a7, a8, o1, o2]
        refine i_new fun z hz => ?_
        simp (implicitDefEqProofs := false) only [sB, simprocAttr, ac0, acl, sh6, sh12, sh18, ne, l2, l3, l4, b1, b2, d1, d2, a1, a2, a3, a4, a5, a6, a7, a8, o1, o2]
        exact ⟨_, .tail _ _, h⟩
      | B3 k q e1 e2 e3 =>
        rw [q] at hf
        rw [e1, e2, e3] at hF
        by_cases b1 : n8 b < 128
        · have F : dec1 (c :: b :: d :: e :: r) = (65533, 1) := dec1_bad (by rw [hF, fgo, if_pos (.inl (by unfold n8 at b1; omega))])
          rw [F] at h
          simp (implicitDefEqProofs := false) only [sB, simprocAttr, f73, byteAV_n8, opE_glob, G0, G1, Gu0, Gu1, hf, hc.1, hc.2, an7, wz, ac0, acl, sh4, fd4, sh6, sh12, sh18, ne, l2, l3, l4, b1]
          refine i_new fun z hz => ?_
          simp (implicitDefEqProofs := false) only [sB, simprocAttr, ac0, acl, sh6, sh12, sh18, ne, l2, l3, l4, b1]
          exact ⟨_, .tail _ _, h⟩
        by_cases b2 : 191 < n8 b
        · have F : dec1 (c :: b :: d :: e :: r) = (65533, 1) := dec1_bad (by rw [hF, fgo, if_pos (.inr (by unfold n8 at b2; omega))])
          rw [F] at h
          simp (implicitDefEqProofs := false) only [sB, simprocAttr, f73, byteAV_n8, opE_glob, G0, G1, Gu0, Gu1, hf, hc.1, hc.2, an7, wz, ac0, acl, sh4, fd4, sh6, sh12, sh18, ne, l2, l3, l4, b1, b2]
          refine i_new fun z hz => ?_
          simp (implicitDefEqProofs := false) only [sB, simprocAttr, ac0, acl, sh6, sh12, sh18, ne, l2, l3, l4, b1, b2]
          exact ⟨_, .tail _ _, h⟩
        have hb := n8_lt b
        have hd := n8_lt d
        by_cases d1 : n8 d < 128
        · have F : dec1 (c :: b :: d :: e :: r) = (65533, 1) := dec1_bad (by rw [hF, fgo, if_neg (by unfold n8 at b1 b2; omega), fgo, if_pos (.inl (by unfold n8 at d1; omega))])
          rw [F] at h
          simp (implicitDefEqProofs := false) only [sB, simprocAttr, f73, byteAV_n8, opE_glob, G0, G1, Gu0, Gu1, hf, hc.1, hc.2, an7, wz, ac0, acl, sh4, fd4, sh6, sh12, sh18, ne, l2, l3, l4, b1, b2, d1]
          refine i_new fun z hz => ?_
          simp (implicitDefEqProofs := false) only [sB, simprocAttr, ac0, acl, sh6, sh12, sh18, ne, l2, l3, l4, b1, b2, d1]
          exact ⟨_, .tail _ _, h⟩
        by_cases d2 : 191 < n8 d
        · have F : dec1 (c :: b :: d :: e :: r) = (65533, 1) := dec1_bad (by rw [hF, fgo, if_neg (by unfold n8 at b1 b2; omega), fgo, if_pos (.inr (by unfold n8 at d2; omega))])
          rw [F] at h
          simp (implicitDefEqProofs := false) only [sB, simprocAttr, f73, byteAV_n8, opE_glob, G0, G1, Gu0, Gu1, hf, hc.1, hc.2, an7, wz, ac0, acl, sh4, fd4, sh6, sh12, sh18, ne, l2, l3, l4, b1, b2, d1, d2]
          refine i_new fun z hz => ?_
          simp (implicitDefEqProofs := false) only [sB, simprocAttr, ac0, acl, sh6, sh12, sh18, ne, l2, l3, l4, b1, b2, d1, d2]
          exact ⟨_, .tail _ _, h⟩
        have hG : fst (c :: b :: d :: e :: r) = (3, false) := by rw [hF, fgo, if_neg (by unfold n8 at b1 b2; omega), fgo, if_neg (by unfold n8 at d1 d2; omega), fgo]
        have F : dec1 (c :: b :: d :: e :: r) = ((n8 c - 224) * 4096 + (n8 b - 128) * 64 + (n8 d - 128), 3) := by rw [dec1, hG, if_neg (by decide)]; rfl
        rw [F] at h
        have a1 : intB .and .u8 (n8 c) 15 = n8 c - 224 := by rw [and15b _ hc.1 hc.2]; omega
        have a2 := w_i32 (n8 c - 224) (by omega) (by omega)
        have a3 := w_i32 ((n8 c - 224) * 4096) (by omega) (by omega)
        have a4 : intB .and .u8 (n8 b) 63 = n8 b - 128 := by rw [and63b _ hb.1 hb.2]; omega
        have a5 := w_i32 (n8 b - 128) (by omega) (by omega)
        have a6 := w_i32 ((n8 b - 128) * 64) (by omega) (by omega)
        have a7 : intB .and .u8 (n8 d) 63 = n8 d - 128 := by rw [and63b _ hd.1 hd.2]; omega
        have a8 := w_i32 (n8 d - 128) (by omega) (by omega)
        have o1 := or_add 12 ((n8 c - 224) * 4096) ((n8 b - 128) * 64) (n8 c - 224) rfl (by omega) (by omega) (by omega) (by omega) (by decide)
        have o2 := or_add 6 ((n8 c - 224) * 4096 + (n8 b - 128) * 64) (n8 d - 128) ((n8 c - 224) * 64 + (n8 b - 128)) (by omega) (by omega) (by omega) (by omega) (by omega) (by decide)
        simp (implicitDefEqProofs := false) only [sB, simprocAttr, f73, byteAV_n8, opE_glob, G0, G1, Gu0, Gu1, hf, hc.1, hc.2, an7, wz, ac0, acl, sh4, fd4, sh6, sh12, sh18, ne, l2, l3, l4, b1, b2, d1, d2, a1, a2, a3, a4, a5, a6, a7, a8, o1, o2]
        refine i_new fun z hz => ?_
        simp (implicitDefEqProofs := false) only [sB, simprocAttr, ac0, acl, sh6, sh12, sh18, ne, l2, l3, l4, b1, b2, d1, d2, a1, a2, a3, a4, a5, a6, a7, a8, o1, o2]
        exact ⟨_, .tail _ _, h⟩
      | C1 k q e1 e2 e3 =>
        rw [q] at hf
        rw [e1, e2, e3] at hF
        by_cases b1 : n8 b < 144
        · have F : dec1 (c :: b :: d :: e :: r) = (65533, 1) := dec1_bad (by rw [hF, fgo, if_pos (.inl (by unfold n8 at b1; omega))])
          rw [F] at h
          simp (implicitDefEqProofs := false) only [sB, simprocAttr, f73, byteAV_n8, opE_glob, G0, G1, Gu0, Gu1, hf, hc.1, hc.2, an7, wz, ac0, acl, sh4, fd4, sh6, sh12, sh18, ne, l2, l3, l4, b1]
          refine i_new fun z hz => ?_
          simp (implicitDefEqProofs := false) only [sB, simprocAttr, ac0, acl, sh6, sh12, sh18, ne, l2, l3, l4, b1]
          exact ⟨_, .tail _ _, h⟩
        by_cases b2 : 191 < n8 b
        · have F : dec1 (c :: b :: d :: e :: r) = (65533, 1) := dec1_bad (by rw [hF, fgo, if_pos (.inr (by unfold n8 at b2; omega))])
          rw [F] at h
          simp (implicitDefEqProofs := false) only [sB, simprocAttr, f73, byteAV_n8, opE_glob, G0, G1, Gu0, Gu1, hf, hc.1, hc.2, an7, wz, ac0, acl, sh4, fd4, sh6, sh12, sh18, ne, l2, l3, l4, b1, b2]
          refine i_new fun z hz => ?_
          simp (implicitDefEqProofs := false) only [sB, simprocAttr, ac0, acl, sh6, sh12, sh18, ne, l2, l3, l4, b1, b2]
          exact ⟨_, .tail _ _, h⟩
        have hb := n8_lt b
        have hd := n8_lt d
        by_cases d1 : n8 d < 128
        · have F : dec1 (c :: b :: d :: e :: r) = (65533, 1) := dec1_bad (by rw [hF, fgo, if_neg (by unfold n8 at b1 b2; omega), fgo, if_pos (.inl (by unfold n8 at d1; omega))])
          rw [F] at h
          simp (implicitDefEqProofs := false) only [sB, simprocAttr, f73, byteAV_n8, opE_glob, G0, G1, Gu0, Gu1, hf, hc.1, hc.2, an7, wz, ac0, acl, sh4, fd4, sh6, sh12, sh18, ne, l2, l3, l4, b1, b2, d1]
          refine i_new fun z hz => ?_
          simp (implicitDefEqProofs := false) only [sB, simprocAttr, ac0, acl, sh6, sh12, sh18, ne, l2, l3, l4, b1, b2, d1]
          exact ⟨_, .tail _ _, h⟩
        by_cases d2 : 191 < n8 d
        · have F : dec1 (c :: b :: d :: e :: r) = (65533, 1) := dec1_bad (by rw [hF, fgo, if_neg (by unfold n8 at b1 b2; omega), fgo, if_pos (.inr (by unfold n8 at d2; omega))])
          rw [F] at h
          simp (implicitDefEqProofs := false) only [sB, simprocAttr, f73, byteAV_n8, opE_glob, G0, G1, Gu0, Gu1, hf, hc.1, hc.2, an7, wz, ac0, acl, sh4, fd4, sh6, sh12, sh18, ne, l2, l3, l4, b1, b2, d1, d2]
          refine i_new fun z hz => ?_
          simp (implicitDefEqProofs := false) only [sB, simprocAttr, ac0, acl, sh6, sh12, sh18, ne, l2, l3, l4, b1, b2, d1, d2]
          exact ⟨_, .tail _ _, h⟩
        have he := n8_lt e
        by_cases g1 : n8 e < 128
        · have F : dec1 (c :: b :: d :: e :: r) = (65533, 1) := dec1_bad (by rw [hF, fgo, if_neg (by unfold n8 at b1 b2; omega), fgo, if_neg (by unfold n8 at d1 d2; omega), fgo, if_pos (.inl (by unfold n8 at g1; omega))])
          rw [F] at h
          simp (implicitDefEqProofs := false) only [sB, simprocAttr, f73, byteAV_n8, opE_glob, G0, G1, Gu0, Gu1, hf, hc.1, hc.2, an7, wz, ac0, acl, sh4, fd4, sh6, sh12, sh18, ne, l2, l3, l4, b1, b2, d1, d2, g1]
          refine i_new fun z hz => ?_
          simp (implicitDefEqProofs := false) only [sB, simprocAttr, ac0, acl, sh6, sh12, sh18, ne, l2, l3, l4, b1, b2, d1, d2, g1]
          exact ⟨_, .tail _ _, h⟩
        by_cases g2 : 191 < n8 e
        · have F : dec1 (c :: b :: d :: e :: r) = (65533, 1) := dec1_bad (by rw [hF, fgo, if_neg (by unfold n8 at b1 b2; omega), fgo, if_neg (by unfold n8 at d1 d2; omega), fgo, if_pos (.inr (by unfold n8 at g2; omega))])
          rw [F] at h
          simp (implicitDefEqProofs := false) only [sB, simprocAttr, f73, byteAV_n8, opE_glob, G0, G1, Gu0, Gu1, hf, hc.1, hc.2, an7, wz, ac0, acl, sh4, fd4, sh6, sh12, sh18, ne, l2, l3, l4, b1, b2, d1, d2, g1, g2]
          refine i_new fun z hz => ?_
          simp (implicitDefEqProofs := false) only [sB, simprocAttr, ac0, acl, sh6, sh12, sh18, ne, l2, l3, l4, b1, b2, d1, d2, g1, g2]
          exact ⟨_, .tail _ _, h⟩
        have hG : fst (c :: b :: d :: e :: r) = (4, false) := by rw [hF, fgo, if_neg (by unfold n8 at b1 b2; omega), fgo, if_neg (by unfold n8 at d1 d2; omega), fgo, if_neg (by unfold n8 at g1 g2; omega), fgo]
        have F : dec1 (c :: b :: d :: e :: r) = ((n8 c - 240) * 262144 + (n8 b - 128) * 4096 + (n8 d - 128) * 64 + (n8 e - 128), 4) := by rw [dec1, hG, if_neg (by decide)]; rfl
        rw [F] at h
        have a1 : intB .and .u8 (n8 c) 7 = n8 c - 240 := by rw [and7b _ hc.1 hc.2]; omega
        have a2 := w_i32 (n8 c - 240) (by omega) (by omega)
        have a3 := w_i32 ((n8 c - 240) * 262144) (by omega) (by omega)
        have a4 : intB .and .u8 (n8 b) 63 = n8 b - 128 := by rw [and63b _ hb.1 hb.2]; omega
        have a5 := w_i32 (n8 b - 128) (by omega) (by omega)
        have a6 := w_i32 ((n8 b - 128) * 4096) (by omega) (by omega)
        have a7 : intB .and .u8 (n8 d) 63 = n8 d - 128 := by rw [and63b _ hd.1 hd.2]; omega
        have a8 := w_i32 (n8 d - 128) (by omega) (by omega)
        have a9 := w_i32 ((n8 d - 128) * 64) (by omega) (by omega)
        have a10 : intB .and .u8 (n8 e) 63 = n8 e - 128 := by rw [and63b _ he.1 he.2]; omega
        have a11 := w_i32 (n8 e - 128) (by omega) (by omega)
        have o1 := or_add 18 ((n8 c - 240) * 262144) ((n8 b - 128) * 4096) (n8 c - 240) rfl (by omega) (by omega) (by omega) (by omega) (by decide)
        have o2 := or_add 12 ((n8 c - 240) * 262144 + (n8 b - 128) * 4096) ((n8 d - 128) * 64) ((n8 c - 240) * 64 + (n8 b - 128)) (by omega) (by omega) (by omega) (by omega) (by omega) (by decide)
        have o3 := or_add 6 ((n8 c - 240) * 262144 + (n8 b - 128) * 4096 + (n8 d - 128) * 64) (n8 e - 128) ((n8 c - 240) * 4096 + (n8 b - 128) * 64 + (n8 d - 128)) (by omega) (by omega) (by omega) (by omega) (by omega) (by decide)
        simp (implicitDefEqProofs := false) only [sB, simprocAttr, f73, byteAV_n8, opE_glob, G0, G1, Gu0, Gu1, hf, hc.1, hc.2, an7, wz, ac0, acl, sh4, fd4, sh6, sh12, sh18, ne, l2, l3, l4, b1, b2, d1, d2, a1, a2, a3, a4, a5, a6, a7, a8, g1, g2, a9, a10, a11, o1, o2, o3]
        refine i_new fun z hz => ?_
        simp (implicitDefEqProofs := false) only [sB, simprocAttr, ac0, acl, sh6, sh12, sh18, ne, l2, l3, l4, b1, b2, d1, d2, a1, a2, a3, a4, a5, a6, a7, a8, g1, g2, a9, a10, a11, o1, o2, o3]
        exact ⟨_, .tail _ _, h⟩
      | C2 k q e1 e2 e3 =>
        rw [q] at hf
        rw [e1, e2, e3] at hF
        by_cases b1 : n8 b < 128
        · have F : dec1 (c :: b :: d :: e :: r) = (65533, 1) := dec1_bad (by rw [hF, fgo, if_pos (.inl (by unfold n8 at b1; omega))])
          rw [F] at h
          simp (implicitDefEqProofs := false) only [sB, simprocAttr, f73, byteAV_n8, opE_glob, G0, G1, Gu0, Gu1, hf, hc.1, hc.2, an7, wz, ac0, acl, sh4, fd4, sh6, sh12, sh18, ne, l2, l3, l4, b1]
          refine i_new fun z hz => ?_
          simp (implicitDefEqProofs := false) only [sB, simprocAttr, ac0, acl, sh6, sh12, sh18, ne, l2, l3, l4, b1]
          exact ⟨_, .tail _ _, h⟩
        by_cases b2 : 143 < n8 b
        · have F : dec1 (c :: b :: d :: e :: r) = (65533, 1) := dec1_bad (by rw [hF, fgo, if_pos (.inr (by unfold n8 at b2; omega))])
          rw [F] at h
          simp (implicitDefEqProofs := false) only [sB, simprocAttr, f73, byteAV_n8, opE_glob, G0, G1, Gu0, Gu1, hf, hc.1, hc.2, an7, wz, ac0, acl, sh4, fd4, sh6, sh12, sh18, ne, l2, l3, l4, b1, b2]
          refine i_new fun z hz => ?_
          simp (implicitDefEqProofs := false) only [sB, simprocAttr, ac0, acl, sh6, sh12, sh18, ne, l2, l3, l4, b1, b2]
          exact ⟨_, .tail _ _, h⟩
        have hb := n8_lt b
        have hd := n8_lt d
        by_cases d1 : n8 d < 128
        · have F : dec1 (c :: b :: d :: e :: r) = (65533, 1) := dec1_bad (by rw [hF, fgo, if_neg (by unfold n8 at b1 b2; omega), fgo, if_pos (.inl (by unfold n8 at d1; omega))])
          rw [F] at h
          simp (implicitDefEqProofs := false) only [sB, simprocAttr, f73, byteAV_n8, opE_glob, G0, G1, Gu0, Gu1, hf, hc.1, hc.2, an7, wz, ac0, acl, sh4, fd4, sh6, sh12, sh18, ne, l2, l3, l4, b1, b2, d1]
          refine i_new fun z hz => ?_
          simp (implicitDefEqProofs := false) only [sB, simprocAttr, ac0, acl, sh6, sh12, sh18, ne, l2, l3, l4, b1, b2, d1]
          exact ⟨_, .tail _ _, h⟩
        by_cases d2 : 191 < n8 d
        · have F : dec1 (c :: b :: d :: e :: r) = (65533, 1) := dec1_bad (by rw [hF, fgo, if_neg (by unfold n8 at b1 b2; omega), fgo, if_pos (.inr (by unfold n8 at d2; omega))])
          rw [F] at h
          simp (implicitDefEqProofs := false) only [sB, simprocAttr, f73, byteAV_n8, opE_glob, G0, G1, Gu0, Gu1, hf, hc.1, hc.2, an7, wz, ac0, acl, sh4, fd4, sh6, sh12, sh18, ne, l2, l3, l4, b1, b2, d1, d2]
          refine i_new fun z hz => ?_
          simp (implicitDefEqProofs := false) only [sB, simprocAttr, ac0, acl, sh6, sh12, sh18, ne, l2, l3, l4, b1, b2, d1, d2]
          exact ⟨_, .tail _ _, h⟩
        have he := n8_lt e
        by_cases g1 : n8 e < 128
        · have F : dec1 (c :: b :: d :: e :: r) = (65533, 1) := dec1_bad (by rw [hF, fgo, if_neg (by unfold n8 at b1 b2; omega), fgo, if_neg (by unfold n8 at d1 d2; omega), fgo, if_pos (.inl (by unfold n8 at g1; omega))])
          rw [F] at h
          simp (implicitDefEqProofs := false) only [sB, simprocAttr, f73, byteAV_n8, opE_glob, G0, G1, Gu0, Gu1, hf, hc.1, hc.2, an7, wz, ac0, acl, sh4, fd4, sh6, sh12, sh18, ne, l2, l3, l4, b1, b2, d1, d2, g1]
          refine i_new fun z hz => ?_
          simp (implicitDefEqProofs := false) only [sB, simprocAttr, ac0, acl, sh6, sh12, sh18, ne, l2, l3, l4, b1, b2, d1, d2, g1]
          exact ⟨_, .tail _ _, h⟩
        by_cases g2 : 191 < n8 e
        · have F : dec1 (c :: b :: d :: e :: r) = (65533, 1) := dec1_bad (by rw [hF, fgo, if_neg (by unfold n8 at b1 b2; omega), fgo, if_neg (by unfold n8 at d1 d2; omega), fgo, if_pos (.inr (by unfold n8 at g2; omega))])
          rw [F] at h
          simp (implicitDefEqProofs := false) only [sB, simprocAttr, f73, byteAV_n8, opE_glob, G0, G1, Gu0, Gu1, hf, hc.1, hc.2, an7, wz, ac0, acl, sh4, fd4, sh6, sh12, sh18, ne, l2, l3, l4, b1, b2, d1, d2, g1, g2]
          refine i_new fun z hz => ?_
          simp (implicitDefEqProofs := false) only [sB, simprocAttr, ac0, acl, sh6, sh12, sh18, ne, l2, l3, l4, b1, b2, d1, d2, g1, g2]
          exact ⟨_, .tail _ _, h⟩
        have hG : fst (c :: b :: d :: e :: r) = (4, false) := by rw [hF, fgo, if_neg (by unfold n8 at b1 b2; omega), fgo, if_neg (by unfold n8 at d1 d2; omega), fgo, if_neg (by unfold n8 at g1 g2; omega), fgo]
        have F : dec1 (c :: b :: d :: e :: r) = ((n8 c - 240) * 262144 + (n8 b - 128) * 4096 + (n8 d - 128) * 64 + (n8 e - 128), 4) := by rw [dec1, hG, if_neg (by decide)]; rfl
        rw [F] at h
        have a1 : intB .and .u8 (n8 c) 7 = n8 c - 240 := by rw [and7b _ hc.1 hc.2]; omega
        have a2 := w_i32 (n8 c - 240) (by omega) (by omega)
        have a3 := w_i32 ((n8 c - 240) * 262144) (by omega) (by omega)
        have a4 : intB .and .u8 (n8 b) 63 = n8 b - 128 := by rw [and63b _ hb.1 hb.2]; omega
        have a5 := w_i32 (n8 b - 128) (by omega) (by omega)
        have a6 := w_i32 ((n8 b - 128) * 4096) (by omega) (by omega)
        have a7 : intB .and .u8 (n8 d) 63 = n8 d - 128 := by rw [and63b _ hd.1 hd.2]; omega
        have a8 := w_i32 (n8 d - 128) (by omega) (by omega)
        have a9 := w_i32 ((n8 d - 128) * 64) (by omega) (by omega)
        have a10 : intB .and .u8 (n8 e) 63 = n8 e - 128 := by rw [and63b _ he.1 he.2]; omega
        have a11 := w_i32 (n8 e - 128) (by omega) (by omega)
        have o1 := or_add 18 ((n8 c - 240) * 262144) ((n8 b - 128) * 4096) (n8 c - 240) rfl (by omega) (by omega) (by omega) (by omega) (by decide)
        have o2 := or_add 12 ((n8 c - 240) * 262144 + (n8 b - 128) * 4096) ((n8 d - 128) * 64) ((n8 c - 240) * 64 + (n8 b - 128)) (by omega) (by omega) (by omega) (by omega) (by omega) (by decide)
        have o3 := or_add 6 ((n8 c - 240) * 262144 + (n8 b - 128) * 4096 + (n8 d - 128) * 64) (n8 e - 128) ((n8 c - 240) * 4096 + (n8 b - 128) * 64 + (n8 d - 128)) (by omega) (by omega) (by omega) (by omega) (by omega) (by decide)
        simp (implicitDefEqProofs := false) only [sB, simprocAttr, f73, byteAV_n8, opE_glob, G0, G1, Gu0, Gu1, hf, hc.1, hc.2, an7, wz, ac0, acl, sh4, fd4, sh6, sh12, sh18, ne, l2, l3, l4, b1, b2, d1, d2, a1, a2, a3, a4, a5, a6, a7, a8, g1, g2, a9, a10, a11, o1, o2, o3]
        refine i_new fun z hz => ?_
        simp (implicitDefEqProofs := false) only [sB, simprocAttr, ac0, acl, sh6, sh12, sh18, ne, l2, l3, l4, b1, b2, d1, d2, a1, a2, a3, a4, a5, a6, a7, a8, g1, g2, a9, a10, a11, o1, o2, o3]
        exact ⟨_, .tail _ _, h⟩
      | C3 k q e1 e2 e3 =>
        rw [q] at hf
        rw [e1, e2, e3] at hF
        by_cases b1 : n8 b < 128
        · have F : dec1 (c :: b :: d :: e :: r) = (65533, 1) := dec1_bad (by rw [hF, fgo, if_pos (.inl (by unfold n8 at b1; omega))])
          rw [F] at h
          simp (implicitDefEqProofs := false) only [sB, simprocAttr, f73, byteAV_n8, opE_glob, G0, G1, Gu0, Gu1, hf, hc.1, hc.2, an7, wz, ac0, acl, sh4, fd4, sh6, sh12, sh18, ne, l2, l3, l4, b1]
          refine i_new fun z hz => ?_
          simp (implicitDefEqProofs := false) only [sB, simprocAttr, ac0, acl, sh6, sh12, sh18, ne, l2, l3, l4, b1]
          exact ⟨_, .tail _ _, h⟩
        by_cases b2 : 191 < n8 b
        · have F : dec1 (c :: b :: d :: e :: r) = (65533, 1) := dec1_bad (by rw [hF, fgo, if_pos (.inr (by unfold n8 at b2; omega))])
          rw [F] at h
          simp (implicitDefEqProofs := false) only [sB, simprocAttr, f73, byteAV_n8, opE_glob, G0, G1, Gu0, Gu1, hf, hc.1, hc.2, an7, wz, ac0, acl, sh4, fd4, sh6, sh12, sh18, ne, l2, l3, l4, b1, b2]
          refine i_new fun z hz => ?_
          simp (implicitDefEqProofs := false) only [sB, simprocAttr, ac0, acl, sh6, sh12, sh18, ne, l2, l3, l4, b1, b2]
          exact ⟨_, .tail _ _, h⟩
        have hb := n8_lt b
        have hd := n8_lt d
        by_cases d1 : n8 d < 128
        · have F : dec1 (c :: b :: d :: e :: r) = (65533, 1) := dec1_bad (by rw [hF, fgo, if_neg (by unfold n8 at b1 b2; omega), fgo, if_pos (.inl (by unfold n8 at d1; omega))])
          rw [F] at h
          simp (implicitDefEqProofs := false) only [sB, simprocAttr, f73, byteAV_n8, opE_glob, G0, G1, Gu0, Gu1, hf, hc.1, hc.2, an7, wz, ac0, acl, sh4, fd4, sh6, sh12, sh18, ne, l2, l3, l4, b1, b2, d1]
          refine i_new fun z hz => ?_
          simp (implicitDefEqProofs := false) only [sB, simprocAttr, ac0, acl, sh6, sh12, sh18, ne, l2, l3, l4, b1, b2, d1]
          exact ⟨_, .tail _ _, h⟩
        by_cases d2 : 191 < n8 d
        · have F : dec1 (c :: b :: d :: e :: r) = (65533, 1) := dec1_bad (by rw [hF, fgo, if_neg (by unfold n8 at b1 b2; omega), fgo, if_pos (.inr (by unfold n8 at d2; omega))])
          rw [F] at h
          simp (implicitDefEqProofs := false) only [sB, simprocAttr, f73, byteAV_n8, opE_glob, G0, G1, Gu0, Gu1, hf, hc.1, hc.2, an7, wz, ac0, acl, sh4, fd4, sh6, sh12, sh18, ne, l2, l3, l4, b1, b2, d1, d2]
          refine i_new fun z hz => ?_
          simp (implicitDefEqProofs := false) only [sB, simprocAttr, ac0, acl, sh6, sh12, sh18, ne, l2, l3, l4, b1, b2, d1, d2]
          exact ⟨_, .tail _ _, h⟩
        have he := n8_lt e
        by_cases g1 : n8 e < 128
        · have F : dec1 (c :: b :: d :: e :: r) = (65533, 1) := dec1_bad (by rw [hF, fgo, if_neg (by unfold n8 at b1 b2; omega), fgo, if_neg (by unfold n8 at d1 d2; omega), fgo, if_pos (.inl (by unfold n8 at g1; omega))])
          rw [F] at h
          simp (implicitDefEqProofs := false) only [sB, simprocAttr, f73, byteAV_n8, opE_glob, G0, G1, Gu0, Gu1, hf, hc.1, hc.2, an7, wz, ac0, acl, sh4, fd4, sh6, sh12, sh18, ne, l2, l3, l4, b1, b2, d1, d2, g1]
          refine i_new fun z hz => ?_
          simp (implicitDefEqProofs := false) only [sB, simprocAttr, ac0, acl, sh6, sh12, sh18, ne, l2, l3, l4, b1, b2, d1, d2, g1]
          exact ⟨_, .tail _ _, h⟩
        by_cases g2 : 191 < n8 e
        · have F : dec1 (c :: b :: d :: e :: r) = (65533, 1) := dec1_bad (by rw [hF, fgo, if_neg (by unfold n8 at b1 b2; omega), fgo, if_neg (by unfold n8 at d1 d2; omega), fgo, if_pos (.inr (by unfold n8 at g2; omega))])
          rw [F] at h
          simp (implicitDefEqProofs := false) only [sB, simprocAttr, f73, byteAV_n8, opE_glob, G0, G1, Gu0, Gu1, hf, hc.1, hc.2, an7, wz, ac0, acl, sh4, fd4, sh6, sh12, sh18, ne, l2, l3, l4, b1, b2, d1, d2, g1, g2]
          refine i_new fun z hz => ?_
          simp (implicitDefEqProofs := false) only [sB, simprocAttr, ac0, acl, sh6, sh12, sh18, ne, l2, l3, l4, b1, b2, d1, d2, g1, g2]
          exact ⟨_, .tail _ _, h⟩
        have hG : fst (c :: b :: d :: e :: r) = (4, false) := by rw [hF, fgo, if_neg (by unfold n8 at b1 b2; omega), fgo, if_neg (by unfold n8 at d1 d2; omega), fgo, if_neg (by unfold n8 at g1 g2; omega), fgo]
        have F : dec1 (c :: b :: d :: e :: r) = ((n8 c - 240) * 262144 + (n8 b - 128) * 4096 + (n8 d - 128) * 64 + (n8 e - 128), 4) := by rw [dec1, hG, if_neg (by decide)]; rfl
        rw [F] at h
        have a1 : intB .and .u8 (n8 c) 7 = n8 c - 240 := by rw [and7b _ hc.1 hc.2]; omega
        have a2 := w_i32 (n8 c - 240) (by omega) (by omega)
        have a3 := w_i32 ((n8 c - 240) * 262144) (by omega) (by omega)
        have a4 : intB .and .u8 (n8 b) 63 = n8 b - 128 := by rw [and63b _ hb.1 hb.2]; omega
        have a5 := w_i32 (n8 b - 128) (by omega) (by omega)
        have a6 := w_i32 ((n8 b - 128) * 4096) (by omega) (by omega)
        have a7 : intB .and .u8 (n8 d) 63 = n8 d - 128 := by rw [and63b _ hd.1 hd.2]; omega
        have a8 := w_i32 (n8 d - 128) (by omega) (by omega)
        have a9 := w_i32 ((n8 d - 128) * 64) (by omega) (by omega)
        have a10 : intB .and .u8 (n8 e) 63 = n8 e - 128 := by rw [and63b _ he.1 he.2]; omega
        have a11 := w_i32 (n8 e - 128) (by omega) (by omega)
        have o1 := or_add 18 ((n8 c - 240) * 262144) ((n8 b - 128) * 4096) (n8 c - 240) rfl (by omega) (by omega) (by omega) (by omega) (by decide)
        have o2 := or_add 12 ((n8 c - 240) * 262144 + (n8 b - 128) * 4096) ((n8 d - 128) * 64) ((n8 c - 240) * 64 + (n8 b - 128)) (by omega) (by omega) (by omega) (by omega) (by omega) (by decide)
        have o3 := or_add 6 ((n8 c - 240) * 262144 + (n8 b - 128) * 4096 + (n8 d - 128) * 64) (n8 e - 128) ((n8 c - 240) * 4096 + (n8 b - 128) * 64 + (n8 d - 128)) (by omega) (by omega) (by omega) (by omega) (by omega) (by decide)
        simp (implicitDefEqProofs := false) only [sB, simprocAttr, f73, byteAV_n8, opE_glob, G0, G1, Gu0, Gu1, hf, hc.1, hc.2, an7, wz, ac0, acl, sh4, fd4, sh6, sh12, sh18, ne, l2, l3, l4, b1, b2, d1, d2, a1, a2, a3, a4, a5, a6, a7, a8, g1, g2, a9, a10, a11, o1, o2, o3]
        refine i_new fun z hz => ?_
        simp (implicitDefEqProofs := false) only [sB, simprocAttr, ac0, acl, sh6, sh12, sh18, ne, l2, l3, l4, b1, b2, d1, d2, a1, a2, a3, a4, a5, a6, a7, a8, g1, g2, a9, a10, a11, o1, o2, o3]
        exact ⟨_, .tail _ _, h⟩

theorem x_c55 {c : UInt8} {r : List UInt8} {t : Tok} {H : Heap} {K : Kv} (h1 : 128 ≤ n8 c) (hl : r.length ≤ 1099511627776) (k : K.ap (.tup [.int .i32 (dec1 (c :: r)).1, .int .i64 (dec1 (c :: r)).2]) H) : c55 [.sl (bytesAV (c :: r)) t] H K := ⟨c, r, t, rfl, h1, hl, k⟩
def c46 (xs : List AV) (H : Heap) (K : Kv) : Prop := ∃ (p : List UInt8) (t : Tok), xs = [.sl (bytesAV p) t] ∧ p ≠ [] ∧ p.length ≤ 1099511627776 ∧ K.ap (.tup [.int .i32 (dec1 p).1, .int .i64 (dec1 p).2]) H
theorem c46_of (P : Program) {G : Nat → Option (List AV)} {xs : List AV} {H : Heap} {K : Kv} (h : c46 xs H K) : @xF ⟨G, P, [(73, c55)]⟩ f63 xs H ⟨fun v H' => ∃ H0, Hle H0 H' ∧ K.ap v H0⟩ := by
  obtain ⟨p, t, rfl, hne, hl, h⟩ := h
  cases p with
  | nil => exact absurd rfl hne
  | cons c r =>
    have hc := n8_lt c
    have wc := w_i32 (n8 c) (by omega) (by omega)
    have np : (0 : Int) < ((r.length + 1 : Nat) : Int) := by omega
    have hl' : r.length ≤ 1099511627776 := by simp only [List.length_cons] at hl; omega
    simp (implicitDefEqProofs := false) only [sB, simprocAttr, f63, byteAV_n8]
    refine i_loopJ (fun σ H1 => H1 = H ∧ σ = [(0, .sl (.int .u8 (n8 c) :: bytesAV r) t), (6, .sl (.int .u8 (n8 c) :: bytesAV r) t), (7, .int .i64 ((r.length + 1 : Nat) : Int)), (8, .int .i64 0)])
      (fun _ _ => 0)
      (fun e σ H1 => H1 = H ∧ ((e = .ret ∧ n8 c < 128 ∧ σ.get 2 = .int .i32 (n8 c) ∧ σ.get 3 = .int .i64 1) ∨ (e = .exit 0 ∧ 128 ≤ n8 c ∧ σ.get 0 = .sl (.int .u8 (n8 c) :: bytesAV r) t)))
      ⟨_, .refl _, rfl, rfl⟩ ?_ ?_
    · rintro e σ H1 ⟨rfl, ⟨rfl, h1, q2, q3⟩ | ⟨rfl, h1, q0⟩⟩
      · have F : dec1 (c :: r) = (n8 c, 1) := by
          have : fst (c :: r) = (1, false) := by rw [fst, if_pos (by unfold n8 at h1; omega)]
          rw [dec1, this, if_neg (by decide)]; rfl
        rw [F] at h
        simp (implicitDefEqProofs := false) only [sB, simprocAttr, q2, q3]
        exact ⟨_, .refl _, h⟩
      · simp (implicitDefEqProofs := false) only [sB, simprocAttr, q0]
        refine x_c55 h1 hl' ?_
        simp (implicitDefEqProofs := false) only [sB, simprocAttr]
        exact ⟨_, .refl _, h⟩
    · rintro Q hQ σ H1 ⟨rfl, rfl⟩
      by_cases h1 : n8 c < 128
      · simp (implicitDefEqProofs := false) only [sB, simprocAttr, np, h1, wc]
        exact hQ _ _ _ ⟨rfl, .inl ⟨rfl, h1, rfl, rfl⟩⟩
      · simp (implicitDefEqProofs := false) only [sB, simprocAttr, np, h1, wc]
        exact hQ _ _ _ ⟨rfl, .inr ⟨rfl, by omega, rfl⟩⟩
abbrev hexD : List UInt8 := [48, 49, 50, 51, 52, 53, 54, 55, 56, 57, 97, 98, 99, 100, 101, 102]
end Go.AL.Fun
