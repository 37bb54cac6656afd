/- The tables; FullRune. Printed by gu8.py. -/
import Derived.Test.YtijioomcpecdhaaDoorR7
set_option linter.unusedSimpArgs false
set_option linter.unusedVariables false
set_option maxRecDepth 100000
set_option maxHeartbeats 4000000
namespace Go.AL.Fun
open Go Go.AL

def firstT (c : Nat) : Int := if c < 128 then 240 else if c < 194 then 241 else if c < 224 then 2 else if c = 224 then 19 else if c = 237 then 35 else if c < 240 then 3 else if c = 240 then 52 else if c < 244 then 4 else if c = 244 then 68 else 241
def firstL : List AV := (List.range 256).map fun c => .int .u8 (firstT c)
def accL : List AV := [.int .u8 128, .int .u8 191, .int .u8 160, .int .u8 191, .int .u8 128, .int .u8 159, .int .u8 144, .int .u8 191, .int .u8 128, .int .u8 143] ++ List.replicate 22 (.int .u8 0)
def tab64Z : List Int := [0, 1, 56, 2, 57, 49, 28, 3, 61, 58, 42, 50, 38, 29, 17, 4, 62, 47, 59, 36, 45, 43, 51, 22, 53, 39, 33, 30, 24, 18, 12, 5, 63, 55, 48, 27, 60, 41, 37, 16, 46, 35, 44, 21, 52, 32, 23, 11, 54, 26, 40, 15, 34, 20, 31, 10, 25, 14, 19, 9, 13, 8, 7, 6]
def tab64L : List AV := tab64Z.map (.int .u8)
def Gu : Nat → Option (List AV) := fun g => match g with | 0 => some firstL | 1 => some accL | 5 => some tab64L | _ => none
@[reducible] def tU (P : Program) (T : XT) : Th := ⟨Gu, P, T⟩
theorem opE_glob (G : Nat → Option (List AV)) (σ : Env) (g : Nat) : opE G σ (.global g) = match G g with | some cs => .iptr cs | none => .any := rfl
theorem G0 (P : Program) (T : XT) : @Th.G (tU P T) 0 = some firstL := rfl
theorem G1 (P : Program) (T : XT) : @Th.G (tU P T) 1 = some accL := rfl
theorem Gu0 : Gu 0 = some firstL := rfl
theorem Gu1 : Gu 1 = some accL := rfl
theorem first_at (c : UInt8) : (firstL.drop (n8 c).toNat)[0]? = some (.int .u8 (firstT c.toNat)) := by
  have := c.toNat_lt
  have e : (n8 c).toNat = c.toNat := by unfold n8; omega
  rw [e]
  simp only [List.getElem?_drop, Nat.add_zero, firstL, List.getElem?_map, List.getElem?_range (show c.toNat < 256 by omega), Option.map_some]
theorem an7 : intB .and .u8 240 7 = 0 ∧ intB .and .u8 241 7 = 1 ∧ intB .and .u8 2 7 = 2 ∧ intB .and .u8 19 7 = 3 ∧ intB .and .u8 35 7 = 3 ∧ intB .and .u8 3 7 = 3 ∧ intB .and .u8 52 7 = 4 ∧ intB .and .u8 68 7 = 4 ∧ intB .and .u8 4 7 = 4 := by decide
theorem wz : IntKind.wrap .i64 0 = 0 ∧ IntKind.wrap .i64 1 = 1 ∧ IntKind.wrap .i64 2 = 2 ∧ IntKind.wrap .i64 3 = 3 ∧ IntKind.wrap .i64 4 = 4 := by decide
theorem ac0 : (accL.drop 0).take 2 = [.int .u8 128, .int .u8 191] ∧ (accL.drop 2).take 2 = [.int .u8 160, .int .u8 191] ∧ (accL.drop 4).take 2 = [.int .u8 128, .int .u8 159] ∧ (accL.drop 6).take 2 = [.int .u8 144, .int .u8 191] ∧ (accL.drop 8).take 2 = [.int .u8 128, .int .u8 143] ∧ accL.take 2 = [.int .u8 128, .int .u8 191] := ⟨rfl, rfl, rfl, rfl, rfl, rfl⟩
theorem acl : accL.length = 32 := rfl
theorem sh4 : (2 : Int) ^ (if 4 ≤ IntKind.u8.bits then 4 else IntKind.u8.bits) = 16 := by decide
theorem fd4 : Int.fdiv 2 16 = 0 ∧ Int.fdiv 3 16 = 0 ∧ Int.fdiv 4 16 = 0 ∧ Int.fdiv 19 16 = 1 ∧ Int.fdiv 35 16 = 2 ∧ Int.fdiv 52 16 = 3 ∧ Int.fdiv 68 16 = 4 := by decide
/-- The classes of first bytes. -/
inductive Cls (c : UInt8) : Nat → Nat → Nat → Int → Prop
  | A (h : 194 ≤ n8 c ∧ n8 c ≤ 223) (h1 : firstT c.toNat = 2) (h2 : szOf c.toNat = 2) (h3 : loOf c.toNat = 128) (h4 : hiOf c.toNat = 191) : Cls c 2 128 191 2
  | B1 (h : n8 c = 224) (h1 : firstT c.toNat = 19) (h2 : szOf c.toNat = 3) (h3 : loOf c.toNat = 160) (h4 : hiOf c.toNat = 191) : Cls c 3 160 191 19
  | B2 (h : n8 c = 237) (h1 : firstT c.toNat = 35) (h2 : szOf c.toNat = 3) (h3 : loOf c.toNat = 128) (h4 : hiOf c.toNat = 159) : Cls c 3 128 159 35
  | B3 (h : 224 ≤ n8 c ∧ n8 c ≤ 239 ∧ n8 c ≠ 224 ∧ n8 c ≠ 237) (h1 : firstT c.toNat = 3) (h2 : szOf c.toNat = 3) (h3 : loOf c.toNat = 128) (h4 : hiOf c.toNat = 191) : Cls c 3 128 191 3
  | C1 (h : n8 c = 240) (h1 : firstT c.toNat = 52) (h2 : szOf c.toNat = 4) (h3 : loOf c.toNat = 144) (h4 : hiOf c.toNat = 191) : Cls c 4 144 191 52
  | C2 (h : n8 c = 244) (h1 : firstT c.toNat = 68) (h2 : szOf c.toNat = 4) (h3 : loOf c.toNat = 128) (h4 : hiOf c.toNat = 143) : Cls c 4 128 143 68
  | C3 (h : 240 ≤ n8 c ∧ n8 c ≤ 244 ∧ n8 c ≠ 240 ∧ n8 c ≠ 244) (h1 : firstT c.toNat = 4) (h2 : szOf c.toNat = 4) (h3 : loOf c.toNat = 128) (h4 : hiOf c.toNat = 191) : Cls c 4 128 191 4
theorem cls_of (c : UInt8) : (n8 c < 128 ∧ firstT c.toNat = 240) ∨ (128 ≤ n8 c ∧ szOf c.toNat = 0 ∧ firstT c.toNat = 241) ∨ (128 ≤ n8 c ∧ szOf c.toNat ≠ 0 ∧ ∃ sz lo hi v, Cls c sz lo hi v) := by
  have hc := n8_lt c
  by_cases h1 : n8 c < 128
  · exact .inl ⟨h1, by unfold firstT; unfold n8 at h1; rw [if_pos (by omega)]⟩
  by_cases h0 : szOf c.toNat = 0
  · refine .inr (.inl ⟨by omega, h0, ?_⟩)
    unfold szOf at h0
    unfold firstT
    unfold n8 at h1 hc
    (repeat' split at h0) <;> first | omega | skip
    all_goals (repeat' split) <;> omega
  refine .inr (.inr ⟨by omega, h0, ?_⟩)
  have cls : (194 ≤ n8 c ∧ n8 c ≤ 223) ∨ (n8 c = 224) ∨ (n8 c = 237) ∨ (224 ≤ n8 c ∧ n8 c ≤ 239 ∧ n8 c ≠ 224 ∧ n8 c ≠ 237) ∨ (n8 c = 240) ∨ (n8 c = 244) ∨ (240 ≤ n8 c ∧ n8 c ≤ 244 ∧ n8 c ≠ 240 ∧ n8 c ≠ 244) := by
    have e : ¬ szOf c.toNat = 0 := h0
    unfold szOf at e
    unfold n8
    repeat' split at e
    all_goals first | omega | exact absurd rfl e
  rcases cls with k | k | k | k | k | k | k
  · exact ⟨_, _, _, _, .A k (by unfold firstT; unfold n8 at k; (repeat' split) <;> omega) (by unfold szOf; unfold n8 at k; (repeat' split) <;> omega) (by unfold loOf; unfold n8 at k; (repeat' split) <;> omega) (by unfold hiOf; unfold n8 at k; (repeat' split) <;> omega)⟩
  · exact ⟨_, _, _, _, .B1 k (by unfold firstT; unfold n8 at k; (repeat' split) <;> omega) (by unfold szOf; unfold n8 at k; (repeat' split) <;> omega) (by unfold loOf; unfold n8 at k; (repeat' split) <;> omega) (by unfold hiOf; unfold n8 at k; (repeat' split) <;> omega)⟩
  · exact ⟨_, _, _, _, .B2 k (by unfold firstT; unfold n8 at k; (repeat' split) <;> omega) (by unfold szOf; unfold n8 at k; (repeat' split) <;> omega) (by unfold loOf; unfold n8 at k; (repeat' split) <;> omega) (by unfold hiOf; unfold n8 at k; (repeat' split) <;> omega)⟩
  · exact ⟨_, _, _, _, .B3 k (by unfold firstT; unfold n8 at k; (repeat' split) <;> omega) (by unfold szOf; unfold n8 at k; (repeat' split) <;> omega) (by unfold loOf; unfold n8 at k; (repeat' split) <;> omega) (by unfold hiOf; unfold n8 at k; (repeat' split) <;> omega)⟩
  · exact ⟨_, _, _, _, .C1 k (by unfold firstT; unfold n8 at k; (repeat' split) <;> omega) (by unfold szOf; unfold n8 at k; (repeat' split) <;> omega) (by unfold loOf; unfold n8 at k; (repeat' split) <;> omega) (by unfold hiOf; unfold n8 at k; (repeat' split) <;> omega)⟩
  · exact ⟨_, _, _, _, .C2 k (by unfold firstT; unfold n8 at k; (repeat' split) <;> omega) (by unfold szOf; unfold n8 at k; (repeat' split) <;> omega) (by unfold loOf; unfold n8 at k; (repeat' split) <;> omega) (by unfold hiOf; unfold n8 at k; (repeat' split) <;> omega)⟩
  · exact ⟨_, _, _, _, .C3 k (by unfold firstT; unfold n8 at k; (repeat' split) <;> omega) (by unfold szOf; unfold n8 at k; (repeat' split) <;> omega) (by unfold loOf; unfold n8 at k; (repeat' split) <;> omega) (by unfold hiOf; unfold n8 at k; (repeat' split) <;> omega)⟩
def fullP (p : List UInt8) : Bool := match p with | [] => false | _ => !(fst p).2
theorem fst_cls {c : UInt8} (r : List UInt8) (h : 128 ≤ n8 c) (h0 : szOf c.toNat ≠ 0) : fst (c :: r) = fgo (szOf c.toNat) (szOf c.toNat - 1) (loOf c.toNat) (hiOf c.toNat) r := by
  rw [fst, if_neg (by unfold n8 at h; omega), if_neg h0]
def c89 (xs : List AV) (H : Heap) (K : Kv) : Prop := ∃ (p : List UInt8) (t : Tok), xs = [.sl (bytesAV p) t] ∧ p.length ≤ 1099511627776 ∧ K.ap (.bool (fullP p)) H
theorem c89_of (P : Program) {xs : List AV} {H : Heap} {K : Kv} (h : c89 xs H K) : @xF (tU P []) f89 xs H ⟨fun v H' => ∃ H0, Hle H0 H' ∧ K.ap v H0⟩ := by
  obtain ⟨p, t, rfl, hl, h⟩ := h
  rcases p with _ | ⟨c, _ | ⟨b, _ | ⟨d, _ | ⟨e, r⟩⟩⟩⟩
  · simp (implicitDefEqProofs := false) only [sB, simprocAttr, f89]
    exact ⟨_, .refl _, h⟩
  · have hc := n8_lt c
    have hf := first_at c
    rcases cls_of c with ⟨h1, q⟩ | ⟨h1, h0, q⟩ | ⟨h1, h0, sz, lo, hi, v, hcl⟩
    · rw [q] at hf
      have F : fullP ([c]) = true := by
        show (!(fst _).2) = true
        rw [fst, if_pos (by unfold n8 at h1; omega)]; rfl
      rw [F] at h
      simp (implicitDefEqProofs := false) only [sB, simprocAttr, f89, byteAV_n8, opE_glob, G0, G1, Gu0, Gu1, hf, hc.1, hc.2, an7, wz, ac0, acl, sh4, fd4]
      first | exact ⟨_, .refl _, h⟩ | (refine i_new fun z hz => ?_; simp (implicitDefEqProofs := false) only [sB, simprocAttr, ac0, acl]; exact ⟨_, .tail _ _, h⟩)
    · rw [q] at hf
      have F : fullP ([c]) = true := by
        show (!(fst _).2) = true
        rw [fst, if_neg (by unfold n8 at h1; omega), if_pos h0]; rfl
      rw [F] at h
      simp (implicitDefEqProofs := false) only [sB, simprocAttr, f89, byteAV_n8, opE_glob, G0, G1, Gu0, Gu1, hf, hc.1, hc.2, an7, wz, ac0, acl, sh4, fd4]
      first | exact ⟨_, .refl _, h⟩ | (refine i_new fun z hz => ?_; simp (implicitDefEqProofs := false) only [sB, simprocAttr, ac0, acl]; exact ⟨_, .tail _ _, h⟩)
    · cases hcl with
      | A k q e1 e2 e3 =>
        rw [q] at hf
        have hF := fst_cls [] h1 h0
        rw [e1, e2, e3] at hF
        have F : fullP ([c]) = false := by
          show (!(fst _).2) = false
          rw [hF]
          rfl
        rw [F] at h
        simp (implicitDefEqProofs := false) only [sB, simprocAttr, f89, byteAV_n8, opE_glob, G0, G1, Gu0, Gu1, hf, hc.1, hc.2, an7, wz, ac0, acl, sh4, fd4]
        first | exact ⟨_, .refl _, h⟩ | (refine i_new fun z hz => ?_; simp (implicitDefEqProofs := false) only [sB, simprocAttr, ac0, acl]; exact ⟨_, .tail _ _, h⟩)
      | B1 k q e1 e2 e3 =>
        rw [q] at hf
        have hF := fst_cls [] h1 h0
        rw [e1, e2, e3] at hF
        have F : fullP ([c]) = false := by
          show (!(fst _).2) = false
          rw [hF]
          rfl
        rw [F] at h
        simp (implicitDefEqProofs := false) only [sB, simprocAttr, f89, byteAV_n8, opE_glob, G0, G1, Gu0, Gu1, hf, hc.1, hc.2, an7, wz, ac0, acl, sh4, fd4]
        first | exact ⟨_, .refl _, h⟩ | (refine i_new fun z hz => ?_; simp (implicitDefEqProofs := false) only [sB, simprocAttr, ac0, acl]; exact ⟨_, .tail _ _, h⟩)
      | B2 k q e1 e2 e3 =>
        rw [q] at hf
        have hF := fst_cls [] h1 h0
        rw [e1, e2, e3] at hF
        have F : fullP ([c]) = false := by
          show (!(fst _).2) = false
          rw [hF]
          rfl
        rw [F] at h
        simp (implicitDefEqProofs := false) only [sB, simprocAttr, f89, byteAV_n8, opE_glob, G0, G1, Gu0, Gu1, hf, hc.1, hc.2, an7, wz, ac0, acl, sh4, fd4]
        first | exact ⟨_, .refl _, h⟩ | (refine i_new fun z hz => ?_; simp (implicitDefEqProofs := false) only [sB, simprocAttr, ac0, acl]; exact ⟨_, .tail _ _, h⟩)
      | B3 k q e1 e2 e3 =>
        rw [q] at hf
        have hF := fst_cls [] h1 h0
        rw [e1, e2, e3] at hF
        have F : fullP ([c]) = false := by
          show (!(fst _).2) = false
          rw [hF]
          rfl
        rw [F] at h
        simp (implicitDefEqProofs := false) only [sB, simprocAttr, f89, byteAV_n8, opE_glob, G0, G1, Gu0, Gu1, hf, hc.1, hc.2, an7, wz, ac0, acl, sh4, fd4]
        first | exact ⟨_, .refl _, h⟩ | (refine i_new fun z hz => ?_; simp (implicitDefEqProofs := false) only [sB, simprocAttr, ac0, acl]; exact ⟨_, .tail _ _, h⟩)
      | C1 k q e1 e2 e3 =>
        rw [q] at hf
        have hF := fst_cls [] h1 h0
        rw [e1, e2, e3] at hF
        have F : fullP ([c]) = false := by
          show (!(fst _).2) = false
          rw [hF]
          rfl
        rw [F] at h
        simp (implicitDefEqProofs := false) only [sB, simprocAttr, f89, byteAV_n8, opE_glob, G0, G1, Gu0, Gu1, hf, hc.1, hc.2, an7, wz, ac0, acl, sh4, fd4]
        first | exact ⟨_, .refl _, h⟩ | (refine i_new fun z hz => ?_; simp (implicitDefEqProofs := false) only [sB, simprocAttr, ac0, acl]; exact ⟨_, .tail _ _, h⟩)
      | C2 k q e1 e2 e3 =>
        rw [q] at hf
        have hF := fst_cls [] h1 h0
        rw [e1, e2, e3] at hF
        have F : fullP ([c]) = false := by
          show (!(fst _).2) = false
          rw [hF]
          rfl
        rw [F] at h
        simp (implicitDefEqProofs := false) only [sB, simprocAttr, f89, byteAV_n8, opE_glob, G0, G1, Gu0, Gu1, hf, hc.1, hc.2, an7, wz, ac0, acl, sh4, fd4]
        first | exact ⟨_, .refl _, h⟩ | (refine i_new fun z hz => ?_; simp (implicitDefEqProofs := false) only [sB, simprocAttr, ac0, acl]; exact ⟨_, .tail _ _, h⟩)
      | C3 k q e1 e2 e3 =>
        rw [q] at hf
        have hF := fst_cls [] h1 h0
        rw [e1, e2, e3] at hF
        have F : fullP ([c]) = false := by
          show (!(fst _).2) = false
          rw [hF]
          rfl
        rw [F] at h
        simp (implicitDefEqProofs := false) only [sB, simprocAttr, f89, byteAV_n8, opE_glob, G0, G1, Gu0, Gu1, hf, hc.1, hc.2, an7, wz, ac0, acl, sh4, fd4]
        first | exact ⟨_, .refl _, h⟩ | (refine i_new fun z hz => ?_; simp (implicitDefEqProofs := false) only [sB, simprocAttr, ac0, acl]; exact ⟨_, .tail _ _, h⟩)
  · have hc := n8_lt c
    have hf := first_at c
    rcases cls_of c with ⟨h1, q⟩ | ⟨h1, h0, q⟩ | ⟨h1, h0, sz, lo, hi, v, hcl⟩
    · rw [q] at hf
      have F : fullP ([c, b]) = true := by
        show (!(fst _).2) = true
        rw [fst, if_pos (by unfold n8 at h1; omega)]; rfl
      rw [F] at h
      simp (implicitDefEqProofs := false) only [sB, simprocAttr, f89, byteAV_n8, opE_glob, G0, G1, Gu0, Gu1, hf, hc.1, hc.2, an7, wz, ac0, acl, sh4, fd4]
      first | exact ⟨_, .refl _, h⟩ | (refine i_new fun z hz => ?_; simp (implicitDefEqProofs := false) only [sB, simprocAttr, ac0, acl]; exact ⟨_, .tail _ _, h⟩)
    · rw [q] at hf
      have F : fullP ([c, b]) = true := by
        show (!(fst _).2) = true
        rw [fst, if_neg (by unfold n8 at h1; omega), if_pos h0]; rfl
      rw [F] at h
      simp (implicitDefEqProofs := false) only [sB, simprocAttr, f89, byteAV_n8, opE_glob, G0, G1, Gu0, Gu1, hf, hc.1, hc.2, an7, wz, ac0, acl, sh4, fd4]
      first | exact ⟨_, .refl _, h⟩ | (refine i_new fun z hz => ?_; simp (implicitDefEqProofs := false) only [sB, simprocAttr, ac0, acl]; exact ⟨_, .tail _ _, h⟩)
    · cases hcl with
      | A k q e1 e2 e3 =>
        rw [q] at hf
        have hF := fst_cls [b] h1 h0
        rw [e1, e2, e3] at hF
        have F : fullP ([c, b]) = true := by
          show (!(fst _).2) = true
          rw [hF]
          simp only [fgo]
          (repeat' split) <;> rfl
        rw [F] at h
        simp (implicitDefEqProofs := false) only [sB, simprocAttr, f89, byteAV_n8, opE_glob, G0, G1, Gu0, Gu1, hf, hc.1, hc.2, an7, wz, ac0, acl, sh4, fd4]
        first | exact ⟨_, .refl _, h⟩ | (refine i_new fun z hz => ?_; simp (implicitDefEqProofs := false) only [sB, simprocAttr, ac0, acl]; exact ⟨_, .tail _ _, h⟩)
      | B1 k q e1 e2 e3 =>
        rw [q] at hf
        have hF := fst_cls [b] h1 h0
        rw [e1, e2, e3] at hF
        by_cases b1 : n8 b < 160
        · have F : fullP ([c, b]) = true := by
            show (!(fst _).2) = true
            rw [hF]
            rw [fgo, if_pos (.inl (by unfold n8 at b1; omega))]; rfl
          rw [F] at h
          simp (implicitDefEqProofs := false) only [sB, simprocAttr, f89, byteAV_n8, opE_glob, G0, G1, Gu0, Gu1, hf, hc.1, hc.2, an7, wz, ac0, acl, sh4, fd4, b1]
          first | exact ⟨_, .refl _, h⟩ | (refine i_new fun z hz => ?_; simp (implicitDefEqProofs := false) only [sB, simprocAttr, ac0, acl, b1]; exact ⟨_, .tail _ _, h⟩)
        by_cases b2 : 191 < n8 b
        · have F : fullP ([c, b]) = true := by
            show (!(fst _).2) = true
            rw [hF]
            rw [fgo, if_pos (.inr (by unfold n8 at b2; omega))]; rfl
          rw [F] at h
          simp (implicitDefEqProofs := false) only [sB, simprocAttr, f89, byteAV_n8, opE_glob, G0, G1, Gu0, Gu1, hf, hc.1, hc.2, an7, wz, ac0, acl, sh4, fd4, b1, b2]
          first | exact ⟨_, .refl _, h⟩ | (refine i_new fun z hz => ?_; simp (implicitDefEqProofs := false) only [sB, simprocAttr, ac0, acl, b1, b2]; exact ⟨_, .tail _ _, h⟩)
        have F : fullP ([c, b]) = false := by
          show (!(fst _).2) = false
          rw [hF]
          rw [fgo, if_neg (by unfold n8 at b1 b2; omega)]; rfl
        rw [F] at h
        simp (implicitDefEqProofs := false) only [sB, simprocAttr, f89, byteAV_n8, opE_glob, G0, G1, Gu0, Gu1, hf, hc.1, hc.2, an7, wz, ac0, acl, sh4, fd4, b1, b2]
        first | exact ⟨_, .refl _, h⟩ | (refine i_new fun z hz => ?_; simp (implicitDefEqProofs := false) only [sB, simprocAttr, ac0, acl, b1, b2]; exact ⟨_, .tail _ _, h⟩)
      | B2 k q e1 e2 e3 =>
        rw [q] at hf
        have hF := fst_cls [b] h1 h0
        rw [e1, e2, e3] at hF
        by_cases b1 : n8 b < 128
        · have F : fullP ([c, b]) = true := by
            show (!(fst _).2) = true
            rw [hF]
            rw [fgo, if_pos (.inl (by unfold n8 at b1; omega))]; rfl
          rw [F] at h
          simp (implicitDefEqProofs := false) only [sB, simprocAttr, f89, byteAV_n8, opE_glob, G0, G1, Gu0, Gu1, hf, hc.1, hc.2, an7, wz, ac0, acl, sh4, fd4, b1]
          first | exact ⟨_, .refl _, h⟩ | (refine i_new fun z hz => ?_; simp (implicitDefEqProofs := false) only [sB, simprocAttr, ac0, acl, b1]; exact ⟨_, .tail _ _, h⟩)
        by_cases b2 : 159 < n8 b
        · have F : fullP ([c, b]) = true := by
            show (!(fst _).2) = true
            rw [hF]
            rw [fgo, if_pos (.inr (by unfold n8 at b2; omega))]; rfl
          rw [F] at h
          simp (implicitDefEqProofs := false) only [sB, simprocAttr, f89, byteAV_n8, opE_glob, G0, G1, Gu0, Gu1, hf, hc.1, hc.2, an7, wz, ac0, acl, sh4, fd4, b1, b2]
          first | exact ⟨_, .refl _, h⟩ | (refine i_new fun z hz => ?_; simp (implicitDefEqProofs := false) only [sB, simprocAttr, ac0, acl, b1, b2]; exact ⟨_, .tail _ _, h⟩)
        have F : fullP ([c, b]) = false := by
          show (!(fst _).2) = false
          rw [hF]
          rw [fgo, if_neg (by unfold n8 at b1 b2; omega)]; rfl
        rw [F] at h
        simp (implicitDefEqProofs := false) only [sB, simprocAttr, f89, byteAV_n8, opE_glob, G0, G1, Gu0, Gu1, hf, hc.1, hc.2, an7, wz, ac0, acl, sh4, fd4, b1, b2]
        first | exact ⟨_, .refl _, h⟩ | (refine i_new fun z hz => ?_; simp (implicitDefEqProofs := false) only [sB, simprocAttr, ac0, acl, b1, b2]; exact ⟨_, .tail _ _, h⟩)
      | B3 k q e1 e2 e3 =>
        rw [q] at hf
        have hF := fst_cls [b] h1 h0
        rw [e1, e2, e3] at hF
        by_cases b1 : n8 b < 128
        · have F : fullP ([c, b]) = true := by
            show (!(fst _).2) = true
            rw [hF]
            rw [fgo, if_pos (.inl (by unfold n8 at b1; omega))]; rfl
          rw [F] at h
          simp (implicitDefEqProofs := false) only [sB, simprocAttr, f89, byteAV_n8, opE_glob, G0, G1, Gu0, Gu1, hf, hc.1, hc.2, an7, wz, ac0, acl, sh4, fd4, b1]
          first | exact ⟨_, .refl _, h⟩ | (refine i_new fun z hz => ?_; simp (implicitDefEqProofs := false) only [sB, simprocAttr, ac0, acl, b1]; exact ⟨_, .tail _ _, h⟩)
        by_cases b2 : 191 < n8 b
        · have F : fullP ([c, b]) = true := by
            show (!(fst _).2) = true
            rw [hF]
            rw [fgo, if_pos (.inr (by unfold n8 at b2; omega))]; rfl
          rw [F] at h
          simp (implicitDefEqProofs := false) only [sB, simprocAttr, f89, byteAV_n8, opE_glob, G0, G1, Gu0, Gu1, hf, hc.1, hc.2, an7, wz, ac0, acl, sh4, fd4, b1, b2]
          first | exact ⟨_, .refl _, h⟩ | (refine i_new fun z hz => ?_; simp (implicitDefEqProofs := false) only [sB, simprocAttr, ac0, acl, b1, b2]; exact ⟨_, .tail _ _, h⟩)
        have F : fullP ([c, b]) = false := by
          show (!(fst _).2) = false
          rw [hF]
          rw [fgo, if_neg (by unfold n8 at b1 b2; omega)]; rfl
        rw [F] at h
        simp (implicitDefEqProofs := false) only [sB, simprocAttr, f89, byteAV_n8, opE_glob, G0, G1, Gu0, Gu1, hf, hc.1, hc.2, an7, wz, ac0, acl, sh4, fd4, b1, b2]
        first | exact ⟨_, .refl _, h⟩ | (refine i_new fun z hz => ?_; simp (implicitDefEqProofs := false) only [sB, simprocAttr, ac0, acl, b1, b2]; exact ⟨_, .tail _ _, h⟩)
      | C1 k q e1 e2 e3 =>
        rw [q] at hf
        have hF := fst_cls [b] h1 h0
        rw [e1, e2, e3] at hF
        by_cases b1 : n8 b < 144
        · have F : fullP ([c, b]) = true := by
            show (!(fst _).2) = true
            rw [hF]
            rw [fgo, if_pos (.inl (by unfold n8 at b1; omega))]; rfl
          rw [F] at h
          simp (implicitDefEqProofs := false) only [sB, simprocAttr, f89, byteAV_n8, opE_glob, G0, G1, Gu0, Gu1, hf, hc.1, hc.2, an7, wz, ac0, acl, sh4, fd4, b1]
          first | exact ⟨_, .refl _, h⟩ | (refine i_new fun z hz => ?_; simp (implicitDefEqProofs := false) only [sB, simprocAttr, ac0, acl, b1]; exact ⟨_, .tail _ _, h⟩)
        by_cases b2 : 191 < n8 b
        · have F : fullP ([c, b]) = true := by
            show (!(fst _).2) = true
            rw [hF]
            rw [fgo, if_pos (.inr (by unfold n8 at b2; omega))]; rfl
          rw [F] at h
          simp (implicitDefEqProofs := false) only [sB, simprocAttr, f89, byteAV_n8, opE_glob, G0, G1, Gu0, Gu1, hf, hc.1, hc.2, an7, wz, ac0, acl, sh4, fd4, b1, b2]
          first | exact ⟨_, .refl _, h⟩ | (refine i_new fun z hz => ?_; simp (implicitDefEqProofs := false) only [sB, simprocAttr, ac0, acl, b1, b2]; exact ⟨_, .tail _ _, h⟩)
        have F : fullP ([c, b]) = false := by
          show (!(fst _).2) = false
          rw [hF]
          rw [fgo, if_neg (by unfold n8 at b1 b2; omega)]; rfl
        rw [F] at h
        simp (implicitDefEqProofs := false) only [sB, simprocAttr, f89, byteAV_n8, opE_glob, G0, G1, Gu0, Gu1, hf, hc.1, hc.2, an7, wz, ac0, acl, sh4, fd4, b1, b2]
        first | exact ⟨_, .refl _, h⟩ | (refine i_new fun z hz => ?_; simp (implicitDefEqProofs := false) only [sB, simprocAttr, ac0, acl, b1, b2]; exact ⟨_, .tail _ _, h⟩)
      | C2 k q e1 e2 e3 =>
        rw [q] at hf
        have hF := fst_cls [b] h1 h0
        rw [e1, e2, e3] at hF
        by_cases b1 : n8 b < 128
        · have F : fullP ([c, b]) = true := by
            show (!(fst _).2) = true
            rw [hF]
            rw [fgo, if_pos (.inl (by unfold n8 at b1; omega))]; rfl
          rw [F] at h
          simp (implicitDefEqProofs := false) only [sB, simprocAttr, f89, byteAV_n8, opE_glob, G0, G1, Gu0, Gu1, hf, hc.1, hc.2, an7, wz, ac0, acl, sh4, fd4, b1]
          first | exact ⟨_, .refl _, h⟩ | (refine i_new fun z hz => ?_; simp (implicitDefEqProofs := false) only [sB, simprocAttr, ac0, acl, b1]; exact ⟨_, .tail _ _, h⟩)
        by_cases b2 : 143 < n8 b
        · have F : fullP ([c, b]) = true := by
            show (!(fst _).2) = true
            rw [hF]
            rw [fgo, if_pos (.inr (by unfold n8 at b2; omega))]; rfl
          rw [F] at h
          simp (implicitDefEqProofs := false) only [sB, simprocAttr, f89, byteAV_n8, opE_glob, G0, G1, Gu0, Gu1, hf, hc.1, hc.2, an7, wz, ac0, acl, sh4, fd4, b1, b2]
          first | exact ⟨_, .refl _, h⟩ | (refine i_new fun z hz => ?_; simp (implicitDefEqProofs := false) only [sB, simprocAttr, ac0, acl, b1, b2]; exact ⟨_, .tail _ _, h⟩)
        have F : fullP ([c, b]) = false := by
          show (!(fst _).2) = false
          rw [hF]
          rw [fgo, if_neg (by unfold n8 at b1 b2; omega)]; rfl
        rw [F] at h
        simp (implicitDefEqProofs := false) only [sB, simprocAttr, f89, byteAV_n8, opE_glob, G0, G1, Gu0, Gu1, hf, hc.1, hc.2, an7, wz, ac0, acl, sh4, fd4, b1, b2]
        first | exact ⟨_, .refl _, h⟩ | (refine i_new fun z hz => ?_; simp (implicitDefEqProofs := false) only [sB, simprocAttr, ac0, acl, b1, b2]; exact ⟨_, .tail _ _, h⟩)
      | C3 k q e1 e2 e3 =>
        rw [q] at hf
        have hF := fst_cls [b] h1 h0
        rw [e1, e2, e3] at hF
        by_cases b1 : n8 b < 128
        · have F : fullP ([c, b]) = true := by
            show (!(fst _).2) = true
            rw [hF]
            rw [fgo, if_pos (.inl (by unfold n8 at b1; omega))]; rfl
          rw [F] at h
          simp (implicitDefEqProofs := false) only [sB, simprocAttr, f89, byteAV_n8, opE_glob, G0, G1, Gu0, Gu1, hf, hc.1, hc.2, an7, wz, ac0, acl, sh4, fd4, b1]
          first | exact ⟨_, .refl _, h⟩ | (refine i_new fun z hz => ?_; simp (implicitDefEqProofs := false) only [sB, simprocAttr, ac0, acl, b1]; exact ⟨_, .tail _ _, h⟩)
        by_cases b2 : 191 < n8 b
        · have F : fullP ([c, b]) = true := by
            show (!(fst _).2) = true
            rw [hF]
            rw [fgo, if_pos (.inr (by unfold n8 at b2; omega))]; rfl
          rw [F] at h
          simp (implicitDefEqProofs := false) only [sB, simprocAttr, f89, byteAV_n8, opE_glob, G0, G1, Gu0, Gu1, hf, hc.1, hc.2, an7, wz, ac0, acl, sh4, fd4, b1, b2]
          first | exact ⟨_, .refl _, h⟩ | (refine i_new fun z hz => ?_; simp (implicitDefEqProofs := false) only [sB, simprocAttr, ac0, acl, b1, b2]; exact ⟨_, .tail _ _, h⟩)
        have F : fullP ([c, b]) = false := by
          show (!(fst _).2) = false
          rw [hF]
          rw [fgo, if_neg (by unfold n8 at b1 b2; omega)]; rfl
        rw [F] at h
        simp (implicitDefEqProofs := false) only [sB, simprocAttr, f89, byteAV_n8, opE_glob, G0, G1, Gu0, Gu1, hf, hc.1, hc.2, an7, wz, ac0, acl, sh4, fd4, b1, b2]
        first | exact ⟨_, .refl _, h⟩ | (refine i_new fun z hz => ?_; simp (implicitDefEqProofs := false) only [sB, simprocAttr, ac0, acl, b1, b2]; exact ⟨_, .tail _ _, h⟩)
  · have hc := n8_lt c
    have hf := first_at c
    rcases cls_of c with ⟨h1, q⟩ | ⟨h1, h0, q⟩ | ⟨h1, h0, sz, lo, hi, v, hcl⟩
    · rw [q] at hf
      have F : fullP ([c, b, d]) = true := by
        show (!(fst _).2) = true
        rw [fst, if_pos (by unfold n8 at h1; omega)]; rfl
      rw [F] at h
      simp (implicitDefEqProofs := false) only [sB, simprocAttr, f89, byteAV_n8, opE_glob, G0, G1, Gu0, Gu1, hf, hc.1, hc.2, an7, wz, ac0, acl, sh4, fd4]
      first | exact ⟨_, .refl _, h⟩ | (refine i_new fun z hz => ?_; simp (implicitDefEqProofs := false) only [sB, simprocAttr, ac0, acl]; exact ⟨_, .tail _ _, h⟩)
    · rw [q] at hf
      have F : fullP ([c, b, d]) = true := by
        show (!(fst _).2) = true
        rw [fst, if_neg (by unfold n8 at h1; omega), if_pos h0]; rfl
      rw [F] at h
      simp (implicitDefEqProofs := false) only [sB, simprocAttr, f89, byteAV_n8, opE_glob, G0, G1, Gu0, Gu1, hf, hc.1, hc.2, an7, wz, ac0, acl, sh4, fd4]
      first | exact ⟨_, .refl _, h⟩ | (refine i_new fun z hz => ?_; simp (implicitDefEqProofs := false) only [sB, simprocAttr, ac0, acl]; exact ⟨_, .tail _ _, h⟩)
    · cases hcl with
      | A k q e1 e2 e3 =>
        rw [q] at hf
        have hF := fst_cls [b, d] h1 h0
        rw [e1, e2, e3] at hF
        have F : fullP ([c, b, d]) = true := by
          show (!(fst _).2) = true
          rw [hF]
          simp only [fgo]
          (repeat' split) <;> rfl
        rw [F] at h
        simp (implicitDefEqProofs := false) only [sB, simprocAttr, f89, byteAV_n8, opE_glob, G0, G1, Gu0, Gu1, hf, hc.1, hc.2, an7, wz, ac0, acl, sh4, fd4]
        first | exact ⟨_, .refl _, h⟩ | (refine i_new fun z hz => ?_; simp (implicitDefEqProofs := false) only [sB, simprocAttr, ac0, acl]; exact ⟨_, .tail _ _, h⟩)
      | B1 k q e1 e2 e3 =>
        rw [q] at hf
        have hF := fst_cls [b, d] h1 h0
        rw [e1, e2, e3] at hF
        have F : fullP ([c, b, d]) = true := by
          show (!(fst _).2) = true
          rw [hF]
          simp only [fgo]
          (repeat' split) <;> rfl
        rw [F] at h
        simp (implicitDefEqProofs := false) only [sB, simprocAttr, f89, byteAV_n8, opE_glob, G0, G1, Gu0, Gu1, hf, hc.1, hc.2, an7, wz, ac0, acl, sh4, fd4]
        first | exact ⟨_, .refl _, h⟩ | (refine i_new fun z hz => ?_; simp (implicitDefEqProofs := false) only [sB, simprocAttr, ac0, acl]; exact ⟨_, .tail _ _, h⟩)
      | B2 k q e1 e2 e3 =>
        rw [q] at hf
        have hF := fst_cls [b, d] h1 h0
        rw [e1, e2, e3] at hF
        have F : fullP ([c, b, d]) = true := by
          show (!(fst _).2) = true
          rw [hF]
          simp only [fgo]
          (repeat' split) <;> rfl
        rw [F] at h
        simp (implicitDefEqProofs := false) only [sB, simprocAttr, f89, byteAV_n8, opE_glob, G0, G1, Gu0, Gu1, hf, hc.1, hc.2, an7, wz, ac0, acl, sh4, fd4]
        first | exact ⟨_, .refl _, h⟩ | (refine i_new fun z hz => ?_; simp (implicitDefEqProofs := false) only [sB, simprocAttr, ac0, acl]; exact ⟨_, .tail _ _, h⟩)
      | B3 k q e1 e2 e3 =>
        rw [q] at hf
        have hF := fst_cls [b, d] h1 h0
        rw [e1, e2, e3] at hF
        have F : fullP ([c, b, d]) = true := by
          show (!(fst _).2) = true
          rw [hF]
          simp only [fgo]
          (repeat' split) <;> rfl
        rw [F] at h
        simp (implicitDefEqProofs := false) only [sB, simprocAttr, f89, byteAV_n8, opE_glob, G0, G1, Gu0, Gu1, hf, hc.1, hc.2, an7, wz, ac0, acl, sh4, fd4]
        first | exact ⟨_, .refl _, h⟩ | (refine i_new fun z hz => ?_; simp (implicitDefEqProofs := false) only [sB, simprocAttr, ac0, acl]; exact ⟨_, .tail _ _, h⟩)
      | C1 k q e1 e2 e3 =>
        rw [q] at hf
        have hF := fst_cls [b, d] h1 h0
        rw [e1, e2, e3] at hF
        by_cases b1 : n8 b < 144
        · have F : fullP ([c, b, d]) = true := by
            show (!(fst _).2) = true
            rw [hF]
            rw [fgo, if_pos (.inl (by unfold n8 at b1; omega))]; rfl
          rw [F] at h
          simp (implicitDefEqProofs := false) only [sB, simprocAttr, f89, byteAV_n8, opE_glob, G0, G1, Gu0, Gu1, hf, hc.1, hc.2, an7, wz, ac0, acl, sh4, fd4, b1]
          first | exact ⟨_, .refl _, h⟩ | (refine i_new fun z hz => ?_; simp (implicitDefEqProofs := false) only [sB, simprocAttr, ac0, acl, b1]; exact ⟨_, .tail _ _, h⟩)
        by_cases b2 : 191 < n8 b
        · have F : fullP ([c, b, d]) = true := by
            show (!(fst _).2) = true
            rw [hF]
            rw [fgo, if_pos (.inr (by unfold n8 at b2; omega))]; rfl
          rw [F] at h
          simp (implicitDefEqProofs := false) only [sB, simprocAttr, f89, byteAV_n8, opE_glob, G0, G1, Gu0, Gu1, hf, hc.1, hc.2, an7, wz, ac0, acl, sh4, fd4, b1, b2]
          first | exact ⟨_, .refl _, h⟩ | (refine i_new fun z hz => ?_; simp (implicitDefEqProofs := false) only [sB, simprocAttr, ac0, acl, b1, b2]; exact ⟨_, .tail _ _, h⟩)
        by_cases d1 : n8 d < 128
        · have F : fullP ([c, b, d]) = true := by
            show (!(fst _).2) = true
            rw [hF]
            rw [fgo, if_neg (by unfold n8 at b1 b2; omega), fgo, if_pos (.inl (by unfold n8 at d1; omega))]; rfl
          rw [F] at h
          simp (implicitDefEqProofs := false) only [sB, simprocAttr, f89, byteAV_n8, opE_glob, G0, G1, Gu0, Gu1, hf, hc.1, hc.2, an7, wz, ac0, acl, sh4, fd4, b1, b2, d1]
          first | exact ⟨_, .refl _, h⟩ | (refine i_new fun z hz => ?_; simp (implicitDefEqProofs := false) only [sB, simprocAttr, ac0, acl, b1, b2, d1]; exact ⟨_, .tail _ _, h⟩)
        by_cases d2 : 191 < n8 d
        · have F : fullP ([c, b, d]) = true := by
            show (!(fst _).2) = true
            rw [hF]
            rw [fgo, if_neg (by unfold n8 at b1 b2; omega), fgo, if_pos (.inr (by unfold n8 at d2; omega))]; rfl
          rw [F] at h
          simp (implicitDefEqProofs := false) only [sB, simprocAttr, f89, byteAV_n8, opE_glob, G0, G1, Gu0, Gu1, hf, hc.1, hc.2, an7, wz, ac0, acl, sh4, fd4, b1, b2, d1, d2]
          first | exact ⟨_, .refl _, h⟩ | (refine i_new fun z hz => ?_; simp (implicitDefEqProofs := false) only [sB, simprocAttr, ac0, acl, b1, b2, d1, d2]; exact ⟨_, .tail _ _, h⟩)
        have F : fullP ([c, b, d]) = false := by
          show (!(fst _).2) = false
          rw [hF]
          rw [fgo, if_neg (by unfold n8 at b1 b2; omega), fgo, if_neg (by unfold n8 at d1 d2; omega)]; rfl
        rw [F] at h
        simp (implicitDefEqProofs := false) only [sB, simprocAttr, f89, byteAV_n8, opE_glob, G0, G1, Gu0, Gu1, hf, hc.1, hc.2, an7, wz, ac0, acl, sh4, fd4, b1, b2, d1, d2]
        first | exact ⟨_, .refl _, h⟩ | (refine i_new fun z hz => ?_; simp (implicitDefEqProofs := false) only [sB, simprocAttr, ac0, acl, b1, b2, d1, d2]; exact ⟨_, .tail _ _, h⟩)
      | C2 k q e1 e2 e3 =>
        rw [q] at hf
        have hF := fst_cls [b, d] h1 h0
        rw [e1, e2, e3] at hF
        by_cases b1 : n8 b < 128
        · have F : fullP ([c, b, d]) = true := by
            show (!(fst _).2) = true
            rw [hF]
            rw [fgo, if_pos (.inl (by unfold n8 at b1; omega))]; rfl
          rw [F] at h
          simp (implicitDefEqProofs := false) only [sB, simprocAttr, f89, byteAV_n8, opE_glob, G0, G1, Gu0, Gu1, hf, hc.1, hc.2, an7, wz, ac0, acl, sh4, fd4, b1]
          first | exact ⟨_, .refl _, h⟩ | (refine i_new fun z hz => ?_; simp (implicitDefEqProofs := false) only [sB, simprocAttr, ac0, acl, b1]; exact ⟨_, .tail _ _, h⟩)
        by_cases b2 : 143 < n8 b
        · have F : fullP ([c, b, d]) = true := by
            show (!(fst _).2) = true
            rw [hF]
            rw [fgo, if_pos (.inr (by unfold n8 at b2; omega))]; rfl
          rw [F] at h
          simp (implicitDefEqProofs := false) only [sB, simprocAttr, f89, byteAV_n8, opE_glob, G0, G1, Gu0, Gu1, hf, hc.1, hc.2, an7, wz, ac0, acl, sh4, fd4, b1, b2]
          first | exact ⟨_, .refl _, h⟩ | (refine i_new fun z hz => ?_; simp (implicitDefEqProofs := false) only [sB, simprocAttr, ac0, acl, b1, b2]; exact ⟨_, .tail _ _, h⟩)
        by_cases d1 : n8 d < 128
        · have F : fullP ([c, b, d]) = true := by
            show (!(fst _).2) = true
            rw [hF]
            rw [fgo, if_neg (by unfold n8 at b1 b2; omega), fgo, if_pos (.inl (by unfold n8 at d1; omega))]; rfl
          rw [F] at h
          simp (implicitDefEqProofs := false) only [sB, simprocAttr, f89, byteAV_n8, opE_glob, G0, G1, Gu0, Gu1, hf, hc.1, hc.2, an7, wz, ac0, acl, sh4, fd4, b1, b2, d1]
          first | exact ⟨_, .refl _, h⟩ | (refine i_new fun z hz => ?_; simp (implicitDefEqProofs := false) only [sB, simprocAttr, ac0, acl, b1, b2, d1]; exact ⟨_, .tail _ _, h⟩)
        by_cases d2 : 191 < n8 d
        · have F : fullP ([c, b, d]) = true := by
            show (!(fst _).2) = true
            rw [hF]
            rw [fgo, if_neg (by unfold n8 at b1 b2; omega), fgo, if_pos (.inr (by unfold n8 at d2; omega))]; rfl
          rw [F] at h
          simp (implicitDefEqProofs := false) only [sB, simprocAttr, f89, byteAV_n8, opE_glob, G0, G1, Gu0, Gu1, hf, hc.1, hc.2, an7, wz, ac0, acl, sh4, fd4, b1, b2, d1, d2]
          first | exact ⟨_, .refl _, h⟩ | (refine i_new fun z hz => ?_; simp (implicitDefEqProofs := false) only [sB, simprocAttr, ac0, acl, b1, b2, d1, d2]; exact ⟨_, .tail _ _, h⟩)
        have F : fullP ([c, b, d]) = false := by
          show (!(fst _).2) = false
          rw [hF]
          rw [fgo, if_neg (by unfold n8 at b1 b2; omega), fgo, if_neg (by unfold n8 at d1 d2; omega)]; rfl
        rw [F] at h
        simp (implicitDefEqProofs := false) only [sB, simprocAttr, f89, byteAV_n8, opE_glob, G0, G1, Gu0, Gu1, hf, hc.1, hc.2, an7, wz, ac0, acl, sh4, fd4, b1, b2, d1, d2]
        first | exact ⟨_, .refl _, h⟩ | (refine i_new fun z hz => ?_; simp (implicitDefEqProofs := false) only [sB, simprocAttr, ac0, acl, b1, b2, d1, d2]; exact ⟨_, .tail _ _, h⟩)
      | C3 k q e1 e2 e3 =>
        rw [q] at hf
        have hF := fst_cls [b, d] h1 h0
        rw [e1, e2, e3] at hF
        by_cases b1 : n8 b < 128
        · have F : fullP ([c, b, d]) = true := by
            show (!(fst _).2) = true
            rw [hF]
            rw [fgo, if_pos (.inl (by unfold n8 at b1; omega))]; rfl
          rw [F] at h
          simp (implicitDefEqProofs := false) only [sB, simprocAttr, f89, byteAV_n8, opE_glob, G0, G1, Gu0, Gu1, hf, hc.1, hc.2, an7, wz, ac0, acl, sh4, fd4, b1]
          first | exact ⟨_, .refl _, h⟩ | (refine i_new fun z hz => ?_; simp (implicitDefEqProofs := false) only [sB, simprocAttr, ac0, acl, b1]; exact ⟨_, .tail _ _, h⟩)
        by_cases b2 : 191 < n8 b
        · have F : fullP ([c, b, d]) = true := by
            show (!(fst _).2) = true
            rw [hF]
            rw [fgo, if_pos (.inr (by unfold n8 at b2; omega))]; rfl
          rw [F] at h
          simp (implicitDefEqProofs := false) only [sB, simprocAttr, f89, byteAV_n8, opE_glob, G0, G1, Gu0, Gu1, hf, hc.1, hc.2, an7, wz, ac0, acl, sh4, fd4, b1, b2]
          first | exact ⟨_, .refl _, h⟩ | (refine i_new fun z hz => ?_; simp (implicitDefEqProofs := false) only [sB, simprocAttr, ac0, acl, b1, b2]; exact ⟨_, .tail _ _, h⟩)
        by_cases d1 : n8 d < 128
        · have F : fullP ([c, b, d]) = true := by
            show (!(fst _).2) = true
            rw [hF]
            rw [fgo, if_neg (by unfold n8 at b1 b2; omega), fgo, if_pos (.inl (by unfold n8 at d1; omega))]; rfl
          rw [F] at h
          simp (implicitDefEqProofs := false) only [sB, simprocAttr, f89, byteAV_n8, opE_glob, G0, G1, Gu0, Gu1, hf, hc.1, hc.2, an7, wz, ac0, acl, sh4, fd4, b1, b2, d1]
          first | exact ⟨_, .refl _, h⟩ | (refine i_new fun z hz => ?_; simp (implicitDefEqProofs := false) only [sB, simprocAttr, ac0, acl, b1, b2, d1]; exact ⟨_, .tail _ _, h⟩)
        by_cases d2 : 191 < n8 d
        · have F : fullP ([c, b, d]) = true := by
            show (!(fst _).2) = true
            rw [hF]
            rw [fgo, if_neg (by unfold n8 at b1 b2; omega), fgo, if_pos (.inr (by unfold n8 at d2; omega))]; rfl
          rw [F] at h
          simp (implicitDefEqProofs := false) only [sB, simprocAttr, f89, byteAV_n8, opE_glob, G0, G1, Gu0, Gu1, hf, hc.1, hc.2, an7, wz, ac0, acl, sh4, fd4, b1, b2, d1, d2]
          first | exact ⟨_, .refl _, h⟩ | (refine i_new fun z hz => ?_; simp (implicitDefEqProofs := false) only [sB, simprocAttr, ac0, acl, b1, b2, d1, d2]; exact ⟨_, .tail _ _, h⟩)
        have F : fullP ([c, b, d]) = false := by
          show (!(fst _).2) = false
          rw [hF]
          rw [fgo, if_neg (by unfold n8 at b1 b2; omega), fgo, if_neg (by unfold n8 at d1 d2; omega)]; rfl
        rw [F] at h
        simp (implicitDefEqProofs := false) only [sB, simprocAttr, f89, byteAV_n8, opE_glob, G0, G1, Gu0, Gu1, hf, hc.1, hc.2, an7, wz, ac0, acl, sh4, fd4, b1, b2, d1, d2]
        first | exact ⟨_, .refl _, h⟩ | (refine i_new fun z hz => ?_; simp (implicitDefEqProofs := false) only [sB, simprocAttr, ac0, acl, b1, b2, d1, d2]; exact ⟨_, .tail _ _, h⟩)
  · have hc := n8_lt c
    have hf := first_at c
    have ne : ¬ ((r.length + 1 + 1 + 1 + 1 : Nat) : Int) = 0 := by omega
    have l0 : (0 : Int) ≤ ((r.length + 1 + 1 + 1 + 1 : Nat) : Int) := by omega
    have l1 : (1 : Int) ≤ ((r.length + 1 + 1 + 1 + 1 : Nat) : Int) := by omega
    have l2 : (2 : Int) ≤ ((r.length + 1 + 1 + 1 + 1 : Nat) : Int) := by omega
    have l3 : (3 : Int) ≤ ((r.length + 1 + 1 + 1 + 1 : Nat) : Int) := by omega
    have l4 : (4 : Int) ≤ ((r.length + 1 + 1 + 1 + 1 : Nat) : Int) := by omega
    rcases cls_of c with ⟨h1, q⟩ | ⟨h1, h0, q⟩ | ⟨h1, h0, sz, lo, hi, v, hcl⟩
    · rw [q] at hf
      have F : fullP (c :: b :: d :: e :: r) = true := by
        show (!(fst _).2) = true
        rw [fst, if_pos (by unfold n8 at h1; omega)]; rfl
      rw [F] at h
      simp (implicitDefEqProofs := false) only [sB, simprocAttr, f89, byteAV_n8, opE_glob, G0, G1, Gu0, Gu1, hf, hc.1, hc.2, an7, wz, ac0, acl, sh4, fd4, ne, l0, l1, l2, l3, l4]
      first | exact ⟨_, .refl _, h⟩ | (refine i_new fun z hz => ?_; simp (implicitDefEqProofs := false) only [sB, simprocAttr, ac0, acl, ne, l0, l1, l2, l3, l4]; exact ⟨_, .tail _ _, h⟩)
    · rw [q] at hf
      have F : fullP (c :: b :: d :: e :: r) = true := by
        show (!(fst _).2) = true
        rw [fst, if_neg (by unfold n8 at h1; omega), if_pos h0]; rfl
      rw [F] at h
      simp (implicitDefEqProofs := false) only [sB, simprocAttr, f89, byteAV_n8, opE_glob, G0, G1, Gu0, Gu1, hf, hc.1, hc.2, an7, wz, ac0, acl, sh4, fd4, ne, l0, l1, l2, l3, l4]
      first | exact ⟨_, .refl _, h⟩ | (refine i_new fun z hz => ?_; simp (implicitDefEqProofs := false) only [sB, simprocAttr, ac0, acl, ne, l0, l1, l2, l3, l4]; exact ⟨_, .tail _ _, h⟩)
    · cases hcl with
      | A k q e1 e2 e3 =>
        rw [q] at hf
        have hF := fst_cls (b :: d :: e :: r) h1 h0
        rw [e1, e2, e3] at hF
        have F : fullP (c :: b :: d :: e :: r) = true := by
          show (!(fst _).2) = true
          rw [hF]
          simp only [fgo]
          (repeat' split) <;> rfl
        rw [F] at h
        simp (implicitDefEqProofs := false) only [sB, simprocAttr, f89, byteAV_n8, opE_glob, G0, G1, Gu0, Gu1, hf, hc.1, hc.2, an7, wz, ac0, acl, sh4, fd4, ne, l0, l1, l2, l3, l4]
        first | exact ⟨_, .refl _, h⟩ | (refine i_new fun z hz => ?_; simp (implicitDefEqProofs := false) only [sB, simprocAttr, ac0, acl, ne, l0, l1, l2, l3, l4]; exact ⟨_, .tail _ _, h⟩)
      | B1 k q e1 e2 e3 =>
        rw [q] at hf
        have hF := fst_cls (b :: d :: e :: r) h1 h0
        rw [e1, e2, e3] at hF
        have F : fullP (c :: b :: d :: e :: r) = true := by
          show (!(fst _).2) = true
          rw [hF]
          simp only [fgo]
          (repeat' split) <;> rfl
        rw [F] at h
        simp (implicitDefEqProofs := false) only [sB, simprocAttr, f89, byteAV_n8, opE_glob, G0, G1, Gu0, Gu1, hf, hc.1, hc.2, an7, wz, ac0, acl, sh4, fd4, ne, l0, l1, l2, l3, l4]
        first | exact ⟨_, .refl _, h⟩ | (refine i_new fun z hz => ?_; simp (implicitDefEqProofs := false) only [sB, simprocAttr, ac0, acl, ne, l0, l1, l2, l3, l4]; exact ⟨_, .tail _ _, h⟩)
      | B2 k q e1 e2 e3 =>
        rw [q] at hf
        have hF := fst_cls (b :: d :: e :: r) h1 h0
        rw [e1, e2, e3] at hF
        have F : fullP (c :: b :: d :: e :: r) = true := by
          show (!(fst _).2) = true
          rw [hF]
          simp only [fgo]
          (repeat' split) <;> rfl
        rw [F] at h
        simp (implicitDefEqProofs := false) only [sB, simprocAttr, f89, byteAV_n8, opE_glob, G0, G1, Gu0, Gu1, hf, hc.1, hc.2, an7, wz, ac0, acl, sh4, fd4, ne, l0, l1, l2, l3, l4]
        first | exact ⟨_, .refl _, h⟩ | (refine i_new fun z hz => ?_; simp (implicitDefEqProofs := false) only [sB, simprocAttr, ac0, acl, ne, l0, l1, l2, l3, l4]; exact ⟨_, .tail _ _, h⟩)
      | B3 k q e1 e2 e3 =>
        rw [q] at hf
        have hF := fst_cls (b :: d :: e :: r) h1 h0
        rw [e1, e2, e3] at hF
        have F : fullP (c :: b :: d :: e :: r) = true := by
          show (!(fst _).2) = true
          rw [hF]
          simp only [fgo]
          (repeat' split) <;> rfl
        rw [F] at h
        simp (implicitDefEqProofs := false) only [sB, simprocAttr, f89, byteAV_n8, opE_glob, G0, G1, Gu0, Gu1, hf, hc.1, hc.2, an7, wz, ac0, acl, sh4, fd4, ne, l0, l1, l2, l3, l4]
        first | exact ⟨_, .refl _, h⟩ | (refine i_new fun z hz => ?_; simp (implicitDefEqProofs := false) only [sB, simprocAttr, ac0, acl, ne, l0, l1, l2, l3, l4]; exact ⟨_, .tail _ _, h⟩)
      | C1 k q e1 e2 e3 =>
        rw [q] at hf
        have hF := fst_cls (b :: d :: e :: r) h1 h0
        rw [e1, e2, e3] at hF
        have F : fullP (c :: b :: d :: e :: r) = true := by
          show (!(fst _).2) = true
          rw [hF]
          simp only [fgo]
          (repeat' split) <;> rfl
        rw [F] at h
        simp (implicitDefEqProofs := false) only [sB, simprocAttr, f89, byteAV_n8, opE_glob, G0, G1, Gu0, Gu1, hf, hc.1, hc.2, an7, wz, ac0, acl, sh4, fd4, ne, l0, l1, l2, l3, l4]
        first | exact ⟨_, .refl _, h⟩ | (refine i_new fun z hz => ?_; simp (implicitDefEqProofs := false) only [sB, simprocAttr, ac0, acl, ne, l0, l1, l2, l3, l4]; exact ⟨_, .tail _ _, h⟩)
      | C2 k q e1 e2 e3 =>
        rw [q] at hf
        have hF := fst_cls (b :: d :: e :: r) h1 h0
        rw [e1, e2, e3] at hF
        have F : fullP (c :: b :: d :: e :: r) = true := by
          show (!(fst _).2) = true
          rw [hF]
          simp only [fgo]
          (repeat' split) <;> rfl
        rw [F] at h
        simp (implicitDefEqProofs := false) only [sB, simprocAttr, f89, byteAV_n8, opE_glob, G0, G1, Gu0, Gu1, hf, hc.1, hc.2, an7, wz, ac0, acl, sh4, fd4, ne, l0, l1, l2, l3, l4]
        first | exact ⟨_, .refl _, h⟩ | (refine i_new fun z hz => ?_; simp (implicitDefEqProofs := false) only [sB, simprocAttr, ac0, acl, ne, l0, l1, l2, l3, l4]; exact ⟨_, .tail _ _, h⟩)
      | C3 k q e1 e2 e3 =>
        rw [q] at hf
        have hF := fst_cls (b :: d :: e :: r) h1 h0
        rw [e1, e2, e3] at hF
        have F : fullP (c :: b :: d :: e :: r) = true := by
          show (!(fst _).2) = true
          rw [hF]
          simp only [fgo]
          (repeat' split) <;> rfl
        rw [F] at h
        simp (implicitDefEqProofs := false) only [sB, simprocAttr, f89, byteAV_n8, opE_glob, G0, G1, Gu0, Gu1, hf, hc.1, hc.2, an7, wz, ac0, acl, sh4, fd4, ne, l0, l1, l2, l3, l4]
        first | exact ⟨_, .refl _, h⟩ | (refine i_new fun z hz => ?_; simp (implicitDefEqProofs := false) only [sB, simprocAttr, ac0, acl, ne, l0, l1, l2, l3, l4]; exact ⟨_, .tail _ _, h⟩)
end Go.AL.Fun
