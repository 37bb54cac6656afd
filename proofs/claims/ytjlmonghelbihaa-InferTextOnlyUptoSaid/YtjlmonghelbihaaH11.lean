/- The reference automaton: small functions, walked. -/
import Derived.Test.YtjlmonghelbihaaH10
set_option linter.unusedSimpArgs false
set_option linter.unusedVariables false
set_option maxRecDepth 100000
set_option maxHeartbeats 2000000
namespace Go.AL.Fun
open Go Go.AL


def r52 (xs : List AV) (H : Heap) (K : Kv) : Prop := ∃ b, xs = [.int .u8 (n8 b)] ∧ K.ap (.int .u8 (n8 (lowB b))) H
theorem x_r52 (b : UInt8) (H : Heap) (K : Kv) : r52 [.int .u8 (n8 b)] H K = K.ap (.int .u8 (n8 (lowB b))) H := by
  simp only [r52, List.cons.injEq, AV.int.injEq, true_and, and_true, n8_eq]
  exact propext ⟨fun ⟨_, e, h⟩ => e ▸ h, fun h => ⟨_, rfl, h⟩⟩
theorem r52_of (P : Program) {xs : List AV} {H : Heap} {K : Kv} (h : r52 xs H K) : @xF (t0 P) f52 xs H K := by
  obtain ⟨b, rfl, h⟩ := h
  have hb := n8_lt b
  rw [lowB_nat] at h
  by_cases c1 : 65 ≤ n8 b
  · by_cases c2 : n8 b ≤ 90
    · simp (implicitDefEqProofs := false) only [sB, simprocAttr, f52, c1, c2, w_u8 (n8 b + 32) (by omega) (by omega)]
      rw [if_pos ⟨c1, c2⟩] at h; exact h
    · simp (implicitDefEqProofs := false) only [sB, simprocAttr, f52, c1, c2]
      rw [if_neg (by omega)] at h; exact h
  · simp (implicitDefEqProofs := false) only [sB, simprocAttr, f52, c1]
    rw [if_neg (by omega)] at h; exact h
@[reducible] def u1 (P : Program) : Th := ⟨fun _ => none, P, [(52, r52)]⟩
def r47 (xs : List AV) (H : Heap) (K : Kv) : Prop := ∃ b, xs = [.int .u8 (n8 b)] ∧ K.ap (.bool (letR b)) H
theorem x_r47 (b : UInt8) (H : Heap) (K : Kv) : r47 [.int .u8 (n8 b)] H K = K.ap (.bool (letR b)) H := by
  simp only [r47, List.cons.injEq, AV.int.injEq, true_and, and_true, n8_eq]
  exact propext ⟨fun ⟨_, e, h⟩ => e ▸ h, fun h => ⟨_, rfl, h⟩⟩
theorem r47_of (P : Program) {xs : List AV} {H : Heap} {K : Kv} (h : r47 xs H K) : @xF (u1 P) f47 xs H K := by
  obtain ⟨b, rfl, h⟩ := h
  by_cases c1 : 97 ≤ n8 (lowB b)
  · by_cases c2 : n8 (lowB b) ≤ 122
    · simp (implicitDefEqProofs := false) only [sB, simprocAttr, f47, x_r52, c1, c2]
      rw [show letR b = true by unfold letR; rw [decide_eq_true]; omega] at h; exact h
    · simp (implicitDefEqProofs := false) only [sB, simprocAttr, f47, x_r52, c1, c2]
      rw [show letR b = false by unfold letR; rw [decide_eq_false]; omega] at h; exact h
  · simp (implicitDefEqProofs := false) only [sB, simprocAttr, f47, x_r52, c1]
    rw [show letR b = false by unfold letR; rw [decide_eq_false]; omega] at h; exact h
def r48 (xs : List AV) (H : Heap) (K : Kv) : Prop := ∃ s b, xs = [.str s, .int .u8 (n8 b)] ∧ s.length ≤ 16 ∧ K.ap (.str (addR s b)) H
theorem x_r48 (s : List UInt8) (b : UInt8) (hs : s.length ≤ 16) (H : Heap) (K : Kv) : r48 [.str s, .int .u8 (n8 b)] H K = K.ap (.str (addR s b)) H := by
  simp only [r48, List.cons.injEq, AV.int.injEq, AV.str.injEq, true_and, and_true, n8_eq]
  exact propext ⟨fun ⟨_, _, ⟨e1, e2⟩, _, h⟩ => by subst e1 e2; exact h, fun h => ⟨_, _, ⟨rfl, rfl⟩, hs, h⟩⟩
theorem r48_of (P : Program) {xs : List AV} {H : Heap} {K : Kv} (h : r48 xs H K) : @xF (u1 P) f48 xs H ⟨fun v H' => ∃ H0, Hle H0 H' ∧ K.ap v H0⟩ := by
  obtain ⟨s, b, rfl, hs, h⟩ := h
  by_cases c1 : (16 : Int) ≤ s.length
  · simp (implicitDefEqProofs := false) only [sB, simprocAttr, f48, c1]
    rw [show addR s b = s by unfold addR; rw [if_pos (by omega)]] at h
    exact ⟨H, .refl _, h⟩
  · simp (implicitDefEqProofs := false) only [sB, simprocAttr, f48, c1, x_r52]
    refine i_new fun p hp => ?_
    simp (implicitDefEqProofs := false) only [sB, simprocAttr, of_n8]
    rw [show addR s b = s ++ [lowB b] by unfold addR; rw [if_neg (by omega)]] at h
    exact ⟨by omega, H, .tail _ _, h⟩
def r49 (xs : List AV) (H : Heap) (K : Kv) : Prop := ∃ nm, xs = [.str nm] ∧ K.ap (stAV (openP nm)) H
theorem x_r49 (nm : List UInt8) (H : Heap) (K : Kv) : r49 [.str nm] H K = K.ap (stAV (openP nm)) H := by
  simp only [r49, List.cons.injEq, AV.str.injEq, and_true]
  exact propext ⟨fun ⟨_, e, h⟩ => e ▸ h, fun h => ⟨_, rfl, h⟩⟩
theorem r49_of (P : Program) {xs : List AV} {H : Heap} {K : Kv} (h : r49 xs H K) : @xF (t0 P) f49 xs H ⟨fun v H' => ∃ H0, Hle H0 H' ∧ K.ap v H0⟩ := by
  obtain ⟨name, rfl, h⟩ := h
  simp (implicitDefEqProofs := false) only [sB, simprocAttr, f49]
  refine i_new fun q hq => ?_
  by_cases c1 : name = [115, 99, 114, 105, 112, 116]
  · simp (implicitDefEqProofs := false) only [sB, simprocAttr, c1]
    exact ⟨H, .tail _ _, by simpa [openP, c1, stAV] using h⟩
  · by_cases c2 : name = [115, 116, 121, 108, 101]
    · simp (implicitDefEqProofs := false) only [sB, simprocAttr, c1, c2]
      exact ⟨H, .tail _ _, by simpa [openP, c2, stAV] using h⟩
    · simp (implicitDefEqProofs := false) only [sB, simprocAttr, c1, c2]
      exact ⟨H, .tail _ _, by simpa [openP, c1, c2, stAV, St.zero] using h⟩
def r50 (xs : List AV) (H : Heap) (K : Kv) : Prop := ∃ b, xs = [.int .u8 (n8 b)] ∧ K.ap (.bool (spcB b)) H
theorem x_r50 (b : UInt8) (H : Heap) (K : Kv) : r50 [.int .u8 (n8 b)] H K = K.ap (.bool (spcB b)) H := by
  simp only [r50, List.cons.injEq, AV.int.injEq, true_and, and_true, n8_eq]
  exact propext ⟨fun ⟨_, e, h⟩ => e ▸ h, fun h => ⟨_, rfl, h⟩⟩
theorem r50_of (P : Program) {xs : List AV} {H : Heap} {K : Kv} (h : r50 xs H K) : @xF (t0 P) f50 xs H K := by
  obtain ⟨b, rfl, h⟩ := h
  by_cases a1 : n8 b = 32
  · simp (implicitDefEqProofs := false) only [sB, simprocAttr, f50, a1]; rw [show spcB b = true by unfold spcB; rw [decide_eq_true]; omega] at h; exact h
  · by_cases a2 : n8 b = 9
    · simp (implicitDefEqProofs := false) only [sB, simprocAttr, f50, a1, a2]; rw [show spcB b = true by unfold spcB; rw [decide_eq_true]; omega] at h; exact h
    · by_cases a3 : n8 b = 10
      · simp (implicitDefEqProofs := false) only [sB, simprocAttr, f50, a1, a2, a3]; rw [show spcB b = true by unfold spcB; rw [decide_eq_true]; omega] at h; exact h
      · by_cases a4 : n8 b = 12
        · simp (implicitDefEqProofs := false) only [sB, simprocAttr, f50, a1, a2, a3, a4]; rw [show spcB b = true by unfold spcB; rw [decide_eq_true]; omega] at h; exact h
        · by_cases a5 : n8 b = 13
          · simp (implicitDefEqProofs := false) only [sB, simprocAttr, f50, a1, a2, a3, a4, a5]; rw [show spcB b = true by unfold spcB; rw [decide_eq_true]; omega] at h; exact h
          · simp (implicitDefEqProofs := false) only [sB, simprocAttr, f50, a1, a2, a3, a4, a5]; rw [show spcB b = false by unfold spcB; rw [decide_eq_false]; omega] at h; exact h
def r51 (xs : List AV) (H : Heap) (K : Kv) : Prop := ∃ a b, xs = [.str a, .int .u8 (n8 b)] ∧ K.ap (.int .i64 (quotedR a b)) H
theorem x_r51 (a : List UInt8) (b : UInt8) (H : Heap) (K : Kv) : r51 [.str a, .int .u8 (n8 b)] H K = K.ap (.int .i64 (quotedR a b)) H := by
  simp only [r51, List.cons.injEq, AV.int.injEq, AV.str.injEq, true_and, and_true, n8_eq]
  exact propext ⟨fun ⟨_, _, ⟨e1, e2⟩, h⟩ => by subst e1 e2; exact h, fun h => ⟨_, _, ⟨rfl, rfl⟩, h⟩⟩
theorem r51_of (P : Program) {xs : List AV} {H : Heap} {K : Kv} (h : r51 xs H K) : @xF (t0 P) f51 xs H K := by
  obtain ⟨a, b, rfl, h⟩ := h
  have w8 := w_i64 8 (by decide) (by decide)
  have w10 := w_i64 10 (by decide) (by decide)
  have w12 := w_i64 12 (by decide) (by decide)
  have tail : ∀ c : Int, ((c = if a = [104, 114, 101, 102] ∨ a = [115, 114, 99] ∨ a = [97, 99, 116, 105, 111, 110] ∨ a = [102, 111, 114, 109, 97, 99, 116, 105, 111, 110] then 9 else if a = [115, 116, 121, 108, 101] ∨ a = [115, 114, 99, 100, 111, 99] then 11 else 7)) →
      quotedR a b = (if n8 b = 39 then (if 2 ≤ a.length ∧ a.take 2 = [111, 110] then 11 else c) + 1 else (if 2 ≤ a.length ∧ a.take 2 = [111, 110] then 11 else c)) := by
    intro c hc; subst hc; rfl
  have c2' : ∀ c1 : (2 : Int) ≤ a.length, 2 ≤ a.length := fun h => by omega
  by_cases q : n8 b = 39 <;> by_cases l2 : (2 : Int) ≤ a.length <;> by_cases t2 : a.take 2 = [111, 110]
  all_goals (
    have l2' : (2 ≤ a.length ↔ (2 : Int) ≤ a.length) := by omega
    by_cases e1 : a = [104, 114, 101, 102]
    · subst e1; first | (exfalso; revert l2; decide) | (exfalso; revert t2; decide) | (simp (implicitDefEqProofs := false) only [sB, simprocAttr, f51, q, l2, show (((104 : UInt8) = 111 ∧ (114 : UInt8) = 110) = False) by decide, w8, w10, w12]; simpa [quotedR, q] using h)
    · by_cases e2 : a = [115, 114, 99]
      · subst e2; first | (exfalso; revert l2; decide) | (exfalso; revert t2; decide) | (simp (implicitDefEqProofs := false) only [sB, simprocAttr, f51, q, l2, show (((115 : UInt8) = 111 ∧ (114 : UInt8) = 110) = False) by decide, w8, w10, w12]; simpa [quotedR, q] using h)
      · by_cases e3 : a = [97, 99, 116, 105, 111, 110]
        · subst e3; first | (exfalso; revert l2; decide) | (exfalso; revert t2; decide) | (simp (implicitDefEqProofs := false) only [sB, simprocAttr, f51, q, l2, show (((97 : UInt8) = 111 ∧ (99 : UInt8) = 110) = False) by decide, w8, w10, w12]; simpa [quotedR, q] using h)
        · by_cases e4 : a = [102, 111, 114, 109, 97, 99, 116, 105, 111, 110]
          · subst e4; first | (exfalso; revert l2; decide) | (exfalso; revert t2; decide) | (simp (implicitDefEqProofs := false) only [sB, simprocAttr, f51, q, l2, show (((102 : UInt8) = 111 ∧ (111 : UInt8) = 110) = False) by decide, w8, w10, w12]; simpa [quotedR, q] using h)
          · by_cases e5 : a = [115, 116, 121, 108, 101]
            · subst e5; first | (exfalso; revert l2; decide) | (exfalso; revert t2; decide) | (simp (implicitDefEqProofs := false) only [sB, simprocAttr, f51, q, l2, show (((115 : UInt8) = 111 ∧ (116 : UInt8) = 110) = False) by decide, w8, w10, w12]; simpa [quotedR, q] using h)
            · by_cases e6 : a = [115, 114, 99, 100, 111, 99]
              · subst e6; first | (exfalso; revert l2; decide) | (exfalso; revert t2; decide) | (simp (implicitDefEqProofs := false) only [sB, simprocAttr, f51, q, l2, show (((115 : UInt8) = 111 ∧ (114 : UInt8) = 110) = False) by decide, show (((115 : UInt8) = 97 ∧ (114 : UInt8) = 99 ∧ (99 : UInt8) = 116 ∧ (100 : UInt8) = 105 ∧ (99 : UInt8) = 110) = False) by decide, w8, w10, w12]; simpa [quotedR, q] using h)
              · simp (implicitDefEqProofs := false) only [sB, simprocAttr, f51, q, l2, t2, e1, e2, e3, e4, e5, e6, w8, w10, w12]; simpa [quotedR, q, l2', l2, t2, e1, e2, e3, e4, e5, e6] using h)
@[reducible] def u2 (P : Program) : Th := ⟨fun _ => none, P, [(52, r52), (47, r47), (48, r48), (49, r49), (50, r50), (51, r51)]⟩
end Go.AL.Fun
