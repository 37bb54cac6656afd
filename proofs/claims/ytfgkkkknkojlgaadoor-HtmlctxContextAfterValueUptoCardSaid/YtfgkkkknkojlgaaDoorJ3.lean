/- The HTML context automaton: the program's small functions, walked. -/
import Derived.Test.YtfgkkkknkojlgaaDoorJ2
set_option linter.unusedSimpArgs false
set_option linter.unusedVariables false
set_option maxRecDepth 100000
namespace Go.AL.Fun
open Go Go.AL

@[reducible] def t0 (P : Program) : Th := ⟨GH, P, []⟩
def stAV (s : St) : AV := .agg [.int .i64 s.ctx, .str s.name, .str s.attr, .str s.part]
theorem n8_eq {b c : UInt8} : n8 b = n8 c ↔ b = c := ⟨n8_inj, fun h => by rw [h]⟩
theorem of_n8 (b : UInt8) : UInt8.ofNat (n8 b).toNat = b := by unfold n8; simp
theorem of_n8' (b : UInt8) : UInt8.ofNat (n8 b + 32).toNat = b + 32 := by
  unfold n8
  have : ((b.toNat : Int) + 32).toNat = b.toNat + 32 := by omega
  rw [this, UInt8.ofNat_add]; simp

/-- A function of values alone. -/
theorem hle2 {H : Heap} {x y : Nat × AObj} : Hle H (x :: y :: H) := .of_sub (.cons _ (.cons _ (.refl _)))
theorem hle3 {H : Heap} {x y z : Nat × AObj} : Hle H (x :: y :: z :: H) := .of_sub (.cons _ (.cons _ (.cons _ (.refl _))))
theorem nk1 {p q : Nat} {x : AObj} {H : Heap} (h : q ∉ Heap.keys ((p, x) :: H)) : ¬ q = p ∧ ¬ q ∈ Heap.keys H := by simpa [Heap.keys] using h
theorem nk2 {p q r : Nat} {x y : AObj} {H : Heap} (h : r ∉ Heap.keys ((q, y) :: (p, x) :: H)) : ¬ r = q ∧ ¬ r = p ∧ ¬ r ∈ Heap.keys H := by simpa [Heap.keys] using h
theorem nk3 {p q r u : Nat} {x y z : AObj} {H : Heap} (h : u ∉ Heap.keys ((r, z) :: (q, y) :: (p, x) :: H)) : ¬ u = r ∧ ¬ u = q ∧ ¬ u = p ∧ ¬ u ∈ Heap.keys H := by simpa [Heap.keys] using h
theorem n8q (b k : UInt8) (n : Int) (h : n8 k = n) : (b = k) = (n8 b = n) := by subst h; exact propext ⟨fun h => by rw [h], fun h => n8_inj h⟩
theorem leaf {K : Kv} {v w : AV} {H H' : Heap} (hK : ∀ H', Hle H H' → K.ap v H') (e : v = w) (hl : Hle H H') : K.ap w H' := e ▸ hK H' hl

def j38 (xs : List AV) (H : Heap) (K : Kv) : Prop := ∃ b, xs = [.int .u8 (n8 b)] ∧ K.ap (.bool (letB b)) H
theorem x_j38 (b : UInt8) (H : Heap) (K : Kv) : j38 [.int .u8 (n8 b)] H K = K.ap (.bool (letB b)) H := by
  simp only [j38, List.cons.injEq, AV.int.injEq, true_and, and_true, n8_eq]
  exact propext ⟨fun ⟨_, e, h⟩ => e ▸ h, fun h => ⟨_, rfl, h⟩⟩
theorem j38_of (P : Program) {xs : List AV} {H : Heap} {K : Kv} (h : j38 xs H K) : @xF (t0 P) f28 xs H K := by
  obtain ⟨b, rfl, h⟩ := h
  by_cases j1 : 97 ≤ n8 b
  · by_cases j2 : n8 b ≤ 122
    · simp (implicitDefEqProofs := false) only [sB, simprocAttr, f28, j1, j2]
      rw [show letB b = true by unfold letB; rw [decide_eq_true]; omega] at h; exact h
    · have j3 : 65 ≤ n8 b := by omega
      have j4 : ¬ n8 b ≤ 90 := by omega
      simp (implicitDefEqProofs := false) only [sB, simprocAttr, f28, j1, j2, j3, j4]
      rw [show letB b = false by unfold letB; rw [decide_eq_false]; omega] at h; exact h
  · by_cases j3 : 65 ≤ n8 b
    · by_cases j4 : n8 b ≤ 90
      · simp (implicitDefEqProofs := false) only [sB, simprocAttr, f28, j1, j3, j4]
        rw [show letB b = true by unfold letB; rw [decide_eq_true]; omega] at h; exact h
      · simp (implicitDefEqProofs := false) only [sB, simprocAttr, f28, j1, j3, j4]
        rw [show letB b = false by unfold letB; rw [decide_eq_false]; omega] at h; exact h
    · simp (implicitDefEqProofs := false) only [sB, simprocAttr, f28, j1, j3]
      rw [show letB b = false by unfold letB; rw [decide_eq_false]; omega] at h; exact h

def j39 (xs : List AV) (H : Heap) (K : Kv) : Prop := ∃ b, xs = [.int .u8 (n8 b)] ∧ K.ap (.str [lowB b]) H
theorem x_j39 (b : UInt8) (H : Heap) (K : Kv) : j39 [.int .u8 (n8 b)] H K = K.ap (.str [lowB b]) H := by
  simp only [j39, List.cons.injEq, AV.int.injEq, true_and, and_true, n8_eq]
  exact propext ⟨fun ⟨_, e, h⟩ => e ▸ h, fun h => ⟨_, rfl, h⟩⟩
theorem j39_of (P : Program) {xs : List AV} {H : Heap} {K : Kv} (h : j39 xs H K) : @xF (t0 P) f29 xs H ⟨fun v H' => ∃ H0, Hle H0 H' ∧ K.ap v H0⟩ := by
  obtain ⟨b, rfl, h⟩ := h
  have hb := n8_lt b
  by_cases j1 : 65 ≤ n8 b
  · by_cases j2 : n8 b ≤ 90
    · simp (implicitDefEqProofs := false) only [sB, simprocAttr, f29, j1, j2, w_u8 (n8 b + 32) (by omega) (by omega)]
      refine i_new fun p hp => ?_
      simp (implicitDefEqProofs := false) only [sB, simprocAttr, of_n8']
      rw [show lowB b = b + 32 by unfold lowB; rw [if_pos ⟨j1, j2⟩]] at h
      exact ⟨H, .tail _ _, h⟩
    · simp (implicitDefEqProofs := false) only [sB, simprocAttr, f29, j1, j2]
      refine i_new fun p hp => ?_
      simp (implicitDefEqProofs := false) only [sB, simprocAttr, of_n8]
      rw [show lowB b = b by unfold lowB; rw [if_neg (by omega)]] at h
      exact ⟨H, .tail _ _, h⟩
  · simp (implicitDefEqProofs := false) only [sB, simprocAttr, f29, j1]
    refine i_new fun p hp => ?_
    simp (implicitDefEqProofs := false) only [sB, simprocAttr, of_n8]
    rw [show lowB b = b by unfold lowB; rw [if_neg (by omega)]] at h
    exact ⟨H, .tail _ _, h⟩
@[reducible] def tA (P : Program) : Th := ⟨GH, P, [(29, j39), (28, j38)]⟩

def j58 (xs : List AV) (H : Heap) (K : Kv) : Prop := ∃ s b, xs = [.str s, .int .u8 (n8 b)] ∧ s.length ≤ 16 ∧ K.ap (.str (addB s b)) H
theorem x_j58 (s : List UInt8) (b : UInt8) (hs : s.length ≤ 16) (H : Heap) (K : Kv) : j58 [.str s, .int .u8 (n8 b)] H K = K.ap (.str (addB s b)) H := by
  simp only [j58, List.cons.injEq, AV.int.injEq, AV.str.injEq, true_and, and_true, n8_eq]
  exact propext ⟨fun ⟨_, _, ⟨e1, e2⟩, _, h⟩ => by subst e1 e2; exact h, fun h => ⟨_, _, ⟨rfl, rfl⟩, hs, h⟩⟩
theorem j58_of (P : Program) {xs : List AV} {H : Heap} {K : Kv} (h : j58 xs H K) : @xF (tA P) f47 xs H K := by
  obtain ⟨s, b, rfl, hs, h⟩ := h
  by_cases j1 : (s.length : Int) = 16
  · simp (implicitDefEqProofs := false) only [sB, simprocAttr, f47, j1]
    rw [show addB s b = s by unfold addB; rw [if_pos (by omega)]] at h; exact h
  · simp (implicitDefEqProofs := false) only [sB, simprocAttr, f47, j1, x_j39]
    rw [show addB s b = s ++ [lowB b] by unfold addB; rw [if_neg (by omega)]] at h
    exact ⟨by omega, h⟩

def j42 (xs : List AV) (H : Heap) (K : Kv) : Prop := ∃ s c, xs = [stAV s, .int .i64 c] ∧ K.ap (stAV (withP s c)) H
theorem x_j42 (s : St) (c : Int) (H : Heap) (K : Kv) : j42 [stAV s, .int .i64 c] H K = K.ap (stAV (withP s c)) H := by
  obtain ⟨a1, a2, a3, a4⟩ := s
  simp only [j42, stAV, List.cons.injEq, AV.int.injEq, AV.str.injEq, AV.agg.injEq, true_and, and_true]
  refine propext ⟨fun ⟨s, _, ⟨⟨e1, e2, e3, e4⟩, e5⟩, h⟩ => ?_, fun h => ⟨⟨a1, a2, a3, a4⟩, _, ⟨⟨rfl, rfl, rfl, rfl⟩, rfl⟩, h⟩⟩
  obtain ⟨b1, b2, b3, b4⟩ := s
  simp only at e1 e2 e3 e4
  subst e1 e2 e3 e4 e5; exact h
theorem j42_of (P : Program) {xs : List AV} {H : Heap} {K : Kv} (h : j42 xs H K) : @xF (t0 P) f32 xs H ⟨fun v H' => ∃ H0, Hle H0 H' ∧ K.ap v H0⟩ := by
  obtain ⟨⟨a1, a2, a3, a4⟩, c, rfl, h⟩ := h
  simp (implicitDefEqProofs := false) only [sB, simprocAttr, f32, stAV]
  refine i_new fun p hp => ?_
  simp (implicitDefEqProofs := false) only [sB, simprocAttr]
  refine i_new fun q hq => ?_
  simp (implicitDefEqProofs := false) only [sB, simprocAttr] at hq
  have hpq : ¬ p = q := fun e => hq.1 e.symm
  simp (implicitDefEqProofs := false) only [sB, simprocAttr, hq, hpq]
  exact ⟨H, .trans (.tail _ _) (.tail _ _), h⟩
end Go.AL.Fun
