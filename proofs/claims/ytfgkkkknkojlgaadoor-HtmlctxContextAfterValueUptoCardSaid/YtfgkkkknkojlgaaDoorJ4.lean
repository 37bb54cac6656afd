/- The HTML context automaton: small functions, walked. -/
import Derived.Test.YtfgkkkknkojlgaaDoorJ3
set_option linter.unusedSimpArgs false
set_option linter.unusedVariables false
set_option maxRecDepth 100000
set_option maxHeartbeats 2000000
namespace Go.AL.Fun
open Go Go.AL

def j40 (xs : List AV) (H : Heap) (K : Kv) : Prop := ∃ (ctx : Int) (name attr part : List UInt8) (np : List UInt8), xs = [.agg [.int .i64 ctx, .str name, .str attr, .str part], .str np] ∧ K.ap (.agg [.int .i64 ctx, .str name, .str attr, .str np]) H
theorem x_j40 {ctx : Int} {name attr part : List UInt8} {np : List UInt8} (H : Heap) (K : Kv) : j40 [.agg [.int .i64 ctx, .str name, .str attr, .str part], .str np] H K = K.ap (.agg [.int .i64 ctx, .str name, .str attr, .str np]) H := by
  simp only [j40, List.cons.injEq, AV.int.injEq, AV.str.injEq, AV.agg.injEq, true_and, and_true, n8_eq]
  exact propext ⟨fun ⟨_, _, _, _, _, ⟨⟨e1, e2, e3, e4⟩, f0⟩, h⟩ => by subst e1 e2 e3 e4 f0; exact h, fun h => ⟨_, _, _, _, _, ⟨⟨rfl, rfl, rfl, rfl⟩, rfl⟩, h⟩⟩
def d42 (xs : List AV) (H : Heap) (K : Kv) : Prop := ∃ (ctx : Int) (name attr part : List UInt8) (nc : Int), xs = [.agg [.int .i64 ctx, .str name, .str attr, .str part], .int .i64 nc] ∧ K.ap (.agg [.int .i64 nc, .str name, .str [], .str []]) H
theorem x_d42 {ctx : Int} {name attr part : List UInt8} {nc : Int} (H : Heap) (K : Kv) : d42 [.agg [.int .i64 ctx, .str name, .str attr, .str part], .int .i64 nc] H K = K.ap (.agg [.int .i64 nc, .str name, .str [], .str []]) H := by
  simp only [d42, List.cons.injEq, AV.int.injEq, AV.str.injEq, AV.agg.injEq, true_and, and_true, n8_eq]
  exact propext ⟨fun ⟨_, _, _, _, _, ⟨⟨e1, e2, e3, e4⟩, f0⟩, h⟩ => by subst e1 e2 e3 e4 f0; exact h, fun h => ⟨_, _, _, _, _, ⟨⟨rfl, rfl, rfl, rfl⟩, rfl⟩, h⟩⟩
def j43 (xs : List AV) (H : Heap) (K : Kv) : Prop := ∃ (ctx : Int) (name attr part : List UInt8) , xs = [.agg [.int .i64 ctx, .str name, .str attr, .str part]] ∧ K.ap (stAV (openP name)) H
theorem x_j43 {ctx : Int} {name attr part : List UInt8}  (H : Heap) (K : Kv) : j43 [.agg [.int .i64 ctx, .str name, .str attr, .str part]] H K = K.ap (stAV (openP name)) H := by
  simp only [j43, List.cons.injEq, AV.int.injEq, AV.str.injEq, AV.agg.injEq, true_and, and_true, n8_eq]
  exact propext ⟨fun ⟨_, _, _, _, ⟨e1, e2, e3, e4⟩, h⟩ => by subst e1 e2 e3 e4 ; exact h, fun h => ⟨_, _, _, _, ⟨rfl, rfl, rfl, rfl⟩, h⟩⟩

theorem w40 (P : Program) {ctx : Int} {name attr part np : List UInt8} {H : Heap} (K : Kv) (hK : ∀ H', Hle H H' → K.ap (.agg [.int .i64 ctx, .str name, .str attr, .str np]) H') : @xF (t0 P) f30 [.agg [.int .i64 ctx, .str name, .str attr, .str part], .str np] H K := by
  simp (implicitDefEqProofs := false) only [sB, simprocAttr, f30]
  refine i_new fun p hp => ?_
  simp (implicitDefEqProofs := false) only [sB, simprocAttr]
  refine i_new fun q hq => ?_
  have hq := nk1 hq
  have hpq : ¬ p = q := fun e => hq.1 e.symm
  simp (implicitDefEqProofs := false) only [sB, simprocAttr, hq, hpq]
  exact hK _ hle2
theorem w43 (P : Program) {ctx : Int} {name attr part : List UInt8} {H : Heap} (K : Kv) (hK : ∀ H', Hle H H' → K.ap (stAV (openP name)) H') : @xF (t0 P) f33 [.agg [.int .i64 ctx, .str name, .str attr, .str part]] H K := by
  simp (implicitDefEqProofs := false) only [sB, simprocAttr, f33]
  refine i_new fun p hp => ?_
  simp (implicitDefEqProofs := false) only [sB, simprocAttr]
  refine i_new fun q hq => ?_
  have hq := nk1 hq
  have hpq : ¬ p = q := fun e => hq.1 e.symm
  by_cases j1 : name = [115, 99, 114, 105, 112, 116]
  · simp (implicitDefEqProofs := false) only [sB, simprocAttr, hq, hpq, j1]
    exact leaf hK (by simp [openP, j1, stAV]) hle2
  · by_cases j2 : name = [115, 116, 121, 108, 101]
    · simp (implicitDefEqProofs := false) only [sB, simprocAttr, hq, hpq, j1, j2]
      exact leaf hK (by simp [openP, j2, stAV]) hle2
    · simp (implicitDefEqProofs := false) only [sB, simprocAttr, hq, hpq, j1, j2]
      exact leaf hK (by simp [openP, j1, j2, stAV, St.zero]) hle2
def j41 (xs : List AV) (H : Heap) (K : Kv) : Prop := ∃ a b, xs = [.str a, .str b] ∧ K.ap (.bool (b.isPrefixOf a)) H
theorem x_j41 (a b : List UInt8) (H : Heap) (K : Kv) : j41 [.str a, .str b] H K = K.ap (.bool (b.isPrefixOf a)) H := by
  simp only [j41, List.cons.injEq, AV.str.injEq, true_and, and_true]
  exact propext ⟨fun ⟨_, _, ⟨e1, e2⟩, h⟩ => by subst e1 e2; exact h, fun h => ⟨_, _, ⟨rfl, rfl⟩, h⟩⟩
theorem pre_iff (a b : List UInt8) : b.isPrefixOf a = true ↔ b.length ≤ a.length ∧ a.take b.length = b := by
  rw [List.isPrefixOf_iff_prefix]
  constructor
  · intro h; exact ⟨h.length_le, (List.prefix_iff_eq_take.1 h).symm⟩
  · rintro ⟨_, h⟩; exact List.prefix_iff_eq_take.2 h.symm
theorem w57 (P : Program) {a b : List UInt8} {H : Heap} (K : Kv) (h : K.ap (.bool (b.isPrefixOf a)) H) : @xF (t0 P) f46 [.str a, .str b] H K := by
  by_cases j1 : (b.length : Int) ≤ a.length
  · have e : b.isPrefixOf a = decide (a.take b.length = b) := by
      rw [Bool.eq_iff_iff, pre_iff, decide_eq_true_eq]; exact ⟨fun h => h.2, fun h => ⟨by omega, h⟩⟩
    rw [e] at h
    simp (implicitDefEqProofs := false) only [sB, simprocAttr, f46, j1]
    exact ⟨by omega, h⟩
  · have e : b.isPrefixOf a = false := by
      rw [Bool.eq_false_iff]; intro h; rw [pre_iff] at h; omega
    rw [e] at h
    simp (implicitDefEqProofs := false) only [sB, simprocAttr, f46, j1]
    exact h
theorem w41 (P : Program) {a b : List UInt8} {H : Heap} (K : Kv) (h : K.ap (.bool (b.isPrefixOf a)) H) : @xF ⟨GH, P, [(46, j41)]⟩ f31 [.str a, .str b] H K := by
  simp (implicitDefEqProofs := false) only [sB, simprocAttr, f31, x_j41]
  exact h
/-- The index of a byte in a string. -/
def idxB : List UInt8 → UInt8 → Int
  | [], _ => -1
  | b :: l, c => if b == c then 0 else if idxB l c == -1 then -1 else idxB l c + 1
def j64 (xs : List AV) (H : Heap) (K : Kv) : Prop := ∃ s b, xs = [.str s, .int .u8 (n8 b)] ∧ K.ap (.int .i64 (idxB s b)) H
theorem x_j64 (s : List UInt8) (b : UInt8) (H : Heap) (K : Kv) : j64 [.str s, .int .u8 (n8 b)] H K = K.ap (.int .i64 (idxB s b)) H := by
  simp only [j64, List.cons.injEq, AV.int.injEq, AV.str.injEq, true_and, and_true, n8_eq]
  exact propext ⟨fun ⟨_, _, ⟨e1, e2⟩, h⟩ => by subst e1 e2; exact h, fun h => ⟨_, _, ⟨rfl, rfl⟩, h⟩⟩
def j46 (xs : List AV) (H : Heap) (K : Kv) : Prop := ∃ b, xs = [.int .u8 (n8 b)] ∧ K.ap (.bool (spcB b)) H
theorem x_j46 (b : UInt8) (H : Heap) (K : Kv) : j46 [.int .u8 (n8 b)] H K = K.ap (.bool (spcB b)) H := by
  simp only [j46, List.cons.injEq, AV.int.injEq, true_and, and_true, n8_eq]
  exact propext ⟨fun ⟨_, e, h⟩ => e ▸ h, fun h => ⟨_, rfl, h⟩⟩
theorem spc_idx (b : UInt8) : decide (0 ≤ idxB [32, 9, 10, 12, 13] b) = spcB b := by
  have e : ∀ k : UInt8, (k == b) = decide (n8 b = n8 k) := fun k => by
    rw [Bool.eq_iff_iff, beq_iff_eq, decide_eq_true_eq]; exact ⟨fun h => by rw [h], fun h => (n8_inj h).symm⟩
  unfold spcB
  simp only [idxB, e]
  rw [decide_eq_decide]
  simp only [decide_eq_true_eq, show n8 32 = 32 from rfl, show n8 9 = 9 from rfl, show n8 10 = 10 from rfl, show n8 12 = 12 from rfl, show n8 13 = 13 from rfl]
  by_cases a1 : n8 b = 32
  · simp [a1]
  · by_cases a2 : n8 b = 9
    · simp [a2]
    · by_cases a3 : n8 b = 10
      · simp [a3]
      · by_cases a4 : n8 b = 12
        · simp [a4]
        · by_cases a5 : n8 b = 13
          · simp [a5]
          · simp [a1, a2, a3, a4, a5]
theorem w46 (P : Program) {b : UInt8} {H : Heap} (K : Kv) (h : K.ap (.bool (spcB b)) H) : @xF ⟨GH, P, [(48, j64)]⟩ f36 [.int .u8 (n8 b)] H K := by
  simp (implicitDefEqProofs := false) only [sB, simprocAttr, f36, x_j64, spc_idx]
  exact h
@[reducible] def tB (P : Program) : Th := ⟨GH, P, [(30, j40), (32, d42), (33, j43), (31, j41), (36, j46), (29, j39), (28, j38), (47, j58)]⟩
end Go.AL.Fun
