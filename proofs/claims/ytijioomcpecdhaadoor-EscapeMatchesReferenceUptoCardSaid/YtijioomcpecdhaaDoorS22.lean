/- Safe: the program's, by a closure over a string; the reference's. Printed by gs22.py. -/
import Derived.Test.YtijioomcpecdhaaDoorS21
set_option linter.unusedSimpArgs false
set_option linter.unusedVariables false
set_option maxRecDepth 100000
set_option maxHeartbeats 4000000
namespace Go.AL.Fun
open Go Go.AL

def js9 : List UInt8 := [34, 38, 39, 47, 60, 61, 62, 96]
def cs9 : List UInt8 := [34, 38, 39, 40, 41, 47, 58, 59, 60, 62, 123, 125]
theorem mem_js9 : ∀ c : Fin 128, UInt8.ofNat c.val ∈ js9 ↔ (c.val ≠ 92 ∧ UInt8.ofNat c.val ∈ jsS) := by decide
theorem mem_cs9 : ∀ c : Fin 128, UInt8.ofNat c.val ∈ cs9 ↔ (c.val ≠ 92 ∧ UInt8.ofNat c.val ∈ csS) := by decide
theorem mem_unS : ∀ c : Fin 128, UInt8.ofNat c.val ∈ unS ↔ (c.val = 45 ∨ c.val = 46 ∨ c.val = 95 ∨ c.val = 126) := by decide
theorem js9_eq (q : Int) : hasR js9 q = (decide (q ≠ 92) && hasR jsS q) := by
  unfold hasR
  rw [← Bool.decide_and, decide_eq_decide]
  constructor
  · rintro ⟨h0, h1, h2⟩
    have := (mem_js9 ⟨q.toNat, by omega⟩).1 h2
    exact ⟨by have := this.1; simp only at this; omega, h0, h1, this.2⟩
  · rintro ⟨h, h0, h1, h2⟩
    exact ⟨h0, h1, (mem_js9 ⟨q.toNat, by omega⟩).2 ⟨by simp only; omega, h2⟩⟩
theorem cs9_eq (q : Int) : hasR cs9 q = (decide (q ≠ 92) && hasR csS q) := by
  unfold hasR
  rw [← Bool.decide_and, decide_eq_decide]
  constructor
  · rintro ⟨h0, h1, h2⟩
    have := (mem_cs9 ⟨q.toNat, by omega⟩).1 h2
    exact ⟨by have := this.1; simp only at this; omega, h0, h1, this.2⟩
  · rintro ⟨h, h0, h1, h2⟩
    exact ⟨h0, h1, (mem_cs9 ⟨q.toNat, by omega⟩).2 ⟨by simp only; omega, h2⟩⟩
theorem unS_eq (q : Int) : hasR unS q = decide (q = 45 ∨ q = 46 ∨ q = 95 ∨ q = 126) := by
  unfold hasR
  rw [decide_eq_decide]
  constructor
  · rintro ⟨h0, h1, h2⟩
    have := (mem_unS ⟨q.toNat, by omega⟩).1 h2
    simp only at this; omega
  · intro h
    refine ⟨by omega, by omega, (mem_unS ⟨q.toNat, by omega⟩).2 ?_⟩
    simp only; omega
theorem hasR_no {s : List UInt8} {q : Int} (h : ¬ q < 128) : hasR s q = false := by unfold hasR; rw [decide_eq_false]; omega
def c62 (xs : List AV) (H : Heap) (K : Kv) : Prop := ∃ (e q : Int), xs = [.int .i64 e, .int .i32 q] ∧ okR q ∧ 0 ≤ e ∧ e ≤ 4 ∧ K.ap (.bool (!unsP e q)) H
theorem c62_0 (P : Program) {G : Nat → Option (List AV)} {H : Heap} {K : Kv} {q : Int} (hok : okR q) (k : K.ap (.bool (!unsP 0 q)) H) : @xF ⟨G, P, [(51, c51)]⟩ f62 [.int .i64 0, .int .i32 q] H K := by
  have hq0 := hok.1
  rcases (by omega : q < 32 ∨ (¬ q < 32 ∧ q = 127) ∨ (¬ q < 32 ∧ ¬ q = 127)) with d1 | ⟨d1, d2⟩ | ⟨d1, d2⟩
  · by_cases z : q = 0
    · rw [show unsP 0 q = true by unfold unsP; simp [z]] at k
      have z' := eq_true z
      simp (implicitDefEqProofs := false) only [sB, simprocAttr, f62, d1, z']
      exact k
    · rw [show unsP 0 q = hasR txS q by unfold unsP; simp [z]] at k
      by_cases l8 : q < 128
      · simp (implicitDefEqProofs := false) only [sB, simprocAttr, f62, d1, z, l8]
        refine ⟨txS, q, rfl, by decide, by decide, ?_⟩
        cases hh : hasR txS q <;> (rw [hh] at k; simp (implicitDefEqProofs := false) only [sB, simprocAttr]; exact k)
      · rw [hasR_no l8] at k
        simp (implicitDefEqProofs := false) only [sB, simprocAttr, f62, d1, z, l8]
        exact k
  · have d2' := eq_true d2
    by_cases z : q = 0
    · rw [show unsP 0 q = true by unfold unsP; simp [z]] at k
      have z' := eq_true z
      simp (implicitDefEqProofs := false) only [sB, simprocAttr, f62, d1, d2', z']
      exact k
    · rw [show unsP 0 q = hasR txS q by unfold unsP; simp [z]] at k
      by_cases l8 : q < 128
      · simp (implicitDefEqProofs := false) only [sB, simprocAttr, f62, d1, d2', z, l8]
        refine ⟨txS, q, rfl, by decide, by decide, ?_⟩
        cases hh : hasR txS q <;> (rw [hh] at k; simp (implicitDefEqProofs := false) only [sB, simprocAttr]; exact k)
      · rw [hasR_no l8] at k
        simp (implicitDefEqProofs := false) only [sB, simprocAttr, f62, d1, d2', z, l8]
        exact k
  · by_cases z : q = 0
    · rw [show unsP 0 q = true by unfold unsP; simp [z]] at k
      have z' := eq_true z
      simp (implicitDefEqProofs := false) only [sB, simprocAttr, f62, d1, d2, z']
      exact k
    · rw [show unsP 0 q = hasR txS q by unfold unsP; simp [z]] at k
      by_cases l8 : q < 128
      · simp (implicitDefEqProofs := false) only [sB, simprocAttr, f62, d1, d2, z, l8]
        refine ⟨txS, q, rfl, by decide, by decide, ?_⟩
        cases hh : hasR txS q <;> (rw [hh] at k; simp (implicitDefEqProofs := false) only [sB, simprocAttr]; exact k)
      · rw [hasR_no l8] at k
        simp (implicitDefEqProofs := false) only [sB, simprocAttr, f62, d1, d2, z, l8]
        exact k
theorem c62_1 (P : Program) {G : Nat → Option (List AV)} {H : Heap} {K : Kv} {q : Int} (hok : okR q) (k : K.ap (.bool (!unsP 1 q)) H) : @xF ⟨G, P, [(51, c51)]⟩ f62 [.int .i64 1, .int .i32 q] H K := by
  have hq0 := hok.1
  rcases (by omega : q < 32 ∨ (¬ q < 32 ∧ q = 127) ∨ (¬ q < 32 ∧ ¬ q = 127)) with d1 | ⟨d1, d2⟩ | ⟨d1, d2⟩
  · by_cases z : q = 0
    · rw [show unsP 1 q = true by unfold unsP; simp [z]] at k
      have z' := eq_true z
      simp (implicitDefEqProofs := false) only [sB, simprocAttr, f62, d1, z']
      exact k
    · rw [show unsP 1 q = hasR atS q by unfold unsP; simp [z]] at k
      by_cases l8 : q < 128
      · simp (implicitDefEqProofs := false) only [sB, simprocAttr, f62, d1, z, l8]
        refine ⟨atS, q, rfl, by decide, by decide, ?_⟩
        cases hh : hasR atS q <;> (rw [hh] at k; simp (implicitDefEqProofs := false) only [sB, simprocAttr]; exact k)
      · rw [hasR_no l8] at k
        simp (implicitDefEqProofs := false) only [sB, simprocAttr, f62, d1, z, l8]
        exact k
  · have d2' := eq_true d2
    by_cases z : q = 0
    · rw [show unsP 1 q = true by unfold unsP; simp [z]] at k
      have z' := eq_true z
      simp (implicitDefEqProofs := false) only [sB, simprocAttr, f62, d1, d2', z']
      exact k
    · rw [show unsP 1 q = hasR atS q by unfold unsP; simp [z]] at k
      by_cases l8 : q < 128
      · simp (implicitDefEqProofs := false) only [sB, simprocAttr, f62, d1, d2', z, l8]
        refine ⟨atS, q, rfl, by decide, by decide, ?_⟩
        cases hh : hasR atS q <;> (rw [hh] at k; simp (implicitDefEqProofs := false) only [sB, simprocAttr]; exact k)
      · rw [hasR_no l8] at k
        simp (implicitDefEqProofs := false) only [sB, simprocAttr, f62, d1, d2', z, l8]
        exact k
  · by_cases z : q = 0
    · rw [show unsP 1 q = true by unfold unsP; simp [z]] at k
      have z' := eq_true z
      simp (implicitDefEqProofs := false) only [sB, simprocAttr, f62, d1, d2, z']
      exact k
    · rw [show unsP 1 q = hasR atS q by unfold unsP; simp [z]] at k
      by_cases l8 : q < 128
      · simp (implicitDefEqProofs := false) only [sB, simprocAttr, f62, d1, d2, z, l8]
        refine ⟨atS, q, rfl, by decide, by decide, ?_⟩
        cases hh : hasR atS q <;> (rw [hh] at k; simp (implicitDefEqProofs := false) only [sB, simprocAttr]; exact k)
      · rw [hasR_no l8] at k
        simp (implicitDefEqProofs := false) only [sB, simprocAttr, f62, d1, d2, z, l8]
        exact k
theorem c62_2 (P : Program) {G : Nat → Option (List AV)} {H : Heap} {K : Kv} {q : Int} (hok : okR q) (k : K.ap (.bool (!unsP 2 q)) H) : @xF ⟨G, P, [(51, c51)]⟩ f62 [.int .i64 2, .int .i32 q] H K := by
  have hq0 := hok.1
  rcases (by omega : q < 32 ∨ (¬ q < 32 ∧ q = 127) ∨ (¬ q < 32 ∧ ¬ q = 127)) with d1 | ⟨d1, d2⟩ | ⟨d1, d2⟩
  · have k2 : K.ap (.bool (!(!letP q && decide (q ≠ 37) && !hasR unS q))) H := k
    rw [unS_eq] at k2
    by_cases z : q = 37
    · rw [decide_eq_false (p := q ≠ 37) (by simpa using z), Bool.and_false, Bool.false_and] at k2
      have z' := eq_true z
      simp (implicitDefEqProofs := false) only [sB, simprocAttr, f62, d1, z']
      exact k2
    rw [decide_eq_true (p := q ≠ 37) z, Bool.and_true] at k2
    by_cases hl : letP q = true
    · rw [hl] at k2
      unfold letP at hl
      have hl := of_decide_eq_true hl
      by_cases a1 : 65 ≤ q <;> by_cases a2 : q ≤ 90 <;> by_cases a3 : 97 ≤ q <;> by_cases a4 : q ≤ 122 <;> by_cases a5 : 48 ≤ q <;> by_cases a6 : q ≤ 57 <;>
        first
          | (exfalso; omega)
          | (simp (implicitDefEqProofs := false) only [sB, simprocAttr, f62, d1, z, a1, a2, a3, a4, a5, a6]; exact k2)
    · have hl0 : letP q = false := by simpa using hl
      rw [hl0] at k2
      unfold letP at hl0
      have hl2 := of_decide_eq_false hl0
      by_cases z1 : q = 45
      · rw [decide_eq_true (by omega)] at k2
        subst z1; simp (implicitDefEqProofs := false) only [sB, simprocAttr, f62]; exact k2
      by_cases z2 : q = 46
      · rw [decide_eq_true (by omega)] at k2
        subst z2; simp (implicitDefEqProofs := false) only [sB, simprocAttr, f62]; exact k2
      by_cases z3 : q = 95
      · rw [decide_eq_true (by omega)] at k2
        subst z3; simp (implicitDefEqProofs := false) only [sB, simprocAttr, f62]; exact k2
      by_cases z4 : q = 126
      · rw [decide_eq_true (by omega)] at k2
        subst z4; simp (implicitDefEqProofs := false) only [sB, simprocAttr, f62]; exact k2
      rw [decide_eq_false (by omega)] at k2
      by_cases a1 : 65 ≤ q <;> by_cases a2 : q ≤ 90 <;> by_cases a3 : 97 ≤ q <;> by_cases a4 : q ≤ 122 <;> by_cases a5 : 48 ≤ q <;> by_cases a6 : q ≤ 57 <;>
        first
          | (exfalso; omega)
          | (simp (implicitDefEqProofs := false) only [sB, simprocAttr, f62, d1, z, a1, a2, a3, a4, a5, a6, z1, z2, z3, z4]; exact k2)
  · have d2' := eq_true d2
    have k2 : K.ap (.bool (!(!letP q && decide (q ≠ 37) && !hasR unS q))) H := k
    rw [unS_eq] at k2
    by_cases z : q = 37
    · rw [decide_eq_false (p := q ≠ 37) (by simpa using z), Bool.and_false, Bool.false_and] at k2
      have z' := eq_true z
      simp (implicitDefEqProofs := false) only [sB, simprocAttr, f62, d1, d2', z']
      exact k2
    rw [decide_eq_true (p := q ≠ 37) z, Bool.and_true] at k2
    by_cases hl : letP q = true
    · rw [hl] at k2
      unfold letP at hl
      have hl := of_decide_eq_true hl
      by_cases a1 : 65 ≤ q <;> by_cases a2 : q ≤ 90 <;> by_cases a3 : 97 ≤ q <;> by_cases a4 : q ≤ 122 <;> by_cases a5 : 48 ≤ q <;> by_cases a6 : q ≤ 57 <;>
        first
          | (exfalso; omega)
          | (simp (implicitDefEqProofs := false) only [sB, simprocAttr, f62, d1, d2', z, a1, a2, a3, a4, a5, a6]; exact k2)
    · have hl0 : letP q = false := by simpa using hl
      rw [hl0] at k2
      unfold letP at hl0
      have hl2 := of_decide_eq_false hl0
      by_cases z1 : q = 45
      · rw [decide_eq_true (by omega)] at k2
        subst z1; simp (implicitDefEqProofs := false) only [sB, simprocAttr, f62]; exact k2
      by_cases z2 : q = 46
      · rw [decide_eq_true (by omega)] at k2
        subst z2; simp (implicitDefEqProofs := false) only [sB, simprocAttr, f62]; exact k2
      by_cases z3 : q = 95
      · rw [decide_eq_true (by omega)] at k2
        subst z3; simp (implicitDefEqProofs := false) only [sB, simprocAttr, f62]; exact k2
      by_cases z4 : q = 126
      · rw [decide_eq_true (by omega)] at k2
        subst z4; simp (implicitDefEqProofs := false) only [sB, simprocAttr, f62]; exact k2
      rw [decide_eq_false (by omega)] at k2
      by_cases a1 : 65 ≤ q <;> by_cases a2 : q ≤ 90 <;> by_cases a3 : 97 ≤ q <;> by_cases a4 : q ≤ 122 <;> by_cases a5 : 48 ≤ q <;> by_cases a6 : q ≤ 57 <;>
        first
          | (exfalso; omega)
          | (simp (implicitDefEqProofs := false) only [sB, simprocAttr, f62, d1, d2', z, a1, a2, a3, a4, a5, a6, z1, z2, z3, z4]; exact k2)
  · have k2 : K.ap (.bool (!(!letP q && decide (q ≠ 37) && !hasR unS q))) H := k
    rw [unS_eq] at k2
    by_cases z : q = 37
    · rw [decide_eq_false (p := q ≠ 37) (by simpa using z), Bool.and_false, Bool.false_and] at k2
      have z' := eq_true z
      simp (implicitDefEqProofs := false) only [sB, simprocAttr, f62, d1, d2, z']
      exact k2
    rw [decide_eq_true (p := q ≠ 37) z, Bool.and_true] at k2
    by_cases hl : letP q = true
    · rw [hl] at k2
      unfold letP at hl
      have hl := of_decide_eq_true hl
      by_cases a1 : 65 ≤ q <;> by_cases a2 : q ≤ 90 <;> by_cases a3 : 97 ≤ q <;> by_cases a4 : q ≤ 122 <;> by_cases a5 : 48 ≤ q <;> by_cases a6 : q ≤ 57 <;>
        first
          | (exfalso; omega)
          | (simp (implicitDefEqProofs := false) only [sB, simprocAttr, f62, d1, d2, z, a1, a2, a3, a4, a5, a6]; exact k2)
    · have hl0 : letP q = false := by simpa using hl
      rw [hl0] at k2
      unfold letP at hl0
      have hl2 := of_decide_eq_false hl0
      by_cases z1 : q = 45
      · rw [decide_eq_true (by omega)] at k2
        subst z1; simp (implicitDefEqProofs := false) only [sB, simprocAttr, f62]; exact k2
      by_cases z2 : q = 46
      · rw [decide_eq_true (by omega)] at k2
        subst z2; simp (implicitDefEqProofs := false) only [sB, simprocAttr, f62]; exact k2
      by_cases z3 : q = 95
      · rw [decide_eq_true (by omega)] at k2
        subst z3; simp (implicitDefEqProofs := false) only [sB, simprocAttr, f62]; exact k2
      by_cases z4 : q = 126
      · rw [decide_eq_true (by omega)] at k2
        subst z4; simp (implicitDefEqProofs := false) only [sB, simprocAttr, f62]; exact k2
      rw [decide_eq_false (by omega)] at k2
      by_cases a1 : 65 ≤ q <;> by_cases a2 : q ≤ 90 <;> by_cases a3 : 97 ≤ q <;> by_cases a4 : q ≤ 122 <;> by_cases a5 : 48 ≤ q <;> by_cases a6 : q ≤ 57 <;>
        first
          | (exfalso; omega)
          | (simp (implicitDefEqProofs := false) only [sB, simprocAttr, f62, d1, d2, z, a1, a2, a3, a4, a5, a6, z1, z2, z3, z4]; exact k2)
theorem c62_3 (P : Program) {G : Nat → Option (List AV)} {H : Heap} {K : Kv} {q : Int} (hok : okR q) (k : K.ap (.bool (!unsP 3 q)) H) : @xF ⟨G, P, [(51, c51)]⟩ f62 [.int .i64 3, .int .i32 q] H K := by
  have hq0 := hok.1
  rcases (by omega : q < 32 ∨ (¬ q < 32 ∧ q = 127) ∨ (¬ q < 32 ∧ ¬ q = 127)) with d1 | ⟨d1, d2⟩ | ⟨d1, d2⟩
  · have k2 : K.ap (.bool (!(ctlP q || sepP q || (decide (q ≠ 92) && hasR jsS q)))) H := k
    rw [← js9_eq] at k2
    rw [show ctlP q = true by unfold ctlP; rw [decide_eq_true_iff]; omega] at k2
    simp (implicitDefEqProofs := false) only [sB, simprocAttr, f62, d1]
    exact k2
  · have d2' := eq_true d2
    have k2 : K.ap (.bool (!(ctlP q || sepP q || (decide (q ≠ 92) && hasR jsS q)))) H := k
    rw [← js9_eq] at k2
    rw [show ctlP q = true by unfold ctlP; rw [decide_eq_true_iff]; omega] at k2
    simp (implicitDefEqProofs := false) only [sB, simprocAttr, f62, d1, d2']
    exact k2
  · have k2 : K.ap (.bool (!(ctlP q || sepP q || (decide (q ≠ 92) && hasR jsS q)))) H := k
    rw [← js9_eq] at k2
    rw [show ctlP q = false by unfold ctlP; rw [decide_eq_false_iff_not]; omega] at k2
    by_cases s1 : q = 8232
    · rw [show sepP q = true by unfold sepP; rw [decide_eq_true_iff]; omega] at k2
      have s1' := eq_true s1
      simp (implicitDefEqProofs := false) only [sB, simprocAttr, f62, d1, d2, s1']
      exact k2
    by_cases s2 : q = 8233
    · rw [show sepP q = true by unfold sepP; rw [decide_eq_true_iff]; omega] at k2
      have s2' := eq_true s2
      simp (implicitDefEqProofs := false) only [sB, simprocAttr, f62, d1, d2, s1, s2']
      exact k2
    rw [show sepP q = false by unfold sepP; rw [decide_eq_false_iff_not]; omega] at k2
    by_cases l8 : q < 128
    · simp (implicitDefEqProofs := false) only [sB, simprocAttr, f62, d1, d2, s1, s2, l8]
      refine ⟨js9, q, rfl, by decide, by decide, ?_⟩
      cases hh : hasR js9 q <;> (rw [hh] at k2; simp (implicitDefEqProofs := false) only [sB, simprocAttr]; exact k2)
    · rw [hasR_no l8] at k2
      simp (implicitDefEqProofs := false) only [sB, simprocAttr, f62, d1, d2, s1, s2, l8]
      exact k2
theorem c62_4 (P : Program) {G : Nat → Option (List AV)} {H : Heap} {K : Kv} {q : Int} (hok : okR q) (k : K.ap (.bool (!unsP 4 q)) H) : @xF ⟨G, P, [(51, c51)]⟩ f62 [.int .i64 4, .int .i32 q] H K := by
  have hq0 := hok.1
  rcases (by omega : q < 32 ∨ (¬ q < 32 ∧ q = 127) ∨ (¬ q < 32 ∧ ¬ q = 127)) with d1 | ⟨d1, d2⟩ | ⟨d1, d2⟩
  · have k2 : K.ap (.bool (!(ctlP q || (decide (q ≠ 92) && hasR csS q)))) H := k
    rw [← cs9_eq] at k2
    rw [show ctlP q = true by unfold ctlP; rw [decide_eq_true_iff]; omega] at k2
    simp (implicitDefEqProofs := false) only [sB, simprocAttr, f62, d1]
    exact k2
  · have d2' := eq_true d2
    have k2 : K.ap (.bool (!(ctlP q || (decide (q ≠ 92) && hasR csS q)))) H := k
    rw [← cs9_eq] at k2
    rw [show ctlP q = true by unfold ctlP; rw [decide_eq_true_iff]; omega] at k2
    simp (implicitDefEqProofs := false) only [sB, simprocAttr, f62, d1, d2']
    exact k2
  · have k2 : K.ap (.bool (!(ctlP q || (decide (q ≠ 92) && hasR csS q)))) H := k
    rw [← cs9_eq] at k2
    rw [show ctlP q = false by unfold ctlP; rw [decide_eq_false_iff_not]; omega] at k2
    by_cases l8 : q < 128
    · simp (implicitDefEqProofs := false) only [sB, simprocAttr, f62, d1, d2, l8]
      refine ⟨cs9, q, rfl, by decide, by decide, ?_⟩
      cases hh : hasR cs9 q <;> (rw [hh] at k2; simp (implicitDefEqProofs := false) only [sB, simprocAttr]; exact k2)
    · rw [hasR_no l8] at k2
      simp (implicitDefEqProofs := false) only [sB, simprocAttr, f62, d1, d2, l8]
      exact k2
theorem c62_of (P : Program) {G : Nat → Option (List AV)} {xs : List AV} {H : Heap} {K : Kv} (h : c62 xs H K) : @xF ⟨G, P, [(51, c51)]⟩ f62 xs H K := by
  obtain ⟨e, q, rfl, hok, h0, h4, k⟩ := h
  rcases (by omega : e = 0 ∨ e = 1 ∨ e = 2 ∨ e = 3 ∨ e = 4) with rfl | rfl | rfl | rfl | rfl
  · exact c62_0 P hok k
  · exact c62_1 P hok k
  · exact c62_2 P hok k
  · exact c62_3 P hok k
  · exact c62_4 P hok k
/-- The closure. -/
def c59 (xs : List AV) (H : Heap) (K : Kv) : Prop := ∃ (e q : Int) (b : Nat), xs = [.int .i32 q, .ptr b 0] ∧ lookH b H = some (.cells [.int .i64 e]) ∧ okR q ∧ 0 ≤ e ∧ e ≤ 4 ∧ K.ap (.bool (unsP e q)) H
theorem c59_of (P : Program) {G : Nat → Option (List AV)} {xs : List AV} {H : Heap} {K : Kv} (h : c59 xs H K) : @xF ⟨G, P, [(60, c60)]⟩ f59 xs H K := by
  obtain ⟨e, q, b, rfl, hb, hok, h0, h4, k⟩ := h
  simp (implicitDefEqProofs := false) only [sB, simprocAttr, f59, hb]
  refine ⟨e, q, rfl, hok, h0, h4, ?_⟩
  simp (implicitDefEqProofs := false) only [sB, simprocAttr]
  exact k
def anyU (e : Int) (s : List UInt8) : Bool := (decP s).any (unsP e)
def c107 (xs : List AV) (H : Heap) (K : Kv) : Prop := ∃ (e : Int) (s : List UInt8) (b : Nat), xs = [.str s, .fn (.func 59) [] [.ptr b 0], .bool true] ∧ lookH b H = some (.cells [.int .i64 e]) ∧ 0 ≤ e ∧ e ≤ 4 ∧ s.length ≤ 1099511627776 ∧ ∀ n : Int, decide (0 ≤ n) = anyU e s → K.ap (.int .i64 n) H
theorem c107_of (P : Program) {G : Nat → Option (List AV)} {xs : List AV} {H : Heap} {K : Kv} (h : c107 xs H K) : @xF ⟨G, P, [(59, c59)]⟩ f107 xs H ⟨fun v H' => ∃ H0, Hle H0 H' ∧ K.ap v H0⟩ := by
  obtain ⟨e, s, b, rfl, hb, h0, h4, hl, k⟩ := h
  simp (implicitDefEqProofs := false) only [sB, simprocAttr, f107]
  refine i_new fun it hit => ?_
  simp (implicitDefEqProofs := false) only [sB, simprocAttr]
  have hbi : ¬ b = it := key_ne hb hit
  have hbi' : ¬ it = b := fun e => hbi e.symm
  refine i_loopJ (fun σ H1 => ∃ (i : Nat), H1 = (it, .iter s i) :: H ∧ i ≤ s.length ∧ anyU e (s.drop i) = anyU e s ∧ σ = [(1, .fn (.func 59) [] [.ptr b 0]), (2, .bool true), (10, .ptr it 0)])
    (fun _ H1 => match lookH it H1 with | some (.iter _ i) => s.length - i | _ => 0)
    (fun ex σ H1 => Hle H H1 ∧ ((ex = .exit 0 ∧ anyU e s = false) ∨ (ex = .ret ∧ anyU e s = true ∧ ∃ n : Nat, σ.get 6 = .int .i64 n)))
    ⟨_, .refl _, 0, rfl, by omega, rfl, rfl⟩ ?_ ?_
  · rintro ex σ H1 ⟨hle, ⟨rfl, ha⟩ | ⟨rfl, ha, n, h6⟩⟩
    · simp (implicitDefEqProofs := false) only [sB, simprocAttr]
      exact ⟨_, hle, k _ (by rw [ha]; rfl)⟩
    · simp (implicitDefEqProofs := false) only [sB, simprocAttr, h6]
      exact ⟨_, hle, k _ (by rw [ha, decide_eq_true]; omega)⟩
  · rintro Q hQ σ H1 ⟨i, rfl, hi, ha, rfl⟩
    by_cases ci : i < s.length
    · have hu := utf8_dec ci
      have hne : s.drop i ≠ [] := by rw [← List.length_pos_iff, List.length_drop]; omega
      have d1 := dec1_pos (s.drop i)
      have d2 := dec1_le hne
      have hok := dec1_ok (s.drop i)
      have hst : anyU e (s.drop i) = (unsP e (dec1 (s.drop i)).1 || anyU e (s.drop (i + (dec1 (s.drop i)).2))) := by
        unfold anyU; rw [decP_step hne, List.any_cons, List.drop_drop]
      rw [List.length_drop] at d2
      simp (implicitDefEqProofs := false) only [sB, simprocAttr, ci, hu.1, hu.2]
      generalize dec1 (s.drop i) = d at *
      obtain ⟨r, k2⟩ := d
      simp only at d1 d2 hst hok
      refine ⟨e, r, b, rfl, by simp [lookH, hbi, hbi', hb], hok, h0, h4, ?_⟩
      cases hr : unsP e r with
      | true =>
        rw [hr, Bool.true_or] at hst
        simp (implicitDefEqProofs := false) only [sB, simprocAttr]
        exact hQ _ _ _ ⟨.tail _ _, .inr ⟨rfl, by rw [← ha]; exact hst, i, rfl⟩⟩
      | false =>
        rw [hr, Bool.false_or] at hst
        simp (implicitDefEqProofs := false) only [sB, simprocAttr]
        refine ⟨_, .refl _, ⟨i + k2, rfl, by omega, by rw [← hst]; exact ha⟩, ?_⟩
        simp [lookH]; omega
    · simp (implicitDefEqProofs := false) only [sB, simprocAttr, ci]
      rw [List.drop_of_length_le (by omega)] at ha
      exact hQ _ _ _ ⟨.tail _ _, .inl ⟨rfl, by rw [← ha]; rfl⟩⟩
def c86 (xs : List AV) (H : Heap) (K : Kv) : Prop := ∃ (e : Int) (s : List UInt8) (b : Nat), xs = [.str s, .fn (.func 59) [] [.ptr b 0]] ∧ lookH b H = some (.cells [.int .i64 e]) ∧ 0 ≤ e ∧ e ≤ 4 ∧ s.length ≤ 1099511627776 ∧ ∀ n : Int, decide (0 ≤ n) = anyU e s → K.ap (.int .i64 n) H
theorem c86_of (P : Program) {G : Nat → Option (List AV)} {xs : List AV} {H : Heap} {K : Kv} (h : c86 xs H K) : @xF ⟨G, P, [(107, c107)]⟩ f86 xs H K := by
  obtain ⟨e, s, b, rfl, hb, h0, h4, hl, k⟩ := h
  simp (implicitDefEqProofs := false) only [sB, simprocAttr, f86]
  refine ⟨e, s, b, rfl, hb, h0, h4, hl, fun n hn => ?_⟩
  simp (implicitDefEqProofs := false) only [sB, simprocAttr]
  exact k n hn
def c58 (xs : List AV) (H : Heap) (K : Kv) : Prop := ∃ (e : Int) (s : List UInt8) (b : Nat), xs = [.str s, .fn (.func 59) [] [.ptr b 0]] ∧ lookH b H = some (.cells [.int .i64 e]) ∧ 0 ≤ e ∧ e ≤ 4 ∧ s.length ≤ 1099511627776 ∧ K.ap (.bool (anyU e s)) H
theorem c58_of (P : Program) {G : Nat → Option (List AV)} {xs : List AV} {H : Heap} {K : Kv} (h : c58 xs H K) : @xF ⟨G, P, [(86, c86)]⟩ f58 xs H K := by
  obtain ⟨e, s, b, rfl, hb, h0, h4, hl, k⟩ := h
  simp (implicitDefEqProofs := false) only [sB, simprocAttr, f58]
  refine ⟨e, s, b, rfl, hb, h0, h4, hl, fun n hn => ?_⟩
  simp (implicitDefEqProofs := false) only [sB, simprocAttr]
  rw [hn]; exact k
theorem safe_any (e : Int) (s : List UInt8) : ((decP s).all fun q => !unsP e q) = !anyU e s := by
  unfold anyU
  induction decP s with
  | nil => rfl
  | cons r l ih => rw [List.all_cons, List.any_cons, ih, Bool.not_or]
def c21 (xs : List AV) (H : Heap) (K : Kv) : Prop := ∃ (e : Int) (s : List UInt8), xs = [.int .i64 e, .str s] ∧ s.length ≤ 1099511627776 ∧ K.ap (.bool (safeS e s)) H
theorem c21_of (P : Program) {G : Nat → Option (List AV)} {xs : List AV} {H : Heap} {K : Kv} (h : c21 xs H K) : @xF ⟨G, P, [(53, c53), (19, c19), (58, c58)]⟩ f21 xs H ⟨fun v H' => ∃ H0, Hle H0 H' ∧ K.ap v H0⟩ := by
  obtain ⟨e, s, rfl, hl, k⟩ := h
  unfold safeS at k
  rw [safe_any] at k
  simp (implicitDefEqProofs := false) only [sB, simprocAttr, f21]
  refine i_new fun b hb => ?_
  simp (implicitDefEqProofs := false) only [sB, simprocAttr]
  refine ⟨e, rfl, fun h0 h4 => ?_, fun hr => ?_⟩
  · rw [decide_eq_true ⟨h0, h4⟩, Bool.true_and] at k
    simp (implicitDefEqProofs := false) only [sB, simprocAttr]
    refine ⟨s, rfl, hl, ?_⟩
    cases hv : validP s with
    | false =>
      rw [hv] at k
      simp (implicitDefEqProofs := false) only [sB, simprocAttr]
      exact ⟨_, .tail _ _, k⟩
    | true =>
      rw [hv, Bool.true_and] at k
      simp (implicitDefEqProofs := false) only [sB, simprocAttr]
      refine ⟨e, s, b, rfl, by simp [lookH], h0, h4, hl, ?_⟩
      simp (implicitDefEqProofs := false) only [sB, simprocAttr]
      exact ⟨_, .tail _ _, k⟩
  · rw [decide_eq_false (by omega)] at k
    simp (implicitDefEqProofs := false) only [sB, simprocAttr]
    exact ⟨_, .tail _ _, k⟩
def c22 (xs : List AV) (H : Heap) (K : Kv) : Prop := ∃ (e : Int) (s : List UInt8), xs = [.int .i64 e, .str s] ∧ s.length ≤ 1000000 ∧ H.keys.Nodup ∧ K.ap (.bool (safeS e s)) H
theorem c22_of (P : Program) {G : Nat → Option (List AV)} {xs : List AV} {H : Heap} {K : Kv} (h : c22 xs H K) : @xF ⟨G, P, [(61, c61), (57, c57), (62, c62)]⟩ f22 xs H ⟨fun v H' => ∃ H0, Hle H0 H' ∧ K.ap v H0⟩ := by
  obtain ⟨e, s, rfl, hl, hn, k⟩ := h
  unfold safeS at k
  by_cases h0 : e < 0
  · rw [decide_eq_false (by omega)] at k
    simp (implicitDefEqProofs := false) only [sB, simprocAttr, f22, h0]
    exact ⟨_, .refl _, k⟩
  by_cases h4 : 4 < e
  · rw [decide_eq_false (by omega)] at k
    simp (implicitDefEqProofs := false) only [sB, simprocAttr, f22, h0, h4]
    exact ⟨_, .refl _, k⟩
  rw [decide_eq_true ⟨by omega, by omega⟩, Bool.true_and] at k
  simp (implicitDefEqProofs := false) only [sB, simprocAttr, f22, h0, h4]
  refine ⟨s, rfl, by omega, ?_⟩
  cases hv : validP s with
  | false =>
    rw [hv] at k
    simp (implicitDefEqProofs := false) only [sB, simprocAttr]
    exact ⟨_, .refl _, k⟩
  | true =>
    rw [hv, Bool.true_and] at k
    simp (implicitDefEqProofs := false) only [sB, simprocAttr]
    refine x_c57 hn (by omega) _ ?_
    have hdl := decP_len _ s (Nat.le_refl _)
    have hdo := decP_ok _ s (Nat.le_refl _)
    generalize decP s = l at *
    simp (implicitDefEqProofs := false) only [sB, simprocAttr, i32_len]
    refine i_loopJ (fun σ H1 => ∃ (i : Nat), H1 = H ∧ i ≤ l.length ∧ ((l.drop i).all fun q => !unsP e q) = (l.all fun q => !unsP e q) ∧ σ = [(0, .int .i64 e), (5, .sl (i32AV l) (tokc l)), (6, .int .i64 i)])
      (fun σ _ => match σ.get 6 with | .int _ n => l.length - n.toNat | _ => 0)
      (fun ex σ H1 => Hle H H1 ∧ ((ex = .exit 0 ∧ (l.all fun q => !unsP e q) = true) ∨ (ex = .ret ∧ (l.all fun q => !unsP e q) = false ∧ σ.get 4 = .bool false)))
      ⟨_, .refl _, 0, rfl, by omega, rfl, rfl⟩ ?_ ?_
    · rintro ex σ H1 ⟨h1, ⟨rfl, ha⟩ | ⟨rfl, ha, h4⟩⟩
      · rw [ha] at k
        simp (implicitDefEqProofs := false) only [sB, simprocAttr]
        exact ⟨H, h1, k⟩
      · rw [ha] at k
        simp (implicitDefEqProofs := false) only [sB, simprocAttr, h4]
        exact ⟨H, h1, k⟩
    · rintro Q hQ σ H1 ⟨i, rfl, hi, ha, rfl⟩
      by_cases ci : i < l.length
      · have ci' : (i : Int) < (l.length : Int) := by omega
        have i0 : (0 : Int) ≤ (i : Int) := by omega
        have hgi : l[i]? = some l[i] := List.getElem?_eq_getElem ci
        have r9 := w_i64 ((i : Int) + 1) (by omega) (by omega)
        have hok := hdo l[i] (List.getElem_mem ci)
        have hst : ((l.drop i).all fun q => !unsP e q) = (!unsP e l[i] && ((l.drop (i + 1)).all fun q => !unsP e q)) := by rw [List.drop_eq_getElem_cons ci, List.all_cons]
        generalize l[i] = r at *
        simp (implicitDefEqProofs := false) only [sB, simprocAttr, i32_len, ci', i0, i32_get, hgi, Option.map_some]
        refine ⟨e, r, rfl, hok, by omega, by omega, ?_⟩
        cases hr : unsP e r with
        | true =>
          rw [hr] at hst
          simp (implicitDefEqProofs := false) only [sB, simprocAttr]
          exact hQ _ _ _ ⟨.refl _, .inr ⟨rfl, by rw [← ha]; exact hst, rfl⟩⟩
        | false =>
          rw [hr] at hst
          simp (implicitDefEqProofs := false) only [sB, simprocAttr, r9]
          exact ⟨_, .refl _, ⟨i + 1, rfl, by omega, by rw [← ha, hst]; rfl, by simp⟩, by omega⟩
      · have ci' : ¬ (i : Int) < (l.length : Int) := by omega
        simp (implicitDefEqProofs := false) only [sB, simprocAttr, i32_len, ci']
        rw [List.drop_of_length_le (by omega)] at ha
        exact hQ _ _ _ ⟨.refl _, .inl ⟨rfl, by rw [← ha]; rfl⟩⟩
end Go.AL.Fun
