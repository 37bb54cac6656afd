/- Values: what belongs to a kind. -/
import Derived.Test.YtpeaphpibnikcaaV3
set_option linter.unusedSimpArgs false
set_option linter.unusedVariables false
set_option maxRecDepth 100000
set_option maxHeartbeats 4000000
namespace Go.AL.Fun
open Go Go.AL

theorem Val.avs_len (l : List Val) : (Val.avs l).length = l.length := by rw [Val.avs_map, List.length_map]
theorem Val.fvs_len (l : List Fld) : (Val.fvs l).length = l.length := by rw [Val.fvs_map, List.length_map]
theorem len_dec {α : Type} (l : List α) : ((l.length : Int) = 0 ∧ l = []) ∨ (¬ (l.length : Int) = 0 ∧ ¬ l = []) := by
  cases l with
  | nil => exact .inl ⟨rfl, rfl⟩
  | cons a l => exact .inr ⟨by simp only [List.length_cons]; omega, by simp⟩
def ownV (k : Int) (s : List UInt8) (n : Int) (b : Bool) (is : List Val) (fs : List Fld) : Bool :=
  decide ((s = [] ∨ k = 0) ∧ (n = 0 ∨ k = 1) ∧ (b = false ∨ k = 2) ∧ ((is.length : Int) = 0 ∨ k = 3) ∧ ((fs.length : Int) = 0 ∨ k = 4))
def c33 (xs : List AV) (H : Heap) (K : Kv) : Prop := ∃ (k : Int) (s : List UInt8) (n : Int) (b : Bool) (it : Tok) (is : List Val) (ft : Tok) (fs : List Fld), xs = [.agg [.int .i64 k, .str s, .int .i64 n, .bool b, .sl (Val.avs is) it, .sl (Val.fvs fs) ft]] ∧ K.ap (.bool (ownV k s n b is fs)) H
theorem c33_of (P : Program) {xs : List AV} {H : Heap} {K : Kv} (h : c33 xs H K) : @xF (t0 P) f33 xs H ⟨fun v H' => ∃ H0, Hle H0 H' ∧ K.ap v H0⟩ := by
  obtain ⟨k, s, n, b, it, is, ft, fs, rfl, h⟩ := h
  simp (implicitDefEqProofs := false) only [sB, simprocAttr, f33, Val.avs_len, Val.fvs_len]
  refine i_new fun p hp => ?_
  have hl : ∀ x : Nat × AObj, Hle H (x :: H) := fun x => .tail x H
  by_cases k0 : k = 0
  · by_cases z1 : n = 0
    · by_cases z2 : b = false
      · rcases len_dec is with ⟨z3, y3⟩ | ⟨z3, y3⟩
        · rcases len_dec fs with ⟨z4, y4⟩ | ⟨z4, y4⟩
          · simp (implicitDefEqProofs := false) only [sB, simprocAttr, k0, z1, z2, z3, z4, Val.avs_len, Val.fvs_len]
            exact ⟨H, hl _, by simpa [ownV, k0, z1, z2, z3, y3, z4, y4] using h⟩
          · simp (implicitDefEqProofs := false) only [sB, simprocAttr, k0, z1, z2, z3, z4, Val.avs_len, Val.fvs_len]
            exact ⟨H, hl _, by simpa [ownV, k0, z1, z2, z3, y3, z4, y4] using h⟩
        · simp (implicitDefEqProofs := false) only [sB, simprocAttr, k0, z1, z2, z3, Val.avs_len, Val.fvs_len]
          exact ⟨H, hl _, by simpa [ownV, k0, z1, z2, z3, y3] using h⟩
      · simp (implicitDefEqProofs := false) only [sB, simprocAttr, k0, z1, z2, Val.avs_len, Val.fvs_len]
        exact ⟨H, hl _, by simpa [ownV, k0, z1, z2] using h⟩
    · simp (implicitDefEqProofs := false) only [sB, simprocAttr, k0, z1, Val.avs_len, Val.fvs_len]
      exact ⟨H, hl _, by simpa [ownV, k0, z1] using h⟩
  · skip
    by_cases k1 : k = 1
    · by_cases z0 : s = []
      · by_cases z2 : b = false
        · rcases len_dec is with ⟨z3, y3⟩ | ⟨z3, y3⟩
          · rcases len_dec fs with ⟨z4, y4⟩ | ⟨z4, y4⟩
            · simp (implicitDefEqProofs := false) only [sB, simprocAttr, k1, z0, z2, z3, z4, Val.avs_len, Val.fvs_len]
              exact ⟨H, hl _, by simpa [ownV, k1, z0, z2, z3, y3, z4, y4] using h⟩
            · simp (implicitDefEqProofs := false) only [sB, simprocAttr, k1, z0, z2, z3, z4, Val.avs_len, Val.fvs_len]
              exact ⟨H, hl _, by simpa [ownV, k1, z0, z2, z3, y3, z4, y4] using h⟩
          · simp (implicitDefEqProofs := false) only [sB, simprocAttr, k1, z0, z2, z3, Val.avs_len, Val.fvs_len]
            exact ⟨H, hl _, by simpa [ownV, k1, z0, z2, z3, y3] using h⟩
        · simp (implicitDefEqProofs := false) only [sB, simprocAttr, k1, z0, z2, Val.avs_len, Val.fvs_len]
          exact ⟨H, hl _, by simpa [ownV, k1, z0, z2] using h⟩
      · simp (implicitDefEqProofs := false) only [sB, simprocAttr, k1, z0, Val.avs_len, Val.fvs_len]
        exact ⟨H, hl _, by simpa [ownV, k1, z0] using h⟩
    · skip
      by_cases k2 : k = 2
      · by_cases z0 : s = []
        · by_cases z1 : n = 0
          · rcases len_dec is with ⟨z3, y3⟩ | ⟨z3, y3⟩
            · rcases len_dec fs with ⟨z4, y4⟩ | ⟨z4, y4⟩
              · simp (implicitDefEqProofs := false) only [sB, simprocAttr, k2, z0, z1, z3, z4, Val.avs_len, Val.fvs_len]
                exact ⟨H, hl _, by simpa [ownV, k2, z0, z1, z3, y3, z4, y4] using h⟩
              · simp (implicitDefEqProofs := false) only [sB, simprocAttr, k2, z0, z1, z3, z4, Val.avs_len, Val.fvs_len]
                exact ⟨H, hl _, by simpa [ownV, k2, z0, z1, z3, y3, z4, y4] using h⟩
            · simp (implicitDefEqProofs := false) only [sB, simprocAttr, k2, z0, z1, z3, Val.avs_len, Val.fvs_len]
              exact ⟨H, hl _, by simpa [ownV, k2, z0, z1, z3, y3] using h⟩
          · simp (implicitDefEqProofs := false) only [sB, simprocAttr, k2, z0, z1, Val.avs_len, Val.fvs_len]
            exact ⟨H, hl _, by simpa [ownV, k2, z0, z1] using h⟩
        · simp (implicitDefEqProofs := false) only [sB, simprocAttr, k2, z0, Val.avs_len, Val.fvs_len]
          exact ⟨H, hl _, by simpa [ownV, k2, z0] using h⟩
      · skip
        by_cases k3 : k = 3
        · by_cases z0 : s = []
          · by_cases z1 : n = 0
            · by_cases z2 : b = false
              · rcases len_dec fs with ⟨z4, y4⟩ | ⟨z4, y4⟩
                · simp (implicitDefEqProofs := false) only [sB, simprocAttr, k3, z0, z1, z2, z4, Val.avs_len, Val.fvs_len]
                  exact ⟨H, hl _, by simpa [ownV, k3, z0, z1, z2, z4, y4] using h⟩
                · simp (implicitDefEqProofs := false) only [sB, simprocAttr, k3, z0, z1, z2, z4, Val.avs_len, Val.fvs_len]
                  exact ⟨H, hl _, by simpa [ownV, k3, z0, z1, z2, z4, y4] using h⟩
              · simp (implicitDefEqProofs := false) only [sB, simprocAttr, k3, z0, z1, z2, Val.avs_len, Val.fvs_len]
                exact ⟨H, hl _, by simpa [ownV, k3, z0, z1, z2] using h⟩
            · simp (implicitDefEqProofs := false) only [sB, simprocAttr, k3, z0, z1, Val.avs_len, Val.fvs_len]
              exact ⟨H, hl _, by simpa [ownV, k3, z0, z1] using h⟩
          · simp (implicitDefEqProofs := false) only [sB, simprocAttr, k3, z0, Val.avs_len, Val.fvs_len]
            exact ⟨H, hl _, by simpa [ownV, k3, z0] using h⟩
        · skip
          by_cases k4 : k = 4
          · by_cases z0 : s = []
            · by_cases z1 : n = 0
              · by_cases z2 : b = false
                · rcases len_dec is with ⟨z3, y3⟩ | ⟨z3, y3⟩
                  · simp (implicitDefEqProofs := false) only [sB, simprocAttr, k4, z0, z1, z2, z3, Val.avs_len, Val.fvs_len]
                    exact ⟨H, hl _, by simpa [ownV, k4, z0, z1, z2, z3, y3] using h⟩
                  · simp (implicitDefEqProofs := false) only [sB, simprocAttr, k4, z0, z1, z2, z3, Val.avs_len, Val.fvs_len]
                    exact ⟨H, hl _, by simpa [ownV, k4, z0, z1, z2, z3, y3] using h⟩
                · simp (implicitDefEqProofs := false) only [sB, simprocAttr, k4, z0, z1, z2, Val.avs_len, Val.fvs_len]
                  exact ⟨H, hl _, by simpa [ownV, k4, z0, z1, z2] using h⟩
              · simp (implicitDefEqProofs := false) only [sB, simprocAttr, k4, z0, z1, Val.avs_len, Val.fvs_len]
                exact ⟨H, hl _, by simpa [ownV, k4, z0, z1] using h⟩
            · simp (implicitDefEqProofs := false) only [sB, simprocAttr, k4, z0, Val.avs_len, Val.fvs_len]
              exact ⟨H, hl _, by simpa [ownV, k4, z0] using h⟩
          · by_cases z0 : s = []
            · by_cases z1 : n = 0
              · by_cases z2 : b = false
                · rcases len_dec is with ⟨z3, y3⟩ | ⟨z3, y3⟩
                  · rcases len_dec fs with ⟨z4, y4⟩ | ⟨z4, y4⟩
                    · simp (implicitDefEqProofs := false) only [sB, simprocAttr, k0, k1, k2, k3, k4, z0, z1, z2, z3, z4, Val.avs_len, Val.fvs_len]
                      exact ⟨H, hl _, by simpa [ownV, k0, k1, k2, k3, k4, z0, z1, z2, z3, y3, z4, y4] using h⟩
                    · simp (implicitDefEqProofs := false) only [sB, simprocAttr, k0, k1, k2, k3, k4, z0, z1, z2, z3, z4, Val.avs_len, Val.fvs_len]
                      exact ⟨H, hl _, by simpa [ownV, k0, k1, k2, k3, k4, z0, z1, z2, z3, y3, z4, y4] using h⟩
                  · simp (implicitDefEqProofs := false) only [sB, simprocAttr, k0, k1, k2, k3, k4, z0, z1, z2, z3, Val.avs_len, Val.fvs_len]
                    exact ⟨H, hl _, by simpa [ownV, k0, k1, k2, k3, k4, z0, z1, z2, z3, y3] using h⟩
                · simp (implicitDefEqProofs := false) only [sB, simprocAttr, k0, k1, k2, k3, k4, z0, z1, z2, Val.avs_len, Val.fvs_len]
                  exact ⟨H, hl _, by simpa [ownV, k0, k1, k2, k3, k4, z0, z1, z2] using h⟩
              · simp (implicitDefEqProofs := false) only [sB, simprocAttr, k0, k1, k2, k3, k4, z0, z1, Val.avs_len, Val.fvs_len]
                exact ⟨H, hl _, by simpa [ownV, k0, k1, k2, k3, k4, z0, z1] using h⟩
            · simp (implicitDefEqProofs := false) only [sB, simprocAttr, k0, k1, k2, k3, k4, z0, Val.avs_len, Val.fvs_len]
              exact ⟨H, hl _, by simpa [ownV, k0, k1, k2, k3, k4, z0] using h⟩
def c34 (xs : List AV) (H : Heap) (K : Kv) : Prop := ∃ (k : Int) (s : List UInt8) (n : Int) (b : Bool) (it : Tok) (is : List Val) (ft : Tok) (fs : List Fld), xs = [.agg [.int .i64 k, .str s, .int .i64 n, .bool b, .sl (Val.avs is) it, .sl (Val.fvs fs) ft]] ∧ K.ap (.bool (ownV k s n b is fs)) H
theorem c34_of (P : Program) {xs : List AV} {H : Heap} {K : Kv} (h : c34 xs H K) : @xF (t0 P) f34 xs H ⟨fun v H' => ∃ H0, Hle H0 H' ∧ K.ap v H0⟩ := by
  obtain ⟨k, s, n, b, it, is, ft, fs, rfl, h⟩ := h
  simp (implicitDefEqProofs := false) only [sB, simprocAttr, f34, Val.avs_len, Val.fvs_len]
  refine i_new fun p hp => ?_
  have hl : ∀ x : Nat × AObj, Hle H (x :: H) := fun x => .tail x H
  by_cases k0 : k = 0
  · by_cases z0 : s = []
    · by_cases z1 : n = 0
      · by_cases z2 : b = false
        · rcases len_dec is with ⟨z3, y3⟩ | ⟨z3, y3⟩
          · rcases len_dec fs with ⟨z4, y4⟩ | ⟨z4, y4⟩
            · simp (implicitDefEqProofs := false) only [sB, simprocAttr, k0, z0, z1, z2, z3, z4, Val.avs_len, Val.fvs_len]
              exact ⟨H, hl _, by simpa [ownV, k0, z0, z1, z2, z3, y3, z4, y4] using h⟩
            · simp (implicitDefEqProofs := false) only [sB, simprocAttr, k0, z0, z1, z2, z3, z4, Val.avs_len, Val.fvs_len]
              exact ⟨H, hl _, by simpa [ownV, k0, z0, z1, z2, z3, y3, z4, y4] using h⟩
          · simp (implicitDefEqProofs := false) only [sB, simprocAttr, k0, z0, z1, z2, z3, Val.avs_len, Val.fvs_len]
            exact ⟨H, hl _, by simpa [ownV, k0, z0, z1, z2, z3, y3] using h⟩
        · simp (implicitDefEqProofs := false) only [sB, simprocAttr, k0, z0, z1, z2, Val.avs_len, Val.fvs_len]
          exact ⟨H, hl _, by simpa [ownV, k0, z0, z1, z2] using h⟩
      · simp (implicitDefEqProofs := false) only [sB, simprocAttr, k0, z0, z1, Val.avs_len, Val.fvs_len]
        exact ⟨H, hl _, by simpa [ownV, k0, z0, z1] using h⟩
    · by_cases z1 : n = 0
      · by_cases z2 : b = false
        · rcases len_dec is with ⟨z3, y3⟩ | ⟨z3, y3⟩
          · rcases len_dec fs with ⟨z4, y4⟩ | ⟨z4, y4⟩
            · simp (implicitDefEqProofs := false) only [sB, simprocAttr, k0, z0, z1, z2, z3, z4, Val.avs_len, Val.fvs_len]
              exact ⟨H, hl _, by simpa [ownV, k0, z0, z1, z2, z3, y3, z4, y4] using h⟩
            · simp (implicitDefEqProofs := false) only [sB, simprocAttr, k0, z0, z1, z2, z3, z4, Val.avs_len, Val.fvs_len]
              exact ⟨H, hl _, by simpa [ownV, k0, z0, z1, z2, z3, y3, z4, y4] using h⟩
          · simp (implicitDefEqProofs := false) only [sB, simprocAttr, k0, z0, z1, z2, z3, Val.avs_len, Val.fvs_len]
            exact ⟨H, hl _, by simpa [ownV, k0, z0, z1, z2, z3, y3] using h⟩
        · simp (implicitDefEqProofs := false) only [sB, simprocAttr, k0, z0, z1, z2, Val.avs_len, Val.fvs_len]
          exact ⟨H, hl _, by simpa [ownV, k0, z0, z1, z2] using h⟩
      · simp (implicitDefEqProofs := false) only [sB, simprocAttr, k0, z0, z1, Val.avs_len, Val.fvs_len]
        exact ⟨H, hl _, by simpa [ownV, k0, z0, z1] using h⟩
  · skip
    by_cases k1 : k = 1
    · by_cases z0 : s = []
      · by_cases z1 : n = 0
        · by_cases z2 : b = false
          · rcases len_dec is with ⟨z3, y3⟩ | ⟨z3, y3⟩
            · rcases len_dec fs with ⟨z4, y4⟩ | ⟨z4, y4⟩
              · simp (implicitDefEqProofs := false) only [sB, simprocAttr, k1, z0, z1, z2, z3, z4, Val.avs_len, Val.fvs_len]
                exact ⟨H, hl _, by simpa [ownV, k1, z0, z1, z2, z3, y3, z4, y4] using h⟩
              · simp (implicitDefEqProofs := false) only [sB, simprocAttr, k1, z0, z1, z2, z3, z4, Val.avs_len, Val.fvs_len]
                exact ⟨H, hl _, by simpa [ownV, k1, z0, z1, z2, z3, y3, z4, y4] using h⟩
            · simp (implicitDefEqProofs := false) only [sB, simprocAttr, k1, z0, z1, z2, z3, Val.avs_len, Val.fvs_len]
              exact ⟨H, hl _, by simpa [ownV, k1, z0, z1, z2, z3, y3] using h⟩
          · simp (implicitDefEqProofs := false) only [sB, simprocAttr, k1, z0, z1, z2, Val.avs_len, Val.fvs_len]
            exact ⟨H, hl _, by simpa [ownV, k1, z0, z1, z2] using h⟩
        · by_cases z2 : b = false
          · rcases len_dec is with ⟨z3, y3⟩ | ⟨z3, y3⟩
            · rcases len_dec fs with ⟨z4, y4⟩ | ⟨z4, y4⟩
              · simp (implicitDefEqProofs := false) only [sB, simprocAttr, k1, z0, z1, z2, z3, z4, Val.avs_len, Val.fvs_len]
                exact ⟨H, hl _, by simpa [ownV, k1, z0, z1, z2, z3, y3, z4, y4] using h⟩
              · simp (implicitDefEqProofs := false) only [sB, simprocAttr, k1, z0, z1, z2, z3, z4, Val.avs_len, Val.fvs_len]
                exact ⟨H, hl _, by simpa [ownV, k1, z0, z1, z2, z3, y3, z4, y4] using h⟩
            · simp (implicitDefEqProofs := false) only [sB, simprocAttr, k1, z0, z1, z2, z3, Val.avs_len, Val.fvs_len]
              exact ⟨H, hl _, by simpa [ownV, k1, z0, z1, z2, z3, y3] using h⟩
          · simp (implicitDefEqProofs := false) only [sB, simprocAttr, k1, z0, z1, z2, Val.avs_len, Val.fvs_len]
            exact ⟨H, hl _, by simpa [ownV, k1, z0, z1, z2] using h⟩
      · simp (implicitDefEqProofs := false) only [sB, simprocAttr, k1, z0, Val.avs_len, Val.fvs_len]
        exact ⟨H, hl _, by simpa [ownV, k1, z0] using h⟩
    · skip
      by_cases k2 : k = 2
      · by_cases z0 : s = []
        · by_cases z1 : n = 0
          · by_cases z2 : b = false
            · rcases len_dec is with ⟨z3, y3⟩ | ⟨z3, y3⟩
              · rcases len_dec fs with ⟨z4, y4⟩ | ⟨z4, y4⟩
                · simp (implicitDefEqProofs := false) only [sB, simprocAttr, k2, z0, z1, z2, z3, z4, Val.avs_len, Val.fvs_len]
                  exact ⟨H, hl _, by simpa [ownV, k2, z0, z1, z2, z3, y3, z4, y4] using h⟩
                · simp (implicitDefEqProofs := false) only [sB, simprocAttr, k2, z0, z1, z2, z3, z4, Val.avs_len, Val.fvs_len]
                  exact ⟨H, hl _, by simpa [ownV, k2, z0, z1, z2, z3, y3, z4, y4] using h⟩
              · simp (implicitDefEqProofs := false) only [sB, simprocAttr, k2, z0, z1, z2, z3, Val.avs_len, Val.fvs_len]
                exact ⟨H, hl _, by simpa [ownV, k2, z0, z1, z2, z3, y3] using h⟩
            · rcases len_dec is with ⟨z3, y3⟩ | ⟨z3, y3⟩
              · rcases len_dec fs with ⟨z4, y4⟩ | ⟨z4, y4⟩
                · simp (implicitDefEqProofs := false) only [sB, simprocAttr, k2, z0, z1, z2, z3, z4, Val.avs_len, Val.fvs_len]
                  exact ⟨H, hl _, by simpa [ownV, k2, z0, z1, z2, z3, y3, z4, y4] using h⟩
                · simp (implicitDefEqProofs := false) only [sB, simprocAttr, k2, z0, z1, z2, z3, z4, Val.avs_len, Val.fvs_len]
                  exact ⟨H, hl _, by simpa [ownV, k2, z0, z1, z2, z3, y3, z4, y4] using h⟩
              · simp (implicitDefEqProofs := false) only [sB, simprocAttr, k2, z0, z1, z2, z3, Val.avs_len, Val.fvs_len]
                exact ⟨H, hl _, by simpa [ownV, k2, z0, z1, z2, z3, y3] using h⟩
          · simp (implicitDefEqProofs := false) only [sB, simprocAttr, k2, z0, z1, Val.avs_len, Val.fvs_len]
            exact ⟨H, hl _, by simpa [ownV, k2, z0, z1] using h⟩
        · simp (implicitDefEqProofs := false) only [sB, simprocAttr, k2, z0, Val.avs_len, Val.fvs_len]
          exact ⟨H, hl _, by simpa [ownV, k2, z0] using h⟩
      · skip
        by_cases k3 : k = 3
        · by_cases z0 : s = []
          · by_cases z1 : n = 0
            · by_cases z2 : b = false
              · rcases len_dec is with ⟨z3, y3⟩ | ⟨z3, y3⟩
                · rcases len_dec fs with ⟨z4, y4⟩ | ⟨z4, y4⟩
                  · simp (implicitDefEqProofs := false) only [sB, simprocAttr, k3, z0, z1, z2, z3, z4, Val.avs_len, Val.fvs_len]
                    exact ⟨H, hl _, by simpa [ownV, k3, z0, z1, z2, z3, y3, z4, y4] using h⟩
                  · simp (implicitDefEqProofs := false) only [sB, simprocAttr, k3, z0, z1, z2, z3, z4, Val.avs_len, Val.fvs_len]
                    exact ⟨H, hl _, by simpa [ownV, k3, z0, z1, z2, z3, y3, z4, y4] using h⟩
                · rcases len_dec fs with ⟨z4, y4⟩ | ⟨z4, y4⟩
                  · simp (implicitDefEqProofs := false) only [sB, simprocAttr, k3, z0, z1, z2, z3, z4, Val.avs_len, Val.fvs_len]
                    exact ⟨H, hl _, by simpa [ownV, k3, z0, z1, z2, z3, y3, z4, y4] using h⟩
                  · simp (implicitDefEqProofs := false) only [sB, simprocAttr, k3, z0, z1, z2, z3, z4, Val.avs_len, Val.fvs_len]
                    exact ⟨H, hl _, by simpa [ownV, k3, z0, z1, z2, z3, y3, z4, y4] using h⟩
              · simp (implicitDefEqProofs := false) only [sB, simprocAttr, k3, z0, z1, z2, Val.avs_len, Val.fvs_len]
                exact ⟨H, hl _, by simpa [ownV, k3, z0, z1, z2] using h⟩
            · simp (implicitDefEqProofs := false) only [sB, simprocAttr, k3, z0, z1, Val.avs_len, Val.fvs_len]
              exact ⟨H, hl _, by simpa [ownV, k3, z0, z1] using h⟩
          · simp (implicitDefEqProofs := false) only [sB, simprocAttr, k3, z0, Val.avs_len, Val.fvs_len]
            exact ⟨H, hl _, by simpa [ownV, k3, z0] using h⟩
        · skip
          by_cases k4 : k = 4
          · by_cases z0 : s = []
            · by_cases z1 : n = 0
              · by_cases z2 : b = false
                · rcases len_dec is with ⟨z3, y3⟩ | ⟨z3, y3⟩
                  · rcases len_dec fs with ⟨z4, y4⟩ | ⟨z4, y4⟩
                    · simp (implicitDefEqProofs := false) only [sB, simprocAttr, k4, z0, z1, z2, z3, z4, Val.avs_len, Val.fvs_len]
                      exact ⟨H, hl _, by simpa [ownV, k4, z0, z1, z2, z3, y3, z4, y4] using h⟩
                    · simp (implicitDefEqProofs := false) only [sB, simprocAttr, k4, z0, z1, z2, z3, z4, Val.avs_len, Val.fvs_len]
                      exact ⟨H, hl _, by simpa [ownV, k4, z0, z1, z2, z3, y3, z4, y4] using h⟩
                  · simp (implicitDefEqProofs := false) only [sB, simprocAttr, k4, z0, z1, z2, z3, Val.avs_len, Val.fvs_len]
                    exact ⟨H, hl _, by simpa [ownV, k4, z0, z1, z2, z3, y3] using h⟩
                · simp (implicitDefEqProofs := false) only [sB, simprocAttr, k4, z0, z1, z2, Val.avs_len, Val.fvs_len]
                  exact ⟨H, hl _, by simpa [ownV, k4, z0, z1, z2] using h⟩
              · simp (implicitDefEqProofs := false) only [sB, simprocAttr, k4, z0, z1, Val.avs_len, Val.fvs_len]
                exact ⟨H, hl _, by simpa [ownV, k4, z0, z1] using h⟩
            · simp (implicitDefEqProofs := false) only [sB, simprocAttr, k4, z0, Val.avs_len, Val.fvs_len]
              exact ⟨H, hl _, by simpa [ownV, k4, z0] using h⟩
          · by_cases z0 : s = []
            · by_cases z1 : n = 0
              · by_cases z2 : b = false
                · rcases len_dec is with ⟨z3, y3⟩ | ⟨z3, y3⟩
                  · rcases len_dec fs with ⟨z4, y4⟩ | ⟨z4, y4⟩
                    · simp (implicitDefEqProofs := false) only [sB, simprocAttr, k0, k1, k2, k3, k4, z0, z1, z2, z3, z4, Val.avs_len, Val.fvs_len]
                      exact ⟨H, hl _, by simpa [ownV, k0, k1, k2, k3, k4, z0, z1, z2, z3, y3, z4, y4] using h⟩
                    · simp (implicitDefEqProofs := false) only [sB, simprocAttr, k0, k1, k2, k3, k4, z0, z1, z2, z3, z4, Val.avs_len, Val.fvs_len]
                      exact ⟨H, hl _, by simpa [ownV, k0, k1, k2, k3, k4, z0, z1, z2, z3, y3, z4, y4] using h⟩
                  · simp (implicitDefEqProofs := false) only [sB, simprocAttr, k0, k1, k2, k3, k4, z0, z1, z2, z3, Val.avs_len, Val.fvs_len]
                    exact ⟨H, hl _, by simpa [ownV, k0, k1, k2, k3, k4, z0, z1, z2, z3, y3] using h⟩
                · simp (implicitDefEqProofs := false) only [sB, simprocAttr, k0, k1, k2, k3, k4, z0, z1, z2, Val.avs_len, Val.fvs_len]
                  exact ⟨H, hl _, by simpa [ownV, k0, k1, k2, k3, k4, z0, z1, z2] using h⟩
              · simp (implicitDefEqProofs := false) only [sB, simprocAttr, k0, k1, k2, k3, k4, z0, z1, Val.avs_len, Val.fvs_len]
                exact ⟨H, hl _, by simpa [ownV, k0, k1, k2, k3, k4, z0, z1] using h⟩
            · simp (implicitDefEqProofs := false) only [sB, simprocAttr, k0, k1, k2, k3, k4, z0, Val.avs_len, Val.fvs_len]
              exact ⟨H, hl _, by simpa [ownV, k0, k1, k2, k3, k4, z0] using h⟩
end Go.AL.Fun
