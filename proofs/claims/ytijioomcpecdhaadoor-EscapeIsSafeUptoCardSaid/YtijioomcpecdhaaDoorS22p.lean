/- Safe: the program's, by a closure over a string. Printed by gs22p.py. -/
import Derived.Test.YtijioomcpecdhaaDoorS21
set_option linter.unusedSimpArgs false
set_option linter.unusedVariables false
set_option maxRecDepth 100000
set_option maxHeartbeats 4000000
namespace Go.AL.Fun
open Go Go.AL

/-- The closure. -/
def c59 (xs : List AV) (H : Heap) (K : Kv) : Prop := ∃ (e q : Int) (b : Nat), xs = [.int .i32 q, .ptr b 0] ∧ lookH b H = some (.cells [.int .i64 e]) ∧ okR q ∧ 0 ≤ e ∧ e ≤ 4 ∧ K.ap (.bool (unsP e q)) H
theorem c59_of (P : Program) {G : Nat → Option (List AV)} {xs : List AV} {H : Heap} {K : Kv} (h : c59 xs H K) : @xF ⟨G, P, [(60, c60)]⟩ f59 xs H K := by
  obtain ⟨e, q, b, rfl, hb, hok, h0, h4, k⟩ := h
  simp (implicitDefEqProofs := false) only [sB, simprocAttr, f59, hb]
  refine ⟨e, q, rfl, hok, h0, h4, ?_⟩
  simp (implicitDefEqProofs := false) only [sB, simprocAttr]
  exact k
def anyU (e : Int) (s : List UInt8) : Bool := (decP s).any (unsP e)
def c107 (xs : List AV) (H : Heap) (K : Kv) : Prop := ∃ (e : Int) (s : List UInt8) (b : Nat), xs = [.str s, .fn (.func 59) [] [.ptr b 0], .bool true] ∧ lookH b H = some (.cells [.int .i64 e]) ∧ 0 ≤ e ∧ e ≤ 4 ∧ s.length ≤ 1099511627776 ∧ ∀ n : Int, decide (0 ≤ n) = anyU e s → K.ap (.int .i64 n) H
theorem c107_of (P : Program) {G : Nat → Option (List AV)} {xs : List AV} {H : Heap} {K : Kv} (h : c107 xs H K) : @xF ⟨G, P, [(59, c59)]⟩ f107 xs H ⟨fun v H' => ∃ H0, Hle H0 H' ∧ K.ap v H0⟩ := by
  obtain ⟨e, s, b, rfl, hb, h0, h4, hl, k⟩ := h
  simp (implicitDefEqProofs := false) only [sB, simprocAttr, f107]
  refine i_new fun it hit => ?_
  simp (implicitDefEqProofs := false) only [sB, simprocAttr]
  have hbi : ¬ b = it := key_ne hb hit
  have hbi' : ¬ it = b := fun e => hbi e.symm
  refine i_loopJ (fun σ H1 => ∃ (i : Nat), H1 = (it, .iter s i) :: H ∧ i ≤ s.length ∧ anyU e (s.drop i) = anyU e s ∧ σ = [(1, .fn (.func 59) [] [.ptr b 0]), (2, .bool true), (10, .ptr it 0)])
    (fun _ H1 => match lookH it H1 with | some (.iter _ i) => s.length - i | _ => 0)
    (fun ex σ H1 => Hle H H1 ∧ ((ex = .exit 0 ∧ anyU e s = false) ∨ (ex = .ret ∧ anyU e s = true ∧ ∃ n : Nat, σ.get 6 = .int .i64 n)))
    ⟨_, .refl _, 0, rfl, by omega, rfl, rfl⟩ ?_ ?_
  · rintro ex σ H1 ⟨hle, ⟨rfl, ha⟩ | ⟨rfl, ha, n, h6⟩⟩
    · simp (implicitDefEqProofs := false) only [sB, simprocAttr]
      exact ⟨_, hle, k _ (by rw [ha]; rfl)⟩
    · simp (implicitDefEqProofs := false) only [sB, simprocAttr, h6]
      exact ⟨_, hle, k _ (by rw [ha, decide_eq_true]; omega)⟩
  · rintro Q hQ σ H1 ⟨i, rfl, hi, ha, rfl⟩
    by_cases ci : i < s.length
    · have hu := utf8_dec ci
      have hne : s.drop i ≠ [] := by rw [← List.length_pos_iff, List.length_drop]; omega
      have d1 := dec1_pos (s.drop i)
      have d2 := dec1_le hne
      have hok := dec1_ok (s.drop i)
      have hst : anyU e (s.drop i) = (unsP e (dec1 (s.drop i)).1 || anyU e (s.drop (i + (dec1 (s.drop i)).2))) := by
        unfold anyU; rw [decP_step hne, List.any_cons, List.drop_drop]
      rw [List.length_drop] at d2
      simp (implicitDefEqProofs := false) only [sB, simprocAttr, ci, hu.1, hu.2]
      generalize dec1 (s.drop i) = d at *
      obtain ⟨r, k2⟩ := d
      simp only at d1 d2 hst hok
      refine ⟨e, r, b, rfl, by simp [lookH, hbi, hbi', hb], hok, h0, h4, ?_⟩
      cases hr : unsP e r with
      | true =>
        rw [hr, Bool.true_or] at hst
        simp (implicitDefEqProofs := false) only [sB, simprocAttr]
        exact hQ _ _ _ ⟨.tail _ _, .inr ⟨rfl, by rw [← ha]; exact hst, i, rfl⟩⟩
      | false =>
        rw [hr, Bool.false_or] at hst
        simp (implicitDefEqProofs := false) only [sB, simprocAttr]
        refine ⟨_, .refl _, ⟨i + k2, rfl, by omega, by rw [← hst]; exact ha⟩, ?_⟩
        simp [lookH]; omega
    · simp (implicitDefEqProofs := false) only [sB, simprocAttr, ci]
      rw [List.drop_of_length_le (by omega)] at ha
      exact hQ _ _ _ ⟨.tail _ _, .inl ⟨rfl, by rw [← ha]; rfl⟩⟩
def c86 (xs : List AV) (H : Heap) (K : Kv) : Prop := ∃ (e : Int) (s : List UInt8) (b : Nat), xs = [.str s, .fn (.func 59) [] [.ptr b 0]] ∧ lookH b H = some (.cells [.int .i64 e]) ∧ 0 ≤ e ∧ e ≤ 4 ∧ s.length ≤ 1099511627776 ∧ ∀ n : Int, decide (0 ≤ n) = anyU e s → K.ap (.int .i64 n) H
theorem c86_of (P : Program) {G : Nat → Option (List AV)} {xs : List AV} {H : Heap} {K : Kv} (h : c86 xs H K) : @xF ⟨G, P, [(107, c107)]⟩ f86 xs H K := by
  obtain ⟨e, s, b, rfl, hb, h0, h4, hl, k⟩ := h
  simp (implicitDefEqProofs := false) only [sB, simprocAttr, f86]
  refine ⟨e, s, b, rfl, hb, h0, h4, hl, fun n hn => ?_⟩
  simp (implicitDefEqProofs := false) only [sB, simprocAttr]
  exact k n hn
def c58 (xs : List AV) (H : Heap) (K : Kv) : Prop := ∃ (e : Int) (s : List UInt8) (b : Nat), xs = [.str s, .fn (.func 59) [] [.ptr b 0]] ∧ lookH b H = some (.cells [.int .i64 e]) ∧ 0 ≤ e ∧ e ≤ 4 ∧ s.length ≤ 1099511627776 ∧ K.ap (.bool (anyU e s)) H
theorem c58_of (P : Program) {G : Nat → Option (List AV)} {xs : List AV} {H : Heap} {K : Kv} (h : c58 xs H K) : @xF ⟨G, P, [(86, c86)]⟩ f58 xs H K := by
  obtain ⟨e, s, b, rfl, hb, h0, h4, hl, k⟩ := h
  simp (implicitDefEqProofs := false) only [sB, simprocAttr, f58]
  refine ⟨e, s, b, rfl, hb, h0, h4, hl, fun n hn => ?_⟩
  simp (implicitDefEqProofs := false) only [sB, simprocAttr]
  rw [hn]; exact k
theorem safe_any (e : Int) (s : List UInt8) : ((decP s).all fun q => !unsP e q) = !anyU e s := by
  unfold anyU
  induction decP s with
  | nil => rfl
  | cons r l ih => rw [List.all_cons, List.any_cons, ih, Bool.not_or]
def c21 (xs : List AV) (H : Heap) (K : Kv) : Prop := ∃ (e : Int) (s : List UInt8), xs = [.int .i64 e, .str s] ∧ s.length ≤ 1099511627776 ∧ K.ap (.bool (safeS e s)) H
theorem c21_of (P : Program) {G : Nat → Option (List AV)} {xs : List AV} {H : Heap} {K : Kv} (h : c21 xs H K) : @xF ⟨G, P, [(53, c53), (19, c19), (58, c58)]⟩ f21 xs H ⟨fun v H' => ∃ H0, Hle H0 H' ∧ K.ap v H0⟩ := by
  obtain ⟨e, s, rfl, hl, k⟩ := h
  unfold safeS at k
  rw [safe_any] at k
  simp (implicitDefEqProofs := false) only [sB, simprocAttr, f21]
  refine i_new fun b hb => ?_
  simp (implicitDefEqProofs := false) only [sB, simprocAttr]
  refine ⟨e, rfl, fun h0 h4 => ?_, fun hr => ?_⟩
  · rw [decide_eq_true ⟨h0, h4⟩, Bool.true_and] at k
    simp (implicitDefEqProofs := false) only [sB, simprocAttr]
    refine ⟨s, rfl, hl, ?_⟩
    cases hv : validP s with
    | false =>
      rw [hv] at k
      simp (implicitDefEqProofs := false) only [sB, simprocAttr]
      exact ⟨_, .tail _ _, k⟩
    | true =>
      rw [hv, Bool.true_and] at k
      simp (implicitDefEqProofs := false) only [sB, simprocAttr]
      refine ⟨e, s, b, rfl, by simp [lookH], h0, h4, hl, ?_⟩
      simp (implicitDefEqProofs := false) only [sB, simprocAttr]
      exact ⟨_, .tail _ _, k⟩
  · rw [decide_eq_false (by omega)] at k
    simp (implicitDefEqProofs := false) only [sB, simprocAttr]
    exact ⟨_, .tail _ _, k⟩
end Go.AL.Fun
