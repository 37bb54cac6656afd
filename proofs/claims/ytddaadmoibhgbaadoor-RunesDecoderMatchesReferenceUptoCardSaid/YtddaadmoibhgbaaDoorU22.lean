/- The reference's decoder walked; the decoder that is nil. -/
import Derived.Test.YtddaadmoibhgbaaDoorU21
set_option linter.unusedSimpArgs false
set_option linter.unusedVariables false
set_option maxRecDepth 100000
set_option maxHeartbeats 4000000
namespace Go.AL.Fun
open Go Go.AL Go.Proofs

theorem dec1_take {u : List UInt8} (k : Nat) (hu : u ≠ []) : dec1 (u.take ((dec1 u).2 + k)) = dec1 u := by
  by_cases h : (fst u).1 = 0
  · have h2 := fst_take0 ((dec1 u).2 + k) h
    unfold dec1 at h2 ⊢
    rw [if_pos h] at h2 ⊢
    rw [if_pos h2]
  · have e : (dec1 u).2 = (fst u).1 := by rw [dec1_two h]
    rw [e]
    have h1 := fst_self h (j := (fst u).1 + k) (by omega)
    rw [dec1_two (by rw [h1]; exact h), h1, List.take_take, Nat.min_eq_left (by omega), ← dec1_two h]
/-- What the writer has read so far. -/
def WInv (s : List UInt8) (i : Nat) : Prop := ∃ P, wrP s = (P ++ (wrP (s.drop i)).1, (wrP (s.drop i)).2) ∧ ∀ j, decP (s.take (i + j)) = P ++ decP ((s.drop i).take j)
theorem winv_zero (s : List UInt8) : WInv s 0 := ⟨[], rfl, fun j => by rw [Nat.zero_add]; rfl⟩
theorem winv_step {s : List UInt8} {i : Nat} (hi : i < s.length) (h : (fst (s.drop i)).2 = false) (w : WInv s i) : WInv s (i + (dec1 (s.drop i)).2) := by
  obtain ⟨P, w1, w2⟩ := w
  have hne : s.drop i ≠ [] := by intro e; have := congrArg List.length e; rw [List.length_drop] at this; simp at this; omega
  have hp := dec1_pos (s.drop i)
  rw [wrP_step hne h] at w1
  refine ⟨P ++ [(dec1 (s.drop i)).1], ?_, fun j => ?_⟩
  · rw [w1, List.drop_drop, List.append_assoc]; rfl
  · rw [Nat.add_assoc, w2, decP_step (s := (s.drop i).take _) (by intro e; rw [List.take_eq_nil_iff] at e; rcases e with e | e; omega; exact hne e), dec1_take j hne, List.drop_take, Nat.add_sub_cancel_left, List.drop_drop, List.append_assoc]; rfl
theorem winv_end {s : List UInt8} {i : Nat} (w : WInv s i) (h : s.drop i = [] ∨ (fst (s.drop i)).2 = true) : wrP s = (decP (s.take i), s.drop i) := by
  obtain ⟨P, w1, w2⟩ := w
  have e := w2 0
  rw [Nat.add_zero, List.take_zero, decP_nil, List.append_nil] at e
  rw [w1, wrP_stop h, e, List.append_nil]

def rO (h : List UInt8) : AObj := .cells [.str h]
def c15 (xs : List AV) (H : Heap) (K : Kv) : Prop := ∃ (pq : Nat) (h p : List UInt8) (t : Tok) (R : Heap), xs = [.ptr pq 0, .sl (bytesAV p) t] ∧ H.Perm ((pq, rO h) :: R) ∧ H.keys.Nodup ∧ h.length + p.length ≤ 1073741824 ∧
  ∀ H', H'.Perm ((pq, rO (wrP (h ++ p)).2) :: R) → H'.keys.Nodup → K.ap (.sl (i32AV (wrP (h ++ p)).1) (tokc (wrP (h ++ p)).1)) H'
theorem c15_of (P : Program) {G : Nat → Option (List AV)} {xs : List AV} {H : Heap} {K : Kv} (h : c15 xs H K) : @xF ⟨G, P, [(20, c20), (26, c26)]⟩ f15 xs H ⟨fun v H' => ∃ H0, Hle H0 H' ∧ K.ap v H0⟩ := by
  obtain ⟨pq, h, p, t, R, rfl, hp, hn, hl, k⟩ := h
  have hlk : lookH pq H = some (.cells [.str h]) := look_head hp hn
  simp (implicitDefEqProofs := false) only [sB, simprocAttr, f15, hlk, by_of]
  refine ⟨by omega, ?_⟩
  have hL : (h ++ p).length ≤ 1073741824 := by rw [List.length_append]; omega
  generalize h ++ p = s at hL k ⊢
  refine i_loopJ (fun σ H1 => ∃ (i : Nat), H1 = H ∧ i ≤ s.length ∧ WInv s i ∧ σ = [(0, .ptr pq 0), (5, .str s), (6, .int .i64 i)])
    (fun σ _ => match σ.get 6 with | .int _ n => s.length - n.toNat | _ => 0)
    (fun e σ H1 => e = .exit 0 ∧ H1 = H ∧ ∃ (i : Nat), i ≤ s.length ∧ wrP s = (decP (s.take i), s.drop i) ∧ σ.get 0 = .ptr pq 0 ∧ σ.get 5 = .str s ∧ σ.get 6 = .int .i64 i)
    ⟨_, .refl _, 0, rfl, by omega, winv_zero s, rfl⟩ ?_ ?_
  · rintro e σ H1 ⟨rfl, rfl, i, hi, hw, q0, q5, q6⟩
    have i0 : (0 : Int) ≤ (i : Int) := by omega
    have iM : (i : Int) ≤ (s.length : Int) := by omega
    have hp3 := set_head (rO (s.drop i)) hp hn
    have hlt : (s.take i).length ≤ 1073741824 := by rw [List.length_take]; omega
    rw [hw] at k
    simp (implicitDefEqProofs := false) only [sB, simprocAttr, q0, q5, q6, i0, iM, hlk]
    refine x_c20 (s := s.take i) (set_nodup _ hn) (by omega) _ ?_
    simp (implicitDefEqProofs := false) only [sB, simprocAttr]
    exact ⟨_, .refl _, k _ hp3 (set_nodup _ hn)⟩
  · rintro Q hQ σ H1 ⟨i, rfl, hi, hw, rfl⟩
    by_cases c : i < s.length
    · have i0 : (0 : Int) ≤ (i : Int) := by omega
      have iM : (i : Int) ≤ (s.length : Int) := by omega
      have c' : (i : Int) < (s.length : Int) := by omega
      have hdl : (s.drop i).length = s.length - i := List.length_drop
      simp (implicitDefEqProofs := false) only [sB, simprocAttr, c', i0, iM]
      refine x_c26 (by omega) _ _ ?_
      by_cases hf : (fst (s.drop i)).2 = true
      · simp (implicitDefEqProofs := false) only [sB, simprocAttr, hf]
        exact hQ _ _ _ ⟨rfl, rfl, i, hi, winv_end hw (.inr hf), rfl, rfl, rfl⟩
      · have hf' : (fst (s.drop i)).2 = false := by simpa using hf
        have hne : s.drop i ≠ [] := by intro e; have := congrArg List.length e; rw [hdl] at this; simp at this; omega
        have hw' := winv_step c hf' hw
        have d1 := dec1_pos (s.drop i)
        have d2 := dec1_le hne
        rw [hdl] at d2
        by_cases h0 : (fst (s.drop i)).1 = 0
        · have e1 : dec1 (s.drop i) = (65533, 1) := by unfold dec1; rw [if_pos h0]
          rw [e1] at hw' d2
          have z : (((fst (s.drop i)).1 : Nat) : Int) = 0 := by omega
          have r9 := w_i64 ((i : Int) + 1) (by omega) (by omega)
          simp (implicitDefEqProofs := false) only [sB, simprocAttr, hf', z, r9]
          exact ⟨_, .refl _, ⟨i + 1, rfl, by omega, hw', by simp⟩, by omega⟩
        · have e1 := dec1_two h0
          rw [e1] at hw' d2
          have z : ¬ (((fst (s.drop i)).1 : Nat) : Int) = 0 := by omega
          have r9 := w_i64 ((i : Int) + ((fst (s.drop i)).1 : Nat)) (by omega) (by omega)
          simp (implicitDefEqProofs := false) only [sB, simprocAttr, hf', z, r9]
          exact ⟨_, .refl _, ⟨i + (fst (s.drop i)).1, rfl, by omega, hw', by simp⟩, by omega⟩
    · have c' : ¬ (i : Int) < (s.length : Int) := by omega
      simp (implicitDefEqProofs := false) only [sB, simprocAttr, c']
      exact hQ _ _ _ ⟨rfl, rfl, i, hi, winv_end hw (.inl (by rw [List.drop_eq_nil_iff]; omega)), rfl, rfl, rfl⟩
def c16 (xs : List AV) (H : Heap) (K : Kv) : Prop := ∃ (pq : Nat) (h : List UInt8) (R : Heap), xs = [.ptr pq 0] ∧ H.Perm ((pq, rO h) :: R) ∧ H.keys.Nodup ∧ h.length ≤ 1073741824 ∧
  ∀ H', H'.Perm ((pq, rO []) :: R) → H'.keys.Nodup → K.ap (.sl (i32AV (decP h)) (tokc (decP h))) H'
theorem c16_of (P : Program) {G : Nat → Option (List AV)} {xs : List AV} {H : Heap} {K : Kv} (h : c16 xs H K) : @xF ⟨G, P, [(20, c20)]⟩ f16 xs H ⟨fun v H' => ∃ H0, Hle H0 H' ∧ K.ap v H0⟩ := by
  obtain ⟨pq, h, R, rfl, hp, hn, hl, k⟩ := h
  have hlk : lookH pq H = some (.cells [.str h]) := look_head hp hn
  simp (implicitDefEqProofs := false) only [sB, simprocAttr, f16, hlk]
  refine x_c20 (s := h) hn (by omega) _ ?_
  simp (implicitDefEqProofs := false) only [sB, simprocAttr, hlk]
  exact ⟨_, .refl _, k _ (set_head _ hp hn) (set_nodup _ hn)⟩
theorem x_c15 {pq : Nat} {h p : List UInt8} {t : Tok} {H R : Heap} {K : Kv} (hp : H.Perm ((pq, rO h) :: R)) (hn : H.keys.Nodup) (hl : h.length + p.length ≤ 1073741824)
  (k : ∀ H', H'.Perm ((pq, rO (wrP (h ++ p)).2) :: R) → H'.keys.Nodup → K.ap (.sl (i32AV (wrP (h ++ p)).1) (tokc (wrP (h ++ p)).1)) H') : c15 [.ptr pq 0, .sl (bytesAV p) t] H K := ⟨pq, h, p, t, R, rfl, hp, hn, hl, k⟩
theorem x_c16 {pq : Nat} {h : List UInt8} {H R : Heap} {K : Kv} (hp : H.Perm ((pq, rO h) :: R)) (hn : H.keys.Nodup) (hl : h.length ≤ 1073741824)
  (k : ∀ H', H'.Perm ((pq, rO []) :: R) → H'.keys.Nodup → K.ap (.sl (i32AV (decP h)) (tokc (decP h))) H') : c16 [.ptr pq 0] H K := ⟨pq, h, R, rfl, hp, hn, hl, k⟩
/-- With a decoder that may be nil. -/
def c9n (xs : List AV) (H : Heap) (K : Kv) : Prop := c9 xs H K ∨ ∃ x, xs = [.nilp, x] ∧ K.ap (.sl [] .nil) H
def c10n (xs : List AV) (H : Heap) (K : Kv) : Prop := c10 xs H K ∨ (xs = [.nilp] ∧ K.ap (.sl [] .nil) H)
def c11n (xs : List AV) (H : Heap) (K : Kv) : Prop := c11 xs H K ∨ (xs = [.nilp] ∧ K.ap (.int .i64 0) H)
theorem c9n_of (P : Program) {G : Nat → Option (List AV)} {xs : List AV} {H : Heap} {K : Kv} (h : c9n xs H K) : @xF ⟨G, P, [(23, c23), (24, c24), (25, c25)]⟩ f9 xs H ⟨fun v H' => ∃ H0, Hle H0 H' ∧ ∃ v', AVle v v' ∧ K.ap v' H0⟩ := by
  rcases h with h | ⟨x, rfl, k⟩
  · exact c9_of P h
  · simp (implicitDefEqProofs := false) only [sB, simprocAttr, f9]
    exact ⟨_, .refl _, _, .refl _, k⟩
theorem c10n_of (P : Program) {G : Nat → Option (List AV)} {xs : List AV} {H : Heap} {K : Kv} (h : c10n xs H K) : @xF ⟨G, P, [(17, c17)]⟩ f10 xs H ⟨fun v H' => ∃ H0, Hle H0 H' ∧ K.ap v H0⟩ := by
  rcases h with h | ⟨rfl, k⟩
  · exact c10_of P h
  · simp (implicitDefEqProofs := false) only [sB, simprocAttr, f10]
    exact ⟨_, .refl _, k⟩
theorem c11n_of (P : Program) {G : Nat → Option (List AV)} {xs : List AV} {H : Heap} {K : Kv} (h : c11n xs H K) : @xF ⟨G, P, []⟩ f11 xs H ⟨fun v H' => ∃ H0, Hle H0 H' ∧ K.ap v H0⟩ := by
  rcases h with h | ⟨rfl, k⟩
  · exact c11_of P h
  · simp (implicitDefEqProofs := false) only [sB, simprocAttr, f11]
    exact ⟨_, .refl _, k⟩
@[reducible] def tC : XT := [(12, c12), (14, c14), (9, c9n), (10, c10n), (11, c11n), (13, c13), (15, c15), (16, c16)]
structure UOk3 (P : Program) : Prop where
  u : UOk P
  o15 : compF P 15 f15.body.hints = some f15
  o16 : compF P 16 f16.body.hints = some f16
variable {P : Program}
theorem k9n (u : UOk P) : ∀ xs H K, c9n xs H ⟨K⟩ → ACalls Gu P 9 xs H K := fun xs H K h => okW u.mx (.consX (k23 u) (.consX (k24 u) (.consX (k25 u) .nilX))) u.o9 xs H K (c9n_of P (K := ⟨K⟩) h)
theorem k10n (u : UOk P) : ∀ xs H K, c10n xs H ⟨K⟩ → ACalls Gu P 10 xs H K := fun xs H K h => okC u.mx (.consX (k17 u) .nilX) u.o10 xs H K (c10n_of P (K := ⟨K⟩) h)
theorem k11n (u : UOk P) : ∀ xs H K, c11n xs H ⟨K⟩ → ACalls Gu P 11 xs H K := fun xs H K h => okC u.mx .nilX u.o11 xs H K (c11n_of P (K := ⟨K⟩) h)
theorem k15 (u : UOk3 P) : ∀ xs H K, c15 xs H ⟨K⟩ → ACalls Gu P 15 xs H K := fun xs H K h => okC u.u.mx (.consX (k20 u.u) (.consX (k26 u.u) .nilX)) u.o15 xs H K (c15_of P (K := ⟨K⟩) h)
theorem k16 (u : UOk3 P) : ∀ xs H K, c16 xs H ⟨K⟩ → ACalls Gu P 16 xs H K := fun xs H K h => okC u.u.mx (.consX (k20 u.u) .nilX) u.o16 xs H K (c16_of P (K := ⟨K⟩) h)
theorem tC_ok (u : UOk3 P) : TOk Gu P (plainT tC) := .consX (k12 u.u) (.consX (k14 u.u) (.consX (k9n u.u) (.consX (k10n u.u) (.consX (k11n u.u) (.consX (k13 u.u) (.consX (k15 u) (.consX (k16 u) .nilX)))))))
end Go.AL.Fun
