/- Names. -/
import Derived.Test.YtpeaphpibnikcaaF1
import Derived.Test.YtpeaphpibnikcaaV1
set_option linter.unusedSimpArgs false
set_option linter.unusedVariables false
set_option maxRecDepth 100000
set_option maxHeartbeats 1000000
namespace Go.AL.Fun
open Go Go.AL

def b8 (b : UInt8) : Int := (b.toNat : Int)
theorem b8_lt (b : UInt8) : 0 ≤ b8 b ∧ b8 b < 256 := by have := b.toNat_lt; unfold b8; omega
theorem byteAV_b8 (b : UInt8) : byteAV b = .int .u8 (b8 b) := rfl
def isLet (n : Int) : Bool := decide (97 ≤ n ∧ n ≤ 122 ∨ 65 ≤ n ∧ n ≤ 90)
def nameC (n : Int) : Bool := isLet n || decide (48 ≤ n ∧ n ≤ 57 ∨ n = 95)
def headL (s : List UInt8) : Bool := match s with | [] => false | c :: _ => isLet (b8 c)
def nameB (s : List UInt8) : Bool := decide (s.length ≤ 32) && headL s && s.all fun c => nameC (b8 c)

theorem dec_low {s : List UInt8} {i : Nat} {c : UInt8} (h : s[i]? = some c) (hc : b8 c < 128) : Utf8.decode ⟨s.toArray⟩ i = (c.toNat, 1) := by
  have g : (ByteArray.get! ⟨s.toArray⟩ (i + 0)) = c := by
    show s.toArray[i]! = c
    simp [Array.getElem!_eq_getD, Array.getD_eq_getD_getElem?, h]
  unfold Utf8.decode
  simp only [g]
  rw [if_pos (by unfold b8 at hc; omega)]
theorem dec_high {s : List UInt8} {i : Nat} {c : UInt8} (h : s[i]? = some c) (hc : ¬ b8 c < 128) : 128 ≤ (Utf8.decode ⟨s.toArray⟩ i).1 := by
  have g : (ByteArray.get! ⟨s.toArray⟩ (i + 0)) = c := by
    show s.toArray[i]! = c
    simp [Array.getElem!_eq_getD, Array.getD_eq_getD_getElem?, h]
  have hc' : ¬ c.toNat < 128 := by unfold b8 at hc; omega
  unfold Utf8.decode
  simp only [g, Utf8.runeError]
  rw [if_neg hc']
  repeat' split
  all_goals (first | (simp only; omega) | decide | skip)
  all_goals (rename_i h; simp only [Bool.and_eq_true, decide_eq_true_eq, ge_iff_le] at h ⊢; omega)

def c27 (xs : List AV) (H : Heap) (K : Kv) : Prop := ∃ n, xs = [.int .i32 n] ∧ K.ap (.bool (isLet n)) H
theorem x_c27 (n : Int) (H : Heap) (K : Kv) : c27 [.int .i32 n] H K = K.ap (.bool (isLet n)) H := by
  simp only [c27, List.cons.injEq, AV.int.injEq, true_and, and_true]
  exact propext ⟨fun ⟨_, e, h⟩ => e ▸ h, fun h => ⟨_, rfl, h⟩⟩
@[reducible] def t0 (P : Program) : Th := ⟨fun _ => none, P, []⟩
theorem c27_of (P : Program) {xs : List AV} {H : Heap} {K : Kv} (h : c27 xs H K) : @xF (t0 P) f27 xs H K := by
  obtain ⟨n, rfl, h⟩ := h
  by_cases c1 : 97 ≤ n
  · by_cases c2 : n ≤ 122
    · simp (implicitDefEqProofs := false) only [sB, simprocAttr, f27, c1, c2]
      rw [show isLet n = true by unfold isLet; rw [decide_eq_true]; omega] at h; exact h
    · have c3 : 65 ≤ n := by omega
      have c4 : ¬ n ≤ 90 := by omega
      simp (implicitDefEqProofs := false) only [sB, simprocAttr, f27, c1, c2, c3, c4]
      rw [show isLet n = false by unfold isLet; rw [decide_eq_false]; omega] at h; exact h
  · by_cases c3 : 65 ≤ n
    · by_cases c4 : n ≤ 90
      · simp (implicitDefEqProofs := false) only [sB, simprocAttr, f27, c1, c3, c4]
        rw [show isLet n = true by unfold isLet; rw [decide_eq_true]; omega] at h; exact h
      · simp (implicitDefEqProofs := false) only [sB, simprocAttr, f27, c1, c3, c4]
        rw [show isLet n = false by unfold isLet; rw [decide_eq_false]; omega] at h; exact h
    · simp (implicitDefEqProofs := false) only [sB, simprocAttr, f27, c1, c3]
      rw [show isLet n = false by unfold isLet; rw [decide_eq_false]; omega] at h; exact h
def c32 (xs : List AV) (H : Heap) (K : Kv) : Prop := ∃ n, xs = [.int .u8 n] ∧ K.ap (.bool (isLet n)) H
theorem x_c32 (n : Int) (H : Heap) (K : Kv) : c32 [.int .u8 n] H K = K.ap (.bool (isLet n)) H := by
  simp only [c32, List.cons.injEq, AV.int.injEq, true_and, and_true]
  exact propext ⟨fun ⟨_, e, h⟩ => e ▸ h, fun h => ⟨_, rfl, h⟩⟩
theorem c32_of (P : Program) {xs : List AV} {H : Heap} {K : Kv} (h : c32 xs H K) : @xF (t0 P) f32 xs H K := by
  obtain ⟨n, rfl, h⟩ := h
  by_cases c3 : 65 ≤ n
  · by_cases c4 : n ≤ 90
    · simp (implicitDefEqProofs := false) only [sB, simprocAttr, f32, c3, c4]
      rw [show isLet n = true by unfold isLet; rw [decide_eq_true]; omega] at h; exact h
    · by_cases c1 : 97 ≤ n
      · by_cases c2 : n ≤ 122
        · simp (implicitDefEqProofs := false) only [sB, simprocAttr, f32, c3, c4, c1, c2]
          rw [show isLet n = true by unfold isLet; rw [decide_eq_true]; omega] at h; exact h
        · simp (implicitDefEqProofs := false) only [sB, simprocAttr, f32, c3, c4, c1, c2]
          rw [show isLet n = false by unfold isLet; rw [decide_eq_false]; omega] at h; exact h
      · simp (implicitDefEqProofs := false) only [sB, simprocAttr, f32, c3, c4, c1]
        rw [show isLet n = false by unfold isLet; rw [decide_eq_false]; omega] at h; exact h
  · have c1 : ¬ 97 ≤ n := by omega
    simp (implicitDefEqProofs := false) only [sB, simprocAttr, f32, c3, c1]
    rw [show isLet n = false by unfold isLet; rw [decide_eq_false]; omega] at h; exact h
@[reducible] def tN (P : Program) : Th := ⟨fun _ => none, P, [(27, c27), (32, c32)]⟩

theorem nameB_false {s : List UInt8} {i : Nat} {c : UInt8} (h : s[i]? = some c) (hc : nameC (b8 c) = false) : nameB s = false := by
  unfold nameB
  rw [Bool.and_eq_false_iff]; right
  rw [Bool.eq_false_iff]
  intro ha
  have := List.all_eq_true.1 ha c (List.mem_of_getElem? h)
  rw [hc] at this; cases this
def c23 (xs : List AV) (H : Heap) (K : Kv) : Prop := ∃ s, xs = [.str s] ∧ s.length ≤ 1099511627776 ∧ K.ap (.bool (nameB s)) H
theorem c23_of (P : Program) {xs : List AV} {H : Heap} {K : Kv} (h : c23 xs H K) : @xF (tN P) f23 xs H ⟨fun v H' => ∃ H0, Hle H0 H' ∧ K.ap v H0⟩ := by
  obtain ⟨s, rfl, hs, h⟩ := h
  by_cases c1 : (s.length : Int) < 1
  · have e : s = [] := List.eq_nil_of_length_eq_zero (by omega)
    subst e
    simp (implicitDefEqProofs := false) only [sB, simprocAttr, f23]
    exact ⟨H, .refl _, h⟩
  · by_cases c2 : (32 : Int) < s.length
    · simp (implicitDefEqProofs := false) only [sB, simprocAttr, f23, c1, c2]
      rw [show nameB s = false by unfold nameB; rw [decide_eq_false (by omega)]; rfl] at h
      exact ⟨H, .refl _, h⟩
    · obtain ⟨a, ha⟩ : ∃ a, s[0]? = some a := ⟨_, List.getElem?_eq_getElem (by omega)⟩
      have hd : headL s = isLet (b8 a) := by cases s with | nil => simp at ha | cons x r => simp at ha; subst ha; rfl
      by_cases c3 : isLet (b8 a) = true
      · simp (implicitDefEqProofs := false) only [sB, simprocAttr, f23, c1, c2, ha, byteAV_b8, x_c32, c3]
        refine i_loopJ (fun σ H1 => ∃ (i : Nat), H1 = H ∧ i ≤ s.length ∧ (∀ x ∈ s.take i, nameC (b8 x) = true) ∧ σ = [(0, .str s), (3, .int .i64 i)])
          (fun σ _ => match σ.get 3 with | .int _ n => s.length - n.toNat | _ => 0)
          (fun e σ H1 => H1 = H ∧ ((e = .exit 0 ∧ nameB s = true) ∨ (e = .ret ∧ σ.get 2 = .bool false ∧ nameB s = false)))
          ⟨_, .refl _, 0, rfl, by omega, by simp, rfl⟩ ?_ ?_
        · rintro e σ H1 ⟨rfl, ⟨rfl, hn⟩ | ⟨rfl, q2, hn⟩⟩
          · rw [hn] at h
            simp (implicitDefEqProofs := false) only [sB, simprocAttr]
            exact ⟨_, .refl _, h⟩
          · rw [hn] at h
            simp (implicitDefEqProofs := false) only [sB, simprocAttr, q2]
            exact ⟨_, .refl _, h⟩
        · rintro Q hQ σ H1 ⟨i, rfl, hi, hall, rfl⟩
          simp (implicitDefEqProofs := false) only [sB, simprocAttr]
          refine i_if (fun d => ?_) (fun d => ?_)
          · have d' : i < s.length := by simpa using d
            have hx : s[i]? = some s[i] := List.getElem?_eq_getElem d'
            have r9 := w_i64 ((i : Int) + 1) (by omega) (by omega)
            have i0 : (0 : Int) ≤ (i : Int) := by omega
            have next : nameC (b8 s[i]) = true → ∀ x ∈ s.take (i + 1), nameC (b8 x) = true := by
              intro hc x hx'
              rw [List.take_add_one, hx] at hx'
              rcases List.mem_append.1 hx' with hx' | hx'
              · exact hall x hx'
              · simp at hx'; subst hx'; exact hc
            by_cases l1 : isLet (b8 s[i]) = true
            · simp (implicitDefEqProofs := false) only [sB, simprocAttr, i0, hx, byteAV_b8, x_c32, l1, r9]
              exact ⟨_, .refl _, ⟨i + 1, rfl, by omega, next (by simp [nameC, l1]), by simp⟩, by omega⟩
            · by_cases l2 : b8 s[i] < 48
              · have l5 : ¬ b8 s[i] = 95 := by omega
                simp (implicitDefEqProofs := false) only [sB, simprocAttr, i0, hx, byteAV_b8, x_c32, l1, l2, l5]
                exact hQ _ _ _ ⟨rfl, .inr ⟨rfl, rfl, nameB_false hx (by simp [nameC, l1]; omega)⟩⟩
              · by_cases l3 : 57 < b8 s[i]
                · by_cases l4 : b8 s[i] = 95
                  · simp (implicitDefEqProofs := false) only [sB, simprocAttr, i0, hx, byteAV_b8, x_c32, l1, l2, l3, eq_true l4, r9]
                    exact ⟨_, .refl _, ⟨i + 1, rfl, by omega, next (by simp [nameC, l4]), by simp⟩, by omega⟩
                  · simp (implicitDefEqProofs := false) only [sB, simprocAttr, i0, hx, byteAV_b8, x_c32, l1, l2, l3, l4]
                    exact hQ _ _ _ ⟨rfl, .inr ⟨rfl, rfl, nameB_false hx (by simp [nameC, l1]; omega)⟩⟩
                · simp (implicitDefEqProofs := false) only [sB, simprocAttr, i0, hx, byteAV_b8, x_c32, l1, l2, l3, r9]
                  exact ⟨_, .refl _, ⟨i + 1, rfl, by omega, next (by simp [nameC]; omega), by simp⟩, by omega⟩
          · have : i = s.length := by have : ¬ (i : Int) < s.length := by simpa using d
                                      omega
            subst this
            simp (implicitDefEqProofs := false) only [sB, simprocAttr]
            refine hQ _ _ _ ⟨rfl, .inl ⟨rfl, ?_⟩⟩
            rw [List.take_length] at hall
            unfold nameB
            rw [hd, c3, decide_eq_true (by omega), List.all_eq_true.2 hall]; rfl
      · simp (implicitDefEqProofs := false) only [sB, simprocAttr, f23, c1, c2, ha, byteAV_b8, x_c32, c3]
        rw [show nameB s = false by unfold nameB; rw [hd]; simp [c3]] at h
        exact ⟨H, .refl _, h⟩
end Go.AL.Fun
