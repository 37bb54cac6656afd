/- Escaping in pieces, plainly; letters; validity by the program. -/
import Derived.Test.YtijioomcpecdhaaDoorS17
set_option linter.unusedSimpArgs false
set_option linter.unusedVariables false
set_option maxRecDepth 100000
set_option maxHeartbeats 4000000
namespace Go.AL.Fun
open Go Go.AL

theorem escP_app (e : Int) {s t : List UInt8} (h : validP s = true) : escP e (s ++ t) = escP e s ++ escP e t := by
  unfold escP
  rw [(valid_app t _ s (Nat.le_refl _) h).1, List.flatMap_append]
theorem escP_len (e : Int) (s : List UInt8) : (escP e s).length ≤ 12 * s.length := by
  have := runeF_len e (decP s)
  have := decP_len _ s (Nat.le_refl _)
  unfold escP; omega
theorem dec1_lo {c : UInt8} {r : List UInt8} (h : c.toNat < 128) : dec1 (c :: r) = (((c.toNat : Nat) : Int), 1) := by
  have hf : fst (c :: r) = (1, false) := by rw [fst, if_pos h]
  unfold dec1; rw [hf]; rfl
theorem escP_lo (e : Int) {c : UInt8} {r : List UInt8} (h : c.toNat < 128) : escP e (c :: r) = runeP e (c.toNat : Nat) ++ escP e r := by
  rw [escP_step e (by simp), dec1_lo h]; rfl
/-- The letters that no escaper changes. -/
def allL : List UInt8 := [97, 98, 99, 100, 101, 102, 103, 104, 105, 106, 107, 108, 109, 110, 111, 112, 113, 114, 115, 116, 117, 118, 119, 120, 121, 122, 65, 66, 67, 68, 69, 70, 71, 72, 73, 74, 75, 76, 77, 78, 79, 80, 81, 82, 83, 84, 85, 86, 87, 88, 89, 90, 48, 49, 50, 51, 52, 53, 54, 55, 56, 57, 45, 46, 95]
def kl (x : UInt8) : UInt8 := allL.getD (x.toNat % 65) 0
theorem all_lo : ∀ i : Fin 65, (allL.getD i.val 0).toNat < 128 := by decide
theorem all_keep : ∀ (e : Fin 5) (i : Fin 65), runeP ((e.val : Nat) : Int) (((allL.getD i.val 0).toNat : Nat) : Int) = [allL.getD i.val 0] := by decide +kernel
theorem all_slice : ∀ i : Fin 65, List.drop i.val (97 :: List.take i.val [98, 99, 100, 101, 102, 103, 104, 105, 106, 107, 108, 109, 110, 111, 112, 113, 114, 115, 116, 117, 118, 119, 120, 121, 122, 65, 66, 67, 68, 69, 70, 71, 72, 73, 74, 75, 76, 77, 78, 79, 80, 81, 82, 83, 84, 85, 86, 87, 88, 89, 90, 48, 49, 50, 51, 52, 53, 54, 55, 56, 57, 45, 46, 95]) = [allL.getD i.val 0] := by decide
theorem escP_keep {e : Nat} (he : e < 5) : ∀ l : List UInt8, escP (e : Int) (l.map kl) = l.map kl
  | [] => rfl
  | x :: l => by
    have hx : x.toNat % 65 < 65 := Nat.mod_lt _ (by decide)
    have h1 := all_lo ⟨_, hx⟩
    have h2 := all_keep ⟨e, he⟩ ⟨_, hx⟩
    rw [List.map_cons, escP_lo _ (by exact h1), escP_keep he l]
    unfold kl
    rw [h2]; rfl
/-- Bytes in pieces. -/
theorem wr_app (b : List UInt8) : ∀ (n : Nat) (s : List UInt8), s.length ≤ n → (wrP (s ++ b)).1 = (wrP s).1 ++ (wrP ((wrP s).2 ++ b)).1 ∧ (wrP (s ++ b)).2 = (wrP ((wrP s).2 ++ b)).2
  | 0, s, h => by
    have : s = [] := List.length_eq_zero_iff.1 (by omega)
    subst this
    rw [wrP_stop (.inl rfl)]; exact ⟨rfl, rfl⟩
  | n + 1, s, h => by
    by_cases hs : s = [] ∨ (fst s).2 = true
    · rw [wrP_stop hs]; exact ⟨rfl, rfl⟩
    · rw [not_or] at hs
      have h1 : (fst s).2 = false := by simpa using hs.2
      have d1 := dec1_pos s
      have d2 := dec1_le hs.1
      have hne : s ++ b ≠ [] := by simp [hs.1]
      have hf : (fst (s ++ b)).2 = false := by rw [fst_ext b hs.1 h1]; exact h1
      have ih := wr_app b n (s.drop (dec1 s).2) (by rw [List.length_drop]; omega)
      rw [wrP_step hs.1 h1, wrP_step hne hf, dec1_ext b hs.1 h1, List.drop_append_of_le_length d2]
      exact ⟨by rw [ih.1]; rfl, ih.2⟩
theorem wr_end (s : List UInt8) : decP s = (wrP s).1 ++ decP (wrP s).2 := by
  have := (wr_dec [] _ s (Nat.le_refl _)).1
  simpa using this
theorem wr_held (s : List UInt8) : (wrP s).2.length ≤ 3 := by
  have h := (wr_dec [] _ s (Nat.le_refl _)).2.1
  rcases h with h | h
  · rw [h]; simp
  · generalize (wrP s).2 = t at h
    cases t with
    | nil => simp
    | cons c r =>
      rw [fst] at h
      split at h
      · cases h
      · split at h
        · cases h
        · have h1 := fgo_more _ _ _ _ h
          have h2 := szOf_cases c.toNat
          rw [List.length_cons]; omega
theorem runeQ_9 {e q : Int} (hok : okR q) (h : q < 128 ∨ q = 65533) : (runeQ e q).length ≤ 9 := by
  have he : (enc1 q).length ≤ 3 := by
    have hC : encC q = q.toNat := by unfold encC; rw [if_neg (by have := hok.1; have := hok.2.1; have := hok.2.2; omega)]
    unfold enc1
    rw [hC]
    split
    · simp
    · split
      · simp
      · split
        · simp
        · omega
  have hh := htmlP_len q
  have hp := pct_len (enc1 q)
  unfold runeQ
  split
  · omega
  split
  · omega
  split
  · omega
  split
  · rename_i h3
    have hn : q.toNat ≤ 65535 := by omega
    have := hexL_4 hn
    simp only [hex4, List.length_append, List.length_replicate, List.length_cons, List.length_nil]; omega
  split
  · rename_i h4
    have hn : q.toNat ≤ 65535 := by omega
    have := hexL_4 hn
    simp only [List.length_append, List.length_cons, List.length_nil]; omega
  · omega
theorem dec1_one {s : List UInt8} (h : (dec1 s).2 = 1) : (0 ≤ (dec1 s).1 ∧ (dec1 s).1 < 128) ∨ (dec1 s).1 = 65533 := by
  unfold dec1 at h ⊢
  split
  · exact .inr rfl
  · rename_i h0
    rw [if_neg h0] at h
    have h : (fst s).1 = 1 := h
    cases s with
    | nil => exact absurd rfl h0
    | cons c r =>
      left
      rw [h]
      rw [fst] at h
      split at h
      · rename_i hc
        simp only [List.take_succ_cons, List.take_zero, val]; omega
      · split at h
        · cases h
        · rename_i hs
          have h2 := szOf_cases c.toNat
          rcases fgo_size (size := szOf c.toNat) (szOf c.toNat - 1) (loOf c.toNat) (hiOf c.toNat) r with k | ⟨k, _⟩ <;> omega
theorem escP_9 (e : Int) : ∀ (n : Nat) (s : List UInt8), s.length ≤ n → (escP e s).length ≤ 9 * s.length
  | 0, s, h => by
    have : s = [] := List.length_eq_zero_iff.1 (by omega)
    subst this; simp [escP_nil]
  | n + 1, s, h => by
    by_cases hs : s = []
    · subst hs; simp [escP_nil]
    · have d1 := dec1_pos s
      have d2 := dec1_le hs
      have ih := escP_9 e n (s.drop (dec1 s).2) (by rw [List.length_drop]; omega)
      rw [escP_step e hs, List.length_append]
      rw [List.length_drop] at ih
      have h12 := (runeP_len e (dec1 s).1).2
      by_cases hd : (dec1 s).2 = 1
      · have h9 : (runeP e (dec1 s).1).length ≤ 9 := by
          refine runeQ_9 (normP_ok _ _) ?_
          have := dec1_one hd
          unfold normP
          split
          · exact .inr rfl
          · omega
        omega
      · omega
end Go.AL.Fun
