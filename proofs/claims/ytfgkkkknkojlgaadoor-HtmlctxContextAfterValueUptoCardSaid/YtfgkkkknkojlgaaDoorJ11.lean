/- An escaped value keeps the state of the context automaton. -/
import Derived.Test.YtfgkkkknkojlgaaDoorJ2
set_option linter.unusedSimpArgs false
set_option linter.unusedVariables false
set_option maxRecDepth 100000
set_option maxHeartbeats 4000000
namespace Go.AL.Fun
open Go Go.AL

theorem run_keep {s : St} : ∀ {x : List UInt8}, (∀ b ∈ x, stepP s b = s) → runP s x = s
  | [], _ => rfl
  | b :: x, h => by
    have h1 := h b List.mem_cons_self
    show runP (stepP s b) x = s
    rw [h1]
    exact run_keep fun c hc => h c (List.mem_cons_of_mem _ hc)
theorem enc_bytes {q : Int} (hok : okR q) : ∀ b ∈ enc1 q, n8 b = q ∨ 128 ≤ n8 b := by
  intro b hb
  by_cases h : q < 128
  · rw [enc_lo hok.1 h, List.mem_singleton] at hb
    subst hb
    have := hok.1
    unfold n8; left; simp; omega
  · right
    have := enc_hi hok (by omega) b hb
    unfold n8; omega
theorem html_bytes (q : Int) : ∀ b ∈ htmlP q, n8 b ≠ 60 ∧ n8 b ≠ 34 ∧ n8 b ≠ 39 := by
  unfold htmlP n8
  repeat' split
  all_goals decide
theorem up_byte : ∀ d : Fin 16, n8 (up d.val) ≠ 34 ∧ n8 (up d.val) ≠ 39 := by unfold n8; decide
theorem hx_byte : ∀ d : Fin 16, n8 (hx d.val) ≠ 60 ∧ n8 (hx d.val) ≠ 34 ∧ n8 (hx d.val) ≠ 39 ∧ n8 (hx d.val) ≠ 10 ∧ n8 (hx d.val) ≠ 92 := by unfold n8; decide
theorem hexL_byte (n : Nat) : ∀ b ∈ hexL n, n8 b ≠ 60 ∧ n8 b ≠ 34 ∧ n8 b ≠ 39 ∧ n8 b ≠ 10 ∧ n8 b ≠ 92 := fun b hb => by
  obtain ⟨d, hd, rfl⟩ := hexL_mem n n (Nat.le_refl _) b hb
  exact hx_byte ⟨d, hd⟩
def Tame (b : UInt8) : Prop := n8 b ≠ 60 ∧ n8 b ≠ 34 ∧ n8 b ≠ 39 ∧ n8 b ≠ 10 ∧ n8 b ≠ 92
theorem raw_keep {c code : Int} {n a e : List UInt8} (hc : c - code = 1 ∨ c - code = 2) {b : UInt8} (hb : Tame b) : rawP ⟨c, n, a, []⟩ code e b = ⟨c, n, a, []⟩ := by
  obtain ⟨h1, h2, h3, h4, h5⟩ := hb
  have hz : ¬ c - code = 0 := by omega
  have hq : ¬ (n8 b = (if c - code = 1 then 34 else if c - code = 2 then 39 else 0)) := by rcases hc with h | h <;> simp [h, h2, h3]
  unfold rawP
  simp [h1, hz, hq, h4, h5]
theorem raw_esc {c code : Int} {n a e : List UInt8} (hc : c - code = 1 ∨ c - code = 2) : rawP ⟨c, n, a, []⟩ code e 92 = ⟨c, n, a, [92]⟩ := by
  have hz : ¬ c - code = 0 := by omega
  have n92 : n8 92 = 92 := by decide
  have hq : ¬ ((92 : Int) = (if c - code = 1 then 34 else if c - code = 2 then 39 else 0)) := by rcases hc with h | h <;> simp [h]
  unfold rawP
  simp [n92, hz, hq]
theorem raw_skip {c code : Int} {n a e : List UInt8} {b : UInt8} (hb : n8 b ≠ 60) : rawP ⟨c, n, a, [92]⟩ code e b = ⟨c, n, a, []⟩ := by
  have hp : ([60] : List UInt8).isPrefixOf [92] = false := by decide
  unfold rawP
  simp [hp, hb]
theorem step_raw {c : Int} (hc : c = 17 ∨ c = 18 ∨ c = 20 ∨ c = 21) (n a p : List UInt8) (b : UInt8) : ∃ code e, (c - code = 1 ∨ c - code = 2) ∧ stepP ⟨c, n, a, p⟩ b = rawP ⟨c, n, a, p⟩ code e b := by
  rcases hc with rfl | rfl | rfl | rfl
  · exact ⟨16, scriptE, by decide, by unfold stepP; simp⟩
  · exact ⟨16, scriptE, by decide, by unfold stepP; simp⟩
  · exact ⟨19, styleE, by decide, by unfold stepP; simp⟩
  · exact ⟨19, styleE, by decide, by unfold stepP; simp⟩
theorem code_keep {c : Int} (hc : c = 17 ∨ c = 18 ∨ c = 20 ∨ c = 21) (n a : List UInt8) {x : List UInt8} (h : ∀ b ∈ x, Tame b) : runP ⟨c, n, a, []⟩ x = ⟨c, n, a, []⟩ :=
  run_keep fun b hb => by
    obtain ⟨code, e, h1, h2⟩ := step_raw hc n a [] b
    rw [h2]; exact raw_keep h1 (h b hb)
theorem code_esc {c : Int} (hc : c = 17 ∨ c = 18 ∨ c = 20 ∨ c = 21) (n a : List UInt8) {b : UInt8} {x : List UInt8} (hb : n8 b ≠ 60) (h : ∀ b ∈ x, Tame b) : runP ⟨c, n, a, []⟩ (92 :: b :: x) = ⟨c, n, a, []⟩ := by
  show runP (stepP (stepP ⟨c, n, a, []⟩ 92) b) x = _
  obtain ⟨code, e, h1, h2⟩ := step_raw hc n a [] 92
  obtain ⟨code2, e2, h3, h4⟩ := step_raw hc n a [92] b
  rw [h2, raw_esc h1, h4, raw_skip hb]
  exact code_keep hc n a h
theorem tame_enc {q : Int} (hok : okR q) (h1 : q ≠ 60) (h2 : q ≠ 34) (h3 : q ≠ 39) (h4 : q ≠ 10) (h5 : q ≠ 92) : ∀ b ∈ enc1 q, Tame b := fun b hb => by
  have := enc_bytes hok b hb
  unfold Tame; omega
theorem stay_rune {s : St} (hI : Inv s) {k : Int} (h : escH s = (k, true)) (r : Int) : runP s (runeP k r) = s := by
  have hok := normP_ok k r
  unfold runeP
  generalize normP k r = q at *
  obtain ⟨c, n, a, p⟩ := s
  unfold escH at h
  simp only at h
  split at h
  · cases h
  rename_i hp
  have hp : p = [] := by simpa using hp
  subst hp
  split at h
  · rename_i hc
    subst hc
    cases h
    obtain ⟨rfl, rfl, _⟩ := hI.text rfl
    refine zero_run fun b hb => ?_
    rw [rq0] at hb
    split at hb
    · exact (html_bytes q b hb).1
    · rename_i hq
      have := enc_bytes hok b hb
      have : q ≠ 60 := by rintro rfl; exact hq (.inr (by decide))
      omega
  split at h
  · rename_i hc0 hc
    cases h
    refine run_keep fun b hb => ?_
    have hb2 : n8 b ≠ 34 ∧ n8 b ≠ 39 := by
      rw [rq1] at hb
      split at hb
      · exact (html_bytes q b hb).2
      · split at hb
        · exact (html_bytes q b hb).2
        · rename_i h1 hq
          have := enc_bytes hok b hb
          have : q ≠ 34 := by rintro rfl; exact hq (.inr (by decide))
          have : q ≠ 39 := by rintro rfl; exact hq (.inr (by decide))
          omega
    rcases hc with rfl | rfl <;> (unfold stepP tagP; simp [hb2.1, hb2.2])
  split at h
  · rename_i hc0 hc1 hc
    cases h
    refine run_keep fun b hb => ?_
    have hb2 : n8 b ≠ 34 ∧ n8 b ≠ 39 := by
      rw [rq2] at hb
      split at hb
      · unfold pct at hb
        obtain ⟨d, _, hd⟩ := List.mem_flatMap.1 hb
        have hd2 := d.toNat_lt
        simp only [pct1, List.mem_cons, List.not_mem_nil, or_false] at hd
        rcases hd with rfl | rfl | rfl
        · unfold n8; decide
        · exact up_byte ⟨d.toNat / 16, by omega⟩
        · exact up_byte ⟨d.toNat % 16, Nat.mod_lt _ (by decide)⟩
      · rename_i hq
        have := enc_bytes hok b hb
        have : q ≠ 34 := by rintro rfl; exact hq (by decide)
        have : q ≠ 39 := by rintro rfl; exact hq (by decide)
        omega
    rcases hc with rfl | rfl <;> (unfold stepP tagP; simp [hb2.1, hb2.2])
  split at h
  · rename_i hc0 hc1 hc2 hc
    cases h
    have hc4 : c = 17 ∨ c = 18 ∨ c = 20 ∨ c = 21 := by omega
    rw [rq3]
    split
    · refine code_esc hc4 n a (by unfold n8; decide) fun b hb => ?_
      have hb : b ∈ hex4 q := hb
      unfold hex4 at hb
      rcases List.mem_append.1 hb with hb | hb
      · rw [List.mem_replicate] at hb; rw [hb.2]; unfold Tame n8; decide
      · exact hexL_byte _ b hb
    · rename_i hq
      refine code_keep hc4 n a (tame_enc hok ?_ ?_ ?_ ?_ ?_)
      · rintro rfl; exact hq (by decide)
      · rintro rfl; exact hq (by decide)
      · rintro rfl; exact hq (by decide)
      · rintro rfl; exact hq (by decide)
      · rintro rfl; exact hq (by decide)
  split at h
  · rename_i hc0 hc1 hc2 hc3 hc
    cases h
    have hc4 : c = 17 ∨ c = 18 ∨ c = 20 ∨ c = 21 := by omega
    rw [rq4]
    split
    · obtain ⟨d, x, hx⟩ := List.exists_cons_of_ne_nil (hexL_ne q.toNat)
      have hb := hexL_byte q.toNat
      rw [hx] at hb ⊢
      refine code_esc hc4 n a (hb d List.mem_cons_self).1 fun b hb2 => ?_
      rcases List.mem_append.1 hb2 with hb2 | hb2
      · exact hb b (List.mem_cons_of_mem _ hb2)
      · rw [List.mem_singleton] at hb2; subst hb2; unfold Tame n8; decide
    · rename_i hq
      refine code_keep hc4 n a (tame_enc hok ?_ ?_ ?_ ?_ ?_)
      · rintro rfl; exact hq (by decide)
      · rintro rfl; exact hq (by decide)
      · rintro rfl; exact hq (by decide)
      · rintro rfl; exact hq (by decide)
      · rintro rfl; exact hq (by decide)
  · cases h
theorem stay_esc {s : St} (hI : Inv s) {k : Int} (h : escH s = (k, true)) (v : List UInt8) : runP s (escP k v) = s := by
  have : ∀ l : List Int, runP s (l.flatMap (runeP k)) = s := by
    intro l
    induction l with
    | nil => rfl
    | cons r l ih => rw [List.flatMap_cons, run_app, stay_rune hI h, ih]
  exact this _
theorem escH_rng (s : St) : 0 ≤ (escH s).1 ∧ (escH s).1 ≤ 4 ∧ ((escH s).2 = false → (escH s).1 = 0) := by
  unfold escH
  repeat' split
  all_goals simp
end Go.AL.Fun
