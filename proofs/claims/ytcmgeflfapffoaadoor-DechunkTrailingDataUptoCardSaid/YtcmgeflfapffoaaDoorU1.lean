/- UTF-8, plainly: the first encoding, decoding, encoding, decoding in pieces. -/
import Derived.Test.YtcmgeflfapffoaaDoorB3
import GoSem.Core.Utf8
set_option linter.unusedSimpArgs false
set_option linter.unusedVariables false
namespace Go.AL.Fun
open Go Go.AL

def szOf (c : Nat) : Nat := if 194 ≤ c ∧ c ≤ 223 then 2 else if 224 ≤ c ∧ c ≤ 239 then 3 else if 240 ≤ c ∧ c ≤ 244 then 4 else 0
def loOf (c : Nat) : Nat := if c = 224 then 160 else if c = 240 then 144 else 128
def hiOf (c : Nat) : Nat := if c = 237 then 159 else if c = 244 then 143 else 191
def fgo (size : Nat) : Nat → Nat → Nat → List UInt8 → Nat × Bool
  | 0, _, _, _ => (size, false)
  | _ + 1, _, _, [] => (0, true)
  | k + 1, lo, hi, b :: r => if b.toNat < lo ∨ hi < b.toNat then (0, false) else fgo size k 128 191 r
/-- The size of the encoding at the start, or 0; is it a proper prefix of one? -/
def fst : List UInt8 → Nat × Bool
  | [] => (0, false)
  | c :: r => if c.toNat < 128 then (1, false) else if szOf c.toNat = 0 then (0, false) else fgo (szOf c.toNat) (szOf c.toNat - 1) (loOf c.toNat) (hiOf c.toNat) r
def val : List UInt8 → Int
  | [a] => a.toNat
  | [a, b] => ((a.toNat : Int) - 192) * 64 + ((b.toNat : Int) - 128)
  | [a, b, c] => ((a.toNat : Int) - 224) * 4096 + ((b.toNat : Int) - 128) * 64 + ((c.toNat : Int) - 128)
  | [a, b, c, d] => ((a.toNat : Int) - 240) * 262144 + ((b.toNat : Int) - 128) * 4096 + ((c.toNat : Int) - 128) * 64 + ((d.toNat : Int) - 128)
  | _ => 0
/-- The rune at the start, and how many bytes it takes. -/
def dec1 (s : List UInt8) : Int × Nat := if (fst s).1 = 0 then (65533, 1) else (val (s.take (fst s).1), (fst s).1)
def decF : Nat → List UInt8 → List Int
  | 0, _ => []
  | f + 1, s => if s = [] then [] else (dec1 s).1 :: decF f (s.drop (dec1 s).2)
def decP (s : List UInt8) : List Int := decF s.length s
def validF : Nat → List UInt8 → Bool
  | 0, s => decide (s = [])
  | f + 1, s => if s = [] then true else if (fst s).1 = 0 then false else validF f (s.drop (fst s).1)
def validP (s : List UInt8) : Bool := validF s.length s
def encC (r : Int) : Nat := if r < 0 ∨ 1114111 < r ∨ (55296 ≤ r ∧ r ≤ 57343) then 65533 else r.toNat
def enc1 (r : Int) : List UInt8 :=
  if encC r < 128 then [.ofNat (encC r)]
  else if encC r < 2048 then [.ofNat (192 + encC r / 64), .ofNat (128 + encC r % 64)]
  else if encC r < 65536 then [.ofNat (224 + encC r / 4096), .ofNat (128 + encC r / 64 % 64), .ofNat (128 + encC r % 64)]
  else [.ofNat (240 + encC r / 262144), .ofNat (128 + encC r / 4096 % 64), .ofNat (128 + encC r / 64 % 64), .ofNat (128 + encC r % 64)]
def encP (l : List Int) : List UInt8 := l.flatMap enc1

theorem fgo_size {size : Nat} : ∀ (k lo hi : Nat) (r : List UInt8), (fgo size k lo hi r).1 = 0 ∨ ((fgo size k lo hi r).1 = size ∧ (fgo size k lo hi r).2 = false ∧ k ≤ r.length)
  | 0, _, _, _ => .inr ⟨rfl, rfl, Nat.zero_le _⟩
  | k + 1, lo, hi, [] => .inl rfl
  | k + 1, lo, hi, b :: r => by
    rw [fgo]
    split
    · exact .inl rfl
    · rcases fgo_size (size := size) k 128 191 r with h | ⟨h1, h2, h3⟩
      · exact .inl h
      · exact .inr ⟨h1, h2, by simp; omega⟩
theorem szOf_cases (c : Nat) : szOf c = 0 ∨ szOf c = 2 ∨ szOf c = 3 ∨ szOf c = 4 := by
  unfold szOf
  repeat' split
  all_goals decide
theorem fst_cases (s : List UInt8) : (fst s).1 = 0 ∨ ((fst s).2 = false ∧ 1 ≤ (fst s).1 ∧ (fst s).1 ≤ 4 ∧ (fst s).1 ≤ s.length) := by
  cases s with
  | nil => exact .inl rfl
  | cons c r =>
    rw [fst]
    split
    · exact .inr ⟨rfl, by decide, by decide, by simp⟩
    · split
      · exact .inl rfl
      · rename_i h1 h2
        have hs := szOf_cases c.toNat
        rcases fgo_size (size := szOf c.toNat) (szOf c.toNat - 1) (loOf c.toNat) (hiOf c.toNat) r with h | ⟨k1, k2, k3⟩
        · exact .inl h
        · exact .inr ⟨k2, by omega, by omega, by rw [k1]; simp; omega⟩
theorem fgo_ext {size : Nat} : ∀ (k lo hi : Nat) (r t : List UInt8), (fgo size k lo hi r).2 = false → fgo size k lo hi (r ++ t) = fgo size k lo hi r
  | 0, _, _, _, _, _ => rfl
  | k + 1, lo, hi, [], _, h => by cases h
  | k + 1, lo, hi, b :: r, t, h => by
    rw [List.cons_append]
    rw [fgo] at h ⊢
    rw [fgo]
    split
    · rfl
    · rename_i hc
      rw [if_neg hc] at h
      exact fgo_ext k 128 191 r t h
/-- What is decided stays so, whatever follows. -/
theorem fst_ext {s : List UInt8} (t : List UInt8) (hs : s ≠ []) (h : (fst s).2 = false) : fst (s ++ t) = fst s := by
  cases s with
  | nil => exact absurd rfl hs
  | cons c r =>
    rw [List.cons_append]
    rw [fst] at h ⊢
    rw [fst]
    split
    · rfl
    · split
      · rfl
      · rename_i h1 h2
        rw [if_neg h1, if_neg h2] at h
        exact fgo_ext _ _ _ r t h
theorem fst_app {s : List UInt8} (t : List UInt8) (h : (fst s).1 ≠ 0) : fst (s ++ t) = fst s := by
  have hs : s ≠ [] := by rintro rfl; exact h rfl
  rcases fst_cases s with h0 | ⟨h0, _⟩
  · exact absurd h0 h
  · exact fst_ext t hs h0
theorem fst_take0 {s : List UInt8} (k : Nat) (h : (fst s).1 = 0) : (fst (s.take k)).1 = 0 := by
  by_cases e : (fst (s.take k)).1 = 0
  · exact e
  · have := fst_app (s.drop k) e
    rw [List.take_append_drop] at this
    rw [this] at h; exact absurd h e
theorem fgo_take {size : Nat} : ∀ (k lo hi : Nat) (r : List UInt8), (fgo size k lo hi r).1 ≠ 0 → ∀ j, k ≤ j → fgo size k lo hi (r.take j) = fgo size k lo hi r
  | 0, _, _, _, _, _, _ => rfl
  | k + 1, lo, hi, [], h, _, _ => absurd rfl h
  | k + 1, lo, hi, b :: r, h, j, hj => by
    obtain ⟨j, rfl⟩ : ∃ j', j = j' + 1 := ⟨j - 1, by omega⟩
    rw [List.take_succ_cons]
    rw [fgo] at h ⊢
    rw [fgo]
    split
    · rfl
    · rename_i hc
      rw [if_neg hc] at h
      exact fgo_take k 128 191 r h j (by omega)
/-- An encoding is decided by itself. -/
theorem fst_self {s : List UInt8} (h : (fst s).1 ≠ 0) {j : Nat} (hj : (fst s).1 ≤ j) : fst (s.take j) = fst s := by
  cases s with
  | nil => exact absurd rfl h
  | cons c r =>
    have hc := fst_cases (c :: r)
    obtain ⟨j, rfl⟩ : ∃ j', j = j' + 1 := ⟨j - 1, by omega⟩
    rw [List.take_succ_cons]
    rw [fst] at h hj ⊢
    rw [fst]
    split
    · rfl
    · split
      · rfl
      · rename_i h1 h2
        rw [if_neg h1, if_neg h2] at h hj
        refine fgo_take _ _ _ r h j ?_
        rcases fgo_size (size := szOf c.toNat) (szOf c.toNat - 1) (loOf c.toNat) (hiOf c.toNat) r with k | ⟨k1, _, _⟩
        · exact absurd k h
        · omega
theorem fgo_more {size : Nat} : ∀ (k lo hi : Nat) (r : List UInt8), (fgo size k lo hi r).2 = true → r.length < k ∧ (fgo size k lo hi r).1 = 0
  | 0, _, _, _, h => by cases h
  | k + 1, lo, hi, [], _ => ⟨by simp, rfl⟩
  | k + 1, lo, hi, b :: r, h => by
    rw [fgo] at h ⊢
    split at h
    · cases h
    · rename_i hc
      rw [if_neg hc]
      have := fgo_more (size := size) k 128 191 r h
      exact ⟨by simp; omega, this.2⟩
theorem fst_more {s : List UInt8} (h : (fst s).2 = true) : s.length ≤ 3 ∧ s ≠ [] ∧ (fst s).1 = 0 := by
  cases s with
  | nil => cases h
  | cons c r =>
    rw [fst] at h ⊢
    split at h
    · cases h
    · rename_i h1
      split at h
      · cases h
      · rename_i h2
        rw [if_neg h1, if_neg h2]
        have hs := szOf_cases c.toNat
        have := fgo_more (size := szOf c.toNat) _ _ _ r h
        exact ⟨by simp; omega, by simp, this.2⟩
theorem dec1_pos (s : List UInt8) : 1 ≤ (dec1 s).2 := by
  unfold dec1
  rcases fst_cases s with h | ⟨_, h, _⟩
  · rw [if_pos h]; decide
  · rw [if_neg (by omega)]; exact h
theorem dec1_le {s : List UInt8} (hs : s ≠ []) : (dec1 s).2 ≤ s.length := by
  unfold dec1
  rcases fst_cases s with h | ⟨_, h, _, h2⟩
  · rw [if_pos h]; exact List.length_pos_iff.2 hs
  · rw [if_neg (by omega)]; exact h2
theorem decF_fuel : ∀ (f : Nat) (s : List UInt8), s.length ≤ f → decF f s = decP s := by
  have key : ∀ (f g : Nat) (s : List UInt8), s.length ≤ f → s.length ≤ g → decF f s = decF g s := by
    intro f
    induction f with
    | zero =>
      intro g s h _
      have : s = [] := List.eq_nil_of_length_eq_zero (by omega)
      subst this
      cases g <;> simp [decF]
    | succ f ih =>
      intro g s h1 h2
      cases g with
      | zero =>
        have : s = [] := List.eq_nil_of_length_eq_zero (by omega)
        subst this; simp [decF]
      | succ g =>
        rw [decF, decF]
        split
        · rfl
        · rename_i hs
          have hp := dec1_pos s
          have hl := List.length_pos_iff.2 hs
          rw [ih g (s.drop (dec1 s).2) (by rw [List.length_drop]; omega) (by rw [List.length_drop]; omega)]
  exact fun f s h => key f s.length s h (Nat.le_refl _)
theorem decP_nil : decP [] = [] := rfl
theorem decP_step {s : List UInt8} (hs : s ≠ []) : decP s = (dec1 s).1 :: decP (s.drop (dec1 s).2) := by
  have hl := List.length_pos_iff.2 hs
  have hp := dec1_pos s
  have e : decP s = decF (s.length - 1 + 1) s := by rw [Nat.sub_add_cancel hl]; rfl
  rw [e, decF, if_neg hs, decF_fuel _ _ (by rw [List.length_drop]; omega)]
theorem validF_fuel : ∀ (f : Nat) (s : List UInt8), s.length ≤ f → validF f s = validP s := by
  have key : ∀ (f g : Nat) (s : List UInt8), s.length ≤ f → s.length ≤ g → validF f s = validF g s := by
    intro f
    induction f with
    | zero =>
      intro g s h _
      have : s = [] := List.eq_nil_of_length_eq_zero (by omega)
      subst this
      cases g <;> simp [validF]
    | succ f ih =>
      intro g s h1 h2
      cases g with
      | zero =>
        have : s = [] := List.eq_nil_of_length_eq_zero (by omega)
        subst this; simp [validF]
      | succ g =>
        rw [validF, validF]
        split
        · rfl
        · split
          · rfl
          · rename_i hs h0
            have hl := List.length_pos_iff.2 hs
            rw [ih g (s.drop (fst s).1) (by rw [List.length_drop]; omega) (by rw [List.length_drop]; omega)]
  exact fun f s h => key f s.length s h (Nat.le_refl _)
theorem validP_step {s : List UInt8} (hs : s ≠ []) : validP s = if (fst s).1 = 0 then false else validP (s.drop (fst s).1) := by
  have hl := List.length_pos_iff.2 hs
  have e : validP s = validF (s.length - 1 + 1) s := by rw [Nat.sub_add_cancel hl]; rfl
  rw [e, validF, if_neg hs]
  split
  · rfl
  · rw [validF_fuel _ _ (by rw [List.length_drop]; omega)]
theorem validP_nil : validP [] = true := rfl
theorem dec1_two {s : List UInt8} (h : (fst s).1 ≠ 0) : dec1 s = (val (s.take (fst s).1), (fst s).1) := by unfold dec1; rw [if_neg h]
theorem dec1_ext {s : List UInt8} (t : List UInt8) (hs : s ≠ []) (h : (fst s).2 = false) : dec1 (s ++ t) = dec1 s := by
  unfold dec1
  rw [fst_ext t hs h]
  split
  · rfl
  · rcases fst_cases s with h0 | ⟨_, _, _, h2⟩
    · rename_i hn; exact absurd h0 hn
    · rw [List.take_append_of_le_length h2]
/-- Two strings of which the first is valid. -/
theorem valid_app (b : List UInt8) : ∀ (n : Nat) (a : List UInt8), a.length ≤ n → validP a = true → decP (a ++ b) = decP a ++ decP b ∧ validP (a ++ b) = validP b
  | n, [], _, _ => ⟨rfl, rfl⟩
  | 0, c :: r, h, _ => by simp at h
  | n + 1, c :: r, hn, hv => by
    have hs : c :: r ≠ [] := by simp
    have hs2 : c :: r ++ b ≠ [] := by simp
    rw [validP_step hs] at hv
    split at hv
    · cases hv
    · rename_i h0
      rcases fst_cases (c :: r) with h | ⟨f1, f2, f3, f4⟩
      · exact absurd h h0
      · have e1 := fst_app b h0
        have e2 := dec1_ext b hs f1
        have e3 : (c :: r ++ b).drop (fst (c :: r)).1 = (c :: r).drop (fst (c :: r)).1 ++ b := List.drop_append_of_le_length f4
        obtain ⟨i1, i2⟩ := valid_app b n ((c :: r).drop (fst (c :: r)).1) (by rw [List.length_drop]; simp at hn ⊢; omega) hv
        constructor
        · rw [decP_step hs2, decP_step hs, e2, dec1_two h0]
          simp only
          rw [e3, i1, List.cons_append]
        · rw [validP_step hs2, e1, if_neg h0, e3, i2]
/-- What a decoder makes of what it holds: the runes, what is held back. -/
def wrF : Nat → List UInt8 → List Int × List UInt8
  | 0, s => ([], s)
  | f + 1, s => if s = [] ∨ (fst s).2 = true then ([], s) else ((dec1 s).1 :: (wrF f (s.drop (dec1 s).2)).1, (wrF f (s.drop (dec1 s).2)).2)
def wrP (s : List UInt8) : List Int × List UInt8 := wrF s.length s
theorem wrF_fuel : ∀ (f : Nat) (s : List UInt8), s.length ≤ f → wrF f s = wrP s := by
  have key : ∀ (f g : Nat) (s : List UInt8), s.length ≤ f → s.length ≤ g → wrF f s = wrF g s := by
    intro f
    induction f with
    | zero =>
      intro g s h _
      have : s = [] := List.eq_nil_of_length_eq_zero (by omega)
      subst this
      cases g <;> simp [wrF]
    | succ f ih =>
      intro g s h1 h2
      cases g with
      | zero =>
        have : s = [] := List.eq_nil_of_length_eq_zero (by omega)
        subst this; simp [wrF]
      | succ g =>
        rw [wrF, wrF]
        split
        · rfl
        · rename_i hs
          rw [not_or] at hs
          have hp := dec1_pos s
          have hl := List.length_pos_iff.2 hs.1
          rw [ih g (s.drop (dec1 s).2) (by rw [List.length_drop]; omega) (by rw [List.length_drop]; omega)]
  exact fun f s h => key f s.length s h (Nat.le_refl _)
theorem wrP_stop {s : List UInt8} (h : s = [] ∨ (fst s).2 = true) : wrP s = ([], s) := by
  unfold wrP
  cases s with
  | nil => rfl
  | cons c r => rw [List.length_cons, wrF, if_pos h]
theorem wrP_step {s : List UInt8} (hs : s ≠ []) (h : (fst s).2 = false) : wrP s = ((dec1 s).1 :: (wrP (s.drop (dec1 s).2)).1, (wrP (s.drop (dec1 s).2)).2) := by
  have hl := List.length_pos_iff.2 hs
  have hp := dec1_pos s
  have e : wrP s = wrF (s.length - 1 + 1) s := by rw [Nat.sub_add_cancel hl]; rfl
  rw [e, wrF, if_neg (by rw [not_or]; exact ⟨hs, by simp [h]⟩), wrF_fuel _ _ (by rw [List.length_drop]; omega)]
/-- In pieces as at once. -/
theorem wr_dec (t : List UInt8) : ∀ (n : Nat) (s : List UInt8), s.length ≤ n → decP (s ++ t) = (wrP s).1 ++ decP ((wrP s).2 ++ t) ∧ ((wrP s).2 = [] ∨ (fst (wrP s).2).2 = true) ∧ (wrP s).2.length ≤ s.length ∧ (wrP s).1.length ≤ s.length
  | n, s, hn => by
    by_cases hstop : s = [] ∨ (fst s).2 = true
    · rw [wrP_stop hstop]; exact ⟨rfl, hstop, Nat.le_refl _, Nat.zero_le _⟩
    · rw [not_or] at hstop
      have hs := hstop.1
      have hf : (fst s).2 = false := by simpa using hstop.2
      have hl := List.length_pos_iff.2 hs
      have hp := dec1_pos s
      have hle := dec1_le hs
      rw [wrP_step hs hf]
      cases n with
      | zero => omega
      | succ n =>
        obtain ⟨i1, i2, i3, i4⟩ := wr_dec t n (s.drop (dec1 s).2) (by rw [List.length_drop]; omega)
        rw [List.length_drop] at i3 i4
        refine ⟨?_, i2, by simp only; omega, by simp only [List.length_cons]; omega⟩
        rw [decP_step (by simp [hs]), dec1_ext t hs hf, List.drop_append_of_le_length hle, i1]; rfl
end Go.AL.Fun
