/- A path cut at its points: plainly, and as the library's contract says it. -/
import Derived.Lib.SplitLaws
namespace Go.AL.Fun
open Go

def splitD : List UInt8 → List (List UInt8)
  | [] => [[]]
  | c :: s => if c = 46 then [] :: splitD s else match splitD s with
    | [] => [[c]]
    | h :: t => (c :: h) :: t
theorem splitD_cons (c : UInt8) (s : List UInt8) : splitD (c :: s) = if c = 46 then [] :: splitD s else match splitD s with
    | [] => [[c]]
    | h :: t => (c :: h) :: t := by rw [splitD]
theorem splitD_ne (s : List UInt8) : splitD s ≠ [] := by
  cases s with
  | nil => simp [splitD]
  | cons c s =>
    unfold splitD
    split
    · simp
    · split <;> simp
theorem ix_cons (b : UInt8) (l : List UInt8) : Lib.indexByte (b :: l) 46 = if b == 46 then 0 else if Lib.indexByte l 46 == -1 then -1 else Lib.indexByte l 46 + 1 := rfl
theorem splitD_miss : ∀ s : List UInt8, Lib.indexByte s 46 = -1 → splitD s = [s]
  | [], _ => rfl
  | c :: s, h => by
    rw [ix_cons] at h
    have hg := Lib.indexByte_ge s 46
    by_cases hc : c = 46
    · subst hc; simp at h
    · have hc' : (c == 46) = false := by simpa using hc
      rw [hc', if_neg (by simp)] at h
      by_cases h1 : Lib.indexByte s 46 = -1
      · unfold splitD; rw [if_neg hc, splitD_miss s h1]
      · rw [if_neg (by simpa using h1)] at h; omega
theorem splitD_hit : ∀ (s : List UInt8) (i : Nat), Lib.indexByte s 46 = i → splitD s = s.take i :: splitD (s.drop (i + 1))
  | [], i, h => by
    have : (-1 : Int) = i := h
    omega
  | c :: s, i, h => by
    rw [ix_cons] at h
    have hg := Lib.indexByte_ge s 46
    by_cases hc : c = 46
    · subst hc
      rw [if_pos (by simp)] at h
      obtain rfl : i = 0 := by omega
      rw [splitD_cons, if_pos rfl]; rfl
    · have hc' : (c == 46) = false := by simpa using hc
      rw [hc', if_neg (by simp)] at h
      by_cases h1 : Lib.indexByte s 46 = -1
      · rw [if_pos (by simpa using h1)] at h; omega
      · rw [if_neg (by simpa using h1)] at h
        obtain ⟨j, rfl⟩ : ∃ j, i = j + 1 := ⟨i - 1, by omega⟩
        have ih := splitD_hit s j (by omega)
        rw [splitD_cons, if_neg hc, ih]; rfl
theorem split_eq : ∀ (n : Nat) (s : List UInt8), s.length ≤ n → Lib.splitK [46] 0 (Lib.count s [46]) s = splitD s
  | n, s, hn => by
    by_cases h : Lib.index s [46] = -1
    · rw [Lib.count_miss h, splitD_miss s (by rw [← Lib.index_one]; exact h)]; rfl
    · have hg := Lib.index_ge s [46]
      obtain ⟨i, hi⟩ : ∃ i : Nat, Lib.index s [46] = i := ⟨(Lib.index s [46]).toNat, by omega⟩
      have hi2 : Lib.indexByte s 46 = i := by rw [← Lib.index_one]; exact hi
      rw [Lib.count_hit (by simp) hi, splitD_hit s i hi2, Nat.add_comm]
      have hm : ¬ (Lib.index s [46] == -1) = true := by simpa using h
      unfold Lib.splitK
      rw [if_neg hm, hi]
      have hne : s ≠ [] := by intro e; subst e; exact h rfl
      have hp := List.length_pos_iff.2 hne
      cases n with
      | zero => omega
      | succ n =>
        have ih := split_eq n (s.drop (i + 1)) (by rw [List.length_drop]; omega)
        simp only [Int.toNat_natCast, Nat.add_zero, List.length_singleton]
        rw [ih]
/-- No point in it: one piece. -/
theorem splitD_none {s : List UInt8} (h : ∀ c ∈ s, c ≠ 46) : splitD s = [s] := by
  induction s with
  | nil => rfl
  | cons c s ih =>
    unfold splitD
    rw [if_neg (h c (by simp)), ih fun x hx => h x (by simp [hx])]
theorem splitD_cut {a b : List UInt8} (h : ∀ c ∈ a, c ≠ 46) : splitD (a ++ 46 :: b) = a :: splitD b := by
  induction a with
  | nil => show splitD (46 :: b) = _; conv => lhs; unfold splitD
           rw [if_pos rfl]
  | cons c a ih =>
    show splitD (c :: (a ++ 46 :: b)) = _
    conv => lhs; unfold splitD
    rw [if_neg (h c (by simp)), ih fun x hx => h x (by simp [hx])]
theorem splitD_app (a b : List UInt8) : splitD (a ++ 46 :: b) = splitD a ++ splitD b := by
  induction a with
  | nil => exact splitD_cut (by simp)
  | cons c a ih =>
    show splitD (c :: (a ++ 46 :: b)) = _
    rw [splitD_cons, splitD_cons, ih]
    by_cases hc : c = 46
    · rw [if_pos hc, if_pos hc]; rfl
    · rw [if_neg hc, if_neg hc]
      cases hs : splitD a with
      | nil => exact absurd hs (splitD_ne a)
      | cons h t => rfl
end Go.AL.Fun
