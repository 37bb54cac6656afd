/- UTF-8, plainly: what the model decodes; encoding undoes decoding. -/
import Derived.Test.YtcmgeflfapffoaaDoorU1
set_option linter.unusedSimpArgs false
set_option linter.unusedVariables false
set_option maxHeartbeats 4000000
namespace Go.AL.Fun
open Go Go.AL

/-- The shape of an encoding. -/
inductive Shape : List UInt8 → Nat → Prop
  | one (c : UInt8) (t : List UInt8) : c.toNat < 128 → Shape (c :: t) 1
  | two (c b : UInt8) (t : List UInt8) : 194 ≤ c.toNat → c.toNat ≤ 223 → 128 ≤ b.toNat → b.toNat ≤ 191 → Shape (c :: b :: t) 2
  | three (c b d : UInt8) (t : List UInt8) : 224 ≤ c.toNat → c.toNat ≤ 239 → loOf c.toNat ≤ b.toNat → b.toNat ≤ hiOf c.toNat → 128 ≤ d.toNat → d.toNat ≤ 191 → Shape (c :: b :: d :: t) 3
  | four (c b d e : UInt8) (t : List UInt8) : 240 ≤ c.toNat → c.toNat ≤ 244 → loOf c.toNat ≤ b.toNat → b.toNat ≤ hiOf c.toNat → 128 ≤ d.toNat → d.toNat ≤ 191 → 128 ≤ e.toNat → e.toNat ≤ 191 → Shape (c :: b :: d :: e :: t) 4
theorem fst_shape {s : List UInt8} (h : (fst s).1 ≠ 0) : Shape s (fst s).1 := by
  cases s with
  | nil => exact absurd rfl h
  | cons c r =>
    by_cases h1 : c.toNat < 128
    · rw [fst, if_pos h1]; exact .one c r h1
    · by_cases h2 : szOf c.toNat = 0
      · rw [fst, if_neg h1, if_pos h2] at h; exact absurd rfl h
      · rw [fst, if_neg h1, if_neg h2] at h ⊢
        rcases szOf_cases c.toNat with e | e | e | e
        · exact absurd e h2
        · rw [e] at h ⊢
          have hc : 194 ≤ c.toNat ∧ c.toNat ≤ 223 := by unfold szOf at e; repeat' split at e
                                                        all_goals omega
          have l1 : loOf c.toNat = 128 := by unfold loOf; rw [if_neg (by omega), if_neg (by omega)]
          have l2 : hiOf c.toNat = 191 := by unfold hiOf; rw [if_neg (by omega), if_neg (by omega)]
          rw [l1, l2] at h ⊢
          cases r with
          | nil => exact absurd rfl h
          | cons b t =>
            rw [fgo] at h ⊢
            split at h
            · exact absurd rfl h
            · rename_i k
              rw [if_neg k]
              exact .two c b t hc.1 hc.2 (by omega) (by omega)
        · rw [e] at h ⊢
          have hc : 224 ≤ c.toNat ∧ c.toNat ≤ 239 := by unfold szOf at e; repeat' split at e
                                                        all_goals omega
          cases r with
          | nil => exact absurd rfl h
          | cons b t =>
            rw [fgo] at h ⊢
            split at h
            · exact absurd rfl h
            · rename_i k
              rw [if_neg k]
              cases t with
              | nil => exact absurd rfl h
              | cons d t =>
                rw [fgo] at h ⊢
                split at h
                · exact absurd rfl h
                · rename_i k2
                  rw [if_neg k2]
                  exact .three c b d t hc.1 hc.2 (by omega) (by omega) (by omega) (by omega)
        · rw [e] at h ⊢
          have hc : 240 ≤ c.toNat ∧ c.toNat ≤ 244 := by unfold szOf at e; repeat' split at e
                                                        all_goals omega
          cases r with
          | nil => exact absurd rfl h
          | cons b t =>
            rw [fgo] at h ⊢
            split at h
            · exact absurd rfl h
            · rename_i k
              rw [if_neg k]
              cases t with
              | nil => exact absurd rfl h
              | cons d t =>
                rw [fgo] at h ⊢
                split at h
                · exact absurd rfl h
                · rename_i k2
                  rw [if_neg k2]
                  cases t with
                  | nil => exact absurd rfl h
                  | cons e t =>
                    rw [fgo] at h ⊢
                    split at h
                    · exact absurd rfl h
                    · rename_i k3
                      rw [if_neg k3]
                      exact .four c b d e t hc.1 hc.2 (by omega) (by omega) (by omega) (by omega) (by omega) (by omega)
theorem lo_ge (c : Nat) : 128 ≤ loOf c := by unfold loOf; repeat' split
                                             all_goals omega
theorem hi_le (c : Nat) : hiOf c ≤ 191 := by unfold hiOf; repeat' split
                                             all_goals omega
theorem shape_fst {s : List UInt8} {n : Nat} (h : Shape s n) : fst s = (n, false) := by
  cases h with
  | one c t h => rw [fst, if_pos h]
  | two c b t h1 h2 h3 h4 =>
    have e : szOf c.toNat = 2 := by unfold szOf; rw [if_pos ⟨h1, h2⟩]
    have l1 : loOf c.toNat = 128 := by unfold loOf; rw [if_neg (by omega), if_neg (by omega)]
    have l2 : hiOf c.toNat = 191 := by unfold hiOf; rw [if_neg (by omega), if_neg (by omega)]
    rw [fst, if_neg (by omega), if_neg (by omega), e, l1, l2, fgo, if_neg (by omega), fgo]
  | three c b d t h1 h2 h3 h4 h5 h6 =>
    have e : szOf c.toNat = 3 := by unfold szOf; rw [if_neg (by omega), if_pos ⟨h1, h2⟩]
    rw [fst, if_neg (by omega), if_neg (by omega), e, fgo, if_neg (by omega), fgo, if_neg (by omega), fgo]
  | four c b d e' t h1 h2 h3 h4 h5 h6 h7 h8 =>
    have e : szOf c.toNat = 4 := by unfold szOf; rw [if_neg (by omega), if_neg (by omega), if_pos ⟨h1, h2⟩]
    rw [fst, if_neg (by omega), if_neg (by omega), e, fgo, if_neg (by omega), fgo, if_neg (by omega), fgo, if_neg (by omega), fgo]
theorem enc_range {r : Int} (h1 : 0 ≤ r) (h2 : r ≤ 1114111) (h3 : ¬ (55296 ≤ r ∧ r ≤ 57343)) : encC r = r.toNat := by unfold encC; rw [if_neg (by omega)]
theorem of_nat_eq {n : Nat} {c : UInt8} (h : n = c.toNat) : UInt8.ofNat n = c := by subst h; simp
/-- Encoding what was decoded. -/
theorem enc_val {s : List UInt8} {n : Nat} (h : Shape s n) : enc1 (val (s.take n)) = s.take n := by
  cases h with
  | one c t h =>
    show enc1 (val [c]) = [c]
    rw [val]
    have e := enc_range (r := (c.toNat : Int)) (by omega) (by omega) (by omega)
    unfold enc1
    rw [e, Int.toNat_natCast, if_pos h, of_nat_eq rfl]
  | two c b t h1 h2 h3 h4 =>
    show enc1 (val [c, b]) = [c, b]
    rw [val]
    generalize hr : ((c.toNat : Int) - 192) * 64 + ((b.toNat : Int) - 128) = r
    have e := enc_range (r := r) (by omega) (by omega) (by omega)
    unfold enc1
    rw [e, if_neg (by omega), if_pos (by omega), of_nat_eq (n := 192 + r.toNat / 64) (c := c) (by omega), of_nat_eq (n := 128 + r.toNat % 64) (c := b) (by omega)]
  | three c b d t h1 h2 h3 h4 h5 h6 =>
    show enc1 (val [c, b, d]) = [c, b, d]
    rw [val]
    have lo := lo_ge c.toNat
    have hi := hi_le c.toNat
    have lo2 : c.toNat = 224 → 160 ≤ b.toNat := fun e => by rw [e] at h3; exact h3
    have hi2 : c.toNat = 237 → b.toNat ≤ 159 := fun e => by rw [e] at h4; exact h4
    generalize hr : ((c.toNat : Int) - 224) * 4096 + ((b.toNat : Int) - 128) * 64 + ((d.toNat : Int) - 128) = r
    have e := enc_range (r := r) (by omega) (by omega) (by omega)
    unfold enc1
    rw [e, if_neg (by omega), if_neg (by omega), if_pos (by omega), of_nat_eq (n := 224 + r.toNat / 4096) (c := c) (by omega), of_nat_eq (n := 128 + r.toNat / 64 % 64) (c := b) (by omega), of_nat_eq (n := 128 + r.toNat % 64) (c := d) (by omega)]
  | four c b d e' t h1 h2 h3 h4 h5 h6 h7 h8 =>
    show enc1 (val [c, b, d, e']) = [c, b, d, e']
    rw [val]
    have lo := lo_ge c.toNat
    have hi := hi_le c.toNat
    have lo2 : c.toNat = 240 → 144 ≤ b.toNat := fun e => by rw [e] at h3; exact h3
    have hi2 : c.toNat = 244 → b.toNat ≤ 143 := fun e => by rw [e] at h4; exact h4
    generalize hr : ((c.toNat : Int) - 240) * 262144 + ((b.toNat : Int) - 128) * 4096 + ((d.toNat : Int) - 128) * 64 + ((e'.toNat : Int) - 128) = r
    have e := enc_range (r := r) (by omega) (by omega) (by omega)
    unfold enc1
    rw [e, if_neg (by omega), if_neg (by omega), if_neg (by omega), of_nat_eq (n := 240 + r.toNat / 262144) (c := c) (by omega), of_nat_eq (n := 128 + r.toNat / 4096 % 64) (c := b) (by omega), of_nat_eq (n := 128 + r.toNat / 64 % 64) (c := d) (by omega), of_nat_eq (n := 128 + r.toNat % 64) (c := e') (by omega)]
/-- An encoding and its rune. -/
def Good (e : List UInt8) (r : Int) : Prop := e ≠ [] ∧ fst e = (e.length, false) ∧ val e = r
theorem good_bad : Good [239, 191, 189] 65533 := ⟨by decide, by decide, by decide⟩
theorem enc_bad : enc1 65533 = [239, 191, 189] := by decide
theorem good_dec {s : List UInt8} (hs : s ≠ []) : Good (enc1 (dec1 s).1) (dec1 s).1 := by
  unfold dec1
  by_cases h : (fst s).1 = 0
  · rw [if_pos h]
    simp only
    rw [enc_bad]; exact good_bad
  · rw [if_neg h]
    simp only
    have hc := fst_cases s
    rw [enc_val (fst_shape h)]
    have e1 := fst_self h (Nat.le_refl _)
    have l1 : (s.take (fst s).1).length = (fst s).1 := by rw [List.length_take]; omega
    refine ⟨by intro e; rw [e] at l1; simp at l1; omega, ?_, rfl⟩
    rw [e1, l1]
    rcases hc with h0 | ⟨h1, _⟩
    · exact absurd h0 h
    · exact Prod.ext rfl h1
theorem good_step {e : List UInt8} {r : Int} (h : Good e r) (x : List UInt8) : decP (e ++ x) = r :: decP x ∧ validP (e ++ x) = validP x := by
  obtain ⟨h1, h2, h3⟩ := h
  have hl := List.length_pos_iff.2 h1
  have n0 : (fst e).1 ≠ 0 := by rw [h2]; simp only; omega
  have e1 := fst_app x n0
  have hne : e ++ x ≠ [] := by simp [h1]
  constructor
  · rw [decP_step hne]
    unfold dec1
    rw [e1, if_neg n0, h2]
    simp only
    rw [List.take_left', List.drop_left', h3] <;> rfl
  · rw [validP_step hne, e1, if_neg n0, h2]
    simp only
    rw [List.drop_left']; rfl
theorem encP_cons (r : Int) (l : List Int) : encP (r :: l) = enc1 r ++ encP l := by simp [encP]
theorem round_trip : ∀ (n : Nat) (s : List UInt8), s.length ≤ n → validP (encP (decP s)) = true ∧ decP (encP (decP s)) = decP s ∧ (decP s).length ≤ s.length ∧ (validP s = true → encP (decP s) = s)
  | n, [], _ => ⟨rfl, rfl, Nat.le_refl _, fun _ => rfl⟩
  | 0, c :: r, h => by simp at h
  | n + 1, c :: r, hn => by
    have hs : c :: r ≠ [] := by simp
    have hp := dec1_pos (c :: r)
    have hle := dec1_le hs
    obtain ⟨i1, i2, i3, i4⟩ := round_trip n ((c :: r).drop (dec1 (c :: r)).2) (by rw [List.length_drop]; simp at hn ⊢; omega)
    have hg := good_dec hs
    rw [decP_step hs, encP_cons]
    obtain ⟨g1, g2⟩ := good_step hg (encP (decP ((c :: r).drop (dec1 (c :: r)).2)))
    refine ⟨by rw [g2, i1], by rw [g1, i2], ?_, fun hv => ?_⟩
    · rw [List.length_drop] at i3; simp only [List.length_cons] at i3 hle ⊢; omega
    · rw [validP_step hs] at hv
      split at hv
      · cases hv
      · rename_i h0
        have hd := dec1_two h0
        rw [hd] at i4 ⊢
        simp only at i4 ⊢
        rw [i4 hv, enc_val (fst_shape h0), List.take_append_drop]

/-- What the model decodes. -/
theorem utf8_dec {s : List UInt8} {i : Nat} (hi : i < s.length) : ((Utf8.decode ⟨s.toArray⟩ i).1 : Int) = (dec1 (s.drop i)).1 ∧ (Utf8.decode ⟨s.toArray⟩ i).2 = (dec1 (s.drop i)).2 := by
  have at' : ∀ k, (ByteArray.get! ⟨s.toArray⟩ (i + k)) = ((s.drop i)[k]?).getD 0 := by
    intro k
    show s.toArray[i + k]! = _
    rw [List.getElem?_drop]
    simp [Array.getElem!_eq_getD, Array.getD_eq_getD_getElem?]
    cases s[i + k]? <;> rfl
  have sz : (ByteArray.size ⟨s.toArray⟩) = s.length := by show s.toArray.size = _; simp
  have lt : ∀ k, (i + k < s.length) ↔ k < (s.drop i).length := by intro k; rw [List.length_drop]; omega
  unfold Utf8.decode
  simp only [at', sz, lt]
  have hne : s.drop i ≠ [] := by intro e; have := congrArg List.length e; rw [List.length_drop] at this; simp at this; omega
  generalize s.drop i = l at hne ⊢
  simp only [Bool.and_eq_true, decide_eq_true_eq, beq_iff_eq, Utf8.valid, Bool.or_eq_true, ge_iff_le, Utf8.runeError]
  by_cases hz : (fst l).1 = 0
  · have no : ∀ n, ¬ Shape l n := fun n h => by
      have e := shape_fst h
      rw [e] at hz
      simp only at hz
      subst hz
      cases h
    unfold dec1
    rw [if_pos hz]
    rcases l with _ | ⟨c, _ | ⟨b, _ | ⟨d, _ | ⟨e, t⟩⟩⟩⟩
    · exact absurd rfl hne
    · have n1 := no 1
      by_cases h1 : c.toNat < 128
      · exact absurd (.one c [] h1) n1
      · simp [h1]
    all_goals
      have hlo := lo_ge c.toNat
      have hhi := hi_le c.toNat
      by_cases h1 : c.toNat < 128
      · exact absurd (.one c _ h1) (no 1)
      · simp only [List.getElem?_cons_zero, List.getElem?_cons_succ, List.getElem?_nil, Option.getD_some, Option.getD_none, List.length_cons, List.length_nil, h1, if_false]
        refine ⟨?_, ?_⟩ <;> (repeat' split) <;> first
          | rfl
          | (exfalso; rename_i k1 k2; exact no 2 (.two c b _ (by omega) (by omega) (by omega) (by omega)))
          | (exfalso; omega)
          | (exfalso; rename_i k0 k1 k2; refine no 3 (.three c b _ _ (by omega) (by omega) ?_ ?_ (by omega) (by omega)) <;> (first | unfold loOf | unfold hiOf) <;> (repeat' split) <;> omega)
          | (exfalso; rename_i k00 k0 k1 k2; refine no 4 (.four c b _ _ _ (by omega) (by omega) ?_ ?_ (by omega) (by omega) (by omega) (by omega)) <;> (first | unfold loOf | unfold hiOf) <;> (repeat' split) <;> omega)
  · have hsh := fst_shape hz
    rw [dec1_two hz]
    generalize (fst l).1 = n at hsh
    cases hsh with
    | one c t h => simp [h, val]
    | two c b t h1 h2 h3 h4 =>
      simp only [List.getElem?_cons_zero, List.getElem?_cons_succ, Option.getD_some, List.length_cons, List.take_succ_cons, List.take_zero, val]
      rw [if_neg (by omega), if_pos (by omega), if_pos (by omega)]
      simp only [and_true]; omega
    | three c b d t h1 h2 h3 h4 h5 h6 =>
      have hlo := lo_ge c.toNat
      have hhi := hi_le c.toNat
      have lo2 : c.toNat = 224 → 160 ≤ b.toNat := fun e => by rw [e] at h3; exact h3
      have hi2 : c.toNat = 237 → b.toNat ≤ 159 := fun e => by rw [e] at h4; exact h4
      simp only [List.getElem?_cons_zero, List.getElem?_cons_succ, Option.getD_some, List.length_cons, List.take_succ_cons, List.take_zero, val]
      rw [if_neg (by omega), if_neg (by omega), if_pos (by omega), if_pos (by omega)]
      simp only [and_true]; omega
    | four c b d e' t h1 h2 h3 h4 h5 h6 h7 h8 =>
      have hlo := lo_ge c.toNat
      have hhi := hi_le c.toNat
      have lo2 : c.toNat = 240 → 144 ≤ b.toNat := fun e => by rw [e] at h3; exact h3
      have hi2 : c.toNat = 244 → b.toNat ≤ 143 := fun e => by rw [e] at h4; exact h4
      simp only [List.getElem?_cons_zero, List.getElem?_cons_succ, Option.getD_some, List.length_cons, List.take_succ_cons, List.take_zero, val]
      rw [if_neg (by omega), if_neg (by omega), if_neg (by omega), if_pos (by omega), if_pos (by omega)]
      simp only [and_true]; omega
end Go.AL.Fun
