/- The reference decodes as a whole; the decoder byte by byte: the same. -/
import Derived.Test.YtcaegdcldbggpaaDoorE11
set_option linter.unusedSimpArgs false
set_option linter.unusedVariables false
set_option maxRecDepth 100000
set_option maxHeartbeats 4000000
namespace Go.AL.Fun
open Go Go.AL

theorem parse_cls (b : List UInt8) : (parseP b).2.2 = 0 ∨ parseP b = (0, 0, 5) ∨ parseP b = (0, 0, 7) := by
  unfold parseP restP
  repeat' split
  all_goals first | exact .inl rfl | exact .inr (.inl rfl) | exact .inr (.inr rfl)
theorem parse_nil : parseP [] = (0, 0, 7) := by rfl
theorem tw_mono (p t : List UInt8) : p.dropWhile isHx ≠ [] → (p ++ t).takeWhile isHx = p.takeWhile isHx := by
  induction p with
  | nil => intro h; exact absurd rfl h
  | cons c p ih =>
    intro h
    rw [List.cons_append, List.takeWhile_cons, List.takeWhile_cons]
    cases hc : isHx c with
    | true =>
      rw [List.dropWhile_cons, hc] at h
      simp only [if_true] at h ⊢
      rw [ih h]
    | false => simp
theorem tw_all (p t : List UInt8) : p.dropWhile isHx = [] → p.takeWhile isHx = p ∧ (p ++ t).takeWhile isHx = p ++ t.takeWhile isHx := by
  induction p with
  | nil => intro _; exact ⟨rfl, rfl⟩
  | cons c p ih =>
    intro h
    rw [List.cons_append, List.takeWhile_cons, List.takeWhile_cons]
    cases hc : isHx c with
    | true =>
      rw [List.dropWhile_cons, hc] at h
      simp only [if_true] at h ⊢
      rw [(ih h).1, (ih h).2]
      exact ⟨rfl, rfl⟩
    | false =>
      rw [List.dropWhile_cons, hc] at h
      simp at h
theorem tw_drop (p : List UInt8) : p.drop (p.takeWhile isHx).length = p.dropWhile isHx := by
  induction p with
  | nil => rfl
  | cons c p ih =>
    rw [List.takeWhile_cons, List.dropWhile_cons]
    cases hc : isHx c with
    | true => simpa using ih
    | false => simp
/-- What is told of a line that is told stays told. -/
theorem parse_ext {p : List UInt8} (h : (parseP p).2.2 ≠ 7) (t : List UInt8) : parseP (p ++ t) = parseP p := by
  rcases parse_cls p with h0 | h5 | h7
  · obtain ⟨n, k, hp⟩ : ∃ n k, parseP p = (n, k, 0) := ⟨_, _, by rw [← h0]⟩
    obtain ⟨hn, hk, r, hr⟩ := parse_canon hp
    rw [hp, hk, hr, List.append_assoc]
    exact parse_format hn (r ++ t)
  · rw [h5]
    unfold parseP at h5 ⊢
    by_cases hd : p.dropWhile isHx = []
    · obtain ⟨e1, e2⟩ := tw_all p t hd
      rw [e1] at h5
      rw [e2]
      split at h5
      · rename_i hb
        rw [if_pos]
        rcases hb with hb | ⟨hb1, hb2⟩
        · have := hvalL_mono (t.takeWhile isHx) p
          exact .inl (by omega)
        · refine .inr ⟨by rw [List.length_append]; omega, ?_⟩
          cases p with
          | nil => simp at hb1
          | cons a p => simpa using hb2
      · rw [List.drop_length] at h5
        simp [restP] at h5
    · have e2 := tw_mono p t hd
      rw [e2]
      split at h5
      · rename_i hb
        rw [if_pos hb]
      · rename_i hb
        rw [if_neg hb]
        have hlen : (p.takeWhile isHx).length ≤ p.length := List.IsPrefix.length_le (List.takeWhile_prefix _)
        rw [List.drop_append_of_le_length hlen]
        rw [tw_drop] at h5 ⊢
        generalize p.dropWhile isHx = r at h5 hd
        generalize p.takeWhile isHx = d at h5
        cases r with
        | nil => exact absurd rfl hd
        | cons c r =>
          simp only [restP, List.cons_append] at h5 ⊢
          split at h5
          · rename_i hc; rw [if_pos hc]
          · rename_i hc
            rw [if_neg hc]
            cases r with
            | nil => simp at h5
            | cons c2 r =>
              simp only [List.cons_append] at h5 ⊢
              split at h5
              · rename_i hc2; rw [if_pos hc2]
              · simp at h5
  · rw [h7] at h; exact absurd rfl h
theorem parse_pre {p t : List UInt8} (h : (parseP (p ++ t)).2.2 = 7) : (parseP p).2.2 = 7 := by
  apply Decidable.byContradiction
  intro hn
  rw [parse_ext hn t] at h
  exact hn h

theorem one_line {s : DS} {c : UInt8} (h0 : s.st = 0) (he : s.err = 0) (h7 : (parseP (s.line ++ [c])).2.2 = 7) : s.one c = { s with line := s.line ++ [c], off := s.off + 1 } := by
  have e : s.step c = ({ s with line := s.line ++ [c] }, 0) := by unfold DS.step; rw [if_pos h0, if_pos h7]
  unfold DS.one
  rw [if_pos he, e]
  simp only [if_true]
  rw [he]
theorem feed7 : ∀ (l : List UInt8) (s : DS), s.st = 0 → s.err = 0 → (parseP (s.line ++ l)).2.2 = 7 → s.feed l = { s with line := s.line ++ l, off := s.off + l.length }
  | [], s, _, _, _ => by simp [DS.feed]
  | c :: l, s, h0, he, h7 => by
    have e1 : s.line ++ c :: l = (s.line ++ [c]) ++ l := by simp
    rw [e1] at h7
    rw [feed_cons, one_line h0 he (parse_pre h7), feed7 l { s with line := s.line ++ [c], off := s.off + 1 } h0 he h7, e1]
    simp only [List.length_cons]
    rw [show s.off + 1 + l.length = s.off + (l.length + 1) by omega]
theorem feed5 : ∀ (l : List UInt8) (s : DS), s.st = 0 → s.err = 0 → (parseP s.line).2.2 = 7 → parseP (s.line ++ l) = (0, 0, 5) → (s.feed l).err = 5
  | [], s, _, _, h7, h5 => by rw [List.append_nil] at h5; rw [h5] at h7; cases h7
  | c :: l, s, h0, he, h7, h5 => by
    have e1 : s.line ++ c :: l = (s.line ++ [c]) ++ l := by simp
    rw [e1] at h5
    rw [feed_cons]
    by_cases c7 : (parseP (s.line ++ [c])).2.2 = 7
    · rw [one_line h0 he c7]
      exact feed5 l _ h0 he c7 h5
    · rw [parse_ext c7 l] at h5
      have e : s.step c = (s, 5) := by unfold DS.step; rw [if_pos h0, h5]; rfl
      have eo : s.one c = { s with err := 5 } := by unfold DS.one; rw [if_pos he, e]; rfl
      rw [eo, feed_err (show (5 : Int) ≠ 0 by decide)]
theorem feed0 : ∀ (l : List UInt8) (s : DS) (n k : Nat), s.st = 0 → s.err = 0 → (parseP s.line).2.2 = 7 → parseP (s.line ++ l) = (n, k, 0) →
    ∃ l1 l2, l = l1 ++ l2 ∧ l1 ≠ [] ∧ (s.line ++ l1).length = k ∧ s.feed l1 = { s with line := [], left := n, sizes := s.sizes ++ [(n : Int)], st := if n = 0 then 2 else 1, off := s.off + l1.length }
  | [], s, n, k, _, _, h7, h5 => by rw [List.append_nil] at h5; rw [h5] at h7; cases h7
  | c :: l, s, n, k, h0, he, h7, h5 => by
    have e1 : s.line ++ c :: l = (s.line ++ [c]) ++ l := by simp
    rw [e1] at h5
    by_cases c7 : (parseP (s.line ++ [c])).2.2 = 7
    · obtain ⟨l1, l2, g1, g2, g3, g4⟩ := feed0 l { s with line := s.line ++ [c], off := s.off + 1 } n k h0 he c7 h5
      refine ⟨c :: l1, l2, by rw [g1]; rfl, by simp, by simpa using g3, ?_⟩
      rw [feed_cons, one_line h0 he c7, g4]
      simp only [List.length_cons]
      rw [show s.off + 1 + l1.length = s.off + (l1.length + 1) by omega]
    · rw [parse_ext c7 l] at h5
      refine ⟨[c], l, rfl, by simp, ?_, ?_⟩
      · obtain ⟨hn, hk, r, hr⟩ := parse_canon h5
        rcases List.eq_nil_or_concat r with rfl | ⟨r', x, rfl⟩
        · rw [hr, hk]; simp
        · exfalso
          have : s.line = hexL n ++ 13 :: 10 :: r' := by
            have h2 : s.line ++ [c] = (hexL n ++ 13 :: 10 :: r') ++ [x] := by rw [hr]; simp
            exact (List.append_inj' h2 rfl).1
          rw [this, parse_format hn] at h7
          cases h7
      · have e : s.step c = ({ s with line := [], left := n, sizes := s.sizes ++ [(n : Int)], st := if n = 0 then 2 else 1 }, 0) := by
          unfold DS.step; rw [if_pos h0, h5]; rfl
        show s.one c = _
        unfold DS.one
        rw [if_pos he, e]
        simp only [if_true]
        rw [he]
        rfl
theorem feedP : ∀ (b : List UInt8) (s : DS), s.st = 1 → s.err = 0 → 1 ≤ s.left →
    (b.length < s.left → s.feed b = { s with out := s.out ++ b, left := s.left - b.length, off := s.off + b.length }) ∧
    (s.left ≤ b.length → s.feed b = DS.feed { s with out := s.out ++ b.take s.left, left := 0, st := 2, off := s.off + s.left } (b.drop s.left))
  | [], s, h1, he, hl => ⟨fun _ => by simp [DS.feed], fun h => by simp at h; omega⟩
  | c :: b, s, h1, he, hl => by
    have e : s.step c = ({ s with out := s.out ++ [c], left := s.left - 1, st := if s.left = 1 then 2 else 1 }, 0) := by
      unfold DS.step; rw [if_neg (by omega), if_pos h1]
    have eo : s.one c = { s with out := s.out ++ [c], left := s.left - 1, st := if s.left = 1 then 2 else 1, off := s.off + 1 } := by
      unfold DS.one
      rw [if_pos he, e]
      simp only [if_true]
      rw [he]
    rw [feed_cons, eo]
    by_cases cl : s.left = 1
    · refine ⟨fun h => by rw [List.length_cons] at h; omega, fun _ => ?_⟩
      rw [cl]
      rfl
    · obtain ⟨i1, i2⟩ := feedP b { s with out := s.out ++ [c], left := s.left - 1, st := if s.left = 1 then 2 else 1, off := s.off + 1 } (by simp only; rw [if_neg cl]) he (by simp only; omega)
      simp only at i1 i2
      refine ⟨fun h => ?_, fun h => ?_⟩
      · rw [List.length_cons] at h
        rw [i1 (by omega), List.append_assoc, List.length_cons, if_neg cl, h1]
        congr 1 <;> omega
      · rw [List.length_cons] at h
        rw [i2 (by omega)]
        have e2 : s.left = (s.left - 1) + 1 := by omega
        have e3 : (c :: b).take s.left = c :: b.take (s.left - 1) := by rw [e2]; rfl
        have e4 : (c :: b).drop s.left = b.drop (s.left - 1) := by rw [e2]; rfl
        rw [e3, e4, List.append_assoc]
        congr 2
        omega
end Go.AL.Fun
