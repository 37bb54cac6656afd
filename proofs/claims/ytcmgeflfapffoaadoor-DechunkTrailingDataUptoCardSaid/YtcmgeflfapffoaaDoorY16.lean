/- What a body decodes to. -/
import Derived.Test.YtcmgeflfapffoaaDoorY14
set_option linter.unusedSimpArgs false
set_option linter.unusedVariables false
set_option maxRecDepth 100000
set_option maxHeartbeats 4000000
namespace Go.AL.Fun
open Go Go.AL

theorem one_0 {s s2 : DS} {c : UInt8} (he : s.err = 0) (h : s.step c = (s2, 0)) : s.one c = { s2 with off := s.off + 1, err := 0 } := by
  unfold DS.one
  rw [if_pos he, h, if_pos rfl]
theorem lineL_pre {n : Nat} (hn : n ≤ 65536) (s : DS) (h0 : s.st = 0) (hl : s.line = []) (he : s.err = 0) : ∀ i, i < (lineL n).length → s.feed ((lineL n).take i) = { s with line := (lineL n).take i, off := s.off + i }
  | 0, _ => by
    rw [List.take_zero]
    show s = _
    cases s
    simp only at hl
    simp [hl]
  | i + 1, hi => by
    have ih := lineL_pre hn s h0 hl he i (by omega)
    have hx : (lineL n)[i]? = some (lineL n)[i] := List.getElem?_eq_getElem (by omega)
    have ht : (lineL n).take (i + 1) = (lineL n).take i ++ [(lineL n)[i]] := by rw [List.take_add_one, hx]; rfl
    rw [ht, feed_app, ih]
    have hp : parseP ((lineL n).take i ++ [(lineL n)[i]]) = (0, 0, 7) := by
      rw [← ht]
      unfold lineL at hi ⊢
      exact parse_prefix hn (by rw [List.length_append] at hi; simp only [List.length_cons, List.length_nil] at hi; omega)
    show DS.one _ _ = _
    rw [one_0 (s := { s with line := (lineL n).take i, off := s.off + i }) (s2 := { s with line := (lineL n).take i ++ [(lineL n)[i]], off := s.off + i }) he]
    · cases s
      simp only at he
      simp [he, Nat.add_assoc]
    · unfold DS.step
      simp only [h0, if_true, hp]
theorem feed_line {n : Nat} (hn : n ≤ 65536) (s : DS) (h0 : s.st = 0) (hl : s.line = []) (he : s.err = 0) :
    s.feed (lineL n) = { s with line := [], left := n, sizes := s.sizes ++ [(n : Int)], st := if n = 0 then 2 else 1, off := s.off + (lineL n).length } := by
  obtain ⟨i, hi⟩ : ∃ i, (lineL n).length = i + 1 := ⟨(lineL n).length - 1, by unfold lineL; rw [List.length_append]; simp⟩
  have ih := lineL_pre hn s h0 hl he i (by omega)
  have hx : (lineL n)[i]? = some (lineL n)[i] := List.getElem?_eq_getElem (by omega)
  have ht : (lineL n) = (lineL n).take i ++ [(lineL n)[i]] := by
    conv => lhs; rw [← List.take_length (l := lineL n), hi, List.take_add_one, hx]
    rfl
  have hp : parseP ((lineL n).take i ++ [(lineL n)[i]]) = (n, (hexL n).length + 2, 0) := by
    rw [← ht]
    exact parse_format hn []
  have e : s.feed (lineL n) = (s.feed ((lineL n).take i)).feed [(lineL n)[i]] := by
    conv => lhs; rw [ht]
    exact feed_app _ _ _
  rw [e, ih]
  show DS.one _ _ = _
  rw [one_0 (s := { s with line := (lineL n).take i, off := s.off + i }) (s2 := { s with line := [], left := n, sizes := s.sizes ++ [(n : Int)], st := if n = 0 then 2 else 1, off := s.off + i }) he]
  · rw [hi]
    cases s
    simp only at he
    simp [he, Nat.add_assoc]
  · unfold DS.step
    simp only [h0, if_true, hp]
    rfl
theorem feed_out : ∀ (b : List UInt8) (s : DS), s.st = 1 → s.err = 0 → b.length = s.left → b ≠ [] → s.feed b = { s with out := s.out ++ b, left := 0, st := 2, off := s.off + b.length }
  | [], s, _, _, _, h => absurd rfl h
  | c :: b, s, h1, he, hl, _ => by
    rw [feed_cons]
    rw [List.length_cons] at hl
    have hs : s.step c = ({ s with out := s.out ++ [c], left := s.left - 1, st := if s.left = 1 then 2 else 1 }, 0) := by
      unfold DS.step
      rw [if_neg (by omega), if_pos h1]
    rw [one_0 he hs]
    by_cases hb : b = []
    · subst hb
      rw [List.length_nil] at hl
      show _ = _
      simp only [DS.feed, List.foldl_nil]
      rw [if_pos (by omega)]
      cases s
      simp only at he hl ⊢
      simp [he, ← hl]
    · have hbl : b.length ≠ 0 := fun e => hb (List.length_eq_zero_iff.1 e)
      rw [if_neg (by omega)]
      rw [feed_out b _ rfl rfl (by show b.length = s.left - 1; omega) hb]
      cases s
      simp only at he ⊢
      simp [he, Nat.add_assoc, Nat.add_comm 1]
theorem feed_crlf (s : DS) (h2 : s.st = 2) (he : s.err = 0) : s.feed [13, 10] = { s with st := if s.sizes.getLast? = some 0 then 4 else 0, off := s.off + 2 } := by
  have hs : s.step 13 = ({ s with st := 3 }, 0) := by
    unfold DS.step
    rw [if_neg (by omega), if_neg (by omega), if_pos h2, if_pos rfl]
  rw [feed_cons, one_0 he hs, feed_cons]
  have hs2 : DS.step { s with st := 3, off := s.off + 1, err := 0 } 10 = ({ s with st := if s.sizes.getLast? = some 0 then 4 else 0, off := s.off + 1, err := 0 }, 0) := by
    unfold DS.step
    simp
  rw [one_0 rfl hs2]
  cases s
  simp only at he ⊢
  simp [DS.feed, he]
theorem feed_chunk {b : List UInt8} (hb : b.length ≤ 65536) (s : DS) (h0 : s.st = 0) (hl : s.line = []) (he : s.err = 0) :
    s.feed (chunkP b) = { s with line := [], left := 0, out := s.out ++ b, sizes := s.sizes ++ [(b.length : Int)], st := if b = [] then 4 else 0, off := s.off + (chunkP b).length } := by
  unfold chunkP
  rw [feed_app, feed_line hb s h0 hl he, feed_app]
  by_cases hn : b = []
  · subst hn
    have e : ∀ s : DS, s.feed [] = s := fun _ => rfl
    rw [e, feed_crlf]
    · cases s
      simp only at he ⊢
      simp [he, Nat.add_assoc]
    · rfl
    · exact he
  · have hbl : b.length ≠ 0 := fun e => hn (List.length_eq_zero_iff.1 e)
    have hz : ¬ ((b.length : Nat) : Int) = 0 := by omega
    rw [feed_out b, feed_crlf]
    · cases s
      simp only at he ⊢
      simp [he, hn, hbl, Nat.add_assoc]
    · rfl
    · exact he
    · show (if b.length = 0 then 2 else 1) = 1
      rw [if_neg hbl]
    · exact he
    · rfl
    · exact hn
theorem feed_outs {k : Nat} (hk : k ≤ 65536) (b : List UInt8) : ∀ j, j ≤ cntN k b.length → 1 ≤ k → ∃ z, DS.new.feed (outP k b (List.range j)) = ⟨0, [], 0, b.take (j * k), z, (outP k b (List.range j)).length, 0⟩
  | 0, _, _ => ⟨[], by simp [outP, DS.feed, DS.new]⟩
  | j + 1, hj, hk1 => by
    obtain ⟨z, hz⟩ := feed_outs hk b j (by omega) hk1
    have hlt := cntN_lt hk1 (show j < cntN k b.length by omega)
    have hp := part_len k b j
    have hpn : partP k b j ≠ [] := fun e => by rw [e, List.length_nil] at hp; omega
    rw [List.range_succ, outP_app, feed_app, hz, feed_chunk (by omega) _ rfl rfl rfl]
    refine ⟨z ++ [((partP k b j).length : Int)], ?_⟩
    rw [if_neg hpn]
    have ht : b.take (j * k) ++ partP k b j = b.take ((j + 1) * k) := by
      unfold partP
      rw [Nat.add_mul, Nat.one_mul, List.take_add]
    simp only [ht, List.length_append]
theorem feed_body {k : Nat} (hk1 : 1 ≤ k) (hk : k ≤ 65536) (b : List UInt8) : ∃ z, DS.new.feed (bodyP k b) = ⟨4, [], 0, b, z, (bodyP k b).length, 0⟩ := by
  obtain ⟨z, hz⟩ := feed_outs hk b (cntN k b.length) (Nat.le_refl _) hk1
  unfold bodyP
  rw [feed_app, hz, feed_chunk (by decide) _ rfl rfl rfl]
  refine ⟨z ++ [((([] : List UInt8).length : Nat) : Int)], ?_⟩
  have ht : b.take (cntN k b.length * k) = b := List.take_of_length_le (cntN_ge hk1)
  simp only [ht, List.append_nil, if_true, List.length_append]
theorem one_out (s : DS) (c : UInt8) : s.out <+: (s.one c).out := by
  unfold DS.one
  have hr := step_r s c
  generalize s.step c = x at hr
  split
  · split
    · cases hr <;> first | exact List.prefix_refl _ | exact List.prefix_append _ _
    · cases hr <;> first | exact List.prefix_refl _ | exact List.prefix_append _ _
  · exact List.prefix_refl _
theorem feed_pre : ∀ (b : List UInt8) (s : DS), s.out <+: (s.feed b).out
  | [], s => List.prefix_refl _
  | c :: b, s => (one_out s c).trans (feed_pre b (s.one c))
theorem feed_full {s : DS} (h4 : s.st = 4) (he : s.err = 0) {b : List UInt8} (hb : b ≠ []) : s.feed b = { s with err := 8 } := by
  cases b with
  | nil => exact absurd rfl hb
  | cons c b =>
    rw [feed_cons]
    have hs : s.step c = (s, 8) := by
      unfold DS.step
      rw [if_neg (by omega), if_neg (by omega), if_neg (by omega), if_neg (by omega)]
    have h1 : s.one c = { s with err := 8 } := by
      unfold DS.one
      rw [if_pos he, hs]
      rfl
    rw [h1]
    exact feed_err (by show (8 : Int) ≠ 0; decide) b
theorem feed_part {k : Nat} (hk1 : 1 ≤ k) (hk : k ≤ 65536) (b : List UInt8) {i : Nat} (hi : i < (bodyP k b).length) :
    (DS.new.feed ((bodyP k b).take i)).err = 0 ∧ (DS.new.feed ((bodyP k b).take i)).st ≠ 4 ∧ (DS.new.feed ((bodyP k b).take i)).out <+: b := by
  obtain ⟨z, hz⟩ := feed_body hk1 hk b
  have hs := List.take_append_drop i (bodyP k b)
  rw [← hs, feed_app] at hz
  have hne : (bodyP k b).drop i ≠ [] := fun e => by have := congrArg List.length e; rw [List.length_drop, List.length_nil] at this; omega
  generalize DS.new.feed ((bodyP k b).take i) = s at *
  have he : s.err = 0 := by
    rcases Classical.em (s.err = 0) with h | h
    · exact h
    · rw [feed_err h] at hz
      rw [hz] at h
      exact absurd rfl h
  refine ⟨he, fun h4 => ?_, ?_⟩
  · rw [feed_full h4 he hne] at hz
    have := congrArg DS.err hz
    simp at this
  · have := feed_pre ((bodyP k b).drop i) s
    rw [hz] at this
    exact this
end Go.AL.Fun
