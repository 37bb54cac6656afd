/- The reference decodes as a whole; the decoder byte by byte: the same. -/
import Derived.Test.YtcaegdcldbggpaaDoorE16
set_option linter.unusedSimpArgs false
set_option linter.unusedVariables false
set_option maxRecDepth 100000
set_option maxHeartbeats 4000000
namespace Go.AL.Fun
open Go Go.AL

/-- What the reference tells of bytes. -/
structure DR where
  pay : List UInt8
  sizes : List Int
  whole : Bool
  comp : Bool
  valid : Bool
def DR.new : DR := ⟨[], [], false, false, true⟩
/-- One round of the reference: the bytes that are left, what is told, and whether it goes on. -/
def ofStep (b : List UInt8) (r : DR) : Option (List UInt8 × DR) × DR :=
  if r.comp = true then (none, { r with valid := decide (b = []) })
  else if b = [] then (none, { r with whole := true })
  else if (parseP b).2.2 = 7 then (none, r)
  else if (parseP b).2.2 ≠ 0 then (none, { r with valid := false })
  else
    let b1 := b.drop (parseP b).2.1
    let n := (parseP b).1
    let r2 : DR := { r with sizes := r.sizes ++ [(n : Int)], pay := r.pay ++ b1.take n }
    let b2 := b1.drop n
    if b1.length < n ∨ b2 = [] then (none, r2)
    else if b2.head? ≠ some 13 ∨ (1 < b2.length ∧ b2[1]? ≠ some 10) then (none, { r2 with valid := false })
    else if b2.length = 1 then (none, r2)
    else (some (b2.drop 2, { r2 with comp := decide (n = 0), whole := decide (n = 0) }), r2)
def ofGo : Nat → List UInt8 → DR → DR
  | 0, _, r => r
  | f + 1, b, r => match ofStep b r with
    | (some (b', r'), _) => ofGo f b' r'
    | (none, r') => r'
def ofP (b : List UInt8) : DR := ofGo (b.length + 2) b .new
def DS.dr (t : DS) : DR := ⟨t.out, t.sizes, decide (t.st = 4 ∨ t.st = 0 ∧ t.line = []), decide (t.st = 4), true⟩
/-- What a decoder tells is what the reference tells. -/
def Agree (r : DR) (t : DS) : Prop := (r.valid = true ↔ t.err = 0) ∧ (t.err = 0 → r = t.dr) ∧ (t.err ≠ 0 → t.err = 5 ∨ t.err = 8)

theorem feed_st4 : ∀ (b : List UInt8) (s : DS), s.st = 4 → s.err = 0 → b ≠ [] → s.feed b = { s with err := 8 }
  | [], _, _, _, h => absurd rfl h
  | c :: b, s, h4, he, _ => by
    have e : s.step c = (s, 8) := by unfold DS.step; rw [if_neg (by omega), if_neg (by omega), if_neg (by omega), if_neg (by omega)]
    have eo : s.one c = { s with err := 8 } := by unfold DS.one; rw [if_pos he, e]; rfl
    rw [feed_cons, eo, feed_err (show (8 : Int) ≠ 0 by decide)]
theorem one_good {s s' : DS} {c : UInt8} (he : s.err = 0) (e : s.step c = (s', 0)) : s.one c = { s' with off := s.off + 1, err := 0 } := by unfold DS.one; rw [if_pos he, e]; rfl
theorem one_fail {s s' : DS} {c : UInt8} {k : Int} (he : s.err = 0) (e : s.step c = (s', k)) (hk : k ≠ 0) : s.one c = { s' with err := k } := by unfold DS.one; rw [if_pos he, e]; exact if_neg hk
theorem one_cr {s : DS} (h : s.st = 2) (he : s.err = 0) (c : UInt8) : s.one c = if c = 13 then { s with st := 3, off := s.off + 1 } else { s with err := 5 } := by
  by_cases hc : c = 13
  · rw [one_good (s' := { s with st := 3 }) he (by unfold DS.step; rw [if_neg (by omega), if_neg (by omega), if_pos h, if_pos hc]), if_pos hc, ← he]
  · rw [one_fail (s' := s) (k := 5) he (by unfold DS.step; rw [if_neg (by omega), if_neg (by omega), if_pos h, if_neg hc]) (by decide), if_neg hc]
theorem one_lf {s : DS} (h : s.st = 3) (he : s.err = 0) (c : UInt8) : s.one c = if c = 10 then { s with st := if s.sizes.getLast? = some 0 then 4 else 0, off := s.off + 1 } else { s with err := 5 } := by
  by_cases hc : c = 10
  · rw [one_good (s' := { s with st := if s.sizes.getLast? = some 0 then 4 else 0 }) he (by unfold DS.step; rw [if_neg (by omega), if_neg (by omega), if_neg (by omega), if_pos h, if_pos hc]), if_pos hc, ← he]
  · rw [one_fail (s' := s) (k := 5) he (by unfold DS.step; rw [if_neg (by omega), if_neg (by omega), if_neg (by omega), if_pos h, if_neg hc]) (by decide), if_neg hc]
theorem agree_bad {r : DR} {t : DS} (h : r.valid = false) (he : t.err = 5 ∨ t.err = 8) : Agree r t :=
  ⟨⟨fun h' => (by rw [h] at h'; exact absurd h' (by decide)), fun h' => (by omega)⟩, fun h' => (by omega), fun _ => he⟩
theorem agree_ok {t : DS} (he : t.err = 0) : Agree t.dr t := ⟨⟨fun _ => he, fun _ => rfl⟩, fun _ => rfl, fun h => absurd he h⟩
theorem agree_of {r : DR} {t : DS} (he : t.err = 0) (h : r = t.dr) : Agree r t := by rw [h]; exact agree_ok he

theorem go_comp (f : Nat) (b : List UInt8) (r : DR) (h : r.comp = true) : ofGo (f + 1) b r = { r with valid := decide (b = []) } := by
  rw [ofGo, ofStep, if_pos h]
theorem go_agree : ∀ (f : Nat) (b : List UInt8) (s : DS), b.length + 2 ≤ f → s.st = 0 → s.line = [] → s.err = 0 → Agree (ofGo f b ⟨s.out, s.sizes, false, false, true⟩) (s.feed b)
  | 0, b, s, hf, _, _, _ => by omega
  | f + 1, b, s, hf, h0, hl, he => by
    have h7n : (parseP s.line).2.2 = 7 := by rw [hl, parse_nil]
    have sb : s.line ++ b = b := by rw [hl]; rfl
    rw [ofGo, ofStep, if_neg (by simp)]
    by_cases cb : b = []
    · subst cb
      rw [if_pos rfl]
      refine agree_of he ?_
      show _ = s.dr
      unfold DS.dr
      simp [h0, hl]
    rw [if_neg cb]
    rcases parse_cls b with p0 | p5 | p7
    · -- a size
      obtain ⟨n, k, hp⟩ : ∃ n k, parseP b = (n, k, 0) := ⟨_, _, by rw [← p0]⟩
      rw [hp]
      rw [if_neg (by simp), if_neg (by simp)]
      obtain ⟨l1, l2, g1, g2, g3, g4⟩ := feed0 b s n k h0 he h7n (by rw [sb]; exact hp)
      rw [hl, List.nil_append] at g3
      have hd : b.drop k = l2 := by rw [g1, ← g3, List.drop_left]
      have hll : b.length = l1.length + l2.length := by rw [g1, List.length_append]
      have hl1 : 0 < l1.length := List.length_pos_iff.2 g2
      rw [g1, feed_app, g4]
      have hg1 := g1
      simp only [← g1, hd]
      -- the payload
      obtain ⟨s2, hs2, hshort, hlong⟩ : ∃ s2 : DS, s2 = { s with line := [], left := n, sizes := s.sizes ++ [(n : Int)], st := if n = 0 then 2 else 1, off := s.off + l1.length } ∧
          (l2.length < n → s2.feed l2 = { s2 with out := s2.out ++ l2, left := s2.left - l2.length, off := s2.off + l2.length }) ∧
          (n ≤ l2.length → s2.feed l2 = DS.feed { s2 with out := s2.out ++ l2.take n, left := 0, st := 2, off := s2.off + n } (l2.drop n)) := by
        refine ⟨_, rfl, ?_, ?_⟩
        · intro h
          exact (feedP l2 { s with line := [], left := n, sizes := s.sizes ++ [(n : Int)], st := if n = 0 then 2 else 1, off := s.off + l1.length } (by simp only; rw [if_neg (by omega)]) he (by simp only; omega)).1 h
        · intro h
          by_cases cn : n = 0
          · subst cn
            simp
          · exact (feedP l2 { s with line := [], left := n, sizes := s.sizes ++ [(n : Int)], st := if n = 0 then 2 else 1, off := s.off + l1.length } (by simp only; rw [if_neg cn]) he (by simp only; omega)).2 h
      rw [← hs2]
      have hse : s2.err = 0 := by rw [hs2]; exact he
      have hso : s2.out = s.out := by rw [hs2]
      have hss : s2.sizes = s.sizes ++ [(n : Int)] := by rw [hs2]
      have hsl : s2.line = [] := by rw [hs2]
      have hst : s2.st = if n = 0 then 2 else 1 := by rw [hs2]
      by_cases cs : l2.length < n
      · rw [if_pos (.inl cs)]
        refine agree_of (by rw [hshort cs]; exact hse) ?_
        rw [hshort cs]
        unfold DS.dr
        simp only [hso, hss, hst]
        rw [List.take_of_length_le (by omega), if_neg (by omega)]
        rfl
      · rw [hlong (by omega)]
        generalize hs3 : (DS.mk 2 s2.line 0 (s2.out ++ l2.take n) s2.sizes (s2.off + n) s2.err) = s3
        have h3e : s3.err = 0 := by rw [← hs3]; exact hse
        have h3t : s3.st = 2 := by rw [← hs3]
        have h3o : s3.out = s.out ++ l2.take n := by rw [← hs3, hso]
        have h3s : s3.sizes = s.sizes ++ [(n : Int)] := by rw [← hs3, hss]
        have h3l : s3.line = [] := by rw [← hs3, hsl]
        have h3r : (⟨s.out ++ l2.take n, s.sizes ++ [(n : Int)], false, false, true⟩ : DR) = s3.dr := by
          unfold DS.dr; rw [h3o, h3s, h3t]; rfl
        rcases hb2 : l2.drop n with _ | ⟨c, b3⟩
        · rw [if_pos (.inr rfl)]
          exact agree_of h3e h3r
        · rw [if_neg (by rintro (h | h); exact cs h; cases h)]
          rw [feed_cons, one_cr h3t h3e]
          by_cases cc : c = 13
          · subst cc
            rw [if_pos rfl]
            generalize hs4 : ({ s3 with st := 3, off := s3.off + 1 } : DS) = s4
            have h4e : s4.err = 0 := by rw [← hs4]; exact h3e
            have h4t : s4.st = 3 := by rw [← hs4]
            have h4o : s4.out = s.out ++ l2.take n := by rw [← hs4]; exact h3o
            have h4s : s4.sizes = s.sizes ++ [(n : Int)] := by rw [← hs4]; exact h3s
            have h4l : s4.line = [] := by rw [← hs4]; exact h3l
            rcases b3 with _ | ⟨c2, b4⟩
            · rw [if_neg (by simp), if_pos (show [(13 : UInt8)].length = 1 from rfl)]
              refine agree_of h4e ?_
              show _ = s4.dr
              unfold DS.dr; rw [h4o, h4s, h4t]; rfl
            · rw [feed_cons, one_lf h4t h4e]
              by_cases cc2 : c2 = 10
              · subst cc2
                rw [if_neg (by simp), if_neg (by simp), if_pos (show (10 : UInt8) = 10 from rfl)]
                have hlen4 : b4.length + 2 ≤ l2.length := by
                  have := congrArg List.length hb2
                  rw [List.length_drop, List.length_cons, List.length_cons] at this; omega
                rw [h4s, List.getLast?_concat]
                by_cases cn : n = 0
                · subst cn
                  simp only [List.drop_succ_cons, List.drop_zero, decide_true]
                  rw [if_pos (show some ((0 : Nat) : Int) = some 0 from rfl)]
                  obtain ⟨f', rfl⟩ : ∃ f', f = f' + 1 := ⟨f - 1, by omega⟩
                  rw [go_comp _ _ _ rfl]
                  by_cases c4 : b4 = []
                  · subst c4
                    refine agree_of h4e ?_
                    unfold DS.dr DS.feed
                    simp [h4o]
                  · rw [feed_st4 b4 { s4 with st := 4, sizes := s.sizes ++ [((0 : Nat) : Int)], off := s4.off + 1 } rfl h4e c4]
                    exact agree_bad (by simp [c4]) (.inr rfl)
                · have cn' : ¬ some (n : Int) = some 0 := fun h => cn (by simpa using h)
                  rw [if_neg cn']
                  simp only [List.drop_succ_cons, List.drop_zero, decide_eq_false cn]
                  have := go_agree f b4 { s4 with st := 0, off := s4.off + 1 } (by omega) rfl h4l h4e
                  simp only [h4o, h4s] at this ⊢
                  exact this
              · rw [if_pos (.inr ⟨by simp, by simpa using cc2⟩), if_neg cc2, feed_err (show (5 : Int) ≠ 0 by decide)]
                exact agree_bad rfl (.inl rfl)
          · rw [if_pos (.inl (by simpa using cc)), if_neg cc, feed_err (show (5 : Int) ≠ 0 by decide)]
            exact agree_bad rfl (.inl rfl)
    · rw [p5, if_neg (by simp), if_pos (by simp)]
      have := feed5 b s h0 he h7n (by rw [sb]; exact p5)
      exact agree_bad rfl (.inl this)
    · rw [p7, if_pos rfl]
      have := feed7 b s h0 he (by rw [sb, p7])
      rw [this]
      refine agree_of he ?_
      unfold DS.dr
      simp [h0, hl, cb]
theorem of_agree (b : List UInt8) : Agree (ofP b) (DS.new.feed b) := go_agree _ b .new (Nat.le_refl _) rfl rfl rfl
end Go.AL.Fun
