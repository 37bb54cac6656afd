/- The decoder of chunked bodies: what it computes. -/
import Derived.Test.YtcmgeflfapffoaaDoorY5
import Derived.Test.YtcmgeflfapffoaaDoorFT
set_option linter.unusedSimpArgs false
set_option linter.unusedVariables false
set_option maxRecDepth 100000
set_option maxHeartbeats 4000000
namespace Go.AL.Fun
open Go Go.AL

def iAV (l : List Int) : List AV := l.map (.int .i64)
theorem iAV_len (l : List Int) : (iAV l).length = l.length := by simp [iAV]
theorem iAV_all (l : List Int) : AllSz 1 (iAV l) = True := by simp [AllSz, iAV, AV.cells]
theorem iAV_sz (l : List Int) : AllSz 1 (iAV l) := by rw [iAV_all]; trivial
theorem iAV_app (a b : List Int) : iAV a ++ iAV b = iAV (a ++ b) := by simp [iAV]
theorem iAV_last (a : List Int) (x : Int) : ((iAV (a ++ [x])).drop a.length)[0]? = some (.int .i64 x) := by simp [iAV]
theorem iAV_get (l : List Int) (i : Nat) : (iAV l)[i]? = (l[i]?).map (.int .i64) := by simp [iAV]
theorem n8_eq (c w : UInt8) : (n8 c = n8 w) = (c = w) := by
  apply propext
  constructor
  · intro h
    have : c.toNat = w.toNat := by unfold n8 at h; omega
    exact UInt8.toNat_inj.1 this
  · rintro rfl; rfl

/-- What a decoder holds. -/
structure DS where
  st : Nat
  line : List UInt8
  left : Nat
  out : List UInt8
  sizes : List Int
  off : Nat
  err : Int
def DS.new : DS := ⟨0, [], 0, [], [], 0, 0⟩
/-- A byte. -/
def DS.step (s : DS) (c : UInt8) : DS × Int :=
  if s.st = 0 then
    if (parseP (s.line ++ [c])).2.2 = 7 then ({ s with line := s.line ++ [c] }, 0)
    else if (parseP (s.line ++ [c])).2.2 = 0 then ({ s with line := [], left := (parseP (s.line ++ [c])).1, sizes := s.sizes ++ [((parseP (s.line ++ [c])).1 : Int)], st := if (parseP (s.line ++ [c])).1 = 0 then 2 else 1 }, 0)
    else (s, (parseP (s.line ++ [c])).2.2)
  else if s.st = 1 then ({ s with out := s.out ++ [c], left := s.left - 1, st := if s.left = 1 then 2 else 1 }, 0)
  else if s.st = 2 then (if c = 13 then ({ s with st := 3 }, 0) else (s, 5))
  else if s.st = 3 then (if c = 10 then ({ s with st := if s.sizes.getLast? = some 0 then 4 else 0 }, 0) else (s, 5))
  else (s, 8)
def DS.one (s : DS) (c : UInt8) : DS := if s.err = 0 then (if (s.step c).2 = 0 then { (s.step c).1 with off := s.off + 1, err := 0 } else { (s.step c).1 with err := (s.step c).2 }) else s
def DS.feed (s : DS) (b : List UInt8) : DS := b.foldl DS.one s
/-- What holds of every decoder. -/
structure DS.Ok (s : DS) : Prop where
  len : s.line.length + s.out.length + s.sizes.length ≤ s.off
  left : s.st = 1 → 1 ≤ s.left
  lb : s.left ≤ 65536
  sz : s.st ≠ 0 → s.sizes ≠ []

theorem feed_cons (s : DS) (c : UInt8) (b : List UInt8) : s.feed (c :: b) = (s.one c).feed b := rfl
theorem feed_app (s : DS) (a b : List UInt8) : s.feed (a ++ b) = (s.feed a).feed b := List.foldl_append ..
theorem new_ok : DS.new.Ok := ⟨by simp [DS.new], by simp [DS.new], by simp [DS.new], by simp [DS.new]⟩
/-- How a byte goes. -/
inductive StepR (s : DS) (c : UInt8) : DS × Int → Prop
  | line (h0 : s.st = 0) (hp : (parseP (s.line ++ [c])).2.2 = 7) : StepR s c ({ s with line := s.line ++ [c] }, 0)
  | size (h0 : s.st = 0) (n k : Nat) (hp : parseP (s.line ++ [c]) = (n, k, 0)) : StepR s c ({ s with line := [], left := n, sizes := s.sizes ++ [(n : Int)], st := if n = 0 then 2 else 1 }, 0)
  | bad (h0 : s.st = 0) (e : Int) (hp : (parseP (s.line ++ [c])).2.2 = e) (h1 : e ≠ 0) (h7 : e ≠ 7) : StepR s c (s, e)
  | out (h0 : s.st = 1) : StepR s c ({ s with out := s.out ++ [c], left := s.left - 1, st := if s.left = 1 then 2 else 1 }, 0)
  | cr (h0 : s.st = 2) (hc : c = 13) : StepR s c ({ s with st := 3 }, 0)
  | ncr (h0 : s.st = 2) (hc : c ≠ 13) : StepR s c (s, 5)
  | lf (h0 : s.st = 3) (hc : c = 10) : StepR s c ({ s with st := if s.sizes.getLast? = some 0 then 4 else 0 }, 0)
  | nlf (h0 : s.st = 3) (hc : c ≠ 10) : StepR s c (s, 5)
  | more (h0 : s.st ≠ 0) (h1 : s.st ≠ 1) (h2 : s.st ≠ 2) (h3 : s.st ≠ 3) : StepR s c (s, 8)
theorem step_r (s : DS) (c : UInt8) : StepR s c (s.step c) := by
  unfold DS.step
  by_cases c0 : s.st = 0
  · rw [if_pos c0]
    by_cases c7 : (parseP (s.line ++ [c])).2.2 = 7
    · rw [if_pos c7]; exact .line c0 c7
    · rw [if_neg c7]
      by_cases ce : (parseP (s.line ++ [c])).2.2 = 0
      · rw [if_pos ce]; exact .size c0 _ (parseP (s.line ++ [c])).2.1 (by rw [← ce])
      · rw [if_neg ce]; exact .bad c0 _ rfl ce c7
  rw [if_neg c0]
  by_cases c1 : s.st = 1
  · rw [if_pos c1]; exact .out c1
  rw [if_neg c1]
  by_cases c2 : s.st = 2
  · rw [if_pos c2]
    by_cases h : c = 13
    · rw [if_pos h]; exact .cr c2 h
    · rw [if_neg h]; exact .ncr c2 h
  rw [if_neg c2]
  by_cases c3 : s.st = 3
  · rw [if_pos c3]
    by_cases h : c = 10
    · rw [if_pos h]; exact .lf c3 h
    · rw [if_neg h]; exact .nlf c3 h
  rw [if_neg c3]; exact .more c0 c1 c2 c3
theorem step_err (s : DS) (c : UInt8) : (s.step c).1.err = s.err ∧ (s.step c).1.off = s.off := by
  have h := step_r s c
  generalize s.step c = x at h
  cases h <;> exact ⟨rfl, rfl⟩
theorem one_ok {s : DS} (h : s.Ok) (c : UInt8) : (s.one c).Ok := by
  unfold DS.one
  by_cases he : s.err = 0
  · rw [if_pos he]
    obtain ⟨h1, h2, h3, h4⟩ := h
    have hr := step_r s c
    generalize s.step c = x at hr
    cases hr with
    | line h0 hp => exact ⟨by simp only [List.length_append, List.length_singleton, if_true]; omega, by simp [h0], h3, by simp [h0]⟩
    | size h0 n k hp =>
      have hn := (parse_canon hp).1
      refine ⟨by simp only [List.length_append, List.length_singleton, List.length_nil, if_true]; omega, fun h => ?_, by simpa using hn, by simp⟩
      simp only [if_true] at h ⊢
      split at h
      · cases h
      · omega
    | bad h0 e hp e1 e7 => rw [if_neg e1]; exact ⟨h1, h2, h3, h4⟩
    | out h0 =>
      have := h2 h0
      refine ⟨by simp only [List.length_append, List.length_singleton, if_true]; omega, fun h => ?_, ?_, fun _ => by simpa using h4 (by omega)⟩
      · simp only [if_true] at h ⊢
        split at h
        · cases h
        · omega
      · simp only [if_true]; omega
    | cr h0 hc => exact ⟨by simp only [if_true]; omega, by simp, by simpa using h3, fun _ => by simpa using h4 (by omega)⟩
    | ncr h0 hc => exact ⟨h1, h2, h3, h4⟩
    | lf h0 hc =>
      refine ⟨by simp only [if_true]; omega, fun h => ?_, by simpa using h3, fun _ => by simpa using h4 (by omega)⟩
      simp only [if_true] at h
      split at h <;> cases h
    | nlf h0 hc => exact ⟨h1, h2, h3, h4⟩
    | more g0 g1 g2 g3 => exact ⟨h1, h2, h3, h4⟩
  · rw [if_neg he]; exact h
theorem one_off (s : DS) (c : UInt8) : s.off ≤ (s.one c).off ∧ (s.one c).off ≤ s.off + 1 := by
  unfold DS.one
  have := (step_err s c).2
  split
  · split <;> simp only <;> omega
  · omega
theorem feed_ok {s : DS} (h : s.Ok) (b : List UInt8) : (s.feed b).Ok := by
  induction b generalizing s with
  | nil => exact h
  | cons c b ih => rw [feed_cons]; exact ih (one_ok h c)
theorem feed_off (s : DS) (b : List UInt8) : s.off ≤ (s.feed b).off ∧ (s.feed b).off ≤ s.off + b.length := by
  induction b generalizing s with
  | nil => exact ⟨Nat.le_refl _, Nat.le_refl _⟩
  | cons c b ih =>
    rw [feed_cons]
    have := one_off s c
    have := ih (s.one c)
    rw [List.length_cons]; omega
theorem feed_err {s : DS} (h : s.err ≠ 0) (b : List UInt8) : s.feed b = s := by
  induction b generalizing s with
  | nil => rfl
  | cons c b ih => rw [feed_cons, DS.one, if_neg h]; exact ih h
end Go.AL.Fun
