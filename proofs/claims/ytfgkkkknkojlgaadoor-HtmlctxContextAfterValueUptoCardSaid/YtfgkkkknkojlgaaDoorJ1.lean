/- The HTML context automaton, as plain functions: the program's and the reference's. -/
import Derived.Test.YtfgkkkknkojlgaaDoorJ0
set_option linter.unusedSimpArgs false
set_option linter.unusedVariables false
namespace Go.AL.Fun
open Go Go.AL

structure St where
  ctx : Int
  name : List UInt8
  attr : List UInt8
  part : List UInt8
  deriving DecidableEq

def St.zero : St := ⟨0, [], [], []⟩
def lowB (b : UInt8) : UInt8 := if 65 ≤ n8 b ∧ n8 b ≤ 90 then b + 32 else b
def letB (b : UInt8) : Bool := decide (97 ≤ n8 b ∧ n8 b ≤ 122 ∨ 65 ≤ n8 b ∧ n8 b ≤ 90)
def spcB (b : UInt8) : Bool := decide (n8 b = 32 ∨ n8 b = 9 ∨ n8 b = 10 ∨ n8 b = 12 ∨ n8 b = 13)
def addB (s : List UInt8) (b : UInt8) : List UInt8 := if s.length = 16 then s else s ++ [lowB b]

def openP (name : List UInt8) : St := if name = [115, 99, 114, 105, 112, 116] then ⟨16, [], [], []⟩ else if name = [115, 116, 121, 108, 101] then ⟨19, [], [], []⟩ else St.zero
def textP (s : St) (b : UInt8) : St :=
  if s.part = [60] ∧ letB b = true then ⟨2, [lowB b], [], []⟩
  else if (s.part = [60] ∧ (n8 b = 47 ∨ n8 b = 33)) ∨ (s.part = [60, 33] ∧ n8 b = 45) then ⟨0, [], [], s.part ++ [b]⟩
  else if s.part = [60, 47] ∧ letB b = true then ⟨15, [], [], []⟩
  else if s.part = [60, 33, 45] ∧ n8 b = 45 then ⟨13, [], [], []⟩
  else if (s.part = [60, 33] ∨ s.part = [60, 33, 45]) ∧ n8 b ≠ 62 then ⟨14, [], [], []⟩
  else if n8 b = 60 then ⟨0, [], [], [60]⟩ else St.zero
def commentP (s : St) (b : UInt8) : St :=
  if s.part = [45, 45] ∧ n8 b = 62 then St.zero
  else if n8 b ≠ 45 then { s with part := [] }
  else if (s.part.length : Int) < 2 then { s with part := s.part ++ [45] } else s
def withP (s : St) (c : Int) : St := ⟨c, s.name, [], []⟩
def nameP (s : St) (b : UInt8) : St :=
  if n8 b = 47 ∨ (s.ctx = 2 ∧ spcB b = true) then withP s 1
  else if s.ctx = 2 then { s with name := addB s.name b }
  else if s.ctx = 1 ∧ spcB b = true then s
  else if spcB b = true then { s with ctx := 4 }
  else if s.ctx ≠ 1 ∧ n8 b = 61 then { s with ctx := 5 }
  else if s.ctx ≠ 3 then { withP s 3 with attr := addB [] b }
  else { s with attr := addB s.attr b }
def ctxP (a : List UInt8) : Int :=
  if a = [104, 114, 101, 102] ∨ a = [115, 114, 99] ∨ a = [97, 99, 116, 105, 111, 110] ∨ a = [102, 111, 114, 109, 97, 99, 116, 105, 111, 110] then 9
  else if a = [115, 116, 121, 108, 101] ∨ a = [115, 114, 99, 100, 111, 99] ∨ ([111, 110] : List UInt8).isPrefixOf a = true then 11 else 7
def valueP (s : St) (b : UInt8) : St :=
  if spcB b = true then s
  else if n8 b ≠ 34 ∧ n8 b ≠ 39 then withP s 6
  else withP s (if n8 b = 39 then ctxP s.attr + 1 else ctxP s.attr)
def tagP (s : St) (b : UInt8) : St :=
  if s.ctx = 7 ∨ s.ctx = 9 ∨ s.ctx = 11 then (if n8 b = 34 then withP s 1 else s)
  else if s.ctx = 8 ∨ s.ctx = 10 ∨ s.ctx = 12 then (if n8 b = 39 then withP s 1 else s)
  else if n8 b = 62 then openP s.name
  else if s.ctx = 5 then valueP s b
  else if s.ctx ≠ 6 then nameP s b
  else if spcB b = true then withP s 1 else s
def rawP (s : St) (code : Int) (end_ : List UInt8) (b : UInt8) : St :=
  if ([60] : List UInt8).isPrefixOf s.part = true ∧ (s.part ++ [lowB b]).isPrefixOf end_ = true then
    (if s.part ++ [lowB b] = end_ then ⟨15, [], [], []⟩ else { s with part := s.part ++ [lowB b] })
  else if n8 b = 60 then { s with part := [60] }
  else if s.part = [92] then { s with part := [] }
  else if s.ctx - code = 0 ∧ n8 b = 34 then { s with part := [], ctx := code + 1 }
  else if s.ctx - code = 0 ∧ n8 b = 39 then { s with part := [], ctx := code + 2 }
  else if s.ctx - code ≠ 0 ∧ (n8 b = (if s.ctx - code = 1 then 34 else if s.ctx - code = 2 then 39 else 0) ∨ n8 b = 10) then { s with part := [], ctx := code }
  else if s.ctx - code ≠ 0 ∧ n8 b = 92 then { s with part := [92] }
  else { s with part := [] }
def scriptE : List UInt8 := [60, 47, 115, 99, 114, 105, 112, 116]
def styleE : List UInt8 := [60, 47, 115, 116, 121, 108, 101]
def stepP (s : St) (b : UInt8) : St :=
  if s.ctx = 0 then textP s b
  else if s.ctx = 13 then commentP s b
  else if s.ctx = 14 ∨ s.ctx = 15 then (if n8 b = 62 then St.zero else s)
  else if s.ctx = 16 ∨ s.ctx = 17 ∨ s.ctx = 18 then rawP s 16 scriptE b
  else if s.ctx = 19 ∨ s.ctx = 20 ∨ s.ctx = 21 then rawP s 19 styleE b
  else tagP s b
def runP (s : St) (t : List UInt8) : St := t.foldl stepP s
def escH (s : St) : Int × Bool :=
  if s.part ≠ [] then (0, false)
  else if s.ctx = 0 then (0, true) else if s.ctx = 7 ∨ s.ctx = 8 then (1, true) else if s.ctx = 9 ∨ s.ctx = 10 then (2, true)
  else if s.ctx = 17 ∨ s.ctx = 18 then (3, true) else if s.ctx = 20 ∨ s.ctx = 21 then (4, true) else (0, false)

/- The reference. -/
def letR (b : UInt8) : Bool := decide (97 ≤ n8 (lowB b) ∧ n8 (lowB b) ≤ 122)
def addR (s : List UInt8) (b : UInt8) : List UInt8 := if 16 ≤ s.length then s else s ++ [lowB b]
def textR (s : St) (b : UInt8) : St :=
  let last : St := if n8 b = 60 then ⟨0, [], [], [60]⟩ else St.zero
  if s.part = [60] then (if letR b = true then ⟨2, addR [] b, [], []⟩ else if n8 b = 47 ∨ n8 b = 33 then ⟨0, [], [], [60] ++ [b]⟩ else last)
  else if s.part = [60, 47] then (if letR b = true then ⟨15, [], [], []⟩ else last)
  else if s.part = [60, 33] then (if n8 b = 45 then ⟨0, [], [], [60, 33, 45]⟩ else if n8 b = 62 then St.zero else ⟨14, [], [], []⟩)
  else if s.part = [60, 33, 45] then (if n8 b = 45 then ⟨13, [], [], []⟩ else if n8 b = 62 then St.zero else ⟨14, [], [], []⟩)
  else last
def commentR (s : St) (b : UInt8) : St :=
  if s.part = [45, 45] ∧ n8 b = 62 then St.zero
  else if n8 b ≠ 45 then ⟨13, [], [], []⟩
  else if s.part = [] then ⟨13, [], [], [45]⟩ else ⟨13, [], [], [45, 45]⟩
def quotedR (a : List UInt8) (b : UInt8) : Int :=
  let c : Int := if a = [104, 114, 101, 102] ∨ a = [115, 114, 99] ∨ a = [97, 99, 116, 105, 111, 110] ∨ a = [102, 111, 114, 109, 97, 99, 116, 105, 111, 110] then 9
    else if a = [115, 116, 121, 108, 101] ∨ a = [115, 114, 99, 100, 111, 99] then 11 else 7
  let c : Int := if 2 ≤ a.length ∧ a.take 2 = [111, 110] then 11 else c
  if n8 b = 39 then c + 1 else c
def tagR (s : St) (b : UInt8) : St :=
  if n8 b = 62 ∧ s.ctx ≤ 6 then openP s.name
  else if s.ctx = 2 then (if spcB b = true ∨ n8 b = 47 then ⟨1, s.name, [], []⟩ else { s with name := addR s.name b })
  else if s.ctx = 1 then (if spcB b = false ∧ n8 b ≠ 47 then ⟨3, s.name, addR [] b, []⟩ else s)
  else if s.ctx = 3 ∨ s.ctx = 4 then
    (if spcB b = true then { s with ctx := 4 } else if n8 b = 47 then ⟨1, s.name, [], []⟩ else if n8 b = 61 then { s with ctx := 5 }
     else if s.ctx = 4 then ⟨3, s.name, addR [] b, []⟩ else { s with attr := addR s.attr b })
  else if s.ctx = 5 then (if n8 b = 34 ∨ n8 b = 39 then ⟨quotedR s.attr b, s.name, [], []⟩ else if spcB b = false then ⟨6, s.name, [], []⟩ else s)
  else if s.ctx = 6 then (if spcB b = true then ⟨1, s.name, [], []⟩ else s)
  else if s.ctx = 7 ∨ s.ctx = 9 ∨ s.ctx = 11 then (if n8 b = 34 then ⟨1, s.name, [], []⟩ else s)
  else if s.ctx = 8 ∨ s.ctx = 10 ∨ s.ctx = 12 then (if n8 b = 39 then ⟨1, s.name, [], []⟩ else s)
  else s
def rawR (s : St) (b : UInt8) : St :=
  let code : Int := if 19 ≤ s.ctx then 19 else 16
  let end_ := if 19 ≤ s.ctx then styleE else scriptE
  if s.part ≠ [] ∧ s.part.head? = some 60 ∧ s.part.length < end_.length ∧ end_[s.part.length]? = some (lowB b) then
    (if s.part ++ [lowB b] = end_ then ⟨15, [], [], []⟩ else { s with part := s.part ++ [lowB b] })
  else if n8 b = 60 then { s with part := [60] }
  else if s.part = [92] then { s with part := [] }
  else if s.ctx = code then (if n8 b = 39 then { s with part := [], ctx := code + 2 } else if n8 b = 34 then { s with part := [], ctx := code + 1 } else { s with part := [] })
  else
    let q : Int := if s.ctx = code + 2 then 39 else 34
    { s with ctx := if n8 b = q ∨ n8 b = 10 then code else s.ctx, part := if n8 b = 92 then [92] else [] }
def stepR (s : St) (b : UInt8) : St :=
  if s.ctx = 0 then textR s b
  else if s.ctx ≤ 12 then tagR s b
  else if s.ctx = 13 then commentR s b
  else if s.ctx ≤ 15 then (if n8 b = 62 then St.zero else s)
  else rawR s b

/-- The states that are reached. -/
structure Inv (s : St) : Prop where
  lo : 0 ≤ s.ctx
  hi : s.ctx ≤ 21
  text : s.ctx = 0 → s.name = [] ∧ s.attr = [] ∧ (s.part = [] ∨ s.part = [60] ∨ s.part = [60, 33] ∨ s.part = [60, 47] ∨ s.part = [60, 33, 45])
  tags : 1 ≤ s.ctx → s.ctx ≤ 12 → s.part = []
  betw : s.ctx = 1 → s.attr = []
  comm : s.ctx = 13 → s.name = [] ∧ s.attr = [] ∧ (s.part = [] ∨ s.part = [45] ∨ s.part = [45, 45])
  rest : s.ctx = 14 ∨ s.ctx = 15 → s.part = []
  scr : 16 ≤ s.ctx → s.ctx ≤ 18 → s.part = [92] ∨ (s.part.isPrefixOf scriptE = true ∧ s.part.length < 8)
  sty : 19 ≤ s.ctx → s.part = [92] ∨ (s.part.isPrefixOf styleE = true ∧ s.part.length < 7)
  n16 : s.name.length ≤ 16
  a16 : s.attr.length ≤ 16

theorem lowB_nat (b : UInt8) : n8 (lowB b) = if 65 ≤ n8 b ∧ n8 b ≤ 90 then n8 b + 32 else n8 b := by
  unfold lowB
  split
  · rename_i h
    unfold n8 at h ⊢
    rw [UInt8.toNat_add]
    have : (32 : UInt8).toNat = 32 := rfl
    omega
  · rfl
theorem letR_eq (b : UInt8) : letR b = letB b := by
  unfold letR letB
  rw [lowB_nat, decide_eq_decide]
  split <;> omega
theorem addR_eq {s : List UInt8} (h : s.length ≤ 16) (b : UInt8) : addR s b = addB s b := by
  unfold addR addB
  by_cases c : s.length = 16
  · rw [if_pos (by omega), if_pos c]
  · rw [if_neg (by omega), if_neg c]

theorem let_ne {b : UInt8} (h : letB b = true) : n8 b ≠ 47 ∧ n8 b ≠ 33 ∧ n8 b ≠ 45 ∧ n8 b ≠ 60 ∧ n8 b ≠ 62 := by
  unfold letB at h; have := of_decide_eq_true h; omega
theorem n8_inj {b : UInt8} {k : UInt8} (h : n8 b = n8 k) : b = k := by
  unfold n8 at h; exact UInt8.toNat_inj.1 (by omega)

theorem text_eq {s : St} (b : UInt8) (h : s.part = [] ∨ s.part = [60] ∨ s.part = [60, 33] ∨ s.part = [60, 47] ∨ s.part = [60, 33, 45]) : textP s b = textR s b := by
  unfold textP textR
  simp only [letR_eq]
  have e : addR [] b = [lowB b] := by simp [addR]
  have e45 : n8 b = 45 → b = 45 := fun h => n8_inj h
  rw [e]
  rcases h with h | h | h | h | h
  · simp [h]
  · by_cases c : letB b = true
    · simp [h, c]
    · by_cases c1 : n8 b = 47
      · simp [h, c, c1]
      · by_cases c2 : n8 b = 33
        · simp [h, c, c2]
        · simp [h, c, c1, c2]
  · by_cases c1 : n8 b = 45
    · have := e45 c1; simp [h, c1]; exact this
    · by_cases c2 : n8 b = 62
      · simp [h, c1, c2]
      · simp [h, c1, c2]
  · by_cases c : letB b = true
    · simp [h, c]
    · simp [h, c]
  · by_cases c1 : n8 b = 45
    · simp [h, c1]
    · by_cases c2 : n8 b = 62
      · simp [h, c1, c2]
      · simp [h, c1, c2]
theorem comment_eq {s : St} (b : UInt8) (hc : s.ctx = 13) (hn : s.name = []) (ha : s.attr = []) (h : s.part = [] ∨ s.part = [45] ∨ s.part = [45, 45]) : commentP s b = commentR s b := by
  obtain ⟨ctx, name, attr, part⟩ := s
  simp only at hc hn ha h
  subst hc hn ha
  unfold commentP commentR
  rcases h with rfl | rfl | rfl
  · by_cases c1 : n8 b = 45 <;> simp [c1]
  · by_cases c1 : n8 b = 45 <;> simp [c1]
  · by_cases c1 : n8 b = 45
    · simp [c1]
    · by_cases c2 : n8 b = 62 <;> simp [c1, c2]
theorem on_iff (a : List UInt8) : ([111, 110] : List UInt8).isPrefixOf a = true ↔ 2 ≤ a.length ∧ a.take 2 = [111, 110] := by
  match a with
  | [] => simp
  | [x] => simp
  | x :: y :: r => simp [List.isPrefixOf]; exact ⟨fun ⟨h1, h2⟩ => ⟨h1.symm, h2.symm⟩, fun ⟨h1, h2⟩ => ⟨h1.symm, h2.symm⟩⟩
theorem quoted_eq (a : List UInt8) (b : UInt8) : (if n8 b = 39 then ctxP a + 1 else ctxP a) = quotedR a b := by
  have : ctxP a = (let c : Int := if a = [104, 114, 101, 102] ∨ a = [115, 114, 99] ∨ a = [97, 99, 116, 105, 111, 110] ∨ a = [102, 111, 114, 109, 97, 99, 116, 105, 111, 110] then 9
    else if a = [115, 116, 121, 108, 101] ∨ a = [115, 114, 99, 100, 111, 99] then 11 else 7
    if 2 ≤ a.length ∧ a.take 2 = [111, 110] then 11 else c) := by
    unfold ctxP
    simp only [on_iff]
    by_cases h1 : a = [104, 114, 101, 102] ∨ a = [115, 114, 99] ∨ a = [97, 99, 116, 105, 111, 110] ∨ a = [102, 111, 114, 109, 97, 99, 116, 105, 111, 110]
    · have : ¬ (2 ≤ a.length ∧ a.take 2 = [111, 110]) := by rcases h1 with rfl | rfl | rfl | rfl <;> decide
      simp only [h1, this, if_true, if_false]
    · by_cases h2 : a = [115, 116, 121, 108, 101] ∨ a = [115, 114, 99, 100, 111, 99]
      · have h3 : a = [115, 116, 121, 108, 101] ∨ a = [115, 114, 99, 100, 111, 99] ∨ (2 ≤ a.length ∧ a.take 2 = [111, 110]) := by rcases h2 with h | h; exact .inl h; exact .inr (.inl h)
        simp only [h1, h2, h3, if_true, if_false, ite_self]
      · by_cases h3 : 2 ≤ a.length ∧ a.take 2 = [111, 110]
        · simp only [h1, h2, h3, if_true, if_false, or_true, and_self]
        · have h4 : ¬ (a = [115, 116, 121, 108, 101] ∨ a = [115, 114, 99, 100, 111, 99] ∨ (2 ≤ a.length ∧ a.take 2 = [111, 110])) := by
            rintro (h | h | h)
            · exact h2 (.inl h)
            · exact h2 (.inr h)
            · exact h3 h
          have h5 := not_or.1 h2
          simp only [h1, h5.1, h5.2, h3, or_self, if_false]
  rw [this]; rfl
theorem tag_eq {s : St} (b : UInt8) (h1 : 1 ≤ s.ctx) (h2 : s.ctx ≤ 12) (hp : s.part = []) (hb : s.ctx = 1 → s.attr = []) (hn : s.name.length ≤ 16) (ha : s.attr.length ≤ 16) : tagP s b = tagR s b := by
  obtain ⟨ctx, name, attr, part⟩ := s
  simp only at h1 h2 hp hb hn ha
  subst hp
  have hs : n8 b = 47 → spcB b = false := fun h => by unfold spcB; rw [decide_eq_false]; omega
  have hs2 : n8 b = 61 → spcB b = false := fun h => by unfold spcB; rw [decide_eq_false]; omega
  have hs3 : n8 b = 34 → spcB b = false := fun h => by unfold spcB; rw [decide_eq_false]; omega
  have hs4 : n8 b = 39 → spcB b = false := fun h => by unfold spcB; rw [decide_eq_false]; omega
  have hs5 : n8 b = 62 → spcB b = false := fun h => by unfold spcB; rw [decide_eq_false]; omega
  have e0 : addR [] b = addB [] b := addR_eq (by simp) b
  have hq := quoted_eq attr b
  unfold tagP tagR
  have : ctx = 1 ∨ ctx = 2 ∨ ctx = 3 ∨ ctx = 4 ∨ ctx = 5 ∨ ctx = 6 ∨ ctx = 7 ∨ ctx = 8 ∨ ctx = 9 ∨ ctx = 10 ∨ ctx = 11 ∨ ctx = 12 := by omega
  rcases this with rfl | rfl | rfl | rfl | rfl | rfl | rfl | rfl | rfl | rfl | rfl | rfl
  · have := hb rfl; subst this
    by_cases c1 : n8 b = 62
    · simp [c1]
    · by_cases c2 : n8 b = 47
      · simp [c1, c2, nameP, withP]
      · by_cases c3 : spcB b = true
        · simp [c1, c2, c3, nameP]
        · simp [c1, c2, c3, nameP, withP, e0]
  · by_cases c1 : n8 b = 62
    · simp [c1]
    · by_cases c2 : n8 b = 47
      · simp [c1, c2, nameP, withP]
      · by_cases c3 : spcB b = true
        · simp [c1, c2, c3, nameP, withP]
        · simp [c1, c2, c3, nameP, addR_eq hn]
  · by_cases c1 : n8 b = 62
    · simp [c1]
    · by_cases c2 : n8 b = 47
      · simp [c1, c2, nameP, withP, hs c2]
      · by_cases c3 : spcB b = true
        · simp [c1, c2, c3, nameP, withP]
        · by_cases c4 : n8 b = 61
          · simp [c1, c2, c3, c4, nameP, withP]
          · simp [c1, c2, c3, c4, nameP, addR_eq ha]
  · by_cases c1 : n8 b = 62
    · simp [c1]
    · by_cases c2 : n8 b = 47
      · simp [c1, c2, nameP, withP, hs c2]
      · by_cases c3 : spcB b = true
        · simp [c1, c2, c3, nameP, withP]
        · by_cases c4 : n8 b = 61
          · simp [c1, c2, c3, c4, nameP, withP]
          · simp [c1, c2, c3, c4, nameP, withP, e0]
  · by_cases c1 : n8 b = 62
    · simp [c1]
    · by_cases c2 : n8 b = 34
      · simp [c1, c2, valueP, withP, hs3 c2]; rw [← hq]; simp [c2]
      · by_cases c3 : n8 b = 39
        · simp [c1, c2, c3, valueP, withP, hs4 c3]; rw [← hq]; simp [c3]
        · by_cases c4 : spcB b = true
          · simp [c1, c2, c3, c4, valueP, withP]
          · simp [c1, c2, c3, c4, valueP, withP]
  · by_cases c1 : n8 b = 62
    · simp [c1]
    · by_cases c4 : spcB b = true
      · simp [c1, c4, withP]
      · simp [c1, c4]
  all_goals simp [withP]

theorem pre_snoc {l m : List UInt8} (x : UInt8) (h : l.isPrefixOf m = true) : (l ++ [x]).isPrefixOf m = true ↔ m[l.length]? = some x := by
  rw [List.isPrefixOf_iff_prefix] at h ⊢
  obtain ⟨r, rfl⟩ := h
  rw [List.prefix_append_right_inj, List.getElem?_append_right (Nat.le_refl _), Nat.sub_self]
  cases r with
  | nil => simp
  | cons y r => simp [List.cons_prefix_cons]; exact ⟨Eq.symm, Eq.symm⟩
theorem lt_iff (l : List UInt8) : ([60] : List UInt8).isPrefixOf l = true ↔ l ≠ [] ∧ l.head? = some 60 := by
  cases l with
  | nil => simp
  | cons x l => simp [List.isPrefixOf]; exact ⟨Eq.symm, Eq.symm⟩

theorem raw_eq {s : St} (b : UInt8) (code : Int) (e : List UInt8) (h1 : code ≤ s.ctx) (h2 : s.ctx ≤ code + 2) (hc : code = if 19 ≤ s.ctx then 19 else 16) (he : e = if 19 ≤ s.ctx then styleE else scriptE)
    (hp : s.part = [92] ∨ (s.part.isPrefixOf e = true ∧ s.part.length < e.length)) : rawP s code e b = rawR s b := by
  obtain ⟨ctx, name, attr, part⟩ := s
  simp only at h1 h2 hc he hp
  unfold rawP rawR
  simp only [← hc, ← he]
  have k1 : (([60] : List UInt8).isPrefixOf part = true ∧ (part ++ [lowB b]).isPrefixOf e = true) ↔ (part ≠ [] ∧ part.head? = some 60 ∧ part.length < e.length ∧ e[part.length]? = some (lowB b)) := by
    rw [lt_iff]
    rcases hp with rfl | ⟨q1, q2⟩
    · simp
    · rw [pre_snoc _ q1]; exact ⟨fun ⟨⟨a, b⟩, c⟩ => ⟨a, b, q2, c⟩, fun ⟨a, b, _, c⟩ => ⟨⟨a, b⟩, c⟩⟩
  by_cases c0 : ([60] : List UInt8).isPrefixOf part = true ∧ (part ++ [lowB b]).isPrefixOf e = true
  · rw [if_pos c0, if_pos (k1.1 c0)]
  · rw [if_neg c0, if_neg (fun h => c0 (k1.2 h))]
    by_cases c1 : n8 b = 60
    · simp [c1]
    · by_cases c2 : part = [92]
      · simp [c1, c2]
      · by_cases c3 : ctx = code
        · have d3 : ctx - code = 0 := by omega
          by_cases c4 : n8 b = 34
          · simp [c1, c2, c3, c4]
          · by_cases c5 : n8 b = 39
            · simp [c1, c2, c3, c5]
            · simp [c1, c2, c3, c4, c5]
        · have d3 : ¬ ctx - code = 0 := by omega
          have q : (if ctx - code = 1 then (34 : Int) else if ctx - code = 2 then 39 else 0) = if ctx = code + 2 then 39 else 34 := by
            split <;> split <;> (try split) <;> omega
          rw [q]
          by_cases c4 : n8 b = (if ctx = code + 2 then 39 else 34) ∨ n8 b = 10
          · have c5 : ¬ n8 b = 92 := by rcases c4 with h | h <;> (try split at h) <;> omega
            simp only [c1, c2, c3, d3, c4, c5, if_true, if_false, false_and, ne_eq, not_false_eq_true, true_and]
          · by_cases c5 : n8 b = 92
            · have c6 : ¬ ((92 : Int) = (if ctx = code + 2 then 39 else 34) ∨ (92 : Int) = 10) := by rw [← c5]; exact c4
              simp only [c1, c2, c3, d3, c5, c6, if_true, if_false, false_and, ne_eq, not_false_eq_true, true_and]
            · simp only [c1, c2, c3, d3, c4, c5, if_true, if_false, false_and, ne_eq, not_false_eq_true, true_and]

theorem inv_zero (c : Int) (h1 : 0 ≤ c) (h2 : c ≤ 21) : Inv ⟨c, [], [], []⟩ where
  lo := h1
  hi := h2
  text _ := ⟨rfl, rfl, .inl rfl⟩
  tags _ _ := rfl
  betw _ := rfl
  comm _ := ⟨rfl, rfl, .inl rfl⟩
  rest _ := rfl
  scr _ _ := .inr ⟨rfl, by show (0 : Nat) < 8; decide⟩
  sty _ := .inr ⟨rfl, by show (0 : Nat) < 7; decide⟩
  n16 := by simp
  a16 := by simp
theorem inv_tag {c : Int} {n a : List UInt8} (h1 : 1 ≤ c) (h2 : c ≤ 12) (h3 : c = 1 → a = []) (h4 : n.length ≤ 16) (h5 : a.length ≤ 16) : Inv ⟨c, n, a, []⟩ where
  lo := by show 0 ≤ c; omega
  hi := by show c ≤ 21; omega
  text h := by have : c = 0 := h; omega
  tags _ _ := rfl
  betw := h3
  comm h := by have : c = 13 := h; omega
  rest h := rfl
  scr h _ := by have : 16 ≤ c := h; omega
  sty h := by have : 19 ≤ c := h; omega
  n16 := h4
  a16 := h5
theorem inv_text {p : List UInt8} (h : p = [] ∨ p = [60] ∨ p = [60, 33] ∨ p = [60, 47] ∨ p = [60, 33, 45]) : Inv ⟨0, [], [], p⟩ where
  lo := by show (0 : Int) ≤ 0; omega
  hi := by show (0 : Int) ≤ 21; omega
  text _ := ⟨rfl, rfl, h⟩
  tags h := by have : (1 : Int) ≤ 0 := h; omega
  betw h := by have : (0 : Int) = 1 := h; omega
  comm h := by have : (0 : Int) = 13 := h; omega
  rest h := by have : (0 : Int) = 14 ∨ (0 : Int) = 15 := h; omega
  scr h := by have : (16 : Int) ≤ 0 := h; omega
  sty h := by have : (19 : Int) ≤ 0 := h; omega
  n16 := by simp
  a16 := by simp
theorem inv_comm {p : List UInt8} (h : p = [] ∨ p = [45] ∨ p = [45, 45]) : Inv ⟨13, [], [], p⟩ where
  lo := by show (0 : Int) ≤ 13; omega
  hi := by show (13 : Int) ≤ 21; omega
  text h := by have : (13 : Int) = 0 := h; omega
  tags _ h := by have : (13 : Int) ≤ 12 := h; omega
  betw h := by have : (13 : Int) = 1 := h; omega
  comm _ := ⟨rfl, rfl, h⟩
  rest h := by have : (13 : Int) = 14 ∨ (13 : Int) = 15 := h; omega
  scr h := by have : (16 : Int) ≤ 13 := h; omega
  sty h := by have : (19 : Int) ≤ 13 := h; omega
  n16 := by simp
  a16 := by simp
theorem inv_raw {c : Int} {n a p : List UInt8} (h1 : 16 ≤ c) (h2 : c ≤ 21) (h3 : c ≤ 18 → p = [92] ∨ (p.isPrefixOf scriptE = true ∧ p.length < 8)) (h4 : 19 ≤ c → p = [92] ∨ (p.isPrefixOf styleE = true ∧ p.length < 7)) (hn : n.length ≤ 16) (ha : a.length ≤ 16) : Inv ⟨c, n, a, p⟩ where
  lo := by show 0 ≤ c; omega
  hi := h2
  text h := by have : c = 0 := h; omega
  tags _ h := by have : c ≤ 12 := h; omega
  betw h := by have : c = 1 := h; omega
  comm h := by have : c = 13 := h; omega
  rest h := by have : c = 14 ∨ c = 15 := h; omega
  scr _ h := h3 h
  sty h := h4 h
  n16 := hn
  a16 := ha
theorem add_len {s : List UInt8} (h : s.length ≤ 16) (b : UInt8) : (addB s b).length ≤ 16 := by
  unfold addB; split
  · exact h
  · simp; omega
theorem inv_open (n : List UInt8) : Inv (openP n) := by
  unfold openP; repeat' split
  all_goals exact inv_zero _ (by decide) (by decide)
theorem inv_textP (s : St) (b : UInt8) : Inv (textP s b) := by
  unfold textP
  have e1 : n8 b = 47 → b = 47 := fun h => n8_inj h
  have e2 : n8 b = 33 → b = 33 := fun h => n8_inj h
  have e3 : n8 b = 45 → b = 45 := fun h => n8_inj h
  split
  · exact inv_tag (by decide) (by decide) (by intro h; cases h) (by simp) (by simp)
  · split
    · rename_i h
      rcases h with ⟨h1, h2 | h2⟩ | ⟨h1, h2⟩
      · rw [h1, e1 h2]; exact inv_text (.inr (.inr (.inr (.inl rfl))))
      · rw [h1, e2 h2]; exact inv_text (.inr (.inr (.inl rfl)))
      · rw [h1, e3 h2]; exact inv_text (.inr (.inr (.inr (.inr rfl))))
    · repeat' split
      all_goals first | exact inv_zero _ (by decide) (by decide) | exact inv_text (.inr (.inl rfl))
theorem inv_commentP {s : St} (h : Inv s) (hc : s.ctx = 13) (b : UInt8) : Inv (commentP s b) := by
  obtain ⟨a1, a2, a3⟩ := h.comm hc
  obtain ⟨ctx, name, attr, part⟩ := s
  simp only at hc a1 a2 a3
  subst hc a1 a2
  unfold commentP
  split
  · exact inv_zero _ (by decide) (by decide)
  · split
    · exact inv_comm (.inl rfl)
    · split
      · rcases a3 with rfl | rfl | rfl
        · exact inv_comm (.inr (.inl rfl))
        · exact inv_comm (.inr (.inr rfl))
        · rename_i h; simp at h
      · exact inv_comm a3
theorem inv_tagP {s : St} (h : Inv s) (h1 : 1 ≤ s.ctx) (h2 : s.ctx ≤ 12) (b : UInt8) : Inv (tagP s b) := by
  have hp := h.tags h1 h2; have hb := h.betw; have hn := h.n16; have ha := h.a16
  have hs : Inv s := h
  obtain ⟨ctx, name, attr, part⟩ := s
  simp only at h1 h2 hp hb hn ha
  subst hp
  have w : ∀ c : Int, 1 ≤ c → c ≤ 12 → Inv (withP ⟨ctx, name, attr, []⟩ c) := fun c q1 q2 => inv_tag q1 q2 (fun _ => rfl) hn (by simp)
  unfold tagP
  split
  · split
    · exact w 1 (by decide) (by decide)
    · exact hs
  · split
    · split
      · exact w 1 (by decide) (by decide)
      · exact hs
    · split
      · exact inv_open _
      · split
        · unfold valueP
          split
          · exact hs
          · split
            · exact w 6 (by decide) (by decide)
            · have q : 7 ≤ ctxP attr ∧ ctxP attr ≤ 11 := by unfold ctxP; (repeat' split) <;> omega
              exact w _ (by simp only; split <;> omega) (by simp only; split <;> omega)
        · split
          · unfold nameP
            simp only
            split
            · exact w 1 (by decide) (by decide)
            · split
              · exact inv_tag h1 h2 hb (add_len hn b) ha
              · split
                · exact hs
                · split
                  · exact inv_tag (by decide) (by decide) (by intro h; cases h) hn ha
                  · split
                    · exact inv_tag (by decide) (by decide) (by intro h; cases h) hn ha
                    · split
                      · exact inv_tag (by show (1 : Int) ≤ 3; decide) (by show (3 : Int) ≤ 12; decide) (by intro h; cases h) hn (add_len (by simp) b)
                      · rename_i h3
                        exact inv_tag h1 h2 (by intro h; exact absurd (by omega) h3) hn (add_len ha b)
          · split
            · exact w 1 (by decide) (by decide)
            · exact hs
theorem inv_rawP {s : St} (h : Inv s) (code : Int) (e : List UInt8) (hcode : (code = 16 ∧ e = scriptE ∧ s.ctx ≤ 18) ∨ (code = 19 ∧ e = styleE)) (h1 : code ≤ s.ctx) (b : UInt8) : Inv (rawP s code e b) := by
  have hn := h.n16; have ha := h.a16; have hi := h.hi
  have hs := h
  obtain ⟨ctx, name, attr, part⟩ := s
  simp only at h1 hn ha hi hcode
  have mk : ∀ (c : Int) (p : List UInt8), code ≤ c → (code = 16 → c ≤ 18) → c ≤ 21 → (p = [92] ∨ p = [] ∨ p = [60]) → Inv ⟨c, name, attr, p⟩ := by
    intro c p q1 q1' q2 q3
    refine inv_raw (by omega) q2 (fun _ => ?_) (fun _ => ?_) hn ha
    · rcases q3 with rfl | rfl | rfl
      · exact .inl rfl
      · exact .inr ⟨rfl, by decide⟩
      · exact .inr ⟨rfl, by decide⟩
    · rcases q3 with rfl | rfl | rfl
      · exact .inl rfl
      · exact .inr ⟨rfl, by decide⟩
      · exact .inr ⟨rfl, by decide⟩
  unfold rawP
  simp only
  split
  · rename_i c0
    split
    · exact inv_zero _ (by decide) (by decide)
    · rename_i c1
      have hl : (part ++ [lowB b]).length < e.length := by
        have q := List.isPrefixOf_iff_prefix.1 c0.2
        have q2 := q.length_le
        rcases Nat.lt_or_eq_of_le q2 with q3 | q3
        · exact q3
        · exact absurd (q.eq_of_length q3) c1
      refine inv_raw (by omega) hi (fun q => ?_) (fun q => ?_) hn ha
      · rcases hcode with ⟨rfl, rfl, _⟩ | ⟨rfl, rfl⟩
        · exact .inr ⟨c0.2, hl⟩
        · omega
      · rcases hcode with ⟨rfl, rfl, _⟩ | ⟨rfl, rfl⟩
        · omega
        · exact .inr ⟨c0.2, hl⟩
  · repeat' split
    all_goals first | exact mk _ _ (by omega) (by omega) (by omega) (.inr (.inr rfl)) | exact mk _ _ (by omega) (by omega) (by omega) (.inr (.inl rfl)) | exact mk _ _ (by omega) (by omega) (by omega) (.inl rfl)
theorem inv_step {s : St} (h : Inv s) (b : UInt8) : Inv (stepP s b) := by
  have q1 := h.lo; have q2 := h.hi
  unfold stepP
  split
  · exact inv_textP s b
  · split
    · rename_i c; exact inv_commentP h c b
    · split
      · split
        · exact inv_zero _ (by decide) (by decide)
        · exact h
      · split
        · exact inv_rawP h 16 scriptE (.inl ⟨rfl, rfl, by omega⟩) (by omega) b
        · split
          · exact inv_rawP h 19 styleE (.inr ⟨rfl, rfl⟩) (by omega) b
          · exact inv_tagP h (by omega) (by omega) b
theorem inv_run {s : St} (h : Inv s) (t : List UInt8) : Inv (runP s t) := by
  induction t generalizing s with
  | nil => exact h
  | cons b t ih => exact ih (inv_step h b)

theorem step_eq {s : St} (h : Inv s) (b : UInt8) : stepP s b = stepR s b := by
  have q1 := h.lo; have q2 := h.hi
  unfold stepP stepR
  by_cases c0 : s.ctx = 0
  · rw [if_pos c0, if_pos c0]; exact text_eq b (h.text c0).2.2
  · rw [if_neg c0, if_neg c0]
    by_cases c1 : s.ctx ≤ 12
    · rw [if_pos c1, if_neg (by omega), if_neg (by omega), if_neg (by omega), if_neg (by omega)]
      exact tag_eq b (by omega) c1 (h.tags (by omega) c1) h.betw h.n16 h.a16
    · rw [if_neg c1]
      by_cases c2 : s.ctx = 13
      · rw [if_pos c2, if_pos c2]
        obtain ⟨a1, a2, a3⟩ := h.comm c2
        exact comment_eq b c2 a1 a2 a3
      · rw [if_neg c2, if_neg c2]
        by_cases c3 : s.ctx ≤ 15
        · rw [if_pos c3, if_pos (by omega)]
        · rw [if_neg c3, if_neg (by omega)]
          by_cases c4 : s.ctx ≤ 18
          · rw [if_pos (by omega)]
            exact raw_eq b 16 scriptE (by omega) (by omega) (by rw [if_neg (by omega)]) (by rw [if_neg (by omega)]) (h.scr (by omega) c4)
          · rw [if_neg (by omega), if_pos (by omega)]
            exact raw_eq b 19 styleE (by omega) (by omega) (by rw [if_pos (by omega)]) (by rw [if_pos (by omega)]) (h.sty (by omega))
end Go.AL.Fun
