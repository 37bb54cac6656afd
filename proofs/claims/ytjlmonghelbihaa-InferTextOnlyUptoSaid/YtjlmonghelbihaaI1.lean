/- The analysis of a template, as plain functions: the program's and the reference's, and that they agree. -/
import Derived.Test.YtjlmonghelbihaaL1
set_option linter.unusedSimpArgs false
set_option linter.unusedVariables false
namespace Go.AL.Fun
open Go Go.AL

structure An where
  escs : List Int
  at_ : Int
  err : Int
def An.fail (a : An) (p e : Int) : An := if a.err = 0 then ⟨a.escs, p, e⟩ else a
mutual
def nodeA (s : St) : Nd → An → St × An
  | .mk k p t _ _ _ b e, a =>
    if k = 0 then (runP s t, a)
    else if k = 1 then (s, ⟨(if (escP s).2 = false then a.fail p 15 else a).escs ++ [(escP s).1], (if (escP s).2 = false then a.fail p 15 else a).at_, (if (escP s).2 = false then a.fail p 15 else a).err⟩)
    else if k = 2 then ((listA s b a).1, if (listA s e (listA s b a).2).1 ≠ (listA s b a).1 then (listA s e (listA s b a).2).2.fail p 16 else (listA s e (listA s b a).2).2)
    else if k = 3 then (s, if (listA s b a).1 ≠ s then (listA s b a).2.fail p 16 else (listA s b a).2)
    else if k = 4 then (s, if s ≠ St.zero then a.fail p 15 else a)
    else if k = 6 then (s, if (listA St.zero b a).1 ≠ St.zero then (listA St.zero b a).2.fail p 16 else (listA St.zero b a).2)
    else (s, a)
def listA (s : St) : List Nd → An → St × An
  | [], a => (s, a)
  | n :: l, a => if a.err ≠ 0 then (s, a) else listA (nodeA s n a).1 l (nodeA s n a).2
end
structure Rs where
  st : St
  escs : List Int
  at_ : Int
  err : Int
mutual
def nodeF (s : St) : Nd → Rs
  | .mk k p t _ _ _ b e =>
    if k = 0 then ⟨runP s t, [], p, 0⟩
    else if k = 1 then ⟨s, [(escP s).1], p, if (escP s).2 = false then 15 else 0⟩
    else if k = 2 then
      (if (listF s b).err ≠ 0 then listF s b else if (listF s e).err ≠ 0 then listF s e else ⟨(listF s b).st, (listF s b).escs ++ (listF s e).escs, p, if (listF s b).st ≠ (listF s e).st then 16 else 0⟩)
    else if k = 3 then (if (listF s b).err ≠ 0 then listF s b else ⟨s, (listF s b).escs, p, if (listF s b).st ≠ s then 16 else 0⟩)
    else if k = 4 then ⟨s, [], p, if s ≠ St.zero then 15 else 0⟩
    else if k = 6 then (if (listF St.zero b).err ≠ 0 then listF St.zero b else ⟨s, (listF St.zero b).escs, p, if (listF St.zero b).st ≠ St.zero then 16 else 0⟩)
    else ⟨s, [], p, 0⟩
def listF (s : St) : List Nd → Rs
  | [] => ⟨s, [], 0, 0⟩
  | n :: l =>
    if (nodeF s n).err ≠ 0 then ⟨St.zero, [], (nodeF s n).at_, (nodeF s n).err⟩
    else if (listF (nodeF s n).st l).err ≠ 0 then ⟨St.zero, [], (listF (nodeF s n).st l).at_, (listF (nodeF s n).st l).err⟩
    else ⟨(listF (nodeF s n).st l).st, (nodeF s n).escs ++ (listF (nodeF s n).st l).escs, 0, 0⟩
end
theorem listF_ok {s : St} {l : List Nd} (h : (listF s l).err = 0) : (listF s l).at_ = 0 := by
  cases l with
  | nil => rfl
  | cons n l => rw [listF] at h ⊢; split at h <;> (try split at h) <;> simp_all
theorem listF_bad {s : St} {l : List Nd} (h : (listF s l).err ≠ 0) : (listF s l).st = St.zero ∧ (listF s l).escs = [] := by
  cases l with
  | nil => exact absurd rfl h
  | cons n l => rw [listF] at h ⊢; split at h <;> (try split at h) <;> simp_all
theorem listA_err {s : St} {l : List Nd} {a : An} (h : a.err ≠ 0) : listA s l a = (s, a) := by
  cases l with
  | nil => rw [listA]
  | cons n l => rw [listA, if_pos h]
theorem An.fail_err {a : An} (h : a.err ≠ 0) (p e : Int) : a.fail p e = a := by unfold An.fail; rw [if_neg h]
theorem An.fail_ok {a : An} (h : a.err = 0) (p e : Int) : a.fail p e = ⟨a.escs, p, e⟩ := by unfold An.fail; rw [if_pos h]

/-- How the two agree. -/
def Agr (r : Rs) (x : St × An) (a : An) : Prop := (r.err = 0 → x = (r.st, ⟨a.escs ++ r.escs, a.at_, a.err⟩)) ∧ (r.err ≠ 0 → x.2.err = r.err ∧ x.2.at_ = r.at_)
mutual
theorem nodeA_F (s : St) : ∀ (n : Nd) (a : An), a.err = 0 → Agr (nodeF s n) (nodeA s n a) a
  | .mk k p t q hp he b e, ⟨es, ap, er⟩, h => by
    have h' : er = 0 := h
    subst h'
    clear h
    have h : (0 : Int) = 0 := rfl
    have hb := listA_F s b ⟨es, ap, 0⟩ h
    have hz := listA_F St.zero b ⟨es, ap, 0⟩ h
    have ebad : ∀ x : An, x.err ≠ 0 → listA s e x = (s, x) := fun x hx => listA_err hx
    have eok := listA_F s e
    rw [nodeF, nodeA]
    unfold Agr at hb hz ⊢
    by_cases k0 : k = 0
    · simp only [k0, if_true, List.append_nil, true_implies, ne_eq, not_true_eq_false, false_implies, and_true]
    by_cases k1 : k = 1
    · cases hs : (escP s).2 <;> simp [k1, An.fail, h]
    by_cases k2 : k = 2
    · by_cases e1 : (listF s b).err = 0
      · have h1 := hb.1 e1
        have h2 := eok ⟨es ++ (listF s b).escs, ap, 0⟩ h
        unfold Agr at h2
        by_cases e2 : (listF s e).err = 0
        · have h3 := h2.1 e2
          by_cases e3 : (listF s b).st = (listF s e).st
          · simp [k2, h1, h3, e1, e2, e3]
          · have e4 : ¬ (listF s e).st = (listF s b).st := fun x => e3 x.symm
            simp [k2, h1, h3, e1, e2, e3, e4, An.fail, h]
        · have h3 := h2.2 e2
          have h4 : (listA s e ⟨es ++ (listF s b).escs, ap, 0⟩).2.err ≠ 0 := by rw [h3.1]; exact e2
          simp [k2, h1, e1, e2, An.fail_err h4, h3]
      · have h1 := hb.2 e1
        have h4 : (listA s b ⟨es, ap, 0⟩).2.err ≠ 0 := by rw [h1.1]; exact e1
        simp [k2, e1, ebad _ h4, An.fail_err h4, h1]
    by_cases k3 : k = 3
    · by_cases e1 : (listF s b).err = 0
      · have h1 := hb.1 e1
        by_cases e3 : (listF s b).st = s
        · simp [k3, h1, e1, e3]
        · simp [k3, h1, e1, e3, An.fail, h]
      · have h1 := hb.2 e1
        have h4 : (listA s b ⟨es, ap, 0⟩).2.err ≠ 0 := by rw [h1.1]; exact e1
        simp [k3, e1, An.fail_err h4, h1]
    by_cases k4 : k = 4
    · by_cases hs : s = St.zero <;> simp [k4, An.fail, h, hs]
    by_cases k6 : k = 6
    · by_cases e1 : (listF St.zero b).err = 0
      · have h1 := hz.1 e1
        by_cases e3 : (listF St.zero b).st = St.zero
        · simp [k6, h1, e1, e3]
        · simp [k6, h1, e1, e3, An.fail, h]
      · have h1 := hz.2 e1
        have h4 : (listA St.zero b ⟨es, ap, 0⟩).2.err ≠ 0 := by rw [h1.1]; exact e1
        simp [k6, e1, An.fail_err h4, h1]
    · simp [k0, k1, k2, k3, k4, k6]
theorem listA_F (s : St) : ∀ (l : List Nd) (a : An), a.err = 0 → Agr (listF s l) (listA s l a) a
  | [], a, h => by rw [listF, listA]; unfold Agr; simp
  | n :: l, ⟨es, ap, er⟩, h => by
    have h' : er = 0 := h
    subst h'
    clear h
    have h : (0 : Int) = 0 := rfl
    have hn := nodeA_F s n ⟨es, ap, 0⟩ h
    have hl := listA_F (nodeF s n).st l
    rw [listF, listA]
    unfold Agr at hn ⊢
    by_cases e1 : (nodeF s n).err = 0
    · have h2 := hl ⟨es ++ (nodeF s n).escs, ap, 0⟩ h
      unfold Agr at h2
      by_cases e2 : (listF (nodeF s n).st l).err = 0
      · simp [e1, e2, hn.1 e1, h2.1 e2]
      · simp [e1, e2, hn.1 e1, h2.2 e2]
    · have h1 := hn.2 e1
      have h4 : (nodeA s n ⟨es, ap, 0⟩).2.err ≠ 0 := by rw [h1.1]; exact e1
      simp [e1, listA_err h4, h1]
end
theorem listA_app (s : St) (l1 l2 : List Nd) (a : An) : listA s (l1 ++ l2) a = listA (listA s l1 a).1 l2 (listA s l1 a).2 := by
  induction l1 generalizing s a with
  | nil => rw [List.nil_append, listA]
  | cons n l ih =>
    rw [List.cons_append, listA, listA]
    by_cases h : a.err = 0
    · simp only [h, ne_eq, not_true_eq_false, if_false, ih]
    · simp only [h, ne_eq, not_false_eq_true, if_true, listA_err h]
/-- What the analysis adds to the list of escapers does not depend on it. -/
def An.base (x : An) : An := ⟨[], x.at_, x.err⟩
end Go.AL.Fun
