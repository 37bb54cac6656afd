/- Definitions of a template, as plain functions. -/
import Derived.Test.YthphaolkihageaaM8
set_option linter.unusedSimpArgs false
set_option linter.unusedVariables false
namespace Go.AL.Fun
open Go Go.AL

def Nd.k : Nd → Int | .mk k _ _ _ _ _ _ _ => k
def Nd.p : Nd → Int | .mk _ p _ _ _ _ _ _ => p
def Nd.n : Nd → List UInt8 | .mk _ _ s _ _ _ _ _ => s
def Nd.b : Nd → List Nd | .mk _ _ _ _ _ _ b _ => b
def dfn (n : Nd) : Bool := decide (n.k = 6)
def namesR (l : List Nd) : List (List UInt8) := (l.filter dfn).map Nd.n
def hitB (name : List UInt8) (n : Nd) : Bool := decide (n.k = 6) && decide (n.n = name)
def findD (l : List Nd) (name : List UInt8) : Option Nd := l.find? (hitB name)
def mainR (l : List Nd) : List Nd := l.filter fun n => !dfn n
mutual
def callsN : Nd → List Nd
  | .mk k p s q hp he b e => (if k = 4 then [.mk k p s q hp he b e] else []) ++ (callsR b ++ callsR e)
def callsR : List Nd → List Nd
  | [] => []
  | n :: l => callsN n ++ callsR l
end
/-- What a call reaches. -/
def visitR (l : List Nd) : Nat → List (List UInt8) → Nd → List (List UInt8)
  | 0, ns, _ => ns
  | f + 1, ns, n => match findD l n.n with
    | none => ns
    | some d => if d.n ∈ ns then ns else (callsR d.b).foldl (visitR l f) (ns ++ [d.n])
def reachR (l : List Nd) : List (List UInt8) := (callsR (mainR l)).foldl (visitR l 5000) []
/-- The names, and where it fails. -/
def checkG : List Nd → List (List UInt8) → List (List UInt8) × Int × Int
  | [], ns => (ns, 0, 0)
  | n :: l, ns => if n.k ≠ 6 then checkG l ns else if n.n ∈ ns then (ns, n.p, 12) else if ns.length = 64 then (ns, n.p, 14) else checkG l (ns ++ [n.n])
def badC (ns : List (List UInt8)) (l : List Nd) : Option Nd := l.find? fun n => decide (n.n ∉ ns)
def checkR (l : List Nd) : Int × Int :=
  if (checkG l []).2.2 ≠ 0 then (checkG l []).2 else match badC (checkG l []).1 (callsR l) with | none => (0, 0) | some n => (n.p, 11)

theorem checkG_ok : ∀ (l : List Nd) (ns : List (List UInt8)), (checkG l ns).2.2 = 0 → ns.Nodup → (checkG l ns).1 = ns ++ namesR l ∧ (ns ++ namesR l).Nodup
  | [], ns, _, hn => by simp [checkG, namesR, hn]
  | n :: l, ns, h, hn => by
    rw [checkG] at h ⊢
    by_cases c : n.k = 6
    · rw [if_neg (by simp [c])] at h ⊢
      by_cases c1 : n.n ∈ ns
      · rw [if_pos c1] at h; cases h
      rw [if_neg c1] at h ⊢
      by_cases c2 : ns.length = 64
      · rw [if_pos c2] at h; cases h
      rw [if_neg c2] at h ⊢
      have := checkG_ok l (ns ++ [n.n]) h (List.nodup_append.2 ⟨hn, by simp, by
        intro x hx y hy e
        rw [List.mem_singleton] at hy
        subst hy; subst e
        exact c1 hx⟩)
      have e : namesR (n :: l) = n.n :: namesR l := by simp [namesR, dfn, c]
      rw [e]
      simpa using this
    · rw [if_pos c] at h ⊢
      have := checkG_ok l ns h hn
      have e : namesR (n :: l) = namesR l := by simp [namesR, dfn, c]
      rw [e]
      exact this
theorem checkG_e : ∀ (l : List Nd) (ns : List (List UInt8)), (checkG l ns).2.2 = 0 → (checkG l ns).2.1 = 0
  | [], _, _ => rfl
  | n :: l, ns, h => by
    rw [checkG] at h ⊢
    by_cases c : n.k ≠ 6
    · rw [if_pos c] at h ⊢; exact checkG_e l ns h
    rw [if_neg c] at h ⊢
    by_cases c1 : n.n ∈ ns
    · rw [if_pos c1] at h; cases h
    rw [if_neg c1] at h ⊢
    by_cases c2 : ns.length = 64
    · rw [if_pos c2] at h; cases h
    rw [if_neg c2] at h ⊢
    exact checkG_e l _ h
theorem checkR_ok {l : List Nd} (h : (checkR l).2 = 0) : (namesR l).Nodup ∧ ∀ c ∈ callsR l, c.n ∈ namesR l := by
  unfold checkR at h
  by_cases c : (checkG l []).2.2 ≠ 0
  · rw [if_pos c] at h; exact absurd h c
  rw [if_neg c] at h
  have c' : (checkG l []).2.2 = 0 := by simpa using c
  obtain ⟨h1, h2⟩ := checkG_ok l [] c' List.nodup_nil
  simp only [List.nil_append] at h1 h2
  refine ⟨h2, fun x hx => ?_⟩
  rw [h1] at h
  unfold badC at h
  cases hb : (callsR l).find? fun n => decide (n.n ∉ namesR l) with
  | none =>
    have := List.find?_eq_none.1 hb x hx
    simpa using this
  | some n => rw [hb] at h; cases h
theorem find_mem {l : List Nd} {name : List UInt8} {d : Nd} (h : findD l name = some d) : d ∈ l ∧ d.k = 6 ∧ d.n = name ∧ name ∈ namesR l := by
  have h1 := List.mem_of_find?_eq_some h
  have h2 := List.find?_some h
  simp only [hitB, Bool.and_eq_true, decide_eq_true_eq] at h2
  exact ⟨h1, h2.1, h2.2, List.mem_map.2 ⟨d, List.mem_filter.2 ⟨h1, by simp [dfn, h2.1]⟩, h2.2⟩⟩
theorem find_some {l : List Nd} {name : List UInt8} (h : name ∈ namesR l) : ∃ d, findD l name = some d := by
  obtain ⟨d, hd, e⟩ := List.mem_map.1 h
  obtain ⟨h1, h2⟩ := List.mem_filter.1 hd
  cases hf : findD l name with
  | some d => exact ⟨d, rfl⟩
  | none =>
    have := List.find?_eq_none.1 hf d h1
    simp [hitB, e, dfn] at this h2
    exact absurd h2 this
/-- How many names are not yet found. -/
def unf (l : List Nd) (ns : List (List UInt8)) : Nat := (namesR l).countP fun s => decide (s ∉ ns)
theorem unf_lt {l : List Nd} {ns : List (List UInt8)} {s : List UInt8} (h1 : s ∈ namesR l) (h2 : s ∉ ns) : unf l (ns ++ [s]) < unf l ns := by
  unfold unf
  generalize namesR l = L at h1
  induction L with
  | nil => cases h1
  | cons a L ih =>
    have mono : L.countP (fun t => decide (t ∉ ns ++ [s])) ≤ L.countP (fun t => decide (t ∉ ns)) := by
      refine List.countP_mono_left fun t _ h => ?_
      simp only [decide_eq_true_eq] at h ⊢
      exact fun hh => h (List.mem_append.2 (.inl hh))
    rcases List.mem_cons.1 h1 with rfl | h1
    · rw [List.countP_cons_of_neg (by simp), List.countP_cons_of_pos (by simpa using h2)]
      omega
    · by_cases c : a ∉ ns ++ [s]
      · have c2 : a ∉ ns := fun hh => c (List.mem_append.2 (.inl hh))
        rw [List.countP_cons_of_pos (by simpa using c), List.countP_cons_of_pos (by simpa using c2)]
        have := ih h1; omega
      · rw [List.countP_cons_of_neg (by simpa using c), List.countP_cons]
        have := ih h1; omega
theorem unf_nil (l : List Nd) : unf l [] ≤ l.length := by
  unfold unf
  refine Nat.le_trans List.countP_le_length ?_
  unfold namesR
  rw [List.length_map]
  exact List.length_filter_le _ _
/-- Names only come along. -/
def Gr (l : List Nd) (ns ns' : List (List UInt8)) : Prop := unf l ns' ≤ unf l ns ∧ ns'.length + unf l ns' ≤ ns.length + unf l ns ∧ ∀ x ∈ ns', x ∈ ns ∨ x ∈ namesR l
theorem Gr.refl (l : List Nd) (ns : List (List UInt8)) : Gr l ns ns := ⟨Nat.le_refl _, Nat.le_refl _, fun _ h => .inl h⟩
theorem Gr.trans {l : List Nd} {a b c : List (List UInt8)} (h1 : Gr l a b) (h2 : Gr l b c) : Gr l a c :=
  ⟨Nat.le_trans h2.1 h1.1, Nat.le_trans h2.2.1 h1.2.1, fun x hx => (h2.2.2 x hx).elim (fun h => h1.2.2 x h) .inr⟩
theorem visit_gr (l : List Nd) : ∀ (f : Nat) (ns : List (List UInt8)) (n : Nd), Gr l ns (visitR l f ns n)
  | 0, ns, _ => .refl l ns
  | f + 1, ns, n => by
    rw [visitR]
    cases hf : findD l n.n with
    | none => exact .refl l ns
    | some d =>
      simp only
      by_cases c : d.n ∈ ns
      · rw [if_pos c]; exact .refl l ns
      · rw [if_neg c]
        obtain ⟨_, _, e, hm⟩ := find_mem hf
        have lt := unf_lt (l := l) (ns := ns) (s := d.n) (by rw [e]; exact hm) c
        have g0 : Gr l ns (ns ++ [d.n]) := by
          refine ⟨by omega, by simp only [List.length_append, List.length_cons, List.length_nil]; omega, fun x hx => ?_⟩
          rcases List.mem_append.1 hx with h | h
          · exact .inl h
          · rw [List.mem_singleton] at h; subst h; right; rw [e]; exact hm
        refine g0.trans ?_
        generalize ns ++ [d.n] = ms
        generalize callsR d.b = cs
        clear g0 lt
        induction cs generalizing ms with
        | nil => exact .refl l ms
        | cons c cs ih => exact (visit_gr l f ms c).trans (ih _)
theorem fold_gr (l : List Nd) (f : Nat) : ∀ (cs : List Nd) (ns : List (List UInt8)), Gr l ns (cs.foldl (visitR l f) ns)
  | [], ns => .refl l ns
  | c :: cs, ns => (visit_gr l f ns c).trans (fold_gr l f cs _)
theorem reach_sub (l : List Nd) : ∀ x ∈ reachR l, x ∈ namesR l := fun x hx => ((fold_gr l 5000 (callsR (mainR l)) []).2.2 x hx).elim (fun h => by cases h) id
theorem cnts_mem {l : List Nd} {d : Nd} (h : d ∈ l) : d.cnt ≤ Nd.cnts l := by
  induction l with
  | nil => cases h
  | cons a l ih =>
    rw [Nd.cnts]
    rcases List.mem_cons.1 h with rfl | h
    · omega
    · have := ih h; omega
theorem les_mem {L : Nat} {l : List Nd} (hl : Nd.les L l) {d : Nd} (h : d ∈ l) : d.le L := by
  induction l with
  | nil => cases h
  | cons a l ih =>
    rw [Nd.les] at hl
    rcases List.mem_cons.1 h with rfl | h
    · exact hl.1
    · exact ih hl.2 h
theorem cnt_b (d : Nd) : Nd.cnts d.b < d.cnt := by
  cases d; simp only [Nd.b, Nd.cnt]; omega
theorem ex1 : reachR (parsedR [123, 123, 99, 97, 108, 108, 32, 102, 125, 125, 123, 123, 100, 101, 102, 105, 110, 101, 32, 102, 125, 125, 123, 123, 99, 97, 108, 108, 32, 103, 125, 125, 123, 123, 101, 110, 100, 125, 125, 123, 123, 100, 101, 102, 105, 110, 101, 32, 103, 125, 125, 123, 123, 101, 110, 100, 125, 125, 123, 123, 100, 101, 102, 105, 110, 101, 32, 104, 125, 125, 123, 123, 101, 110, 100, 125, 125]) = [[102], [103]] := by kernel_rfl
theorem ex2 : checkR (parsedR [123, 123, 99, 97, 108, 108, 32, 102, 125, 125, 123, 123, 100, 101, 102, 105, 110, 101, 32, 102, 125, 125, 123, 123, 99, 97, 108, 108, 32, 103, 125, 125, 123, 123, 101, 110, 100, 125, 125, 123, 123, 100, 101, 102, 105, 110, 101, 32, 103, 125, 125, 123, 123, 101, 110, 100, 125, 125, 123, 123, 100, 101, 102, 105, 110, 101, 32, 104, 125, 125, 123, 123, 101, 110, 100, 125, 125]) = (0, 0) := by kernel_rfl
theorem ex3 : (mainR (parsedR [123, 123, 99, 97, 108, 108, 32, 102, 125, 125, 123, 123, 100, 101, 102, 105, 110, 101, 32, 102, 125, 125, 123, 123, 99, 97, 108, 108, 32, 103, 125, 125, 123, 123, 101, 110, 100, 125, 125, 123, 123, 100, 101, 102, 105, 110, 101, 32, 103, 125, 125, 123, 123, 101, 110, 100, 125, 125, 123, 123, 100, 101, 102, 105, 110, 101, 32, 104, 125, 125, 123, 123, 101, 110, 100, 125, 125])).length = 1 := by kernel_rfl
end Go.AL.Fun
