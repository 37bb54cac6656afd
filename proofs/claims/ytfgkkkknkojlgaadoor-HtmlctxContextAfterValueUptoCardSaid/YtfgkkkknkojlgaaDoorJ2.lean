/- The HTML context automaton: plain facts for the laws. -/
import Derived.Test.YtfgkkkknkojlgaaDoorJ1
set_option linter.unusedSimpArgs false
set_option linter.unusedVariables false
namespace Go.AL.Fun
open Go Go.AL

theorem run_app (s : St) (a b : List UInt8) : runP s (a ++ b) = runP (runP s a) b := by simp [runP]
def runR (s : St) (t : List UInt8) : St := t.foldl stepR s
theorem run_eq {s : St} (h : Inv s) (t : List UInt8) : runP s t = runR s t := by
  induction t generalizing s with
  | nil => rfl
  | cons b t ih =>
    show runP (stepP s b) t = runR (stepR s b) t
    rw [← step_eq h b]; exact ih (inv_step h b)

def NoUp (l : List UInt8) : Prop := ∀ x ∈ l, ¬ (65 ≤ n8 x ∧ n8 x ≤ 90)
theorem noup_low (b : UInt8) : ¬ (65 ≤ n8 (lowB b) ∧ n8 (lowB b) ≤ 90) := by rw [lowB_nat]; split <;> omega
theorem noup_add {l : List UInt8} (h : NoUp l) (b : UInt8) : NoUp (addB l b) := by
  unfold addB; split
  · exact h
  · intro x hx
    rcases List.mem_append.1 hx with hx | hx
    · exact h x hx
    · rw [List.mem_singleton.1 hx]; exact noup_low b
theorem noup_one (b : UInt8) : NoUp [lowB b] := by intro x hx; rw [List.mem_singleton.1 hx]; exact noup_low b
theorem noup_nil : NoUp [] := by intro x hx; cases hx

theorem names_step {s : St} (hn : NoUp s.name) (ha : NoUp s.attr) (b : UInt8) : NoUp (stepP s b).name ∧ NoUp (stepP s b).attr := by
  have z : NoUp (St.zero).name ∧ NoUp (St.zero).attr := ⟨noup_nil, noup_nil⟩
  have w : ∀ c, NoUp (withP s c).name ∧ NoUp (withP s c).attr := fun c => ⟨hn, noup_nil⟩
  have e : ∀ c : Int, ∀ p, NoUp (St.mk c [] [] p).name ∧ NoUp (St.mk c [] [] p).attr := fun c p => ⟨noup_nil, noup_nil⟩
  unfold stepP
  split
  · unfold textP
    repeat' split
    all_goals first | exact e _ _ | exact z | exact ⟨noup_one b, noup_nil⟩
  · split
    · unfold commentP
      repeat' split
      all_goals first | exact z | exact ⟨hn, ha⟩
    · split
      · split
        · exact z
        · exact ⟨hn, ha⟩
      · have r : ∀ code e', NoUp (rawP s code e' b).name ∧ NoUp (rawP s code e' b).attr := by
          intro code e'
          unfold rawP
          repeat' split
          all_goals first | exact e _ _ | exact ⟨hn, ha⟩
        split
        · exact r _ _
        · split
          · exact r _ _
          · unfold tagP
            split
            · split
              · exact w 1
              · exact ⟨hn, ha⟩
            · split
              · split
                · exact w 1
                · exact ⟨hn, ha⟩
              · split
                · unfold openP; repeat' split
                  all_goals first | exact e _ _ | exact z
                · split
                  · unfold valueP; repeat' split
                    all_goals first | exact w _ | exact ⟨hn, ha⟩
                  · split
                    · unfold nameP; repeat' split
                      all_goals first | exact w _ | exact ⟨hn, ha⟩ | exact ⟨noup_add hn b, ha⟩ | exact ⟨hn, noup_add noup_nil b⟩ | exact ⟨hn, noup_add ha b⟩
                    · split
                      · exact w 1
                      · exact ⟨hn, ha⟩
theorem names_run {s : St} (hn : NoUp s.name) (ha : NoUp s.attr) (t : List UInt8) : NoUp (runP s t).name ∧ NoUp (runP s t).attr := by
  induction t generalizing s with
  | nil => exact ⟨hn, ha⟩
  | cons b t ih => exact ih (names_step hn ha b).1 (names_step hn ha b).2

theorem part_facts {s : St} (h : Inv s) : NoUp s.part ∧ s.part.length ≤ 7 := by
  have q1 := h.lo; have q2 := h.hi
  have pre : ∀ e : List UInt8, NoUp e → s.part.isPrefixOf e = true → NoUp s.part := fun e he hp x hx => he x ((List.isPrefixOf_iff_prefix.1 hp).subset hx)
  have dec : ∀ l : List UInt8, (l.all fun x => decide (¬ (65 ≤ n8 x ∧ n8 x ≤ 90))) = true → NoUp l := fun l hl x hx => of_decide_eq_true (List.all_eq_true.1 hl x hx)
  by_cases c0 : s.ctx = 0
  · rcases (h.text c0).2.2 with e | e | e | e | e <;> rw [e] <;> exact ⟨dec _ (by decide), by decide⟩
  · by_cases c1 : s.ctx ≤ 12
    · rw [h.tags (by omega) c1]; exact ⟨noup_nil, by simp⟩
    · by_cases c2 : s.ctx = 13
      · rcases (h.comm c2).2.2 with e | e | e <;> rw [e] <;> exact ⟨dec _ (by decide), by decide⟩
      · by_cases c3 : s.ctx ≤ 15
        · rw [h.rest (by omega)]; exact ⟨noup_nil, by simp⟩
        · by_cases c4 : s.ctx ≤ 18
          · rcases h.scr (by omega) c4 with e | ⟨e, e2⟩
            · rw [e]; exact ⟨dec _ (by decide), by decide⟩
            · exact ⟨pre scriptE (dec _ (by decide)) e, by omega⟩
          · rcases h.sty (by omega) with e | ⟨e, e2⟩
            · rw [e]; exact ⟨dec _ (by decide), by decide⟩
            · exact ⟨pre styleE (dec _ (by decide)) e, by omega⟩

/- Elements. -/
def Low (l : List UInt8) : Prop := ∀ x ∈ l, 97 ≤ n8 x ∧ n8 x ≤ 122
theorem low_facts {b : UInt8} (h : 97 ≤ n8 b ∧ n8 b ≤ 122) : lowB b = b ∧ letB b = true ∧ spcB b = false := by
  refine ⟨?_, ?_, ?_⟩
  · unfold lowB; rw [if_neg (by omega)]
  · unfold letB; rw [decide_eq_true]; omega
  · unfold spcB; rw [decide_eq_false]; omega
theorem run_name {nm : List UInt8} (l : List UInt8) (hl : Low l) (hn : nm.length ≤ 16) : runP ⟨2, nm, [], []⟩ l = ⟨2, (nm ++ l).take 16, [], []⟩ := by
  induction l generalizing nm with
  | nil => simp [runP, List.take_of_length_le hn]
  | cons b l ih =>
    obtain ⟨h1, h2, h3⟩ := low_facts (hl b List.mem_cons_self)
    have hb := hl b List.mem_cons_self
    have n1 : ¬ n8 b = 62 := by omega
    have n2 : ¬ n8 b = 47 := by omega
    have e : stepP ⟨2, nm, [], []⟩ b = ⟨2, addB nm b, [], []⟩ := by
      simp [stepP, tagP, nameP, n1, n2, h3]
    show runP (stepP ⟨2, nm, [], []⟩ b) l = _
    rw [e, ih (fun x hx => hl x (List.mem_cons_of_mem _ hx)) (add_len hn b)]
    unfold addB
    split
    · rename_i h
      rw [List.take_append_of_le_length (by omega), List.take_append_of_le_length (by omega)]
    · rw [h1, List.append_assoc]; rfl
theorem open_name {nm : List UInt8} (h : nm.length ≤ 16) : runP ⟨2, nm, [], []⟩ [32, 105, 100, 61, 34, 120, 34, 62] = openP nm := by
  have e : ∀ s : St, runP s [32, 105, 100, 61, 34, 120, 34, 62] = stepP (stepP (stepP (stepP (stepP (stepP (stepP (stepP s 32) 105) 100) 61) 34) 120) 34) 62 := fun s => rfl
  rw [e]
  have e1 : stepP ⟨2, nm, [], []⟩ 32 = ⟨1, nm, [], []⟩ := rfl
  have e2 : stepP ⟨1, nm, [], []⟩ 105 = ⟨3, nm, [105], []⟩ := rfl
  have e3 : stepP ⟨3, nm, [105], []⟩ 100 = ⟨3, nm, [105, 100], []⟩ := rfl
  have e4 : stepP ⟨3, nm, [105, 100], []⟩ 61 = ⟨5, nm, [105, 100], []⟩ := rfl
  have e5 : stepP ⟨5, nm, [105, 100], []⟩ 34 = ⟨7, nm, [], []⟩ := rfl
  have e6 : stepP ⟨7, nm, [], []⟩ 120 = ⟨7, nm, [], []⟩ := rfl
  have e7 : stepP ⟨7, nm, [], []⟩ 34 = ⟨1, nm, [], []⟩ := rfl
  have e8 : stepP ⟨1, nm, [], []⟩ 62 = openP nm := rfl
  rw [e1, e2, e3, e4, e5, e6, e7, e8]
theorem run_elem {l : List UInt8} (hl : Low l) (h0 : l ≠ []) : runP St.zero ([60] ++ l ++ [32, 105, 100, 61, 34, 120, 34, 62]) = openP (l.take 16) := by
  cases l with
  | nil => exact absurd rfl h0
  | cons b l =>
    obtain ⟨h1, h2, h3⟩ := low_facts (hl b List.mem_cons_self)
    have hb := hl b List.mem_cons_self
    have e1 : stepP St.zero 60 = ⟨0, [], [], [60]⟩ := rfl
    have e2 : stepP ⟨0, [], [], [60]⟩ b = ⟨2, [b], [], []⟩ := by simp [stepP, textP, h2, h1]
    have e3 : runP St.zero ([60] ++ (b :: l) ++ [32, 105, 100, 61, 34, 120, 34, 62]) = runP (runP (stepP (stepP St.zero 60) b) l) [32, 105, 100, 61, 34, 120, 34, 62] := by
      rw [List.append_assoc, run_app, run_app]; rfl
    rw [e3, e1, e2, run_name l (fun x hx => hl x (List.mem_cons_of_mem _ hx)) (by simp), open_name (by simp; omega)]
    rfl
theorem open_take (l : List UInt8) : openP (l.take 16) = openP l := by
  have k : ∀ w : List UInt8, w.length < 16 → (l.take 16 = w ↔ l = w) := by
    intro w hw
    constructor
    · intro h
      have : (l.take 16).length = w.length := by rw [h]
      rw [List.length_take] at this
      rw [← h, List.take_of_length_le (by omega)]
    · rintro rfl; exact List.take_of_length_le (by omega)
  unfold openP
  simp only [k _ (show ([115, 99, 114, 105, 112, 116] : List UInt8).length < 16 by decide), k _ (show ([115, 116, 121, 108, 101] : List UInt8).length < 16 by decide)]

theorem zero_run {l : List UInt8} (h : ∀ x ∈ l, n8 x ≠ 60) : runP St.zero l = St.zero := by
  induction l with
  | nil => rfl
  | cons b l ih =>
    have hb := h b List.mem_cons_self
    have e : stepP St.zero b = St.zero := by simp [stepP, textP, St.zero, hb]
    show runP (stepP St.zero b) l = _
    rw [e]; exact ih fun x hx => h x (List.mem_cons_of_mem _ hx)
/-- Inside a script or style. -/
def Code (code : Int) (s : St) : Prop := code ≤ s.ctx ∧ s.ctx ≤ code + 2 ∧ s.name = [] ∧ s.attr = [] ∧ (s.part = [] ∨ s.part = [92])
theorem code_raw {code : Int} {s : St} {e : List UInt8} (h : Code code s) {b : UInt8} (hb : n8 b ≠ 60) : Code code (rawP s code e b) := by
  obtain ⟨h1, h2, h3, h4, h5⟩ := h
  have hp : ([60] : List UInt8).isPrefixOf s.part = false := by rcases h5 with h | h <;> rw [h] <;> rfl
  unfold rawP
  rw [if_neg (by rw [hp]; simp), if_neg hb]
  repeat' split
  all_goals first | exact ⟨h1, h2, h3, h4, .inl rfl⟩ | exact ⟨by simp only; omega, by simp only; omega, h3, h4, .inl rfl⟩ | exact ⟨h1, h2, h3, h4, .inr rfl⟩
theorem code_step {code : Int} {s : St} (hc : code = 16 ∨ code = 19) (h : Code code s) {b : UInt8} (hb : n8 b ≠ 60) : Code code (stepP s b) := by
  have h1 := h.1; have h2 := h.2.1
  rcases hc with rfl | rfl
  · unfold stepP
    rw [if_neg (by omega), if_neg (by omega), if_neg (by omega), if_pos (by omega)]
    exact code_raw h hb
  · unfold stepP
    rw [if_neg (by omega), if_neg (by omega), if_neg (by omega), if_neg (by omega), if_pos (by omega)]
    exact code_raw h hb
theorem code_run {code : Int} {s : St} (hc : code = 16 ∨ code = 19) (h : Code code s) {l : List UInt8} (hl : ∀ x ∈ l, n8 x ≠ 60) : Code code (runP s l) := by
  induction l generalizing s with
  | nil => exact h
  | cons b l ih => exact ih (code_step hc h (hl b List.mem_cons_self)) fun x hx => hl x (List.mem_cons_of_mem _ hx)
theorem script_end {s : St} (h : Code 16 s) : runP s [60, 47, 115, 99, 114, 105, 112, 116, 62] = St.zero := by
  obtain ⟨ctx, name, attr, part⟩ := s
  obtain ⟨h1, h2, h3, h4, h5⟩ := h
  simp only at h1 h2 h3 h4 h5
  subst h3 h4
  have : ctx = 16 ∨ ctx = 17 ∨ ctx = 18 := by omega
  rcases this with rfl | rfl | rfl <;> rcases h5 with rfl | rfl <;> decide
theorem style_end {s : St} (h : Code 19 s) : runP s [60, 47, 115, 116, 121, 108, 101, 62] = St.zero := by
  obtain ⟨ctx, name, attr, part⟩ := s
  obtain ⟨h1, h2, h3, h4, h5⟩ := h
  simp only at h1 h2 h3 h4 h5
  subst h3 h4
  have : ctx = 19 ∨ ctx = 20 ∨ ctx = 21 := by omega
  rcases this with rfl | rfl | rfl <;> rcases h5 with rfl | rfl <;> decide
end Go.AL.Fun
