/- The provider: the plain law. -/
import Derived.Test.YtpeaphpibnikcaaV13
set_option linter.unusedSimpArgs false
set_option linter.unusedVariables false
namespace Go.AL.Fun
open Go Go.AL

theorem look_addS (l : List (List UInt8)) (m : RMap) (name : List UInt8) : rlook name (l.foldl addS m) = if name ∈ l then some (zeroV, 20) else rlook name m := by
  induction l generalizing m with
  | nil => simp
  | cons a l ih =>
    rw [List.foldl_cons, ih, addS, rlook_upd]
    by_cases h1 : name ∈ l
    · simp [h1]
    · by_cases h2 : name = a
      · simp [h2]
      · simp [h1, h2]
theorem look_addF {fs : List Fld} (hn : (fs.map (·.1)).Nodup) (m : RMap) (name : List UInt8) :
    rlook name (fs.foldl addF m) = match fs.find? fun f => decide (f.1 = name) with | some f => some (f.2, 0) | none => rlook name m := by
  induction fs generalizing m with
  | nil => rfl
  | cons a fs ih =>
    rw [List.map_cons, List.nodup_cons] at hn
    rw [List.foldl_cons, ih hn.2, List.find?_cons, addF]
    by_cases h : a.1 = name
    · have : (fs.find? fun f => decide (f.1 = name)) = none := by
        rw [List.find?_eq_none]
        intro x hx
        simp only [decide_eq_true_eq]
        exact fun e => hn.1 (by rw [h, ← e]; exact List.mem_map_of_mem hx)
      rw [this]
      simp only [h, decide_true, rlook_upd, if_true]
    · simp only [h, decide_false]
      cases fs.find? fun f => decide (f.1 = name) with
      | some f => rfl
      | none => simp only [rlook_upd]; rw [if_neg (fun e => h e.symm)]
theorem chkF_nodup {seen : List (List UInt8)} {fs : List Fld} {d : Int} (h : chkF seen fs d = 0) : (∀ f ∈ fs, f.1 ∉ seen) ∧ (fs.map (·.1)).Nodup := by
  induction fs generalizing seen with
  | nil => exact ⟨by simp, by simp⟩
  | cons a fs ih =>
    rw [chkF] at h
    split at h
    · cases h
    · split at h
      · cases h
      · rename_i hs
        split at h
        · rename_i h0; exact absurd h h0
        · obtain ⟨i1, i2⟩ := ih h
          refine ⟨fun f hf => ?_, ?_⟩
          · rcases List.mem_cons.1 hf with rfl | hf
            · exact hs
            · exact fun hm => i1 f hf (List.mem_append_left _ hm)
          · rw [List.map_cons, List.nodup_cons]
            refine ⟨fun hm => ?_, i2⟩
            obtain ⟨f, hf, e⟩ := List.mem_map.1 hm
            exact i1 f hf (List.mem_append_right _ (by rw [e]; exact List.mem_singleton.2 rfl))
theorem chkM_nodup {fs : List Fld} {ft : Tok} (h : chkM fs ft = 0) : (fs.map (·.1)).Nodup := by
  unfold chkM at h
  rw [chk] at h
  split at h
  · cases h
  · split at h
    · cases h
    · split at h
      · cases h
      · simp only [chkI, ne_eq, not_true_eq_false, if_false] at h
        exact (chkF_nodup h).2
theorem prov_look {fs : List Fld} (hn : (fs.map (·.1)).Nodup) (l : List (List UInt8)) (name : List UInt8) : (rlook name (provM fs l)).getD (zeroV, 17) = refR fs l name := by
  unfold provM mapF refR
  rw [look_addS, look_addF hn]
  by_cases h : name ∈ l
  · simp [h]
  · simp only [h, if_false, fieldR]
    cases fs.find? fun f => decide (f.1 = name) with
    | some f => rfl
    | none => rfl
/-- What was pulled is kept. -/
def DOk (fs : List Fld) (l : List (List UInt8)) (pulls : List (List UInt8)) (D : RMap) : Prop := ∀ name, rlook name D = if name ∈ pulls then some (refR fs l name) else none
theorem dok_nil (fs : List Fld) (l : List (List UInt8)) : DOk fs l [] [] := fun name => by simp [rlook]
theorem dok_step {fs : List Fld} {l pulls : List (List UInt8)} {D : RMap} (hn : (fs.map (·.1)).Nodup) (h : DOk fs l pulls D) {name : List UInt8} (hp : name ∉ pulls) :
    getR D (provM fs l) name = refR fs l name ∧ DOk fs l (pulls ++ [name]) (rupd name (getR D (provM fs l) name) D) := by
  have e : getR D (provM fs l) name = refR fs l name := by
    unfold getR; rw [h name, if_neg hp]; exact prov_look hn l name
  refine ⟨e, fun k => ?_⟩
  rw [e, rlook_upd, h k]
  by_cases c : k = name
  · simp [c]
  · simp [c]
end Go.AL.Fun
