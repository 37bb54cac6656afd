/- A list of cells of one's own that nobody writes any more: it never turns again. -/
import Derived.Test.YtpeaphpibnikcaaDoorB3
set_option linter.unusedSimpArgs false
set_option linter.unusedVariables false
namespace Go.AL
open Go.RowKit
section
variable {G : Nat → Option (List AV)} {P : Program} {B : Nat} {w0 w : World} {m : Im} {H : Heap}
theorem Sat.freeze {id : Nat} {vs : List AV} (h : Sat G B w0 m ((id, .cells vs) :: H) w) (hone : ∀ x ∈ vs, x.cells = [x]) :
    ∃ m', m.le m' ∧ Sat G B w0 m' H w ∧ ∀ c, Rel m (.msl id 0 vs.length 1) c → Rel m' (.sl vs .no) c := by
  obtain ⟨hB, hlt, cs, e, fr, hb, hle, hfr, hno, hcs⟩ := h.obj id _ List.mem_cons_self
  have hid : id ∉ H.keys := (List.nodup_cons.1 h.nodup).1
  have hcell : ∀ o, w.cell? ⟨id, o, none⟩ = cs[o]? := fun o => by simp [World.cell?, hb]
  obtain ⟨m', hm'⟩ : ∃ m' : Im, m' = ⟨fun b o => if b = id then cs[o]? else m.cell b o, m.size⟩ := ⟨_, rfl⟩
  have hmle : m.le m' := by
    subst hm'
    refine ⟨fun b o v hv => ?_, fun b n hn => hn⟩
    by_cases hbi : b = id
    · subst hbi; rw [hno o] at hv; cases hv
    · simp only [if_neg hbi]; exact hv
  have hne : ∀ b o, b ≠ id → m'.cell b o = m.cell b o := fun b o hbi => by subst hm'; simp only [if_neg hbi]
  have heq : ∀ o, m'.cell id o = cs[o]? := fun o => by subst hm'; simp only [if_true]
  refine ⟨m', hmle, ⟨h.below, h.base, fun b o v hv => ?_, fun b n hn => h.size b n (by subst hm'; exact hn), (List.nodup_cons.1 h.nodup).2, fun j o hj => ?_, fun g cs hg => (h.glob g cs hg).mono hmle⟩, ?_⟩
  · by_cases hbi : b = id
    · subst hbi; rw [heq] at hv; rw [hcell]; exact hv
    · rw [hne b o hbi] at hv; exact h.cell b o v hv
  · obtain ⟨h1, h2, h3⟩ := h.obj j o (List.mem_cons_of_mem _ hj)
    have hji : j ≠ id := fun e => hid (by rw [← e]; exact List.mem_map.2 ⟨_, hj, rfl⟩)
    exact ⟨h1, h2, AObj.ok_of_block hmle rfl (fun x => hne j x hji) h3⟩
  · intro c hr
    generalize hL : vs.length = L at hr
    have key : ∀ (a : Addr) (len cap : Nat), (vs ≠ [] → a = ⟨id, 0, none⟩) → len = vs.length → len ≤ cap → cap ≤ maxLen → Rel m' (.sl vs .no) (.slice (some a) len cap) := by
      intro a len cap ha hl hlc hcm
      refine .sl vs .no a len cap 1 (fun i _ => (cs[i]?).getD default) (by simp) hl hlc hcm (fun hv => by rw [ha hv]) (fun i x hx => by rw [hone x (List.mem_of_getElem? hx)]; rfl) (fun i j hi hj => ?_) (fun i j hi hj => ?_) (fun i x j y hx hy => ?_) (fun _ _ _ h => by cases h)
      · have hv : vs ≠ [] := by intro e; subst e; simp at hi
        obtain ⟨c, hc, _, _⟩ := hcs i _ (List.getElem?_eq_getElem hi)
        rw [ha hv, show 0 + i * 1 + j = i by omega, heq, hc]; rfl
      · obtain ⟨c, hc, _, h1⟩ := hcs i _ (List.getElem?_eq_getElem hi)
        rw [hc]; exact h1
      · obtain ⟨c, hc, hr, _⟩ := hcs i x hx
        rw [hone x (List.mem_of_getElem? hx)] at hy
        cases j with
        | zero => simp at hy; subst hy; rw [hc]; exact hr.mono hmle
        | succ j => simp at hy
    cases hr with
    | msl id' off len cap sz n hlc hcm hn hcap => exact key _ _ _ (fun _ => rfl) hL.symm hlc hcm
    | msl0 id' off sz a =>
      obtain rfl : vs = [] := List.length_eq_zero_iff.1 hL
      exact key a 0 0 (fun h => absurd rfl h) rfl (Nat.le_refl _) (Nat.zero_le _)
/-- A result, weakened or frozen. -/
def Frz (v : AV) (H' : Heap) (v' : AV) (H0 : Heap) : Prop := (Hle H0 H' ∧ AVle v v') ∨ ∃ id vs, v = .msl id 0 vs.length 1 ∧ (∀ x ∈ vs, x.cells = [x]) ∧ Hle ((id, .cells vs) :: H0) H' ∧ v' = .sl vs .no
theorem ACalls.frz {f : Nat} {xs : List AV} {H : Heap} {K : AV → Heap → Prop} (h : ACalls G P f xs H fun v H' => ∃ v' H0, Frz v H' v' H0 ∧ K v' H0) : ACalls G P f xs H K := by
  refine ⟨h.1, fun B w0 m w cargs h1 h2 => (h.2 B w0 m w cargs h1 h2).mono ?_⟩
  rintro e w' ⟨v, cv, m', H', e1, e2, e3, e4, v', H0, ⟨h3, h4⟩ | ⟨id, vs, rfl, h3, h4, rfl⟩, h5⟩
  · exact ⟨v', cv, m', H0, e1, e2, e3.weak h3, h4 _ _ e4, h5⟩
  · obtain ⟨m2, q1, q2, q3⟩ := (e3.weak h4).freeze h3
    exact ⟨_, cv, m2, H0, e1, e2.trans q1, q2, q3 _ e4, h5⟩
/-- A function's contract, its result weakened or frozen. -/
theorem okZ {T : XT} (hm : P.follows .mixedOrders = true) (hT : TOk G P (plainT T)) {f : Nat} {F : AFun} {hs : List Hint} (hF : compF P f hs = some F) (xs : List AV) (H : Heap) (K : AV → Heap → Prop)
    (h : @xF ⟨G, P, T⟩ F xs H ⟨fun v H' => ∃ v' H0, Frz v H' v' H0 ∧ K v' H0⟩) : ACalls G P f xs H K := ACalls.frz (okF hm hT hF xs H (fun v H' => ∃ v' H0, Frz v H' v' H0 ∧ K v' H0) h)
end
end Go.AL
