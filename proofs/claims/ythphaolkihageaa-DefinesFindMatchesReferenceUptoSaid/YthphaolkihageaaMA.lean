/- Lists that may be written, read as lists that stand still: a function that writes nothing may read them; at a call's end they may be shut. -/
import Derived.Test.YthphaolkihageaaB3
set_option linter.unusedSimpArgs false
set_option linter.unusedVariables false
namespace Go.AL.Fun
open Go Go.AL

theorem flat_get {sz : Nat} : ∀ {xs : List AV} (_ : AllSz sz xs) {i : Nat} {x : AV} (_ : xs[i]? = some x), ((flat xs).drop (i * sz)).take sz = x.cells
  | [], _, i, x, hx => by simp at hx
  | a :: xs, h, 0, x, hx => by
    simp at hx; subst hx
    have ha := h a List.mem_cons_self
    rw [Nat.zero_mul, List.drop_zero, flat, List.flatMap_cons, ← ha, List.take_left']
    rfl
  | a :: xs, h, i + 1, x, hx => by
    have ha := h a List.mem_cons_self
    have e : (i + 1) * sz = a.cells.length + i * sz := by rw [ha, Nat.add_mul, Nat.one_mul, Nat.add_comm]
    rw [flat, List.flatMap_cons, e, ← List.drop_drop, List.drop_left']
    · exact flat_get (fun y hy => h y (List.mem_cons_of_mem _ hy)) (by simpa using hx)
    · rfl
theorem flat_len {sz : Nat} : ∀ {xs : List AV} (_ : AllSz sz xs), (flat xs).length = xs.length * sz
  | [], _ => by simp [flat]
  | a :: xs, h => by
    have ha := h a List.mem_cons_self
    have := flat_len (fun y hy => h y (List.mem_cons_of_mem _ hy)) (xs := xs)
    rw [flat, List.flatMap_cons, List.length_append, ha, List.length_cons, Nat.add_mul, Nat.one_mul, Nat.add_comm]
    unfold flat at this
    rw [this]
end Go.AL.Fun
namespace Go.AL
open Go Go.RowKit
variable {G : Nat → Option (List AV)} {B : Nat} {w0 w w' : World} {m m' : Im} {H H' : Heap}
/-- What lies behind the heap and draws turn nothing. -/
theorem Sat.behind (hs : Sat G B w0 m H w) (hb : Below w.heap.size w w') : Sat G B w0 m H w' := by
  have hk : ∀ k, k < w.heap.size → w'.heap[k]? = w.heap[k]? := fun k hk => hb.block k hk
  refine ⟨hs.below.trans (hb.mono hs.base), Nat.le_trans hs.base hb.size, fun b o v h => ?_, fun b n h => ?_, hs.nodup, fun id o hm => ?_, hs.glob⟩
  · rw [World.cell?_of_block (w := w) (a := ⟨b, o, none⟩) (hk _ (hs.cell_lt h))]
    exact hs.cell b o v h
  · rw [hk _ (hs.size_lt h)]; exact hs.size b n h
  · obtain ⟨q1, q2, q3⟩ := hs.obj id o hm
    exact ⟨q1, Nat.lt_of_lt_of_le q2 hb.size, AObj.ok_of_block (.refl m) (hk _ q2) (fun _ => rfl) q3⟩
/-- Whatever is known is so in the world itself. -/
theorem Sat.le_im0 (hs : Sat G B w0 m H w) : m.le (im0 w) :=
  ⟨fun b o v h => by simp only [im0]; rw [if_pos (hs.cell_lt h)]; exact hs.cell b o v h, fun b n h => by
    obtain ⟨cs, e, fr, h1, h2⟩ := hs.size b n h
    simp only [im0, h1, h2]⟩
theorem Sat.whole (hs : Sat G B w0 m H w) : Sat G w.heap.size w (im0 w) [] w := by
  have h0 := Sat.start w
  refine ⟨h0.below, h0.base, h0.cell, h0.size, h0.nodup, h0.obj, fun g cs hg => ?_⟩
  obtain ⟨⟨h1, vs, e, fr, h2, h3⟩, h4⟩ := hs.glob g cs hg
  exact ⟨⟨Nat.lt_of_lt_of_le h1 hs.base, vs, e, fr, by rw [hs.below.block g h1]; exact h2, h3⟩, h4.mono hs.le_im0⟩
/-- A call that needs no heap. -/
theorem ACalls.pureH {P : Program} {f : FuncId} {xs : List AV} {r : AV} (h : ACalls G P f xs [] (fun v _ => v = r)) {cargs : Array Value} (hs : Sat G B w0 m H w) (hr : RelL (im0 w) xs cargs.toList) :
    Calls P f cargs w fun e w' => ∃ cv m1, e = .returned cv ∧ Rel m1 r cv ∧ Sat G B w0 m H w' :=
  (h.2 w.heap.size w (im0 w) w cargs hs.whole hr).mono fun e w' ⟨v, cv, m', H', e1, e2, e3, e4, e5⟩ => ⟨cv, m', e1, by rw [← e5]; exact e4, hs.behind e3.below⟩
/-- What may be written, read as a list. -/
theorem Rel.thaw {id n sz : Nat} {xs : List AV} {c : Value} (hs : Sat G B w0 m H w) (h : Rel m (.msl id 0 n sz) c) (hm : (id, .cells (flat xs)) ∈ H) (hx : AllSz sz xs) (hl : xs.length = n) (h0 : 0 < sz) : Rel (im0 w) (.sl xs .no) c := by
  obtain ⟨hB, hid, cs, e, fr, hb, hlen, hfr, hno, hcell⟩ := hs.obj _ _ hm
  have hfl := Fun.flat_len hx
  have hget : ∀ i j, i < xs.length → j < sz → ∀ x y, xs[i]? = some x → x.cells[j]? = some y → ∃ v : Value, cs[i * sz + j]? = some v ∧ Rel m y v ∧ v.oneCell' = true := by
    intro i j hi hj x y hxi hy
    refine hcell (i * sz + j) y ?_
    have h1 := Fun.flat_get hx hxi
    rw [← h1, List.getElem?_take_of_lt hj, List.getElem?_drop] at hy
    exact hy
  have hlt : ∀ i j, i < xs.length → j < sz → i * sz + j < cs.size := by
    intro i j hi hj
    have h2 : (i + 1) * sz ≤ xs.length * sz := Nat.mul_le_mul_right sz hi
    rw [Nat.add_mul, Nat.one_mul] at h2
    omega
  cases h with
  | msl _ _ len cap _ k hlc hcm hn hcap =>
    refine .sl xs .no ⟨id, 0, none⟩ n cap sz (fun i j => (cs[i * sz + j]?).getD default) (by decide) hl.symm hlc hcm (fun _ => rfl) (fun i x hxi => hx x (List.mem_of_getElem? hxi)) (fun i j hi hj => ?_) (fun i j hi hj => ?_) (fun i x j y hxi hy => ?_) (fun b e s h => by cases h)
    · have hc := Array.getElem?_eq_getElem (hlt i j hi hj)
      simp only [im0, Nat.zero_add, hid, if_true, World.cell?, hb, hc, Option.getD_some]; rfl
    · have hxi := List.getElem?_eq_getElem hi
      have hsz := hx _ (List.getElem_mem hi)
      have hy := List.getElem?_eq_getElem (show j < (xs[i]).cells.length by omega)
      obtain ⟨v, hv, _, h1⟩ := hget i j hi hj _ _ hxi hy
      rw [hv]; exact h1
    · have hi := (List.getElem?_eq_some_iff.1 hxi).1
      have hj := (List.getElem?_eq_some_iff.1 hy).1
      rw [hx x (List.mem_of_getElem? hxi)] at hj
      obtain ⟨v, hv, hr, _⟩ := hget i j hi hj _ _ hxi hy
      rw [hv]; exact hr.mono hs.le_im0
  | msl0 _ _ _ a =>
    have : xs = [] := List.length_eq_zero_iff.1 hl
    subst this
    exact .sl [] .no a 0 0 sz (fun _ _ => default) (by decide) rfl (Nat.le_refl _) (by decide) (fun h => absurd rfl h) (fun i x h => by simp at h) (fun i j h => by simp at h) (fun i j h => by simp at h) (fun i x j y h => by simp at h) (fun b e s h => by cases h)
/-- What comes back and may be written is shut: nobody writes it again. -/
theorem ACalls.shut {P : Program} {f : FuncId} {xs : List AV} {K : AV → Heap → Prop} (h : ACalls G P f xs H fun v H' => K v H' ∨ ∃ (id sz : Nat) (ys vs : List AV) (R : Heap), v = .msl id 0 ys.length sz ∧ AllSz sz ys ∧ H'.Perm ((id, .cells vs) :: R) ∧ vs.take (ys.length * sz) = flat ys ∧ K (.sl ys .no) R) : ACalls G P f xs H K := by
  refine ⟨h.1, fun B w0 m w cargs h1 h2 => (h.2 B w0 m w cargs h1 h2).mono ?_⟩
  rintro e w' ⟨v, cv, m', H', e1, e2, e3, e4, hK | ⟨id, sz, ys, vs, R, rfl, hz, hp, ht, hK⟩⟩
  · exact ⟨v, cv, m', H', e1, e2, e3, e4, hK⟩
  have e5 := e3.perm hp
  have hr : Rpl ((id, AObj.cells vs) :: R) (id, .cells vs) (id, .spare vs.length) ((id, .spare vs.length) :: R) := .here _ _ _
  obtain ⟨m2, l1, l2, f, l3, l4⟩ := e5.shut hr
  have hl : ys.length * sz ≤ vs.length := by
    have := congrArg List.length ht
    rw [Fun.flat_len hz, List.length_take] at this
    omega
  refine ⟨.sl ys .no, cv, m2, R, e1, e2.trans l1, l2.weak (.of_sub (.cons _ (.refl _))), ?_, hK⟩
  generalize hn : ys.length = n0 at e4
  cases e4 with
  | msl _ _ _ cap _ n q1 q2 q3 q4 =>
    subst hn
    refine rel_sl (g := f) (by simp) hz q1 q2 (fun i hi => ?_) (fun i hi => (l3 i (by omega)).2) (fun i x hx => l4 i x ?_) (fun b e s h => by cases h)
    · rw [Nat.zero_add]; exact (l3 i (by omega)).1
    · have hi := (List.getElem?_eq_some_iff.1 hx).1
      rw [Fun.flat_len hz] at hi
      rw [← ht, List.getElem?_take_of_lt hi] at hx
      exact hx
  | msl0 _ _ _ a =>
    have : ys = [] := List.length_eq_zero_iff.1 hn
    subst this
    exact .sl [] .no a 0 0 sz (fun _ _ => default) (by decide) rfl (Nat.le_refl _) (by decide) (fun h => absurd rfl h) (fun i x h => by simp at h) (fun i j h => by simp at h) (fun i j h => by simp at h) (fun i x j y h => by simp at h) (fun b e s h => by cases h)
end Go.AL
