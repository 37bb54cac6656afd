/- The abstract layer, part 9: how the heap turns; stores, new blocks. -/
import Derived.Test.YtpeaphpibnikcaaA8
namespace Go.AL
open Go.RowKit

section
variable {G : Nat → Option (List AV)} {B : Nat} {w0 w w' : World} {m m' : Im} {H H' : Heap} {P : Program}

theorem Sat.turn (hsat : Sat G B w0 m H w) (hb : Below B w w') (hm : m.le m') (id : Nat) (hblk : ∀ k, k ≠ id → k < w.heap.size → w'.heap[k]? = w.heap[k]?) (hB : B ≤ id) (hid : id < w'.heap.size)
    (hcn : ∀ b o, b ≠ id → m'.cell b o = m.cell b o) (hc : ∀ o v, m'.cell id o = some v → w'.cell? ⟨id, o, none⟩ = some v)
    (hsn : ∀ b, b ≠ id → m'.size b = m.size b) (hs : ∀ n, m'.size id = some n → ∃ cs e fr, w'.heap[id]? = some (.cells cs e fr) ∧ cs.size = n)
    (hH : ∀ j o, (j, o) ∈ H' → (j = id ∧ o.ok m' w' id) ∨ (j ≠ id ∧ (j, o) ∈ H)) (hnd : (H'.map Prod.fst).Nodup) : Sat G B w0 m' H' w' := by
  refine ⟨hsat.below.trans hb, Nat.le_trans hsat.base hb.size, fun b o v h => ?_, fun b n h => ?_, hnd, fun j o h => ?_, fun g cs h => (hsat.glob g cs h).mono hm⟩
  · by_cases hbi : b = id
    · subst hbi; exact hc o v h
    · rw [hcn b o hbi] at h
      have h2 := hsat.cell b o v h
      have hlt := World.block_lt_of_cell? _ _ h2
      rw [World.cell?_of_block (w := w) (a := ⟨b, o, none⟩) (hblk b hbi hlt)]
      exact h2
  · by_cases hbi : b = id
    · subst hbi; exact hs n h
    · rw [hsn b hbi] at h
      obtain ⟨cs, e, fr, h1, h2⟩ := hsat.size b n h
      exact ⟨cs, e, fr, by rw [hblk b hbi (Array.getElem?_eq_some_iff.1 h1).1]; exact h1, h2⟩
  · rcases hH j o h with ⟨rfl, hok⟩ | ⟨hne, hin⟩
    · exact ⟨hB, hid, hok⟩
    · obtain ⟨h1, h2, h3⟩ := hsat.obj j o hin
      exact ⟨h1, Nat.lt_of_lt_of_le h2 hb.size, AObj.ok_of_block hm (hblk j hne h2) (fun x => hcn j x hne) h3⟩

theorem Rpl.mem {p q : Nat × AObj} (h : Rpl H p q H') (hn : (H.map Prod.fst).Nodup) : ∀ x ∈ H', x = q ∨ (x ∈ H ∧ x.1 ≠ p.1) := by
  induction h with
  | here p q T =>
    intro x hx
    rcases List.mem_cons.1 hx with rfl | hx
    · exact .inl rfl
    · refine .inr ⟨List.mem_cons_of_mem _ hx, fun e => ?_⟩
      simp only [List.map_cons, List.nodup_cons] at hn
      exact hn.1 (by rw [← e]; exact List.mem_map.2 ⟨x, hx, rfl⟩)
  | there y p q T T' h ih =>
    intro x hx
    simp only [List.map_cons, List.nodup_cons] at hn
    rcases List.mem_cons.1 hx with rfl | hx
    · refine .inr ⟨List.mem_cons_self, fun e => ?_⟩
      have : p ∈ T := by clear ih hx hn e; induction h with | here => exact List.mem_cons_self | there _ _ _ _ _ _ ih => exact List.mem_cons_of_mem _ ih
      exact hn.1 (by rw [e]; exact List.mem_map.2 ⟨p, this, rfl⟩)
    · rcases ih hn.2 x hx with h1 | ⟨h1, h2⟩
      · exact .inl h1
      · exact .inr ⟨List.mem_cons_of_mem _ h1, h2⟩

theorem Rpl.src {p q : Nat × AObj} (h : Rpl H p q H') : p ∈ H := by
  induction h with
  | here => exact List.mem_cons_self
  | there _ _ _ _ _ _ ih => exact List.mem_cons_of_mem _ ih

theorem Rpl.keys {p q : Nat × AObj} (h : Rpl H p q H') : ∃ l r, H.keys = l ++ p.1 :: r ∧ H'.keys = l ++ q.1 :: r := by
  induction h with
  | here p q T => exact ⟨[], T.keys, rfl, rfl⟩
  | there x p q T T' _ ih => obtain ⟨l, r, h1, h2⟩ := ih; exact ⟨x.1 :: l, r, by simp [Heap.keys] at h1 ⊢; exact h1, by simp [Heap.keys] at h2 ⊢; exact h2⟩

theorem Rpl.nodup {p q : Nat × AObj} (h : Rpl H p q H') (hn : (H.map Prod.fst).Nodup) (hq : q.1 = p.1 ∨ q.1 ∉ H.keys) : (H'.map Prod.fst).Nodup := by
  obtain ⟨l, r, h1, h2⟩ := h.keys
  have hn' : H.keys.Nodup := hn
  show H'.keys.Nodup
  rw [h1] at hn' hq
  rw [h2]
  rcases hq with hq | hq
  · rw [hq]; exact hn'
  · simp only [List.nodup_append, List.nodup_cons, List.mem_append, List.mem_cons, not_or] at hn' hq ⊢
    obtain ⟨a1, ⟨a2, a3⟩, a4⟩ := hn'
    refine ⟨a1, ⟨hq.2.2, a3⟩, fun x hx y hy => ?_⟩
    rcases hy with rfl | hy
    · intro e; subst e; exact hq.1 hx
    · exact a4 x hx y (.inr hy)

/-- Storing a run of cells into a block of one's own. -/
theorem run_storeAll {id : Nat} {e : TypeId} {fr : Nat × Nat} : ∀ (l : List Value) (off i : Nat) (cs : Array Value) (w : World), w.heap[id]? = some (.cells cs e fr) →
    (∀ o, off + i ≤ o → o < cs.size → w.frozen? ⟨id, o, none⟩ = false) → off + i + l.length ≤ cs.size → (∀ u ∈ l, u.oneCell' = true) →
    ∃ w' cs', (storeCells ⟨id, off, none⟩ l i).run P w = .ok () w' ∧ w'.heap[id]? = some (.cells cs' e fr) ∧ cs'.size = cs.size ∧
      (∀ j, cs'[j]? = if off + i ≤ j ∧ j < off + i + l.length then l[j - (off + i)]? else cs[j]?) ∧ (∀ k, k ≠ id → w'.heap[k]? = w.heap[k]?) ∧
      w'.os = w.os ∧ w'.tape = w.tape ∧ w'.output = w.output ∧ w'.heap.size = w.heap.size
  | [], off, i, cs, w, hb, _, _, _ => by
    refine ⟨w, cs, by simp [storeCells], hb, rfl, fun j => ?_, fun _ _ => rfl, rfl, rfl, rfl, rfl⟩
    rw [if_neg (by simp)]
  | u :: l, off, i, cs, w, hb, hf, hle, h1 => by
    simp only [List.length_cons] at hle
    have hc : w.cell? ⟨id, off + i, none⟩ = some cs[off + i] := by simp [World.cell?, hb, Array.getElem?_eq_getElem (show off + i < cs.size by omega)]
    have hfz := hf (off + i) (Nat.le_refl _) (by omega)
    have hb2 : (w.setCell ⟨id, off + i, none⟩ u).heap[id]? = some (.cells (cs.setIfInBounds (off + i) u) e fr) := by
      simp [World.setCell, Array.getElem?_modify, hb]
    obtain ⟨w', cs', r1, r2, r3, r4, r5, r6, r7, r8, r9⟩ := run_storeAll l off (i + 1) (cs.setIfInBounds (off + i) u) (w.setCell ⟨id, off + i, none⟩ u) hb2
      (fun o h1 h2 => by rw [World.frozen?_setCell]; exact hf o (by omega) (by simpa using h2)) (by simp; omega) (fun v hv => h1 v (List.mem_cons_of_mem _ hv))
    refine ⟨w', cs', ?_, r2, by simpa using r3, fun j => ?_, fun k hk => ?_, r6, r7, r8, by simpa using r9⟩
    · simp only [storeCells, Sem.run_bind]
      rw [addr_add _ _ rfl, run_store P w _ _ _ (h1 u List.mem_cons_self)]
      simp only [hc, hfz, Bool.false_eq_true, if_false, Result.andThen_ok]
      exact r1
    · rw [r4 j]
      simp only [List.length_cons]
      by_cases e1 : off + (i + 1) ≤ j ∧ j < off + (i + 1) + l.length
      · rw [if_pos e1, if_pos (by omega), show j - (off + i) = (j - (off + (i + 1))) + 1 by omega]; simp
      · rw [if_neg e1]
        by_cases e2 : j = off + i
        · subst e2; rw [if_pos (by omega)]; simp [show off + i < cs.size by omega]
        · rw [if_neg (by omega), Array.getElem?_setIfInBounds_ne (by omega)]
    · rw [r5 k hk]
      simp only [World.setCell, Array.getElem?_modify]
      rw [if_neg (by simpa using Ne.symm hk)]

theorem below_of {id : Nat} (hB : B ≤ id) (h1 : ∀ k, k ≠ id → w'.heap[k]? = w.heap[k]?) (h2 : w'.os = w.os) (h3 : w'.tape = w.tape) (h4 : w'.output = w.output) (h5 : w'.heap.size = w.heap.size) : Below B w w' :=
  ⟨h2, h3, h4, by omega, fun k hk => h1 k (by omega)⟩

/-- Cells of an object turned: the object behind it. -/
theorem Sat.store (hsat : Sat G B w0 m H w) {id off : Nat} {vs xs : List AV} {l : List Value} (hr : Rpl H (id, .cells vs) (id, .cells (splice vs off xs)) H') (hx : RelL m xs l) (h1 : ∀ u ∈ l, u.oneCell' = true)
    (hle : off + xs.length ≤ vs.length) : ∃ w', (storeCells ⟨id, off, none⟩ l).run P w = .ok () w' ∧ Sat G B w0 m H' w' := by
  obtain ⟨hB, hid, cs, e, fr, hb, hlen, hfr, hno, hcell⟩ := hsat.obj _ _ hr.src
  obtain ⟨w', cs', r1, r2, r3, r4, r5, r6, r7, r8, r9⟩ := run_storeAll (P := P) l off 0 cs w hb (fun o _ ho => nofr hb hfr o ho) (by rw [← hx.1]; omega) h1
  refine ⟨w', r1, hsat.turn (below_of hB r5 r6 r7 r8 r9) (.refl m) id (fun k hk _ => r5 k hk) hB (by omega) (fun _ _ _ => rfl) (fun o v h => by rw [hno o] at h; cases h) (fun _ _ => rfl) (fun n h => ?_) (fun j o h => ?_) (hr.nodup hsat.nodup (.inl rfl))⟩
  · obtain ⟨cs0, e0, fr0, g1, g2⟩ := hsat.size id n h
    rw [hb] at g1; cases g1
    exact ⟨cs', e, fr, r2, by omega⟩
  · rcases hr.mem hsat.nodup _ h with h | ⟨h1, h2⟩
    · cases h
      refine .inl ⟨rfl, cs', e, fr, r2, by rw [splice_length _ _ _ hle]; omega, by rw [r3]; exact hfr, hno, fun i x hi => ?_⟩
      have hi' := (List.getElem?_eq_some_iff.1 hi).1
      rw [splice_length _ _ _ hle] at hi'
      rw [splice_get _ _ _ hle, if_pos hi'] at hi
      rw [r4 i]
      simp only [Nat.add_zero]
      rw [← hx.1]
      split at hi
      · rename_i hc
        rw [if_pos hc]
        obtain ⟨y, hy, hyr⟩ := hx.get _ hi
        exact ⟨y, hy, hyr, by have := List.mem_of_getElem? hy; simp_all⟩
      · rename_i hc
        rw [if_neg hc]
        exact hcell i x hi
    · exact .inr ⟨h2, h1⟩

def Im.addSize (m : Im) (id n : Nat) : Im := { m with size := fun b => if b = id then some n else m.size b }
def Im.addCells (m : Im) (id : Nat) (f : Nat → Option Value) : Im := { m with cell := fun b o => if b = id then (match f o with | some v => some v | none => m.cell b o) else m.cell b o }

theorem Sat.size_lt (hsat : Sat G B w0 m H w) {b n : Nat} (h : m.size b = some n) : b < w.heap.size := by
  obtain ⟨_, _, _, h1, _⟩ := hsat.size b n h
  exact (Array.getElem?_eq_some_iff.1 h1).1
theorem Sat.cell_lt (hsat : Sat G B w0 m H w) {b o : Nat} {v : Value} (h : m.cell b o = some v) : b < w.heap.size := World.block_lt_of_cell? _ _ (hsat.cell b o v h)
theorem Sat.key_lt (hsat : Sat G B w0 m H w) {b : Nat} (h : b ∈ H.keys) : b < w.heap.size := by
  obtain ⟨⟨j, o⟩, h1, rfl⟩ := List.mem_map.1 h
  exact (hsat.obj j o h1).2.1
theorem Sat.fresh (hsat : Sat G B w0 m H w) : w.heap.size ∉ H.keys := fun h => Nat.lt_irrefl _ (hsat.key_lt h)

theorem le_addSize (hsat : Sat G B w0 m H w) (n : Nat) : m.le (m.addSize w.heap.size n) :=
  ⟨fun _ _ _ h => h, fun b k h => by simp only [Im.addSize]; rw [if_neg (by have := hsat.size_lt h; omega)]; exact h⟩

theorem heap_alloc_ne (w : World) (o : Obj) (k : Nat) (h : k ≠ w.heap.size) : (w.alloc o).heap[k]? = w.heap[k]? := by
  show (w.heap.push o)[k]? = _
  rw [Array.getElem?_push, if_neg (by omega)]

/-- A new block of cells of one's own. -/
theorem Sat.newCells (hsat : Sat G B w0 m H w) {vs : List AV} {cs : Array Value} (e : TypeId) (hl : vs.length ≤ cs.size) (hr : ∀ (i : Nat) (x : AV), vs[i]? = some x → ∃ c : Value, cs[i]? = some c ∧ Rel m x c ∧ c.oneCell' = true) :
    Sat G B w0 (m.addSize w.heap.size cs.size) ((w.heap.size, .cells vs) :: H) (w.alloc (.cells cs e)) := by
  have hle := le_addSize hsat cs.size
  refine hsat.turn ((Below.refl B w).alloc hsat.base _) hle w.heap.size (fun k hk _ => heap_alloc_ne _ _ _ hk) hsat.base (by simp) (fun _ _ _ => rfl) (fun o v h => ?_) (fun b hb => by simp [Im.addSize, hb]) (fun n h => ?_) (fun j o h => ?_) ?_
  · exact absurd (hsat.cell_lt (show m.cell _ o = some v from h)) (Nat.lt_irrefl _)
  · simp only [Im.addSize, if_true, Option.some.injEq] at h
    exact ⟨cs, e, (0, 0), heap_alloc_new w _, h⟩
  · rcases List.mem_cons.1 h with h | h
    · cases h
      refine .inl ⟨rfl, cs, e, (0, 0), heap_alloc_new w _, hl, .inl rfl, fun o => ?_, fun i x hi => ?_⟩
      · cases hc : (m.addSize w.heap.size cs.size).cell w.heap.size o with
        | none => rfl
        | some v => exact absurd (hsat.cell_lt (show m.cell _ o = some v from hc)) (Nat.lt_irrefl _)
      · obtain ⟨c, h1, h2, h3⟩ := hr i x hi; exact ⟨c, h1, h2.mono hle, h3⟩
    · exact .inr ⟨fun e => hsat.fresh (by rw [← e]; exact List.mem_map.2 ⟨_, h, rfl⟩), h⟩
  · simp only [List.map_cons, List.nodup_cons]; exact ⟨hsat.fresh, hsat.nodup⟩

theorem flat_get {sz : Nat} : ∀ {ys : List AV}, AllSz sz ys → ∀ (i j : Nat) (x y : AV), ys[i]? = some x → x.cells[j]? = some y → (flat ys)[i * sz + j]? = some y
  | [], _, i, j, x, y, h, _ => by simp at h
  | a :: ys, hs, i, j, x, y, h, hj => by
    have ha : a.cells.length = sz := hs a List.mem_cons_self
    simp only [flat, List.flatMap_cons]
    cases i with
    | zero =>
      simp at h; subst h
      rw [List.getElem?_append_left (by have := (List.getElem?_eq_some_iff.1 hj).1; omega)]
      simpa using hj
    | succ i =>
      have := flat_get (fun x hx => hs x (List.mem_cons_of_mem _ hx)) i j x y (by simpa using h) hj
      rw [List.getElem?_append_right (by rw [ha, Nat.add_mul]; omega), ha]
      rw [show (i + 1) * sz + j - sz = i * sz + j by rw [Nat.add_mul]; omega]
      exact this

theorem flat_length {sz : Nat} : ∀ {ys : List AV}, AllSz sz ys → (flat ys).length = ys.length * sz
  | [], _ => by simp [flat]
  | a :: ys, hs => by
    have ha : a.cells.length = sz := hs a List.mem_cons_self
    have := flat_length (fun x hx => hs x (List.mem_cons_of_mem _ hx) : AllSz sz ys)
    simp only [flat, List.flatMap_cons, List.length_append, List.length_cons] at this ⊢
    rw [ha, this, Nat.add_mul]; omega

/-- Elements that lie one after another in unturning memory. -/
theorem rel_sl {ys : List AV} {t : Tok} {id off sz cap : Nat} {g : Nat → Value} (ht : t ≠ .nil) (hs : AllSz sz ys) (hlc : ys.length ≤ cap) (hcm : cap ≤ maxLen)
    (hc : ∀ i, i < ys.length * sz → m.cell id (off + i) = some (g i)) (h1 : ∀ i, i < ys.length * sz → (g i).oneCell' = true) (hr : ∀ (i : Nat) (x : AV), (flat ys)[i]? = some x → Rel m x (g i))
    (hk : ∀ b e s, t = .at b e s → id = b ∧ off + ys.length * s = e ∧ s = sz ∧ ∃ n, m.size b = some n ∧ off + cap * s ≤ n) :
    Rel m (.sl ys t) (.slice (some ⟨id, off, none⟩) ys.length cap) := by
  have hb : ∀ i j, i < ys.length → j < sz → i * sz + j < ys.length * sz := by
    intro i j hi hj
    have : (i + 1) * sz ≤ ys.length * sz := Nat.mul_le_mul_right _ hi
    rw [Nat.add_mul] at this; omega
  refine .sl ys t _ _ cap sz (fun i j => g (i * sz + j)) ht rfl hlc hcm (fun _ => rfl) (fun i x hi => hs x (List.mem_of_getElem? hi)) (fun i j hi hj => ?_) (fun i j hi hj => h1 _ (hb i j hi hj)) (fun i x j y hi hj => hr _ _ (flat_get hs i j x y hi hj)) (fun b e s h => ?_)
  · rw [Nat.add_assoc]; exact hc _ (hb i j hi hj)
  · obtain ⟨h1, h2, h3, n, h4, h5⟩ := hk b e s h
    exact .inr ⟨h1, rfl, h2, fun _ => h3.symm, n, h4, h5⟩

/-- A new block whose first cells never turn again, the rest of it spare. -/
theorem Sat.newRow (hsat : Sat G B w0 m H w) {n : Nat} {cs : Array Value} (e : TypeId) (hle : n ≤ cs.size) :
    ∃ m', m.le m' ∧ Sat G B w0 m' ((w.heap.size, .spare n) :: H) (w.alloc (.cells cs e)) ∧ (∀ i, i < n → m'.cell w.heap.size i = cs[i]?) ∧ m'.size w.heap.size = some cs.size := by
  have hle1 := le_addSize hsat cs.size
  refine ⟨(m.addSize w.heap.size cs.size).addCells w.heap.size (fun o => if o < n then cs[o]? else none), ?_, ?_, ?_, ?_⟩
  · refine hle1.trans ⟨fun b o v h => ?_, fun b n h => h⟩
    simp only [Im.addCells]
    rw [if_neg (by have := hsat.cell_lt (show m.cell b o = some v from h); omega)]; exact h
  · refine hsat.turn ((Below.refl B w).alloc hsat.base _) ?_ w.heap.size (fun k hk _ => heap_alloc_ne _ _ _ hk) hsat.base (by simp) (fun b o hb => by simp [Im.addCells, hb]; rfl) (fun o v h => ?_) (fun b hb => by simp [Im.addCells, Im.addSize, hb]) (fun k h => ?_) (fun j o h => ?_) ?_
    · refine hle1.trans ⟨fun b o v h => ?_, fun b n h => h⟩
      simp only [Im.addCells]
      rw [if_neg (by have := hsat.cell_lt (show m.cell b o = some v from h); omega)]; exact h
    · simp only [Im.addCells, if_true] at h
      split at h
      · rename_i u hu
        cases h
        split at hu
        · rw [World.cell?_alloc_new]; exact hu
        · cases hu
      · exact absurd (hsat.cell_lt (show m.cell _ o = some v from h)) (Nat.lt_irrefl _)
    · simp only [Im.addCells, Im.addSize, if_true, Option.some.injEq] at h
      exact ⟨cs, e, (0, 0), heap_alloc_new w _, h⟩
    · rcases List.mem_cons.1 h with h | h
      · cases h
        refine .inl ⟨rfl, cs, e, (0, 0), heap_alloc_new w _, .inl rfl, fun o ho => ?_⟩
        simp only [Im.addCells, if_true]
        rw [if_neg (by omega)]
        cases hc : (m.addSize w.heap.size cs.size).cell w.heap.size o with
        | none => rfl
        | some v => exact absurd (hsat.cell_lt (show m.cell _ o = some v from hc)) (Nat.lt_irrefl _)
      · exact .inr ⟨fun e => hsat.fresh (by rw [← e]; exact List.mem_map.2 ⟨_, h, rfl⟩), h⟩
    · simp only [List.map_cons, List.nodup_cons]; exact ⟨hsat.fresh, hsat.nodup⟩
  · intro i hi
    simp only [Im.addCells, if_true, hi]
    have : i < cs.size := by omega
    rw [Array.getElem?_eq_getElem this]
  · simp [Im.addCells, Im.addSize]

/-- What an operation does in the model that writes or makes memory. -/
def Ef (G : Nat → Option (List AV)) (B : Nat) (w0 : World) (P : Program) (m : Im) (w : World) (s : Sem Next) (K : AV → Heap → Prop) : Prop :=
  ∃ n w' m' v cv H', s.run P w = .ok n w' ∧ (n = .value cv ∨ (n = .skip ∧ cv = undef)) ∧ m.le m' ∧ Sat G B w0 m' H' w' ∧ Rel m' v cv ∧ K v H'

theorem Ef.value {s : Sem Value} {K : AV → Heap → Prop} (h : ∃ w' m' v cv H', s.run P w = .ok cv w' ∧ m.le m' ∧ Sat G B w0 m' H' w' ∧ Rel m' v cv ∧ K v H') : Ef G B w0 P m w (do pure (.value (← s))) K := by
  obtain ⟨w', m', v, cv, H', h1, h2, h3, h4, h5⟩ := h
  exact ⟨.value cv, w', m', v, cv, H', by simp [h1], .inl rfl, h2, h3, h4, h5⟩

theorem Ef.skip {s : Sem Unit} {K : AV → Heap → Prop} (h : ∃ w' m' H', s.run P w = .ok () w' ∧ m.le m' ∧ Sat G B w0 m' H' w' ∧ K .undef H') : Ef G B w0 P m w (do s; pure .skip) K := by
  obtain ⟨w', m', H', h1, h2, h3, h5⟩ := h
  exact ⟨.skip, w', m', .undef, undef, H', by simp [h1], .inr ⟨rfl, rfl⟩, h2, h3, .tup [] #[] rfl (fun i x y h => by simp at h), h5⟩

theorem RelL.of_cells {v : AV} {c : Value} (h : Rel m v c) (h0 : 0 < v.cells.length) : RelL m v.cells c.cells.toList ∧ (∀ u ∈ c.cells.toList, u.oneCell' = true) := by
  obtain ⟨h1, h2, h3⟩ := h.cells_of h0
  refine ⟨⟨by simpa using h1, fun i x y hx hy => h2 i x y hx (by simpa using hy)⟩, fun u hu => ?_⟩
  obtain ⟨i, hi⟩ := List.mem_iff_getElem?.1 hu
  exact h3 i u (by simpa using hi)

theorem ef_st (hsat : Sat G B w0 m H w) {t : TypeId} {sz : Nat} {p x : AV} {c d : Value} {K : AV → Heap → Prop} (hs : size? P t = some sz) (hp : Rel m p c) (hx : Rel m x d) (h : ef (.st sz) [p, x] H K) :
    ∃ w' m' H', (Instr.storeAt t c d).run P w = .ok () w' ∧ m.le m' ∧ Sat G B w0 m' H' w' ∧ K .undef H' := by
  obtain ⟨id, off, vs, H', rfl, h0, hl, hle, hr, hK⟩ := h
  have hz := size?_run hs
  obtain ⟨hxl, h1⟩ := RelL.of_cells hx (by omega)
  cases hp
  obtain ⟨w', r1, r2⟩ := hsat.store (P := P) hr hxl h1 (by omega)
  have hcs : d.cells.size = sz := by have := hxl.1; simp at this; omega
  exact ⟨w', m, H', by simp [Instr.storeAt, Instr.sureAddr, storeVar, hz, hcs, r1], .refl m, r2, hK⟩

theorem ef_box (hsat : Sat G B w0 m H w) {t : TypeId} {x : AV} {d : Value} {K : AV → Heap → Prop} (hx : Rel m x d) (h : ef .box [x] H K) :
    ∃ w' m' v cv H', (Instr.box t d).run P w = .ok cv w' ∧ m.le m' ∧ Sat G B w0 m' H' w' ∧ Rel m' v cv ∧ K v H' := by
  obtain ⟨h0, hK⟩ := h
  obtain ⟨h1, h2, h3⟩ := hx.cells_of h0
  have hn := hsat.newCells (vs := x.cells) (cs := d.cells) t (by omega) (fun i x hi => by
    have hlt : i < d.cells.size := by rw [← h1]; exact (List.getElem?_eq_some_iff.1 hi).1
    exact ⟨d.cells[i], Array.getElem?_eq_getElem hlt, h2 i x _ hi (Array.getElem?_eq_getElem hlt), h3 i _ (Array.getElem?_eq_getElem hlt)⟩)
  exact ⟨_, _, _, .pointer (some ⟨w.heap.size, 0, none⟩), _, by simp [Instr.box, newVar, Go.newRow], le_addSize hsat _, hn, .ptr _ _, hK _ hsat.fresh⟩

theorem ef_alloc (hsat : Sat G B w0 m H w) {t : TypeId} {z : AV} {K : AV → Heap → Prop} (hz : zero? P t = some z) (h0 : 0 < z.cells.length) (h : ef (.alloc z.cells) [] H K) :
    ∃ w' m' v cv H', (Instr.alloc t true (.tuple #[])).run P w = .ok cv w' ∧ m.le m' ∧ Sat G B w0 m' H' w' ∧ Rel m' v cv ∧ K v H' := by
  obtain ⟨cz, hcz, hrz⟩ := zero?_run hz w
  obtain ⟨h1, h2, h3⟩ := (hrz m).cells_of h0
  have hn := hsat.newCells (vs := z.cells) (cs := cz.cells) t (by omega) (fun i x hi => by
    have hlt : i < cz.cells.size := by rw [← h1]; exact (List.getElem?_eq_some_iff.1 hi).1
    exact ⟨cz.cells[i], Array.getElem?_eq_getElem hlt, h2 i x _ hi (Array.getElem?_eq_getElem hlt), h3 i _ (Array.getElem?_eq_getElem hlt)⟩)
  exact ⟨_, _, _, .pointer (some ⟨w.heap.size, 0, none⟩), _, by simp [Instr.alloc, newVar, Go.newRow, hcz], le_addSize hsat _, hn, .ptr _ _, h _ hsat.fresh⟩

end
end Go.AL
