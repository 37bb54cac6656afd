/- What the abstract layer says where a function is ranged over: new blocks and turns of what is no cells leave it as it is; what is no cells abides a call. -/
import Derived.Test.YtcmgeflfapffoaaDoorB3
import Derived.RangeFuncFrom
namespace Go.AL
open Go Go.RowKit

/-- An object that lies in cells. -/
def AObj.isC : AObj → Bool
  | .cells _ | .spare _ | .raw _ _ => true
  | _ => false
def cellsOnly (H : Heap) : Prop := ∀ p ∈ H, p.2.isC = true
theorem cellsOnly.cons {id : Nat} {o : AObj} {H : Heap} (h : cellsOnly H) (ho : o.isC = true) : cellsOnly ((id, o) :: H) := fun p hp => by
  rcases List.mem_cons.1 hp with rfl | hp
  · exact ho
  · exact h p hp
theorem cellsOnly.app {A H : Heap} (ha : cellsOnly A) (h : cellsOnly H) : cellsOnly (A ++ H) := fun p hp => (List.mem_append.1 hp).elim (ha p) (h p)
theorem cellsOnly.perm {H H' : Heap} (h : cellsOnly H) (hp : H'.Perm H) : cellsOnly H' := fun p hm => h p (hp.mem_iff.1 hm)
theorem AObj.isC_block {o : AObj} {m : Im} {w : World} {id : Nat} (h : o.ok m w id) (hc : o.isC = true) : ∃ cs e fr, w.heap[id]? = some (.cells cs e fr) := by
  cases o with
  | cells vs => obtain ⟨cs, e, fr, h1, _⟩ := h; exact ⟨cs, e, fr, h1⟩
  | spare e => obtain ⟨cs, el, fr, h1, _⟩ := h; exact ⟨cs, el, fr, h1⟩
  | raw t cs => exact ⟨_, _, _, h.1⟩
  | map es => cases hc
  | iter s p => cases hc
  | keep o => cases hc

variable {G : Nat → Option (List AV)} {B : Nat} {w0 w w' : World} {m m' : Im} {H H' : Heap}

/-- New blocks, and a turn of a block that holds no cells. -/
theorem Sat.grown {row : Option Nat} (h : Sat G B w0 m H w) (hH : cellsOnly H) (hg : w.grownBy w' row) (hr : ∀ r, row = some r → B ≤ r ∧ ∃ o : Obj, w.heap[r]? = some o ∧ o.isCells = false) : Sat G B w0 m H w' := by
  have hb : ∀ b cs e fr, w.heap[b]? = some (Obj.cells cs e fr) → w'.heap[b]? = w.heap[b]? := fun b cs e fr hk => grownBy_keeps_cells hg (fun r e => (hr r e).2) hk rfl
  refine ⟨h.below.grown hg h.base (fun k e => (hr k e).1), Nat.le_trans h.base hg.size, fun b o v hc => cell_kept (h.cell b o v hc) hg (fun r e => (hr r e).2), fun b n hn => ?_, h.nodup, fun id o ho => ?_, h.glob⟩
  · obtain ⟨cs, e, fr, h1, h2⟩ := h.size b n hn
    exact ⟨cs, e, fr, by rw [hb _ _ _ _ h1]; exact h1, h2⟩
  · obtain ⟨h1, h2, h3⟩ := h.obj id o ho
    obtain ⟨cs, e, fr, h4⟩ := AObj.isC_block h3 (hH _ ho)
    exact ⟨h1, Nat.lt_of_lt_of_le h2 hg.size, AObj.ok_of_block (.refl m) (hb _ _ _ _ h4) (fun _ => rfl) h3⟩
theorem Sat.put (h : Sat G B w0 m H w) (hH : cellsOnly H) {l : Nat} {o : Obj} (o' : Obj) (hB : B ≤ l) (hl : w.heap[l]? = some o) (ho : o.isCells = false) : Sat G B w0 m H (w.putObj l o') :=
  h.grown hH (grownBy_putObj' w l o') (fun r e => by cases e; exact ⟨hB, o, hl, ho⟩)
/-- The invariant of a loop: some heap of cells stands for the world. -/
theorem own_sat {β : Type} {B' : Nat} (hB : B ≤ B') (X : β → Im → Heap → Prop) (hX : ∀ s m H, X s m H → cellsOnly H) : OwnFrom B' (fun s W => ∃ m H, X s m H ∧ Sat G B w0 m H W) := by
  rintro s W W' row ⟨m, H, hx, hs⟩ hg hr
  exact ⟨m, H, hx, hs.grown (hX s m H hx) hg (fun r e => ⟨Nat.le_trans hB (hr r e).1, (hr r e).2⟩)⟩

/-- The world may be taken for the first one. -/
theorem Sat.rebase (h : Sat G B w0 m H w) : Sat G B w m H w :=
  ⟨Below.refl _ _, h.base, h.cell, h.size, h.nodup, h.obj, fun g cs hg => by
    obtain ⟨⟨h1, vs, e, fr, h2, h3⟩, h4⟩ := h.glob g cs hg
    exact ⟨⟨h1, vs, e, fr, by rw [h.below.block g h1]; exact h2, h3⟩, h4⟩⟩
theorem Sat.back (h : Sat G B w0 m H w) (h' : Sat G B w m' H' w') : Sat G B w0 m' H' w' :=
  ⟨h.below.trans h'.below, h'.base, h'.cell, h'.size, h'.nodup, h'.obj, fun g cs hg => by
    obtain ⟨⟨h1, vs, e, fr, h2, h3⟩, _⟩ := h.glob g cs hg
    exact ⟨⟨h1, vs, e, fr, h2, h3⟩, (h'.glob g cs hg).2⟩⟩

/-- What is no cells and is not spoken of. -/
def othP (B : Nat) (H : Heap) (w : World) (j : Nat) : Bool :=
  decide (B ≤ j) && decide (j ∉ H.keys) && (match w.heap[j]? with | some o => !o.isCells | none => false)
def others (B : Nat) (H : Heap) (w : World) : Heap := ((List.range w.heap.size).filter (othP B H w)).map fun j => (j, .keep ((w.heap[j]?).getD (.deferred none)))
theorem others_keys (B : Nat) (H : Heap) (w : World) : (others B H w).keys = (List.range w.heap.size).filter (othP B H w) := by
  simp only [Heap.keys, others, List.map_map]
  exact List.map_id _
theorem others_mem {j : Nat} {o : AObj} (h : (j, o) ∈ others B H w) : B ≤ j ∧ j ∉ H.keys ∧ ∃ ob, w.heap[j]? = some ob ∧ ob.isCells = false ∧ o = .keep ob := by
  obtain ⟨i, hi, he⟩ := List.mem_map.1 h
  cases he
  have hp := (List.mem_filter.1 hi).2
  simp only [othP, Bool.and_eq_true, decide_eq_true_eq] at hp
  obtain ⟨⟨h1, h2⟩, h3⟩ := hp
  refine ⟨h1, h2, ?_⟩
  cases ho : w.heap[j]? with
  | none => rw [ho] at h3; cases h3
  | some ob =>
    rw [ho] at h3
    exact ⟨ob, rfl, by simpa using h3, rfl⟩
theorem others_of {j : Nat} {ob : Obj} (h1 : B ≤ j) (h2 : j ∉ H.keys) (h3 : w.heap[j]? = some ob) (h4 : ob.isCells = false) : (j, .keep ob) ∈ others B H w := by
  refine List.mem_map.2 ⟨j, List.mem_filter.2 ⟨List.mem_range.2 (Array.getElem?_eq_some_iff.1 h3).1, ?_⟩, by rw [h3]; rfl⟩
  simp [othP, h1, h2, h3, h4]
theorem Sat.others (h : Sat G B w0 m H w) : Sat G B w0 m (H ++ Go.AL.others B H w) w := by
  refine ⟨h.below, h.base, h.cell, h.size, ?_, fun id o ho => ?_, h.glob⟩
  · rw [List.map_append]
    refine List.nodup_append.2 ⟨h.nodup, ?_, fun a ha b hb e => ?_⟩
    · show (Go.AL.others B H w).keys.Nodup
      rw [others_keys]; exact (List.nodup_range).filter _
    · subst e
      obtain ⟨⟨j, o⟩, hj, rfl⟩ := List.mem_map.1 hb
      exact (others_mem hj).2.1 ha
  · rcases List.mem_append.1 ho with ho | ho
    · exact h.obj id o ho
    · obtain ⟨h1, _, ob, h3, h4, rfl⟩ := others_mem ho
      exact ⟨h1, (Array.getElem?_eq_some_iff.1 h3).1, ⟨fun cs e fr he => (by subst he; cases h4), h3⟩⟩
/-- What is no cells lies as it lay. -/
theorem Sat.kept (h : Sat G B w m H w) (hc : cellsOnly H) {A : Heap} (h' : Sat G B w m' (A ++ Go.AL.others B H w) w') : KeepsOthers w w' :=
  ⟨h'.below.size, fun k o hk ho => by
    by_cases hB : k < B
    · rw [h'.below.block k hB]; exact hk
    · have hn : k ∉ H.keys := fun hm => by
        obtain ⟨⟨j, a⟩, hj, rfl⟩ := List.mem_map.1 hm
        obtain ⟨cs, e, fr, h4⟩ := AObj.isC_block (h.obj j a hj).2.2 (hc _ hj)
        simp only at hk
        rw [hk] at h4; cases h4; cases ho
      have := (h'.obj k _ (List.mem_append_right _ (others_of (by omega) hn hk ho))).2.2
      exact this.2⟩
/-- A call that is known abstractly, in a fence. -/
theorem ACalls.wide {P : Program} {f : FuncId} {args : List AV} {K : AV → Heap → Prop} (h : ACalls G P f args H K) (n : Nat) {cargs : Array Value} (hs : Sat G B w0 m H w) (hr : RelL m args cargs.toList) :
    CallsIn Fence.wide n P f cargs w fun e w' => ∃ v cv m' H', e = .returned cv ∧ m.le m' ∧ Sat G B w0 m' H' w' ∧ Rel m' v cv ∧ K v H' := callsIn_wide.2 (h.2 B w0 m w cargs hs hr)
/-- A box read. -/
theorem Sat.box1 {id : Nat} {x : AV} (h : Sat G B w0 m H w) (hm : (id, .cells [x]) ∈ H) : ∃ c, w.cell? ⟨id, 0, none⟩ = some c ∧ Rel m x c ∧ w.frozen? ⟨id, 0, none⟩ = false ∧ c.oneCell' = true ∧ B ≤ id ∧ id < w.heap.size := by
  obtain ⟨hB, hid, cs, e, fr, hb, hlen, hfr, hno, hcell⟩ := h.obj _ _ hm
  obtain ⟨c, h1, h2, h3⟩ := hcell 0 x rfl
  have h0 : 0 < cs.size := hlen
  exact ⟨c, by simp only [World.cell?, hb]; exact h1, h2, nofr hb hfr 0 h0, h3, hB, hid⟩
theorem Rel.ptr_eq {id off : Nat} {c : Value} (h : Rel m (.ptr id off) c) : c = .pointer (some ⟨id, off, none⟩) := by cases h; rfl
theorem Rel.int_eq {k : IntKind} {n : Int} {c : Value} (h : Rel m (.int k n) c) : c = .int k n := by cases h; rfl
theorem Rel.nilp_eq {c : Value} (h : Rel m .nilp c) : c = .pointer none := by cases h; rfl
theorem Rel.tup2 {x y : AV} {c : Value} (h : Rel m (.tup [x, y]) c) : ∃ u v, c = .tuple #[u, v] ∧ Rel m x u ∧ Rel m y v := by
  cases h with
  | tup _ va hl hr =>
    obtain ⟨l⟩ := va
    match l, hl, hr with
    | [u, v], _, hr => exact ⟨u, v, rfl, hr 0 x u rfl rfl, hr 1 y v rfl rfl⟩
/-- A box written. -/
theorem Sat.setBox {P : Program} {id : Nat} {x y : AV} {c : Value} (h : Sat G B w0 m ((id, .cells [x]) :: H) w) (hy : Rel m y c) (h1 : c.oneCell' = true) : Sat G B w0 m ((id, .cells [y]) :: H) (w.setCell ⟨id, 0, none⟩ c) := by
  obtain ⟨c0, hc, _, hf, _⟩ := h.box1 List.mem_cons_self
  obtain ⟨w', r, s⟩ := h.store (P := P) (H' := (id, .cells [y]) :: H) (off := 0) (vs := [x]) (xs := [y]) (l := [c]) (id := id) (.here _ _ _) ((RelL.nil m).cons hy) (fun u hu => by simp at hu; subst hu; exact h1) (by simp)
  have e : w' = w.setCell ⟨id, 0, none⟩ c := by
    simp only [storeCells, Sem.run_bind] at r
    rw [addr_add _ _ rfl, run_store P w _ _ _ h1] at r
    simp only [Nat.zero_add, hc, hf, Bool.false_eq_true, if_false, Result.andThen_ok, Sem.run_pure] at r
    cases r; rfl
  rw [← e]; exact s
theorem Sat.newBox {x : AV} {c : Value} (h : Sat G B w0 m H w) (e : TypeId) (hr : Rel m x c) (h1 : c.oneCell' = true) : ∃ m', m.le m' ∧ Sat G B w0 m' ((w.heap.size, .cells [x]) :: H) (w.alloc (.cells #[c] e)) :=
  ⟨_, le_addSize h _, h.newCells (vs := [x]) (cs := #[c]) e (by simp) (by
    intro i y hy
    cases i with
    | zero => simp at hy; subst hy; exact ⟨_, rfl, hr, h1⟩
    | succ i => simp at hy)⟩
theorem Rel.mk2 {x y : AV} {u v : Value} (h1 : Rel m x u) (h2 : Rel m y v) : Rel m (.tup [x, y]) (.tuple #[u, v]) :=
  .tup _ _ rfl (by
    intro i a b ha hb
    match i with
    | 0 => simp at ha hb; subst ha hb; exact h1
    | 1 => simp at ha hb; subst ha hb; exact h2
    | i + 2 => simp at ha)
theorem Sat.newRaw (h : Sat G B w0 m H w) (e : TypeId) (cs : List Value) : Sat G B w0 m ((w.heap.size, .raw e cs) :: H) (w.alloc (.cells cs.toArray e)) :=
  h.newObj ⟨heap_alloc_new _ _, fun o => by
    cases hc : m.cell w.heap.size o with
    | none => rfl
    | some v => exact absurd (h.cell_lt hc) (Nat.lt_irrefl _)⟩
theorem Sat.raw1 {id : Nat} {e : TypeId} {v : Value} (h : Sat G B w0 m H w) (hm : (id, .raw e [v]) ∈ H) : w.cell? ⟨id, 0, none⟩ = some v := by
  obtain ⟨_, _, hb, _⟩ := h.obj _ _ hm
  simp only [World.cell?, hb]
  rfl
theorem Rel.fn_ptrs {f : FuncId} {cs : List (Nat × Nat)} {c : Value} (h : Rel m (.fn (.func f) [] (cs.map fun q => .ptr q.1 q.2)) c) : c = .func (.func f) #[] (cs.map fun q => Value.pointer (some ⟨q.1, q.2, none⟩)).toArray := by
  cases h with
  | fn _ _ _ fa ca hf hc hfr hcr =>
    obtain rfl : fa = #[] := by simpa using hf.symm
    have : ca = (cs.map fun q => Value.pointer (some ⟨q.1, q.2, none⟩)).toArray := by
      apply Array.ext
      · simpa using hc.symm
      · intro i h1 h2
        have hi : i < cs.length := by simpa using h2
        have := hcr i (.ptr cs[i].1 cs[i].2) ca[i] (by simp [hi]) (by simp [h1])
        rw [this.ptr_eq]
        simp
    rw [this]
theorem Rel.fn_first {f : FuncId} {id : Nat} {c : Value} (h : Rel m (.fn (.func f) [.ptr id 0] []) c) : c = .func (.func f) #[.pointer (some ⟨id, 0, none⟩)] #[] := by
  cases h with
  | fn _ _ _ fa ca hf hc hfr hcr =>
    obtain rfl : ca = #[] := by simpa using hc.symm
    obtain ⟨l⟩ := fa
    match l, hf, hfr with
    | [u], _, hfr =>
      have := hfr 0 _ u rfl rfl
      cases this
      rfl
end Go.AL
