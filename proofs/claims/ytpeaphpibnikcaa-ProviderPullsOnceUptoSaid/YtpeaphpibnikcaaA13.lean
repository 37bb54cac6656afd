/- The abstract layer, part 13: literals of slices, strings as bytes; every operation that writes is sound. -/
import Derived.Test.YtpeaphpibnikcaaA12
namespace Go.AL
open Go.RowKit

section
variable {G : Nat → Option (List AV)} {B : Nat} {w0 w w' : World} {m m' : Im} {H H' : Heap} {P : Program}

theorem replicate_get {zs : List AV} {sz : Nat} (hzl : zs.length = sz) : ∀ (q i : Nat) (x : AV), ((List.replicate q zs).flatten)[i]? = some x → i < q * sz ∧ zs[i % sz]? = some x
  | 0, i, x, h => by simp at h
  | q + 1, i, x, h => by
    rw [List.replicate_succ, List.flatten_cons] at h
    rcases Nat.lt_or_ge i sz with hlt | hge
    · rw [List.getElem?_append_left (by omega)] at h
      exact ⟨by rw [Nat.add_mul]; omega, by rw [Nat.mod_eq_of_lt hlt]; exact h⟩
    · rw [List.getElem?_append_right (by omega), hzl] at h
      obtain ⟨h1, h2⟩ := replicate_get hzl q _ _ h
      refine ⟨by rw [Nat.add_mul]; omega, ?_⟩
      rw [Nat.mod_eq_sub_mod hge]; exact h2

theorem replicate_len {zs : List AV} {sz : Nat} (hzl : zs.length = sz) (q : Nat) : ((List.replicate q zs).flatten).length = q * sz := by
  induction q with
  | zero => simp
  | succ q ih => rw [List.replicate_succ, List.flatten_cons, List.length_append, ih, hzl, Nat.add_mul]; omega

theorem rel_made {z : AV} {cz : Value} {sz : Nat} (hr : Rel m z cz) (hzl : z.cells.length = sz) (h0 : 0 < sz) (n : Nat) : Rel m (.agg ((List.replicate n z.cells).flatten)) (.agg (madeCells cz.cells (n * sz))) := by
  obtain ⟨g1, g2, g3⟩ := hr.cells_of (by omega)
  have hget : ∀ i, i < n * sz → (madeCells cz.cells (n * sz))[i]? = cz.cells[i % sz]? := by
    intro i hi
    have hmod : i % cz.cells.size < cz.cells.size := Nat.mod_lt _ (by omega)
    simp only [madeCells, Array.getElem?_map, Array.getElem?_range, hi, if_true, Option.map_some]
    rw [getElem!_pos cz.cells _ hmod, ← Array.getElem?_eq_getElem hmod, show cz.cells.size = sz by omega]
  refine .agg _ _ (by rw [replicate_len hzl, size_madeCells]) (fun i y hy => ?_) (fun i x y hx hy => ?_)
  · have hi := (Array.getElem?_eq_some_iff.1 hy).1
    rw [size_madeCells] at hi
    rw [hget i hi] at hy
    exact g3 _ _ hy
  · obtain ⟨hi, hzx⟩ := replicate_get hzl _ _ _ hx
    rw [hget i hi] at hy
    exact g2 _ _ _ hzx hy

theorem ef_bslice (hsat : Sat G B w0 m H w) {t e : TypeId} {sz n : Nat} {z : AV} {parts : Array (Nat × Operand)} {ρ : Operand → Value} {xs : List AV} {K : AV → Heap → Prop} (hu : P.underlying t = some (.slice e))
    (hs : size? P e = some sz) (hz : zero? P e = some z) (hzl : z.cells.length = sz) (h0 : 0 < sz) (hbig : n * sz ≤ 65536) (hr : RelL m xs ((parts.toList.map (·.2)).map ρ))
    (h : ef (.bslice sz n z.cells (parts.toList.map fun p => (p.1 * sz, sz))) xs H K) :
    ∃ w' m' v cv H', (Instr.buildSlice t n (parts.map fun (i, x) => (i, ρ x))).run P w = .ok cv w' ∧ m.le m' ∧ Sat G B w0 m' H' w' ∧ Rel m' v cv ∧ K v H' := by
  have hrz := fun (m : Im) => (zero?_run (P := P) hz w)
  obtain ⟨cz, hcz, hrz⟩ := zero?_run hz w
  have hsz := size?_run hs w
  have h : ∃ cs, fillL ((List.replicate n z.cells).flatten) (parts.toList.map fun p => (p.1 * sz, sz)) xs = some cs ∧
      ((∀ id, id ∉ H.keys → K (.msl id 0 n sz) ((id, .cells cs) :: H)) ∨
       (∃ ys, AllSz sz ys ∧ ys.length = n ∧ flat ys = cs ∧ ∀ id, id ∉ H.keys → K (.sl ys (.at id (n * sz) sz)) ((id, .spare (n * sz)) :: H))) := h
  obtain ⟨cs, hfl, hcase⟩ := h
  obtain ⟨cb, hcb, hrel⟩ := snd_fill (m := m) (ps := (parts.map fun (i, x) => (i, ρ x)).toList) (place := fun i => some (i * sz, sz)) (rel_made (hrz m) hzl h0 n) (by simp) (fun i p q hi hq => by
    simp only [Array.toList_map, List.getElem?_map] at hi hq
    cases hpi : parts.toList[i]? with
    | none => rw [hpi] at hi; cases hi
    | some p' => rw [hpi] at hi hq; cases hi; cases hq; rfl) (by simpa [List.map_map, Function.comp_def] using hr) hfl
  have hrun : (Instr.buildSlice t n (parts.map fun (i, x) => (i, ρ x))).run P w = .ok (.slice (some ⟨w.heap.size, 0, none⟩) n n) (w.alloc (.cells cb e)) := by
    have hb2 : ¬ (n * sz > 2 ^ 24) := by omega
    simp only [Instr.buildSlice, Sem.run_bind, run_underlying hu, Result.andThen_ok, hsz]
    rw [if_neg hb2]
    by_cases hn : n * sz = 0
    · have e1 : madeCells cz.cells (n * sz) = #[] := by rw [hn]; simp [madeCells, Array.range_zero']
      simp only [hn, if_true, Sem.run_pure, Result.andThen_ok, Sem.run_bind]
      rw [e1] at hcb
      simp only [Array.range_zero', List.map_toArray, List.map_nil]
      rw [hcb]
      simp [newRow]
    · simp only [hn, if_false, Sem.run_pure, Result.andThen_ok, Sem.run_bind, hcz]
      rw [show (Array.map (fun x => cz.cells[x % cz.cells.size]!) (Array.range (n * sz))) = madeCells cz.cells (n * sz) from rfl, hcb]
      simp [newRow]
  have hlen : cs.length = n * sz := by
    have : ∀ {pl : List (Nat × Nat)} {xs z cs : List AV}, fillL z pl xs = some cs → cs.length = z.length := by
      intro pl
      induction pl with
      | nil => intro xs z cs h; cases xs <;> simp [fillL] at h; subst h; rfl
      | cons q pl ih =>
        intro xs z cs h
        cases xs with
        | nil => simp [fillL] at h
        | cons x xs =>
          unfold fillL at h
          split at h
          · rename_i hc
            rw [ih h, splice_length _ _ _ (by omega)]
          · cases h
    rw [this hfl, replicate_len hzl]
  cases hrel with
  | agg _ _ hl ho hrr =>
    have hcbs : cb.size = n * sz := by omega
    rcases hcase with hK | ⟨ys, hys, hyl, hyf, hK⟩
    · have hn := hsat.newCells (vs := cs) (cs := cb) e (by omega) (fun i x hx => by
        have hlt : i < cb.size := by rw [← hl]; exact (List.getElem?_eq_some_iff.1 hx).1
        exact ⟨cb[i], Array.getElem?_eq_getElem hlt, hrr i x _ hx (Array.getElem?_eq_getElem hlt), ho i _ (Array.getElem?_eq_getElem hlt)⟩)
      refine ⟨_, _, _, _, _, hrun, le_addSize hsat _, hn, .msl _ 0 n n sz _ (Nat.le_refl _) ?_ (addSize_size _ _ _) (by omega), hK _ hsat.fresh⟩
      simp only [maxLen]
      have : n ≤ n * sz := Nat.le_mul_of_pos_right _ h0
      omega
    · obtain ⟨m', l1, l2, l3, l4⟩ := hsat.newRow (n := n * sz) (cs := cb) e (by omega)
      subst hyl
      refine ⟨_, m', _, _, _, hrun, l1, l2, ?_, hK _ hsat.fresh⟩
      refine rel_newrow (cs := cb.toList) hys (Nat.le_refl _) ?_ ⟨by rw [hyf]; simpa using hl, fun i x y hx hy => ?_⟩ (fun u hu => ?_) (fun i hi => by simp) l1 l3 l4 (by omega)
      · simp only [maxLen]
        have : ys.length ≤ ys.length * sz := Nat.le_mul_of_pos_right _ h0
        omega
      · rw [hyf] at hx; exact hrr i x y hx (by simpa using hy)
      · obtain ⟨i, hi⟩ := List.mem_iff_getElem?.1 hu
        exact ho i u (by simpa using hi)

/-- A mark behind the end of a block turns nothing that is known. -/
theorem Sat.freezeEnd {W : World} (hsat : Sat G B w0 m H W) {id : Nat} {C : Array Value} {e : TypeId} {fr0 : Nat × Nat} (hfr0 : fr0.1 = fr0.2 ∨ C.size ≤ fr0.1) (hB : B ≤ id) (hb : W.heap[id]? = some (.cells C e fr0)) : Sat G B w0 m H (W.freeze ⟨id, C.size, none⟩ 1) := by
  obtain ⟨fr1, hself, hfr1⟩ : ∃ fr1 : Nat × Nat, (W.freeze ⟨id, C.size, none⟩ 1).heap[id]? = some (.cells C e fr1) ∧ (fr1.1 = fr1.2 ∨ C.size ≤ fr1.1) := by
    obtain ⟨lo, hi⟩ := fr0
    refine ⟨if lo == hi then (C.size, C.size + 1) else (min lo C.size, max hi (C.size + 1)), by simp [World.freeze, Array.getElem?_modify, hb], ?_⟩
    by_cases h : lo = hi
    · simp [h]
    · have : (lo == hi) = false := by simpa using h
      rw [this]
      rcases hfr0 with h2 | h2
      · exact absurd h2 h
      · exact .inr (by simp only [Bool.false_eq_true, if_false] at h2 ⊢; omega)
  have hne : ∀ k, k ≠ id → (W.freeze ⟨id, C.size, none⟩ 1).heap[k]? = W.heap[k]? := by
    intro k hk
    simp only [World.freeze, Nat.one_ne_zero, if_false, Array.getElem?_modify]
    rw [if_neg (Ne.symm hk)]
  have hsize : (W.freeze ⟨id, C.size, none⟩ 1).heap.size = W.heap.size := by simp [World.freeze]
  have hcell : ∀ b o, (W.freeze ⟨id, C.size, none⟩ 1).cell? ⟨b, o, none⟩ = W.cell? ⟨b, o, none⟩ := by
    intro b o
    by_cases hbi : b = id
    · subst hbi; simp [World.cell?, hself, hb]
    · exact World.cell?_of_block (w := W) (a := ⟨b, o, none⟩) (hne b hbi)
  refine ⟨hsat.below.trans ⟨?_, ?_, ?_, by omega, fun k hk => hne k (by omega)⟩, by rw [hsize]; exact hsat.base, fun b o v h => by rw [hcell]; exact hsat.cell b o v h, fun b n h => ?_, hsat.nodup, fun j o h => ?_, hsat.glob⟩
  · simp [World.freeze]
  · simp [World.freeze]
  · simp [World.freeze]
  · obtain ⟨cs, e', fr, h1, h2⟩ := hsat.size b n h
    by_cases hbi : b = id
    · subst hbi
      rw [hb] at h1; cases h1
      exact ⟨C, e, _, hself, h2⟩
    · exact ⟨cs, e', fr, by rw [hne b hbi]; exact h1, h2⟩
  · obtain ⟨h1, h2, h3⟩ := hsat.obj j o h
    refine ⟨h1, by rw [hsize]; exact h2, ?_⟩
    by_cases hji : j = id
    · subst hji
      cases o with
      | cells vs =>
        obtain ⟨cs, e', fr, q1, q2, q3, q4, q5⟩ := h3
        rw [hb] at q1; cases q1
        exact ⟨C, e, _, hself, q2, hfr1, q4, q5⟩
      | spare ee =>
        obtain ⟨cs, e', fr, q1, q2, q3⟩ := h3
        rw [hb] at q1; cases q1
        exact ⟨C, e, _, hself, hfr1, q3⟩
      | map es => obtain ⟨_, _, q1, _⟩ := h3; rw [hb] at q1; cases q1
      | iter s pos => obtain ⟨_, _, q1⟩ := h3; rw [hb] at q1; cases q1
    · exact AObj.ok_of_block (.refl m) (hne j hji) (fun _ => rfl) h3

theorem ef_sb (hsat : Sat G B w0 m H w) {s d e : TypeId} {l : List UInt8} {c : Value} {K : AV → Heap → Prop} (h1 : P.underlying s = some .string) (h2 : P.underlying d = some (.slice e)) (h3 : P.underlying e = some (.int .u8))
    (hx : Rel m (.str l) c) (h : ef .sb [.str l] H K) :
    ∃ w' m' v cv H', (convert s d c).run P w = .ok cv w' ∧ m.le m' ∧ Sat G B w0 m' H' w' ∧ Rel m' v cv ∧ K v H' := by
  cases hx with
  | str b =>
    have hlen : b.data.toList.length = b.size := by simp
    obtain ⟨hm, h⟩ := (h : b.data.toList.length ≤ maxLen ∧ ((∀ id, id ∉ H.keys → K (.msl id 0 b.data.toList.length 1) ((id, .cells (bytesAV b.data.toList)) :: H)) ∨
       (∀ id, id ∉ H.keys → K (.sl (bytesAV b.data.toList) (.at id b.data.toList.length 1)) ((id, .spare b.data.toList.length) :: H))))
    rw [hlen] at hm h
    obtain ⟨gc1, gc2⟩ := grown_le w b.size 0 e hm
    let elems : Array Value := b.data.map fun b => .int .u8 b.toNat
    let C : Array Value := elems ++ Array.replicate (grownCap w b.size 0 e - b.size) (.int .u8 0)
    have hes : elems.size = b.size := by simp [elems]
    have hCs : C.size = grownCap w b.size 0 e := by simp only [C, Array.size_append, Array.size_replicate, hes]; omega
    have hget : ∀ i, i < b.size → C[i]? = elems[i]? := fun i hi => by simp only [C]; rw [Array.getElem?_append_left (by omega)]
    have hrel : ∀ (i : Nat) (x : AV), (bytesAV b.data.toList)[i]? = some x → ∃ c : Value, C[i]? = some c ∧ Rel m x c ∧ c.oneCell' = true := by
      intro i x hx
      rw [bytesAV_get] at hx
      cases hb : b.data.toList[i]? with
      | none => rw [hb] at hx; cases hx
      | some u =>
        rw [hb] at hx; cases hx
        have hi := (List.getElem?_eq_some_iff.1 hb).1
        rw [hlen] at hi
        refine ⟨.int .u8 u.toNat, ?_, .int _ _, rfl⟩
        rw [hget i hi]
        have : b.data[i]? = some u := by simpa using hb
        simp [elems, this]
    have hrun : (convert s d (.string b)).run P w = .ok (.slice (some ⟨w.heap.size, 0, none⟩) b.size (grownCap w b.size 0 e)) ((w.drew.alloc (.cells C e)).freeze ⟨w.heap.size, C.size, none⟩ 1) := by
      have hsh : (w.drew.alloc (.cells C e)).shape? w.heap.size = some (e, C.size) := by
        simp only [World.shape?]; rw [show w.heap.size = w.drew.heap.size from rfl, heap_alloc_new]
      simp only [convert, Sem.run_bind, run_underlying h1, run_underlying h2, run_underlying h3, Result.andThen_ok, Conv.stringToBytes, run_choose, Question.forced, Bool.false_eq_true, if_false, newRow, run_newObj, Sem.run_pure, markStringish, World.alloc_eq, World.drew_eq]
      have hsh' : (w.drew.alloc (.cells ((b.data.map fun b => Value.int .u8 b.toNat) ++ Array.replicate (Question.cut (.appendCap b.size 0 e) (w.tape w.drawn (.appendCap b.size 0 e)) - b.size) (.int .u8 0)) e)).shape? w.drew.heap.size = some (e, C.size) := hsh
      simp only [run_shape, Result.andThen_ok, hsh', run_freeze]
      rfl
    rcases h with hK | hK
    · have hn := hsat.drew.newCells (vs := bytesAV b.data.toList) (cs := C) e (by simp [bytesAV]; omega) hrel
      refine ⟨_, _, _, _, _, hrun, le_addSize hsat.drew _, hn.freezeEnd (.inl rfl) hsat.base (heap_alloc_new w.drew _), .msl _ 0 b.size _ 1 _ gc1 gc2 (addSize_size _ _ _) (by omega), hK w.heap.size hsat.fresh⟩
    · obtain ⟨m', l1, l2, l3, l4⟩ := hsat.drew.newRow (n := b.size) (cs := C) e (by omega)
      refine ⟨_, m', _, _, _, hrun, l1, l2.freezeEnd (.inl rfl) hsat.base (heap_alloc_new w.drew _), ?_, hK w.heap.size hsat.fresh⟩
      have hbl : (bytesAV b.data.toList).length = b.size := by simp [bytesAV]
      have := rel_newrow (ys := bytesAV b.data.toList) (sz := 1) (cs := elems.toList) (blk := C) (cap := grownCap w b.size 0 e) (m := m) (m' := m') (id := w.heap.size) (allSz_bytes _) (by omega) gc2
        ⟨by rw [flat_bytes, hbl]; simpa using hes.symm, fun i x y hx hy => by
          rw [flat_bytes] at hx
          obtain ⟨c, h1, h2, _⟩ := hrel i x hx
          have hi : i < b.size := by rw [← hbl]; exact (List.getElem?_eq_some_iff.1 hx).1
          rw [hget i hi] at h1
          have hy' : elems[i]? = some y := by simpa using hy
          rw [h1] at hy'; cases hy'; exact h2⟩ (fun u hu => by simp [elems] at hu; obtain ⟨_, _, rfl⟩ := hu; rfl) (fun i hi => by rw [hbl] at hi; rw [hget i (by omega)]; simp) l1 (fun i hi => by rw [hbl] at hi; exact l3 i (by omega)) l4 (by omega)
      rw [hbl, Nat.mul_one] at this
      exact this

/-- An object of one's own that is written no more: its cells never turn again. -/
theorem Sat.shut (hsat : Sat G B w0 m H w) {id : Nat} {vs : List AV} (hr : Rpl H (id, .cells vs) (id, .spare vs.length) H') :
    ∃ m', m.le m' ∧ Sat G B w0 m' H' w ∧ ∃ f : Nat → Value, (∀ i, i < vs.length → m'.cell id i = some (f i) ∧ (f i).oneCell' = true) ∧ ∀ (i : Nat) (x : AV), vs[i]? = some x → Rel m' x (f i) := by
  obtain ⟨hB, hid, cs, e, fr, hb, hlen, hfr, hno, hcell⟩ := hsat.obj _ _ hr.src
  have hle : m.le (m.addCells id (fun o => if o < vs.length then cs[o]? else none)) := by
    refine ⟨fun b o v h => ?_, fun _ _ h => h⟩
    simp only [Im.addCells]
    split
    · rename_i hbb; subst hbb; rw [hno o] at h; cases h
    · exact h
  refine ⟨m.addCells id (fun o => if o < vs.length then cs[o]? else none), hle, hsat.turn (Below.refl B w) hle id (fun _ _ _ => rfl) hB hid (fun b o hb' => by simp [Im.addCells, hb']) (fun o v h => ?_) (fun _ _ => rfl) (fun n h => hsat.size id n h) (fun j o h => ?_) (hr.nodup hsat.nodup (.inl rfl)),
    fun i => (cs[i]?).getD default, fun i hi => ?_, fun i x hx => ?_⟩
  · simp only [Im.addCells, if_true] at h
    split at h
    · rename_i u hu
      cases h
      split at hu
      · simpa [World.cell?, hb] using hu
      · cases hu
    · rw [hno o] at h; cases h
  · rcases hr.mem hsat.nodup _ h with h | ⟨h1, h2⟩
    · cases h
      refine .inl ⟨rfl, cs, e, fr, hb, hfr, fun o ho => ?_⟩
      simp only [Im.addCells, if_true]
      rw [if_neg (by omega)]
      exact hno o
    · exact .inr ⟨h2, h1⟩
  · obtain ⟨c, h1, h2, h3⟩ := hcell i vs[i] (List.getElem?_eq_getElem hi)
    simp only [Im.addCells, if_true, hi, h1, Option.getD_some]
    exact ⟨trivial, h3⟩
  · obtain ⟨c, h1, h2, h3⟩ := hcell i x hx
    simp only [h1, Option.getD_some]
    exact h2.mono hle

theorem ef_cvm (hsat : Sat G B w0 m H w) {s d e e2 : TypeId} {a : AV} {c : Value} {K : AV → Heap → Prop} (h1 : P.underlying s = some (.slice e2)) (h2 : P.underlying d = some (.slice e)) (hsd : (s == d) = true) (h3 : P.underlying e = some (.int .u8))
    (hx : Rel m a c) (h : ef .cvm [a] H K) :
    ∃ w' m' v cv H', (convert s d c).run P w = .ok cv w' ∧ m.le m' ∧ Sat G B w0 m' H' w' ∧ Rel m' v cv ∧ K v H' := by
  have hsh : ∃ id n, a = .msl id 0 n 1 ∧ 0 < n ∧ ∃ vs, (id, AObj.cells vs) ∈ H ∧ n = vs.length ∧ (K (.msl id 0 n 1) H ∨ (AllSz 1 vs ∧ flat vs = vs ∧ ∃ H', Rpl H (id, .cells vs) (id, .spare n) H' ∧ K (.sl vs (.at id n 1)) H')) := by
    cases a with
    | msl id off n sz =>
      cases off with
      | zero =>
        obtain ⟨rfl, h⟩ := (h : sz = 1 ∧ _)
        exact ⟨id, n, rfl, h⟩
      | succ _ => exact h.elim
    | _ => exact h.elim
  obtain ⟨id, n, rfl, hn, vs, hmem, hlen, hK⟩ := hsh
  have hc : ∃ cap n', c = .slice (some ⟨id, 0, none⟩) n cap ∧ n ≤ cap ∧ cap ≤ maxLen ∧ m.size id = some n' ∧ cap ≤ n' := by
    cases hx with
    | msl _ _ _ cap _ n' q1 q2 q3 q4 => exact ⟨cap, n', rfl, q1, q2, q3, by omega⟩
    | msl0 => exact absurd hn (Nat.lt_irrefl _)
  obtain ⟨cap, n', rfl, hlc, hcm, hsz, hcap⟩ := hc
  obtain ⟨hB, hid, cs, el, fr, hb, hvl, hfr, hno, hcell⟩ := hsat.obj _ _ hmem
  obtain ⟨cs0, e0, fr0, g1, g2⟩ := hsat.size id n' hsz
  rw [hb] at g1; cases g1
  have hrun : (convert s d (.slice (some ⟨id, 0, none⟩) n cap)).run P w = .ok (.slice (some ⟨id, 0, none⟩) n cap) (w.freeze ⟨id, cs.size, none⟩ 1) := by
    have hs : w.shape? id = some (el, cs.size) := by simp [World.shape?, hb]
    simp only [convert, Sem.run_bind, run_underlying h1, run_underlying h2, run_underlying h3, Result.andThen_ok, hsd, markStringish, run_shape, hs, run_freeze, Sem.run_pure]
  have hfz := hsat.freezeEnd hfr hB hb
  rcases hK with hK | ⟨ha, hfl, H', hr, hK⟩
  · exact ⟨_, m, _, _, _, hrun, .refl m, hfz, .msl _ 0 n cap 1 _ hlc hcm hsz (by omega), hK⟩
  · subst hlen
    obtain ⟨m', l1, l2, f, l3, l4⟩ := hfz.shut hr
    refine ⟨_, m', _, _, _, hrun, l1, l2, ?_, hK⟩
    refine rel_sl (g := f) (by simp) ha hlc hcm (fun i hi => ?_) (fun i hi => (l3 i (by omega)).2) (fun i x hx => l4 i x (by rw [hfl] at hx; exact hx)) (fun b e s h => ?_)
    · rw [Nat.zero_add]; exact (l3 i (by omega)).1
    · cases h
      exact ⟨rfl, by omega, rfl, _, l1.size _ _ hsz, by omega⟩

theorem RelL.one {m : Im} {xs : List AV} {y : Value} (h : RelL m xs [y]) : ∃ x, xs = [x] ∧ Rel m x y := by
  match xs, h with
  | [a], h => exact ⟨a, rfl, h.2 0 _ _ rfl rfl⟩
  | [], h => have := h.1; simp at this
  | _ :: _ :: _, h => have := h.1; simp at this
theorem RelL.two {m : Im} {xs : List AV} {y y' : Value} (h : RelL m xs [y, y']) : ∃ x x', xs = [x, x'] ∧ Rel m x y ∧ Rel m x' y' := by
  match xs, h with
  | [a, b], h => exact ⟨a, b, rfl, h.2 0 _ _ rfl rfl, h.2 1 _ _ rfl rfl⟩
  | [], h => have := h.1; simp at this
  | [_], h => have := h.1; simp at this
  | _ :: _ :: _ :: _, h => have := h.1; simp at this
theorem RelL.three {m : Im} {xs : List AV} {y y' y2 : Value} (h : RelL m xs [y, y', y2]) : ∃ x x' x2, xs = [x, x', x2] ∧ Rel m x y ∧ Rel m x' y' ∧ Rel m x2 y2 := by
  match xs, h with
  | [a, b, c], h => exact ⟨a, b, c, rfl, h.2 0 _ _ rfl rfl, h.2 1 _ _ rfl rfl, h.2 2 _ _ rfl rfl⟩
  | [], h => have := h.1; simp at this
  | [_], h => have := h.1; simp at this
  | [_, _], h => have := h.1; simp at this
  | _ :: _ :: _ :: _ :: _, h => have := h.1; simp at this

theorem ef_sound (hsat : Sat G B w0 m H w) {ρ : Operand → Value} {o : Oper} {op : AOp} {os : List Operand} {xs : List AV} {K : AV → Heap → Prop} (hc : compOp P o.op = some (op, os)) (hr : RelL m xs (os.map ρ)) (hq : op.quiet = false)
    (hn1 : ∀ f, op ≠ .call f) (hn2 : op ≠ .callv) (h : ef op xs H K) : Ef G B w0 P m w (execOp ρ o) K := by
  obtain ⟨dst, oo, ty, pos, after, guard⟩ := o
  simp only at hc
  have qno : ∀ {a : AOp} {l : List Operand}, some (a, l) = some (op, os) → a.quiet = true → False := by
    intro a l e hqa; cases e; rw [hq] at hqa; cases hqa
  cases oo with
  | alloc t =>
    simp only [compOp] at hc
    cases hz : zero? P t with
    | none => rw [hz] at hc; cases hc
    | some z =>
      rw [hz] at hc; simp only [Option.bind_some] at hc
      split at hc
      · rename_i h0
        cases hc
        have := hr.1; simp at this; subst this
        exact .value (ef_alloc hsat hz h0 h)
      · cases hc
  | box t x =>
    simp only [compOp, Option.some.injEq, Prod.mk.injEq] at hc; obtain ⟨rfl, rfl⟩ := hc
    obtain ⟨a, rfl, ha⟩ := hr.one
    exact .value (ef_box hsat ha h)
  | buildSlice t n parts =>
    simp only [compOp] at hc
    split at hc
    · rename_i e hu
      cases hz : zero? P e with
      | none => simp [hz] at hc
      | some z =>
        cases hs : size? P e with
        | none => simp [hz, hs] at hc
        | some s =>
          simp only [hz, hs, Option.bind_some] at hc
          split at hc
          · rename_i hcond
            cases hc
            exact .value (ef_bslice hsat hu hs hz hcond.1 hcond.2.1 hcond.2.2 hr h)
          · cases hc
    · cases hc
  | store t a v =>
    simp only [compOp] at hc
    cases hs : size? P t with
    | none => simp [hs] at hc
    | some s =>
      simp only [hs, Option.map_some, Option.some.injEq, Prod.mk.injEq] at hc; obtain ⟨rfl, rfl⟩ := hc
      obtain ⟨p, x, rfl, hp, hx⟩ := hr.two
      exact .skip (ef_st hsat hs hp hx h)
  | makeMap t r =>
    cases r <;> simp [compOp] at hc
    obtain ⟨rfl, rfl⟩ := hc
    have := hr.1; simp at this; subst this
    exact .value (ef_mkmap hsat h)
  | makeSlice t l c =>
    simp only [compOp] at hc
    split at hc
    · rename_i e hu
      cases hz : zero? P e with
      | none => simp [hz] at hc
      | some z =>
        cases hs : size? P e with
        | none => simp [hz, hs] at hc
        | some s =>
          cases hb : bytes? P e with
          | none => simp [hz, hs, hb] at hc
          | some b =>
            simp only [hz, hs, hb, Option.bind_some] at hc
            split at hc
            · rename_i hcond
              cases hc
              obtain ⟨p, x, rfl, hp, hx⟩ := hr.two
              refine .value ?_
              cases p with
              | int k n =>
                cases x with
                | int k' c' =>
                  generalize hl : ρ l = cl at hp
                  generalize hcc : ρ c = cc at hx
                  cases hp; cases hx
                  exact ef_mksl hsat hu hs hb hz hcond.1 hcond.2 h
                | _ => exact h.elim
              | _ => exact h.elim
            · cases hc
    · cases hc
  | mapUpdate t a b c =>
    simp only [compOp] at hc
    split at hc
    · rename_i kt _ hu
      cases hk : kindT P kt with
      | none => simp [hk] at hc
      | some kd =>
        simp only [hk, Option.map_some, Option.some.injEq, Prod.mk.injEq] at hc; obtain ⟨rfl, rfl⟩ := hc
        obtain ⟨x, y, z, rfl, hx, hy, hz⟩ := hr.three
        refine .skip ?_
        cases x with
        | map id => exact ef_mup hsat hu hk hx hy hz h
        | _ => exact h.elim
    · cases hc
  | range t x =>
    simp only [compOp] at hc
    split at hc
    · rename_i hu
      cases hc
      obtain ⟨a, rfl, ha⟩ := hr.one
      refine .value ?_
      cases a with
      | str s => exact ef_rngs hsat hu ha h
      | _ => exact h.elim
    · cases hc
  | next it b =>
    cases b <;> simp [compOp] at hc
    obtain ⟨rfl, rfl⟩ := hc
    obtain ⟨a, rfl, ha⟩ := hr.one
    refine .value ?_
    cases a with
    | ptr id off =>
      cases off with
      | zero => exact ef_nxts hsat ha h
      | succ n => exact h.elim
    | _ => exact h.elim
  | convert s d x =>
    simp only [compOp] at hc
    split at hc
    · exact (qno hc rfl).elim
    · exact (qno hc rfl).elim
    · exact (qno hc rfl).elim
    · split at hc
      · exact (qno hc rfl).elim
      · exact (qno hc rfl).elim
      · cases hc
    · rename_i e hs hd
      split at hc
      · rename_i he
        cases hc
        obtain ⟨a, rfl, ha⟩ := hr.one
        refine .value ?_
        cases a with
        | str l => exact ef_sb hsat hs hd he ha h
        | _ => exact h.elim
      · cases hc
    · rename_i e2 e hs hd
      split at hc
      · rename_i he
        split at hc
        · rename_i hsd
          cases hc
          obtain ⟨a, rfl, ha⟩ := hr.one
          exact .value (ef_cvm hsat hs hd hsd he ha h)
        · cases hc
      · cases hc
    · cases hc
  | call c =>
    simp only [compOp, compCall] at hc
    split at hc
    · cases hc; exact absurd rfl (hn1 _)
    · cases hc; exact absurd rfl hn2
    · cases hc
    · rename_i b hcal
      have hexec : ∀ (s : Sem Value), (builtin b c.argTypes ty (c.args.map fun | .const _ => true | _ => false) (c.args.map ρ)) = (do pure (.value (← s))) →
          execOp ρ ⟨dst, .call c, ty, pos, after, guard⟩ = (do pure (.value (← s))) := by
        intro s hs
        simp only [execOp, resolve, hcal, invoke, pure_bind]
        exact hs
      split at hc
      · exfalso
        repeat' split at hc
        all_goals first | (exact qno hc rfl) | (cases hc; done)
      · exfalso
        split at hc
        · cases hc
        · exact qno hc rfl
      · exfalso
        split at hc
        · cases hc
        · exact qno hc rfl
      · rename_i t hat
        have main : ∀ (e t2 : TypeId) (x y : Operand) (d2 : TypeDesc) (s b : Nat) (z : AV), P.underlying t = some (.slice e) → c.argTypes[1]? = some t2 → c.args.toList = [x, y] → P.underlying t2 = some d2 → (∀ k, d2 ≠ .int k) →
            size? P e = some s → bytes? P e = some b → zero? P e = some z → z.cells.length = s → op = .app s b → os = c.args.toList → Ef G B w0 P m w (execOp ρ ⟨dst, .call c, ty, pos, after, guard⟩) K := by
          intro e t2 x y d2 s b z hu ht2 hxy hu2 hd2 hs hb hz hzl hop hos
          subst hop hos
          rw [hxy] at hr
          obtain ⟨a1, a2, rfl, h1, h2⟩ := hr.two
          rw [hexec _ rfl]
          have hargs : c.args.map ρ = #[ρ x, ρ y] := by rw [← Array.toList_inj]; simp [hxy]
          rw [hargs]
          have hl : ∀ (u v : Value), (Builtin.append_ c.argTypes ty #[u, v]).run P w = (Builtin.append_ #[t, t2] ty #[u, v]).run P w := by
            intro u v; simp [Builtin.append_, hat, ht2]
          refine .value ?_
          rw [hl]
          exact ef_app hsat hu hu2 hd2 hs hb hz hzl h1 h2 h
        split at hc
        · rename_i e t2 x y hu ht2 hxy
          split at hc
          · rename_i e2 s b z hu2 hs hb hz
            split at hc
            · rename_i hzl; cases hc; exact main e t2 x y _ s b z hu ht2 hxy hu2 (by simp) hs hb hz hzl rfl rfl
            · cases hc
          · rename_i s b z hu2 hs hb hz
            split at hc
            · rename_i hzl; cases hc; exact main e t2 x y _ s b z hu ht2 hxy hu2 (by simp) hs hb hz hzl rfl rfl
            · cases hc
          · cases hc
        · cases hc
      · rename_i t hat
        split at hc
        · rename_i e x y hu hxy
          cases hs : size? P e with
          | none => rw [hs] at hc; cases hc
          | some s =>
            rw [hs] at hc
            simp only [Option.bind_some] at hc
            split at hc
            · rename_i h0
              cases hc
              rw [hxy] at hr
              obtain ⟨a1, a2, rfl, h1, h2⟩ := hr.two
              rw [hexec _ rfl]
              have hargs : c.args.map ρ = #[ρ x, ρ y] := by rw [← Array.toList_inj]; simp [hxy]
              rw [hargs]
              have hl : ∀ (u v : Value), (Builtin.copy_ c.argTypes ty #[u, v]).run P w = (Builtin.copy_ #[t, t] ty #[u, v]).run P w := by
                intro u v; simp [Builtin.copy_, hat]
              refine .value ?_
              rw [hl]
              exact ef_cpy hsat hu hs h0 h1 h2 h
            · cases hc
        · cases hc
      · cases hc
  | binOp b t x y yt =>
    exfalso
    simp only [compOp] at hc
    split at hc
    · split at hc
      · cases hks : (Array.toList _).mapM (fun (f : Field) => kindT P f.type) with
        | none => rw [hks] at hc; cases hc
        | some ks =>
          rw [hks] at hc
          simp only [Option.bind_some] at hc
          split at hc
          · exact qno hc rfl
          · cases hc
      · cases hk : eqKind _ with
        | none => rw [hk] at hc; cases hc
        | some kd => rw [hk] at hc; exact qno hc rfl
      · cases hc
    · split at hc
      · cases hks : (Array.toList _).mapM (fun (f : Field) => kindT P f.type) with
        | none => rw [hks] at hc; cases hc
        | some ks =>
          rw [hks] at hc
          simp only [Option.bind_some] at hc
          split at hc
          · exact qno hc rfl
          · cases hc
      · cases hk : eqKind _ with
        | none => rw [hk] at hc; cases hc
        | some kd => rw [hk] at hc; exact qno hc rfl
      · cases hc
    · exact qno hc rfl
  | move x => exact (qno hc rfl).elim
  | assign x => exact (qno hc rfl).elim
  | pick c a b => exact (qno hc rfl).elim
  | nilCheck x => exact (qno hc rfl).elim
  | extract x i => exact (qno hc rfl).elim
  | unOp u t x => exact (qno hc rfl).elim
  | makeFunc f a b => exact (qno hc rfl).elim
  | load t a =>
    exfalso
    simp only [compOp] at hc
    cases hg : isAgg? P t with
    | none => rw [hg] at hc; cases hc
    | some g =>
      cases hs : size? P t with
      | none => simp [hg, hs] at hc
      | some s => simp only [hg, hs, Option.bind_some, Option.map_some] at hc; exact qno hc rfl
  | makeInterface t x =>
    exfalso
    simp only [compOp] at hc
    split at hc
    · cases hc
    · cases hc
    · exact qno hc rfl
  | slice t x lo hi mx =>
    exfalso
    cases mx with
    | some _ => simp [compOp] at hc
    | none =>
      simp only [compOp] at hc
      split at hc
      · exact qno hc rfl
      · cases hs : size? P _ with
        | none => rw [hs] at hc; cases hc
        | some s =>
          rw [hs] at hc; simp only [Option.bind_some] at hc
          split at hc
          · exact qno hc rfl
          · cases hc
      · cases hc
  | fieldAddr t x i =>
    exfalso
    simp only [compOp] at hc
    split at hc
    · rename_i fs hu
      cases hf : fs[i]? with
      | none => rw [hf] at hc; cases hc
      | some f =>
        cases hs : size? P f.type with
        | none => simp [hf, hs] at hc
        | some s =>
          simp only [hf, hs, Option.bind_some] at hc
          split at hc
          · exact qno hc rfl
          · cases hc
    · cases hc
  | field t x i =>
    exfalso
    simp only [compOp] at hc
    split at hc
    · rename_i fs hu
      cases hf : fs[i]? with
      | none => rw [hf] at hc; cases hc
      | some f =>
        cases hg : isAgg? P f.type with
        | none => simp [hf, hg] at hc
        | some g =>
          cases hs : size? P f.type with
          | none => simp [hf, hg, hs] at hc
          | some s => simp only [hf, hg, hs, Option.bind_some, Option.map_some] at hc; exact qno hc rfl
    · cases hc
  | indexAddr t x i =>
    exfalso
    simp only [compOp] at hc
    split at hc
    · cases hs : size? P _ with
      | none => rw [hs] at hc; cases hc
      | some s =>
        rw [hs] at hc; simp only [Option.bind_some] at hc
        split at hc
        · exact qno hc rfl
        · cases hc
    · cases hs : size? P _ with
      | none => rw [hs] at hc; cases hc
      | some s =>
        rw [hs] at hc; simp only [Option.bind_some] at hc
        split at hc
        · exact qno hc rfl
        · cases hc
    · cases hc
  | index t x i =>
    exfalso
    simp only [compOp] at hc
    split at hc
    · exact qno hc rfl
    · rename_i n e hu
      cases hg : isAgg? P e with
      | none => simp [hg] at hc
      | some g =>
        cases hs : size? P e with
        | none => simp [hg, hs] at hc
        | some s => simp only [hg, hs, Option.bind_some, Option.map_some] at hc; exact qno hc rfl
    · cases hc
  | lookup t x i ok =>
    exfalso
    simp only [compOp] at hc
    split at hc
    · rename_i k e hu
      cases hk : kindT P k with
      | none => simp [hk] at hc
      | some kd =>
        cases hz : zero? P e with
        | none => simp [hk, hz] at hc
        | some z => simp only [hk, hz, Option.bind_some, Option.map_some] at hc; exact qno hc rfl
    · cases hc
  | typeAssert x xt t ok =>
    exfalso
    simp only [compOp] at hc
    split at hc
    · cases hc
    · split at hc
      · cases hz : zero? P t with
        | none => rw [hz] at hc; cases hc
        | some z => rw [hz] at hc; exact qno hc rfl
      · exact qno hc rfl
    · cases hc
  | build t parts =>
    exfalso
    simp only [compOp] at hc
    split at hc
    · cases hz : zero? P t with
      | none => rw [hz] at hc; cases hc
      | some z =>
        rw [hz] at hc
        simp only [Option.bind_some] at hc
        rw [Option.bind_eq_some_iff] at hc
        obtain ⟨pl, _, hc⟩ := hc
        split at hc
        · split at hc
          · exact qno hc rfl
          · cases hc
        · cases hc
    · rename_i n e hu
      cases hz : zero? P t with
      | none => rw [hz] at hc; cases hc
      | some z =>
        cases hs : size? P e with
        | none => simp [hz, hs] at hc
        | some s =>
          simp only [hz, hs, Option.bind_some] at hc
          split at hc
          · exact qno hc rfl
          · cases hc
    · cases hc
  | _ => simp [compOp] at hc

end
end Go.AL
