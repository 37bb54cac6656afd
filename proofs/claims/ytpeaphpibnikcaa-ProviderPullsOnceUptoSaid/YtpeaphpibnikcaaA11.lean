/- The abstract layer, part 11: literals of slices, make, append, copy. -/
import Derived.Test.YtpeaphpibnikcaaA10
namespace Go.AL
open Go.RowKit

section
variable {G : Nat → Option (List AV)} {B : Nat} {w0 w w' : World} {m m' : Im} {H H' : Heap} {P : Program}

theorem bytesAV_get (l : List UInt8) (i : Nat) : (bytesAV l)[i]? = (l[i]?).map byteAV := by simp [bytesAV]
theorem allSz_bytes (l : List UInt8) : AllSz 1 (bytesAV l) := by
  intro x hx
  obtain ⟨b, _, rfl⟩ := List.mem_map.1 hx
  rfl
theorem flat_one : ∀ {ys : List AV}, AllSz 1 ys → (∀ x ∈ ys, ∀ cs, x ≠ .agg cs) → flat ys = ys
  | [], _, _ => rfl
  | y :: ys, h, h2 => by
    have h1 := h y List.mem_cons_self
    simp only [flat, List.flatMap_cons]
    have e : y.cells = [y] := by
      have := h2 y List.mem_cons_self
      cases y <;> first | rfl | (exact absurd rfl (this _)) | (simp [AV.cells] at h1)
    rw [e]
    have := flat_one (ys := ys) (fun x hx => h x (List.mem_cons_of_mem _ hx)) (fun x hx => h2 x (List.mem_cons_of_mem _ hx))
    simp only [flat] at this
    rw [this]; rfl
theorem flat_bytes (l : List UInt8) : flat (bytesAV l) = bytesAV l :=
  flat_one (allSz_bytes l) (fun x hx cs e => by obtain ⟨b, _, rfl⟩ := List.mem_map.1 hx; cases e)

/-- What is handed to append or copy, in the model: its length, and its first cells. -/
theorem src_run (hsat : Sat G B w0 m H w) {sz : Nat} {x : AV} {c : Value} {ys : List AV} (hx : Rel m x c) (h0 : 0 < sz) (hs : Src sz x H ys) :
    (Builtin.lenOf c).run P w = .ok ys.length w ∧
    ∀ k, k ≤ ys.length → ∃ cs : Array Value, (Builtin.firstCells sz k c).run P w = .ok cs w ∧ RelL m (flat (ys.take k)) cs.toList ∧ ∀ u ∈ cs.toList, u.oneCell' = true := by
  obtain ⟨hsz, hm⟩ := hs
  have htk : ∀ k, k ≤ ys.length → (flat (ys.take k)).length = k * sz := fun k hk => by
    rw [flat_length (fun y hy => hsz y (List.mem_of_mem_take hy)), List.length_take, Nat.min_eq_left hk]
  have known : ∀ (a : Addr) (f : Nat → Value) (k : Nat), k ≤ ys.length → (∀ i, i < k * sz → w.cell? (a.add i) = some (f i)) → (∀ i, i < k * sz → (f i).oneCell' = true) →
      (∀ (i : Nat) (x : AV), (flat (ys.take k))[i]? = some x → Rel m x (f i)) →
      ∃ cs : Array Value, (loadCells a (k * sz)).run P w = .ok cs w ∧ RelL m (flat (ys.take k)) cs.toList ∧ ∀ u ∈ cs.toList, u.oneCell' = true := by
    intro a f k hk h1 h2 h3
    have hl := run_loadCells_known (P := P) (k * sz) a f w 0 #[] (fun j hj => by simpa using h1 j hj)
    simp only [Nat.zero_add, Array.empty_append] at hl
    refine ⟨_, hl, ⟨by simp [htk k hk], fun i x y hx hy => ?_⟩, fun u hu => ?_⟩
    · rw [Array.toList_ofFn, List.getElem?_ofFn] at hy
      split at hy
      · have e := Option.some.inj hy; subst e; exact h3 i x hx
      · cases hy
    · rw [Array.toList_ofFn, List.mem_ofFn] at hu
      obtain ⟨i, rfl⟩ := hu
      exact h2 i i.2
  cases x <;> simp only at hm
  case str s =>
    obtain ⟨rfl, rfl⟩ := hm
    cases hx with
    | str b =>
      refine ⟨by simp [Builtin.lenOf, bytesAV], fun k hk => ⟨_, rfl, ?_, ?_⟩⟩
      · rw [flat_one (fun y hy => allSz_bytes _ y (List.mem_of_mem_take hy)) (fun y hy cs e => by obtain ⟨_, _, rfl⟩ := List.mem_map.1 (List.mem_of_mem_take hy); cases e)]
        have hk' : k ≤ b.size := by simpa [bytesAV] using hk
        have e1 : ((b.extract 0 k).data.map fun (b : UInt8) => Value.int .u8 b.toNat).toList = (b.data.toList.take k).map fun b => Value.int .u8 (b.toNat : Int) := by
          rw [Array.toList_map, ByteArray.data_extract, Array.toList_extract, List.extract_eq_take_drop]; simp
        rw [e1]
        refine ⟨by simp [bytesAV], fun i x y hx hy => ?_⟩
        rw [bytesAV, ← List.map_take, List.getElem?_map] at hx
        rw [List.getElem?_map] at hy
        cases hb : (b.data.toList.take k)[i]? with
        | none => rw [hb] at hx; cases hx
        | some u => rw [hb] at hx hy; cases hx; cases hy; exact .int _ _
      · intro u hu
        rw [Array.toList_map] at hu
        obtain ⟨b, _, rfl⟩ := List.mem_map.1 hu
        rfl
  case sl xs t =>
    subst hm
    have hx' := hx
    cases hx with
    | slnil => exact ⟨by simp [Builtin.lenOf], fun k hk => ⟨#[], by simp [Builtin.firstCells], by simp at hk; subst hk; simpa [flat] using RelL.nil m, by simp⟩⟩
    | sl _ _ a len cap sz' f ht hl hlc hcm hs hz hc ho hr hk =>
      refine ⟨by simp [Builtin.lenOf, hl], fun k hk => ?_⟩
      simp only [Builtin.firstCells]
      by_cases hk0 : k = 0
      · subst hk0
        exact ⟨#[], by simp [loadCells, loadCellsFrom], by simpa [flat] using RelL.nil m, by simp⟩
      · have hne : ys ≠ [] := by intro e; subst e; simp at hk; omega
        have hpos := List.length_pos_iff.2 hne
        have hzz : sz' = sz := by rw [← hz 0 ys[0] (List.getElem?_eq_getElem hpos)]; exact hsz _ (List.getElem_mem hpos)
        subst hzz
        have hdiv : ∀ i, i < k * sz' → i / sz' < k ∧ i % sz' < sz' := fun i hi => ⟨(Nat.div_lt_iff_lt_mul h0).2 hi, Nat.mod_lt _ h0⟩
        refine known a (fun i => f (i / sz') (i % sz')) k hk (fun i hi => ?_) (fun i hi => ho _ _ (by have := (hdiv i hi).1; omega) (hdiv i hi).2) (fun i x hx => ?_)
        · have h1 := hc (i / sz') (i % sz') (by have := (hdiv i hi).1; omega) (hdiv i hi).2
          rw [addr_add _ _ (hs hne)]
          have h2 := hsat.cell _ _ _ h1
          rwa [Nat.add_assoc, Nat.div_add_mod' i sz'] at h2
        · have hi : i < k * sz' := by rw [← htk k hk]; exact (List.getElem?_eq_some_iff.1 hx).1
          obtain ⟨d1, d2⟩ := hdiv i hi
          have hlt : i / sz' < ys.length := by omega
          have e1 : (ys.take k)[i / sz']? = some ys[i / sz'] := by rw [List.getElem?_take, if_pos d1, List.getElem?_eq_getElem hlt]
          have hcl : ys[i / sz'].cells.length = sz' := hsz _ (List.getElem_mem hlt)
          have e2 : ys[i / sz'].cells[i % sz']? = some ys[i / sz'].cells[i % sz'] := List.getElem?_eq_getElem (by omega)
          have e3 := flat_get (sz := sz') (fun y hy => hsz y (List.mem_of_mem_take hy)) _ _ _ _ e1 e2
          rw [Nat.div_add_mod' i sz'] at e3
          rw [e3] at hx; cases hx
          exact hr _ _ _ _ (List.getElem?_eq_getElem hlt) e2
  case msl id off n s =>
    obtain ⟨rfl, hn, vs, hm, hle, hfl⟩ := hm
    obtain ⟨_, _, cs, e, fr, hblk, hlen, hfr, hno, hcell⟩ := hsat.obj _ _ hm
    have htakecells : ∀ k, k ≤ n → flat (ys.take k) = (vs.drop off).take (k * s) := by
      intro k hk
      have e1 : flat ys = flat (ys.take k) ++ flat (ys.drop k) := by
        simp only [flat]; rw [← List.flatMap_append, List.take_append_drop]
      have e2 : (flat ys).take (k * s) = flat (ys.take k) := by
        rw [e1, List.take_left' (htk k (by omega))]
      rw [← e2, hfl, List.take_take]
      congr 1
      exact Nat.min_eq_left (Nat.mul_le_mul_right _ hk)
    have main : ∀ cap k, k ≤ ys.length → ∃ cs : Array Value, (Builtin.firstCells s k (.slice (some ⟨id, off, none⟩) n cap)).run P w = .ok cs w ∧ RelL m (flat (ys.take k)) cs.toList ∧ ∀ u ∈ cs.toList, u.oneCell' = true := by
      intro cap k hk
      simp only [Builtin.firstCells]
      have hks : k * s ≤ n * s := Nat.mul_le_mul_right _ (by omega)
      refine known _ (fun i => (w.cell? ⟨id, off + i, none⟩).getD default) k hk (fun i hi => ?_) (fun i hi => ?_) (fun i x hx => ?_)
      · obtain ⟨u, hu, _, _⟩ := hcell (off + i) vs[off + i] (List.getElem?_eq_getElem (by omega))
        rw [addr_add _ _ rfl]; simp [World.cell?, hblk, hu]
      · obtain ⟨u, hu, _, h1⟩ := hcell (off + i) vs[off + i] (List.getElem?_eq_getElem (by omega))
        simpa [World.cell?, hblk, hu] using h1
      · rw [htakecells k (by omega), List.getElem?_take] at hx
        split at hx
        · rw [List.getElem?_drop] at hx
          obtain ⟨u, hu, hr, _⟩ := hcell (off + i) x hx
          simpa [World.cell?, hblk, hu] using hr
        · cases hx
    cases hx with
    | msl _ _ _ cap => exact ⟨by simp [Builtin.lenOf, hn], fun k hk => main cap k hk⟩
    | msl0 _ _ _ a =>
      refine ⟨by simp [Builtin.lenOf, hn], fun k hk => ?_⟩
      have : k = 0 := by omega
      subst this
      exact ⟨#[], by simp [Builtin.firstCells, loadCells, loadCellsFrom], by simpa [flat] using RelL.nil m, by simp⟩

theorem ef_cpy (hsat : Sat G B w0 m H w) {ta tb ty e : TypeId} {sz : Nat} {d x : AV} {cd cx : Value} {K : AV → Heap → Prop} (hu : P.underlying ta = some (.slice e)) (hs : size? P e = some sz) (h0 : 0 < sz)
    (hd : Rel m d cd) (hx : Rel m x cx) (h : ef (.cpy sz) [d, x] H K) :
    ∃ w' m' v cv H', (Builtin.copy_ #[ta, tb] ty #[cd, cx]).run P w = .ok cv w' ∧ m.le m' ∧ Sat G B w0 m' H' w' ∧ Rel m' v cv ∧ K v H' := by
  have hz := size?_run hs
  obtain ⟨ys, hsrc, hm⟩ := h
  obtain ⟨hlen, hcells⟩ := src_run (P := P) hsat hx h0 hsrc
  have hsz := hsrc.1
  cases d <;> try (exact hm.elim)
  case msl id off n s =>
    obtain ⟨rfl, vs, H', hle, hr, hK⟩ := hm
    obtain ⟨cs, hc1, hc2, hc3⟩ := hcells (Nat.min ys.length n) (Nat.min_le_left _ _)
    have hmin : ys.take (Nat.min ys.length n) = ys.take n := by
      rw [show Nat.min ys.length n = min ys.length n from rfl]
      rcases Nat.le_total ys.length n with h | h
      · rw [Nat.min_eq_left h, List.take_of_length_le (Nat.le_refl _), List.take_of_length_le h]
      · rw [Nat.min_eq_right h]
    have hfl : (flat (ys.take n)).length = min n ys.length * s := by rw [flat_length (fun y hy => hsz y (List.mem_of_mem_take hy)), List.length_take]
    have hle2 : min n ys.length * s ≤ n * s := Nat.mul_le_mul_right _ (Nat.min_le_left _ _)
    rw [hmin] at hc2
    have go : ∃ w', (storeCells ⟨id, off, none⟩ cs.toList).run P w = .ok () w' ∧ Sat G B w0 m H' w' := hsat.store hr hc2 hc3 (by omega)
    obtain ⟨w', r1, r2⟩ := go
    have fin : ∀ (a : Addr) (cap : Nat), (storeCells a cs.toList).run P w = .ok () w' → (Builtin.copy_ #[ta, tb] ty #[.slice (some a) n cap, cx]).run P w = .ok (.int .i64 (Nat.min ys.length n : Nat)) w' := by
      intro a cap hst
      simp [Builtin.copy_, run_underlying hu, hlen, hz, hc1, hst, goInt]
    cases hd with
    | msl _ _ _ cap => exact ⟨w', m, _, _, H', fin _ cap r1, .refl m, r2, .int _ _, hK⟩
    | msl0 _ _ _ a =>
      have hcs : cs.toList = [] := by
        have := hc2.1
        rw [hfl] at this
        have e0 : min 0 ys.length = 0 := Nat.zero_min _
        rw [e0] at this
        exact List.eq_nil_of_length_eq_zero (by omega)
      rw [hcs] at r1
      simp [storeCells] at r1
      subst r1
      exact ⟨w, m, _, _, H', fin a 0 (by rw [hcs]; simp [storeCells]), .refl m, r2, .int _ _, hK⟩
  case sl xs t =>
    cases xs with
    | cons _ _ => exact hm.elim
    | nil =>
      have hm : K (.int .i64 0) H := hm
      obtain ⟨cs, hc1, hc2, hc3⟩ := hcells 0 (Nat.zero_le _)
      have hcs : cs = #[] := by have := hc2.1; rw [List.take_zero] at this; exact Array.eq_empty_of_size_eq_zero (by simpa [flat] using this.symm)
      subst hcs
      cases hd with
      | slnil => exact ⟨w, m, .int .i64 0, .int .i64 0, H, by simp [Builtin.copy_, run_underlying hu, hlen, hz, hc1, goInt], .refl m, hsat, .int _ _, hm⟩
      | sl _ _ a len cap _ _ _ hl =>
        have hl0 : len = 0 := hl
        subst hl0
        exact ⟨w, m, .int .i64 0, .int .i64 0, H, by simp [Builtin.copy_, run_underlying hu, hlen, hz, hc1, goInt, storeCells], .refl m, hsat, .int _ _, hm⟩

theorem info_of {e : TypeId} {sz b : Nat} {z : AV} (hs : size? P e = some sz) (hb : bytes? P e = some b) (hz : zero? P e = some z) :
    ∃ (i : TypeInfo) (c : Value), P.info? e = some i ∧ i.size = sz ∧ i.bytes = b ∧ i.zero = some c ∧ ∀ m, Rel m z c := by
  unfold size? at hs; unfold bytes? at hb; unfold zero? at hz
  cases hi : P.info? e with
  | none => rw [hi] at hs; cases hs
  | some i =>
    rw [hi] at hs hb hz
    simp only [Option.map_some, Option.some.injEq, Option.bind_some] at hs hb hz
    cases hc : i.zero with
    | none => rw [hc] at hz; cases hz
    | some c => rw [hc] at hz; exact ⟨i, c, rfl, hs, hb, hc, fun m => toAV_rel hz⟩

theorem ef_mksl (hsat : Sat G B w0 m H w) {t e : TypeId} {sz by_ : Nat} {z : AV} {k k' : IntKind} {n c : Int} {K : AV → Heap → Prop} (hu : P.underlying t = some (.slice e)) (hs : size? P e = some sz) (hb : bytes? P e = some by_) (hz : zero? P e = some z)
    (hzl : z.cells.length = sz) (h0 : 0 < sz) (h : ef (.mksl sz by_ z.cells) [.int k n, .int k' c] H K) :
    ∃ w' m' v cv H', (Instr.makeSlice t (.int k n) (.int k' c)).run P w = .ok cv w' ∧ m.le m' ∧ Sat G B w0 m' H' w' ∧ Rel m' v cv ∧ K v H' := by
  obtain ⟨hn0, hnc, hcm, hbc, hK⟩ := h
  obtain ⟨inf, cz, hinf, his, hib, hcz, hrz⟩ := info_of hs hb hz
  obtain ⟨g1, g2, g3⟩ := (hrz m).cells_of (by omega)
  simp only [maxLen] at hcm
  let cs : Array Value := madeCells cz.cells (c.toNat * sz)
  have hget : ∀ i, i < c.toNat * sz → cs[i]? = some cz.cells[i % cz.cells.size]! := by
    intro i hi
    simp only [cs, madeCells, Array.getElem?_map, Array.getElem?_range, hi, if_true, Option.map_some]
  have hrep : ∀ (q i : Nat) (x : AV), ((List.replicate q z.cells).flatten)[i]? = some x → i < q * sz ∧ z.cells[i % sz]? = some x := by
    intro q
    induction q with
    | zero => intro i x h; simp at h
    | succ q ih =>
      intro i x h
      rw [List.replicate_succ, List.flatten_cons] at h
      rcases Nat.lt_or_ge i sz with hlt | hge
      · rw [List.getElem?_append_left (by omega)] at h
        exact ⟨by rw [Nat.add_mul]; omega, by rw [Nat.mod_eq_of_lt hlt]; exact h⟩
      · rw [List.getElem?_append_right (by omega), hzl] at h
        obtain ⟨h1, h2⟩ := ih _ _ h
        refine ⟨by rw [Nat.add_mul]; omega, ?_⟩
        rw [Nat.mod_eq_sub_mod hge]; exact h2
  have hrl : ∀ q : Nat, ((List.replicate q z.cells).flatten).length = q * sz := by
    intro q
    induction q with
    | zero => simp
    | succ q ih => rw [List.replicate_succ, List.flatten_cons, List.length_append, ih, hzl, Nat.add_mul]; omega
  have hnew := hsat.newCells (vs := (List.replicate n.toNat z.cells).flatten) (cs := cs) e (by
      rw [hrl]
      rw [size_madeCells]
      exact Nat.mul_le_mul_right sz (show n.toNat ≤ c.toNat by omega)) (fun i x hx => by
    obtain ⟨h1, h2⟩ := hrep _ _ _ hx
    have hlt : i < c.toNat * sz := Nat.lt_of_lt_of_le h1 (Nat.mul_le_mul_right _ (by omega))
    have hmod : i % cz.cells.size < cz.cells.size := Nat.mod_lt _ (by omega)
    have e1 : cz.cells[i % cz.cells.size]? = some cz.cells[i % cz.cells.size]! := by rw [getElem!_pos cz.cells _ hmod, Array.getElem?_eq_getElem hmod]
    have e2 : cz.cells.size = sz := by omega
    refine ⟨_, hget i hlt, ?_, g3 _ _ e1⟩
    exact g2 _ _ _ (by rw [e2]; exact h2) e1)
  refine ⟨_, _, _, .slice (some ⟨w.heap.size, 0, none⟩) n.toNat c.toNat, _, ?_, le_addSize hsat _, hnew, ?_, hK _ hsat.fresh⟩
  · have hr := run_make (P := P) w t e inf cz hu hinf hcz k k' n c hn0 hnc (by rw [hib]; exact hbc) (by omega)
    rw [his] at hr
    exact hr
  · refine .msl _ 0 n.toNat c.toNat sz _ (by omega) (by simp only [maxLen]; omega) (by simp [Im.addSize]; rfl) ?_
    rw [Nat.zero_add, size_madeCells]; exact Nat.le_refl _

end
end Go.AL
