/- The abstract layer, part 12: append, literals of slices, strings as bytes. -/
import Derived.Test.YtpeaphpibnikcaaA11
namespace Go.AL
open Go.RowKit

section
variable {G : Nat → Option (List AV)} {B : Nat} {w0 w w' : World} {m m' : Im} {H H' : Heap} {P : Program}

theorem run_app_fits {t t2 ty e : TypeId} {sz : Nat} {d2 : TypeDesc} (hu : P.underlying t = some (.slice e)) (hu2 : P.underlying t2 = some d2) (hd2 : ∀ k, d2 ≠ .int k) (hs : size? P e = some sz)
    {base : Option Addr} {sLen sCap n : Nat} {x : Value} {news : Array Value} (hl : (Builtin.lenOf x).run P w = .ok n w) (hf : sLen + n ≤ sCap) (hn : (Builtin.firstCells sz n x).run P w = .ok news w)
    (hst : (match base with | some a => (storeCells (a.add (sLen * sz)) news.toList).run P w | none => .ok () w) = .ok () w') :
    (Builtin.append_ #[t, t2] ty #[.slice base sLen sCap, x]).run P w = .ok (.slice base (sLen + n) sCap) w' := by
  have hz := size?_run hs
  cases base with
  | none => simp only [Result.ok.injEq, true_and] at hst; subst hst; simp [Builtin.append_, run_underlying hu, run_underlying hu2, hz, hl, hf, hn]
  | some a => simp [Builtin.append_, run_underlying hu, run_underlying hu2, hz, hl, hf, hn, hst]

theorem run_app_grow {t t2 ty e : TypeId} {sz by_ : Nat} {d2 : TypeDesc} {i : TypeInfo} {cz : Value} (hu : P.underlying t = some (.slice e)) (hu2 : P.underlying t2 = some d2) (hd2 : ∀ k, d2 ≠ .int k)
    (hi : P.info? e = some i) (his : i.size = sz) (hib : i.bytes = by_) (hiz : i.zero = some cz)
    {base : Option Addr} {sLen sCap n : Nat} {x : Value} {olds news : Array Value} (hl : (Builtin.lenOf x).run P w = .ok n w) (hf : sCap < sLen + n) (h63 : sLen + n ≤ maxLen) (hb : (sLen + n) * by_ ≤ 140737488355328)
    (ho : (Builtin.firstCells sz sLen (.slice base sLen sCap)).run P w.drew = .ok olds w.drew) (hn : (Builtin.firstCells sz n x).run P w.drew = .ok news w.drew) :
    (Builtin.append_ #[t, t2] ty #[.slice base sLen sCap, x]).run P w = .ok (.slice (some ⟨w.heap.size, 0, none⟩) (sLen + n) (grownCap w (sLen + n) sCap e))
      (w.drew.alloc (.cells (olds ++ news ++ Builtin.zeroCells cz.cells (grownCap w (sLen + n) sCap e - (sLen + n))) e)) := by
  subst his hib
  have hfit := growslice_fits hf hb
  simp only [maxLen] at h63
  have hnf : ¬ (sLen + n ≤ sCap) := by omega
  have h63' : ¬ (9223372036854775807 < ((sLen : Int) + (n : Int))) := by omega
  have h48' : ¬ (281474976710656 < Builtin.nextslicecap (sLen + n) sCap * i.bytes) := by omega
  simp [Builtin.append_, run_underlying hu, run_underlying hu2, sizeOf, typeInfo, zeroValue, hi, hiz, hl, hnf, h63', h48', Question.forced, ho, hn, newRow, grownCap]

theorem Rpl.refl {p : Nat × AObj} (h : p ∈ H) : Rpl H p p H := by
  induction H with
  | nil => cases h
  | cons q H ih =>
    rcases List.mem_cons.1 h with rfl | h
    · exact .here _ _ _
    · exact .there _ _ _ _ _ (ih h)

theorem Rpl.ex {p : Nat × AObj} (q : Nat × AObj) (h : p ∈ H) : ∃ H', Rpl H p q H' := by
  induction H with
  | nil => cases h
  | cons x H ih =>
    rcases List.mem_cons.1 h with rfl | h
    · exact ⟨_, .here _ _ _⟩
    · obtain ⟨H', h'⟩ := ih h; exact ⟨_, .there _ _ _ _ _ h'⟩

/-- A new block of cells in the place of an entry of the heap, or beside all. -/
theorem Sat.newCells' (hsat : Sat G B w0 m H w) {vs : List AV} {cs : Array Value} (e : TypeId) (hl : vs.length ≤ cs.size) (hr : ∀ (i : Nat) (x : AV), vs[i]? = some x → ∃ c : Value, cs[i]? = some c ∧ Rel m x c ∧ c.oneCell' = true)
    (hH : ∀ x ∈ H', x = (w.heap.size, .cells vs) ∨ x ∈ H) (hnd : (H'.map Prod.fst).Nodup) : Sat G B w0 (m.addSize w.heap.size cs.size) H' (w.alloc (.cells cs e)) := by
  have h := hsat.newCells e hl hr
  refine ⟨h.below, h.base, h.cell, h.size, hnd, fun id o hm => ?_, h.glob⟩
  rcases hH _ hm with h1 | h1
  · exact h.obj id o (by rw [h1]; exact List.mem_cons_self)
  · exact h.obj id o (List.mem_cons_of_mem _ h1)

theorem Sat.newRow' (hsat : Sat G B w0 m H w) {n : Nat} {cs : Array Value} (e : TypeId) (hle : n ≤ cs.size) (hH : ∀ x ∈ H', x = (w.heap.size, .spare n) ∨ x ∈ H) (hnd : (H'.map Prod.fst).Nodup) :
    ∃ m', m.le m' ∧ Sat G B w0 m' H' (w.alloc (.cells cs e)) ∧ (∀ i, i < n → m'.cell w.heap.size i = cs[i]?) ∧ m'.size w.heap.size = some cs.size := by
  obtain ⟨m', h1, h, h2, h3⟩ := hsat.newRow e hle
  refine ⟨m', h1, ⟨h.below, h.base, h.cell, h.size, hnd, fun id o hm => ?_, h.glob⟩, h2, h3⟩
  rcases hH _ hm with h1 | h1
  · exact h.obj id o (by rw [h1]; exact List.mem_cons_self)
  · exact h.obj id o (List.mem_cons_of_mem _ h1)

theorem RelL.one_get {xs : List AV} {cs : List Value} (h : RelL m xs cs) (h1 : ∀ u ∈ cs, u.oneCell' = true) (i : Nat) {x : AV} (hx : xs[i]? = some x) : ∃ c : Value, cs[i]? = some c ∧ Rel m x c ∧ c.oneCell' = true := by
  obtain ⟨y, hy, hr⟩ := h.get i hx
  exact ⟨y, hy, hr, h1 y (List.mem_of_getElem? hy)⟩

theorem flat_append (xs ys : List AV) : flat (xs ++ ys) = flat xs ++ flat ys := by simp [flat]
theorem allSz_append {sz : Nat} {xs ys : List AV} (h : AllSz sz xs) (k : AllSz sz ys) : AllSz sz (xs ++ ys) := by
  intro x hx
  rcases List.mem_append.1 hx with h1 | h1
  · exact h x h1
  · exact k x h1

/-- A row just made of cells that are known. -/
theorem rel_newrow {ys : List AV} {sz id cap : Nat} {cs : List Value} {blk : Array Value} (hs : AllSz sz ys) (hlc : ys.length ≤ cap) (hcm : cap ≤ maxLen) (hr : RelL m (flat ys) cs) (h1 : ∀ u ∈ cs, u.oneCell' = true)
    (hblk : ∀ i, i < ys.length * sz → blk[i]? = cs[i]?) (hle : m.le m') (hc : ∀ i, i < ys.length * sz → m'.cell id i = blk[i]?) (hsz : m'.size id = some blk.size) (hcap : cap * sz ≤ blk.size) :
    Rel m' (.sl ys (.at id (ys.length * sz) sz)) (.slice (some ⟨id, 0, none⟩) ys.length cap) := by
  have hfl := flat_length hs
  refine rel_sl (g := fun i => (cs[i]?).getD default) (by simp) hs hlc hcm (fun i hi => ?_) (fun i hi => ?_) (fun i x hx => ?_) (fun b e s h => ?_)
  · have hlt : i < cs.length := by rw [← hr.1]; omega
    rw [Nat.zero_add, hc i hi, hblk i hi, List.getElem?_eq_getElem hlt]; rfl
  · have hlt : i < cs.length := by rw [← hr.1]; omega
    rw [List.getElem?_eq_getElem hlt]; exact h1 _ (List.getElem_mem hlt)
  · obtain ⟨y, hy, hrr⟩ := hr.get i hx
    rw [hy]; exact hrr.mono hle
  · cases h
    exact ⟨rfl, by omega, rfl, _, hsz, by omega⟩

/-- Cells of the spare place of a block written: the block's first cells never turn again as far as they are written now. -/
theorem Sat.useSpare (hsat : Sat G B w0 m H w) {b e : Nat} {l : List Value} (hr : Rpl H (b, .spare e) (b, .spare (e + l.length)) H') (h1 : ∀ u ∈ l, u.oneCell' = true) {n : Nat} (hn : m.size b = some n) (hle : e + l.length ≤ n) :
    ∃ w' m', (storeCells ⟨b, e, none⟩ l).run P w = .ok () w' ∧ m.le m' ∧ Sat G B w0 m' H' w' ∧ (∀ i, i < l.length → m'.cell b (e + i) = l[i]?) := by
  obtain ⟨hB, hid, cs, el, fr, hb, hfr, hno⟩ := hsat.obj _ _ hr.src
  obtain ⟨cs0, e0, fr0, g1, g2⟩ := hsat.size b n hn
  rw [hb] at g1; cases g1
  obtain ⟨w', cs', r1, r2, r3, r4, r5, r6, r7, r8, r9⟩ := run_storeAll (P := P) l e 0 cs w hb (fun o h1 ho => nofr hb hfr o ho) (by omega) h1
  have hle1 : m.le (m.addCells b (fun o => if e ≤ o then l[o - e]? else none)) := by
    refine ⟨fun b' o v h => ?_, fun _ _ h => h⟩
    simp only [Im.addCells]
    split
    · rename_i hbb
      subst hbb
      split
      · rename_i u hu
        split at hu
        · rename_i ho; rw [hno o ho] at h; cases h
        · cases hu
      · exact h
    · exact h
  refine ⟨w', m.addCells b (fun o => if e ≤ o then l[o - e]? else none), r1, hle1,
    hsat.turn (below_of hB r5 r6 r7 r8 r9) hle1 b (fun k hk _ => r5 k hk) hB (by omega) (fun b' o hb' => by simp [Im.addCells, hb']) (fun o v h => ?_) (fun _ _ => rfl) (fun k h => ?_) (fun j o h => ?_) (hr.nodup hsat.nodup (.inl rfl)), fun i hi => ?_⟩
  · simp only [Im.addCells, if_true] at h
    split at h
    · rename_i u hu
      cases h
      split at hu
      · rename_i ho
        have hlt := (List.getElem?_eq_some_iff.1 hu).1
        simp only [World.cell?, r2, Option.isSome_none, Bool.false_eq_true, if_false]
        rw [r4 o, if_pos (by omega)]; simpa using hu
      · cases hu
    · rename_i hu
      have h2 := hsat.cell b o v h
      simp only [World.cell?, hb, Option.isSome_none, Bool.false_eq_true, if_false] at h2
      simp only [World.cell?, r2, Option.isSome_none, Bool.false_eq_true, if_false]
      have : ¬ (e + 0 ≤ o ∧ o < e + 0 + l.length) := by
        intro ⟨c1, c2⟩
        rw [hno o (by omega)] at h; cases h
      rw [r4 o, if_neg this]; exact h2
  · obtain ⟨cs1, e1, fr1, q1, q2⟩ := hsat.size b k h
    rw [hb] at q1; cases q1
    exact ⟨cs', el, fr, r2, by omega⟩
  · rcases hr.mem hsat.nodup _ h with h | ⟨h1, h2⟩
    · cases h
      refine .inl ⟨rfl, cs', el, fr, r2, by rw [r3]; exact hfr, fun o ho => ?_⟩
      simp only [Im.addCells, if_true]
      rw [if_pos (by omega), List.getElem?_eq_none (by omega)]
      exact hno o (by omega)
    · exact .inr ⟨h2, h1⟩
  · simp only [Im.addCells, if_true]
    rw [if_pos (by omega), show e + i - e = i by omega, List.getElem?_eq_getElem hi]

theorem splice_end (vs xs : List AV) : splice vs vs.length xs = vs ++ xs := by simp [splice]

/-- Cells behind the known cells of an object of one's own written. -/
theorem Sat.grow (hsat : Sat G B w0 m H w) {id : Nat} {vs xs : List AV} {l : List Value} (hr : Rpl H (id, .cells vs) (id, .cells (vs ++ xs)) H') (hx : RelL m xs l) (h1 : ∀ u ∈ l, u.oneCell' = true)
    {n : Nat} (hn : m.size id = some n) (hle : vs.length + xs.length ≤ n) : ∃ w', (storeCells ⟨id, vs.length, none⟩ l).run P w = .ok () w' ∧ Sat G B w0 m H' w' := by
  obtain ⟨hB, hid, cs, e, fr, hb, hlen, hfr, hno, hcell⟩ := hsat.obj _ _ hr.src
  obtain ⟨cs0, e0, fr0, g1, g2⟩ := hsat.size id n hn
  rw [hb] at g1; cases g1
  obtain ⟨w', cs', r1, r2, r3, r4, r5, r6, r7, r8, r9⟩ := run_storeAll (P := P) l vs.length 0 cs w hb (fun o _ ho => nofr hb hfr o ho) (by rw [← hx.1]; omega) h1
  refine ⟨w', r1, hsat.turn (below_of hB r5 r6 r7 r8 r9) (.refl m) id (fun k hk _ => r5 k hk) hB (by omega) (fun _ _ _ => rfl) (fun o v h => by rw [hno o] at h; cases h) (fun _ _ => rfl) (fun k h => ?_) (fun j o h => ?_) (hr.nodup hsat.nodup (.inl rfl))⟩
  · obtain ⟨cs1, e1, fr1, q1, q2⟩ := hsat.size id k h
    rw [hb] at q1; cases q1
    exact ⟨cs', e, fr, r2, by omega⟩
  · rcases hr.mem hsat.nodup _ h with h | ⟨h1, h2⟩
    · cases h
      refine .inl ⟨rfl, cs', e, fr, r2, by rw [List.length_append]; omega, by rw [r3]; exact hfr, hno, fun i x hi => ?_⟩
      rw [r4 i]
      simp only [Nat.add_zero]
      rw [← hx.1]
      rw [List.getElem?_append] at hi
      split at hi
      · rename_i hc
        rw [if_neg (by omega)]
        exact hcell i x hi
      · rename_i hc
        have := (List.getElem?_eq_some_iff.1 hi).1
        rw [if_pos (by omega)]
        exact RelL.one_get hx ‹∀ u ∈ l, u.oneCell' = true› _ hi
    · exact .inr ⟨h2, h1⟩

theorem grown_le (w : World) (need old : Nat) (e : TypeId) (h : need ≤ maxLen) : need ≤ grownCap w need old e ∧ grownCap w need old e ≤ maxLen := ⟨grownCap_ge w need old e, grownCap_le_maxLen w need old e h⟩

theorem blk_get {olds news : Array Value} {z : Array Value} {k : Nat} {i : Nat} (hi : i < olds.size + news.size) : (olds ++ news ++ Builtin.zeroCells z k)[i]? = (olds.toList ++ news.toList)[i]? := by
  have : i < (olds ++ news).size := by simpa using hi
  rw [Array.getElem?_append_left this, ← Array.getElem?_toList]
  simp

theorem addSize_size (m : Im) (id n : Nat) : (m.addSize id n).size id = some n := by simp [Im.addSize]

theorem loadObj (hsat : Sat G B w0 m H w) {id off k : Nat} {vs : List AV} (hm : (id, AObj.cells vs) ∈ H) (hle : off + k ≤ vs.length) :
    ∃ cs : Array Value, (loadCells ⟨id, off, none⟩ k).run P w = .ok cs w ∧ RelL m ((vs.drop off).take k) cs.toList ∧ ∀ u ∈ cs.toList, u.oneCell' = true := by
  obtain ⟨_, _, cs, e, fr, hblk, hlen, hfr, hno, hcell⟩ := hsat.obj _ _ hm
  have hl := run_loadCells_known (P := P) k ⟨id, off, none⟩ (fun i => (w.cell? ⟨id, off + i, none⟩).getD default) w 0 #[] (fun j hj => by
    obtain ⟨u, hu, _, _⟩ := hcell (off + j) vs[off + j] (List.getElem?_eq_getElem (by omega))
    rw [addr_add _ _ rfl]; simp [World.cell?, hblk, hu])
  simp only [Nat.zero_add, Array.empty_append] at hl
  refine ⟨_, hl, ⟨by simp; omega, fun i x y hx hy => ?_⟩, fun u hu => ?_⟩
  · rw [Array.toList_ofFn, List.getElem?_ofFn] at hy
    split at hy
    · rename_i hi
      have e := Option.some.inj hy; subst e
      rw [List.getElem?_take, if_pos hi, List.getElem?_drop] at hx
      obtain ⟨u, hu, hr, _⟩ := hcell (off + i) x hx
      simpa [World.cell?, hblk, hu] using hr
    · cases hy
  · rw [Array.toList_ofFn, List.mem_ofFn] at hu
    obtain ⟨i, rfl⟩ := hu
    obtain ⟨u, hu, _, h1⟩ := hcell (off + i) vs[off + i.1] (List.getElem?_eq_getElem (by have := i.2; omega))
    simpa [World.cell?, hblk, hu] using h1

theorem ef_app (hsat : Sat G B w0 m H w) {t t2 ty e : TypeId} {sz by_ : Nat} {d2 : TypeDesc} {z s x : AV} {cs0 cx : Value} {K : AV → Heap → Prop} (hu : P.underlying t = some (.slice e)) (hu2 : P.underlying t2 = some d2) (hd2 : ∀ k, d2 ≠ .int k)
    (hs : size? P e = some sz) (hb : bytes? P e = some by_) (hz : zero? P e = some z) (hzl : z.cells.length = sz) (hrs : Rel m s cs0) (hrx : Rel m x cx) (h : ef (.app sz by_) [s, x] H K) :
    ∃ w' m' v cv H', (Builtin.append_ #[t, t2] ty #[cs0, cx]).run P w = .ok cv w' ∧ m.le m' ∧ Sat G B w0 m' H' w' ∧ Rel m' v cv ∧ K v H' := by
  obtain ⟨ys, hsrc, h0, hm⟩ := h
  obtain ⟨inf, cz, hinf, his, hib, hcz, hrz⟩ := info_of hs hb hz
  obtain ⟨g1, g2, g3⟩ := (hrz m).cells_of (by omega)
  obtain ⟨hlen, hcells⟩ := src_run (P := P) hsat hrx h0 hsrc
  obtain ⟨news, hn1, hn2, hn3⟩ := hcells ys.length (Nat.le_refl _)
  rw [List.take_of_length_le (Nat.le_refl _)] at hn2
  obtain ⟨_, hcellsD⟩ := src_run (P := P) hsat.drew hrx h0 hsrc
  obtain ⟨newsD, hd1, hd2', hd3⟩ := hcellsD ys.length (Nat.le_refl _)
  rw [List.take_of_length_le (Nat.le_refl _)] at hd2'
  have hysz := hsrc.1
  have hfy := flat_length hysz
  have hnl : news.size = ys.length * sz := by have := hn2.1; simp at this; omega
  have hnlD : newsD.size = ys.length * sz := by have := hd2'.1; simp at this; omega
  have hzsz : ∀ k, (Builtin.zeroCells cz.cells k).size = k * sz := fun k => by rw [size_zeroCells]; rw [← g1, hzl]
  cases s <;> try (exact hm.elim)
  case msl b off n s' =>
    cases off with
    | succ _ => exact hm.elim
    | zero =>
      obtain ⟨rfl, h63, hbytes, vs, hvl, hmem, hK⟩ := hm
      -- in a new block
      have growCase : ∀ (base : Option Addr) (cap : Nat) (olds : Array Value), cap < n + ys.length → (Builtin.firstCells s' n (.slice base n cap)).run P w.drew = .ok olds w.drew → RelL m vs olds.toList → (∀ u ∈ olds.toList, u.oneCell' = true) →
          ∃ w' m' v cv H', (Builtin.append_ #[t, t2] ty #[.slice base n cap, cx]).run P w = .ok cv w' ∧ m.le m' ∧ Sat G B w0 m' H' w' ∧ Rel m' v cv ∧ K v H' := by
        intro base cap olds hg ho hor ho1
        have hr := run_app_grow (ty := ty) hu hu2 hd2 hinf his hib hcz hlen hg h63 hbytes ho hd1
        obtain ⟨gc1, gc2⟩ := grown_le w (n + ys.length) cap e h63
        obtain ⟨H', hR⟩ := Rpl.ex (w.heap.size, AObj.cells (vs ++ flat ys)) hmem
        have hol : olds.size = n * s' := by have := hor.1; simp at this; omega
        have hsize : (olds ++ newsD ++ Builtin.zeroCells cz.cells (grownCap w (n + ys.length) cap e - (n + ys.length))).size = grownCap w (n + ys.length) cap e * s' := by
          simp only [Array.size_append, hol, hnlD, hzsz, ← Nat.add_mul]
          congr 1; omega
        have hge : (n + ys.length) * s' ≤ grownCap w (n + ys.length) cap e * s' := Nat.mul_le_mul_right _ gc1
        rw [Nat.add_mul] at hge
        have hS := hsat.drew.newCells' (H' := H') (vs := vs ++ flat ys) (cs := olds ++ newsD ++ Builtin.zeroCells cz.cells (grownCap w (n + ys.length) cap e - (n + ys.length))) e
          (by rw [hsize, List.length_append, hvl, hfy]; exact hge)
          (fun i x hi => by
            have hlt := (List.getElem?_eq_some_iff.1 hi).1
            rw [List.length_append, hvl, hfy] at hlt
            rw [blk_get (by omega)]
            exact RelL.one_get (hor.append hd2') (fun u hu => (List.mem_append.1 hu).elim (ho1 u) (hd3 u)) i hi)
          (fun x hx => (hR.mem hsat.nodup x hx).imp id And.left) (hR.nodup hsat.nodup (.inr hsat.fresh))
        refine ⟨_, _, _, _, H', hr, le_addSize hsat.drew _, hS, ?_, hK w.heap.size H' (.inr hsat.fresh) hR⟩
        exact .msl _ 0 _ _ s' _ gc1 gc2 (addSize_size _ _ _) (by rw [hsize]; omega)
      cases hrs with
      | msl _ _ _ cap _ N k1 k2 k3 k4 =>
        obtain ⟨_, _, cs, el, fr, hblk, hlen2, hfr, hno, hcell⟩ := hsat.obj _ _ hmem
        by_cases hf : n + ys.length ≤ cap
        · obtain ⟨H', hR⟩ := Rpl.ex (b, AObj.cells (vs ++ flat ys)) hmem
          have hcap : (n + ys.length) * s' ≤ cap * s' := Nat.mul_le_mul_right _ hf
          rw [Nat.add_mul] at hcap
          obtain ⟨w', r1, r2⟩ := hsat.grow (P := P) hR hn2 hn3 k3 (by rw [hvl, hfy]; omega)
          have hst : (storeCells ((⟨b, 0, none⟩ : Addr).add (n * s')) news.toList).run P w = .ok () w' := by
            rw [addr_add _ _ rfl, Nat.zero_add, ← hvl]; exact r1
          exact ⟨w', m, _, _, H', run_app_fits (base := some ⟨b, 0, none⟩) hu hu2 hd2 hs hlen hf hn1 hst, .refl m, r2, .msl b 0 (n + ys.length) cap s' N hf k2 k3 k4, hK b H' (.inl rfl) hR⟩
        · obtain ⟨olds, ho1, ho2, ho3⟩ := loadObj (P := P) hsat.drew hmem (off := 0) (k := n * s') (by omega)
          rw [List.drop_zero, List.take_of_length_le (by omega)] at ho2
          exact growCase _ cap olds (by omega) (by simpa [Builtin.firstCells] using ho1) ho2 ho3
      | msl0 _ _ _ a =>
        have hvs : vs = [] := List.eq_nil_of_length_eq_zero (by omega)
        subst hvs
        by_cases hy : ys = []
        · subst hy
          have hnn : news = #[] := Array.eq_empty_of_size_eq_zero (by simpa using hnl)
          subst hnn
          have hK' := hK b H (.inl rfl) (by simpa [flat] using Rpl.refl hmem)
          exact ⟨w, m, _, _, H, run_app_fits (base := some a) hu hu2 hd2 hs hlen (by simp) hn1 (by simp [storeCells]), .refl m, hsat, .msl0 _ _ _ _, hK'⟩
        · have hpos := List.length_pos_iff.2 hy
          exact growCase (some a) 0 #[] (by omega) (by simp [Builtin.firstCells, loadCells, loadCellsFrom]) (RelL.nil m) (by simp)
  case sl xs tk =>
    obtain ⟨hxsz, h63, hbytes, hm⟩ := hm
    have hfx := flat_length hxsz
    have hsz2 := allSz_append hxsz hysz
    -- in a new block
    have growCase : ∀ (base : Option Addr) (cap : Nat) (olds : Array Value) (H' : Heap), cap < xs.length + ys.length → (Builtin.firstCells sz xs.length (.slice base xs.length cap)).run P w.drew = .ok olds w.drew →
        RelL m (flat xs) olds.toList → (∀ u ∈ olds.toList, u.oneCell' = true) → (∀ x ∈ H', x = (w.heap.size, .spare ((xs ++ ys).length * sz)) ∨ x ∈ H) → (H'.map Prod.fst).Nodup →
        K (.sl (xs ++ ys) (.at w.heap.size ((xs ++ ys).length * sz) sz)) H' →
        ∃ w' m' v cv H', (Builtin.append_ #[t, t2] ty #[.slice base xs.length cap, cx]).run P w = .ok cv w' ∧ m.le m' ∧ Sat G B w0 m' H' w' ∧ Rel m' v cv ∧ K v H' := by
      intro base cap olds H' hg ho hor ho1 hH hnd hKK
      have hr := run_app_grow (ty := ty) hu hu2 hd2 hinf his hib hcz hlen hg h63 hbytes ho hd1
      obtain ⟨gc1, gc2⟩ := grown_le w (xs.length + ys.length) cap e h63
      have hol : olds.size = xs.length * sz := by have := hor.1; simp at this; omega
      have hsize : (olds ++ newsD ++ Builtin.zeroCells cz.cells (grownCap w (xs.length + ys.length) cap e - (xs.length + ys.length))).size = grownCap w (xs.length + ys.length) cap e * sz := by
        simp only [Array.size_append, hol, hnlD, hzsz, ← Nat.add_mul]
        congr 1; omega
      have hge : (xs.length + ys.length) * sz ≤ grownCap w (xs.length + ys.length) cap e * sz := Nat.mul_le_mul_right _ gc1
      have hadd : (xs.length + ys.length) * sz = olds.size + newsD.size := by rw [hol, hnlD, Nat.add_mul]
      obtain ⟨m', l1, l2, l3, l4⟩ := hsat.drew.newRow' (H' := H') (n := (xs ++ ys).length * sz) (cs := olds ++ newsD ++ Builtin.zeroCells cz.cells (grownCap w (xs.length + ys.length) cap e - (xs.length + ys.length))) e
        (by rw [hsize, List.length_append]; exact hge) hH hnd
      have hrel := rel_newrow (ys := xs ++ ys) (cs := olds.toList ++ newsD.toList) hsz2 (by rw [List.length_append]; exact gc1) gc2 (by rw [flat_append]; exact hor.append hd2')
        (fun u hu => (List.mem_append.1 hu).elim (ho1 u) (hd3 u)) (fun i hi => blk_get (by rw [← hadd, ← List.length_append]; exact hi)) l1 l3 l4 (by rw [hsize]; exact Nat.le_refl _)
      rw [List.length_append (as := xs)] at hrel
      exact ⟨_, m', _, _, H', hr, l1, l2, by rw [List.length_append]; exact hrel, hKK⟩
    cases tk with
    | no => exact hm.elim
    | nil =>
      obtain ⟨hK1, hK2⟩ := hm
      cases hrs with
      | sl _ _ _ _ _ _ _ ht => exact absurd rfl ht
      | slnil =>
        by_cases hy : ys = []
        · subst hy
          have hnn : news = #[] := Array.eq_empty_of_size_eq_zero (by simpa using hnl)
          subst hnn
          exact ⟨w, m, _, _, H, run_app_fits (base := none) hu hu2 hd2 hs hlen (by simp) hn1 rfl, .refl m, hsat, .slnil, hK1 rfl⟩
        · have hpos := List.length_pos_iff.2 hy
          exact growCase none 0 #[] ((w.heap.size, .spare (([] ++ ys : List AV).length * sz)) :: H) (by simp; omega) (by simp [Builtin.firstCells]) (RelL.nil m) (by simp) (fun x hx => List.mem_cons.1 hx)
            (by simp only [List.map_cons, List.nodup_cons]; exact ⟨hsat.fresh, hsat.nodup⟩) (by simpa using hK2 hy w.heap.size _ hsat.fresh)
    | «at» b ee s' =>
      obtain ⟨rfl, hmem, hK⟩ := hm
      cases hrs with
      | sl _ _ a len cap sz' f ht hl hlc hcm hsp hzz hc ho hr hk =>
        subst hl
        have kr : Rel m (.sl xs (.at b ee s')) (.slice (some a) xs.length cap) := .sl xs _ a _ cap sz' f ht rfl hlc hcm hsp hzz hc ho hr hk
        by_cases hf : xs.length + ys.length ≤ cap
        · by_cases hy : ys = []
          · subst hy
            have hnn : news = #[] := Array.eq_empty_of_size_eq_zero (by simpa using hnl)
            subst hnn
            have hK' := hK b ee H (.inl rfl) (Rpl.refl hmem)
            rw [List.append_nil] at hK'
            exact ⟨w, m, _, _, H, run_app_fits (base := some a) hu hu2 hd2 hs hlen hf hn1 (by simp [storeCells]), .refl m, hsat, by simpa using kr, hK'⟩
          · have hpos := List.length_pos_iff.2 hy
            rcases hk b ee s' rfl with q | ⟨q1, q2, q3, q5, N, q4, q6⟩
            · omega
            · subst q1
              have hcap : (xs.length + ys.length) * s' ≤ cap * s' := Nat.mul_le_mul_right _ hf
              rw [Nat.add_mul] at hcap
              have hnlen : news.toList.length = ys.length * s' := by simpa using hnl
              obtain ⟨H', hR⟩ := Rpl.ex (a.block, AObj.spare (ee + news.toList.length)) hmem
              obtain ⟨w', m', r1, r2, r3, r4⟩ := hsat.useSpare (P := P) hR hn3 q4 (by omega)
              have hst : (storeCells (a.add (xs.length * s')) news.toList).run P w = .ok () w' := by
                rw [addr_add _ _ q2, q3]; exact r1
              refine ⟨w', m', _, _, H', run_app_fits (base := some a) hu hu2 hd2 hs hlen hf hn1 hst, r2, r3, ?_, hK a.block _ H' (.inl rfl) hR⟩
              have ha : a = ⟨a.block, a.off, none⟩ := by cases a; simp_all
              rw [ha]
              have hdiv : ∀ i, i < xs.length * s' → i / s' < xs.length ∧ i % s' < s' := fun i hi => ⟨(Nat.div_lt_iff_lt_mul h0).2 hi, Nat.mod_lt _ h0⟩
              have hss : xs ≠ [] → sz' = s' := q5
              have hne : ∀ i, i < xs.length * s' → xs ≠ [] := by intro i hi e; subst e; simp at hi
              rw [← List.length_append]
              refine rel_sl (g := fun i => if i < xs.length * s' then f (i / s') (i % s') else (news.toList[i - xs.length * s']?).getD default) (by simp) hsz2 (by rw [List.length_append]; exact hf) hcm (fun i hi => ?_) (fun i hi => ?_) (fun i x hx => ?_) (fun b' e' s2 h => ?_)
              · rw [List.length_append, Nat.add_mul] at hi
                split
                · rename_i hlt
                  obtain ⟨d1, d2⟩ := hdiv i hlt
                  have e1 := hss (hne i hlt)
                  subst e1
                  have := r2.cell _ _ _ (hc (i / sz') (i % sz') d1 d2)
                  rwa [Nat.add_assoc, Nat.div_add_mod' i sz'] at this
                · rename_i hlt
                  have := r4 (i - xs.length * s') (by omega)
                  rw [show ee + (i - xs.length * s') = a.off + i by omega] at this
                  rw [this, List.getElem?_eq_getElem (by omega)]; rfl
              · rw [List.length_append, Nat.add_mul] at hi
                split
                · rename_i hlt
                  obtain ⟨d1, d2⟩ := hdiv i hlt
                  exact ho _ _ d1 (by have e1 := hss (hne i hlt); omega)
                · rw [List.getElem?_eq_getElem (by omega)]; exact hn3 _ (List.getElem_mem _)
              · rw [flat_append, List.getElem?_append, hfx] at hx
                split at hx
                · rename_i hlt
                  rw [if_pos hlt]
                  obtain ⟨d1, d2⟩ := hdiv i hlt
                  have e1 := hss (hne i hlt)
                  have hcl : xs[i / s'].cells.length = s' := hxsz _ (List.getElem_mem d1)
                  have e2 : xs[i / s'].cells[i % s']? = some xs[i / s'].cells[i % s'] := List.getElem?_eq_getElem (by omega)
                  have e3 := flat_get hxsz _ _ _ _ (List.getElem?_eq_getElem d1) e2
                  rw [Nat.div_add_mod' i s'] at e3
                  rw [e3] at hx; cases hx
                  exact (hr _ _ _ _ (List.getElem?_eq_getElem d1) e2).mono r2
                · rename_i hlt
                  rw [if_neg hlt]
                  obtain ⟨y, hy1, hy2⟩ := hn2.get _ hx
                  rw [hy1]; exact hy2.mono r2
              · cases h
                exact ⟨rfl, by rw [List.length_append, Nat.add_mul, hnlen]; omega, rfl, N, r2.size _ _ q4, q6⟩
        · obtain ⟨_, hself⟩ := src_run (P := P) (x := .sl xs (.at b ee s')) (ys := xs) hsat.drew kr h0 ⟨hxsz, rfl⟩
          obtain ⟨olds, ho1, ho2, ho3⟩ := hself xs.length (Nat.le_refl _)
          rw [List.take_of_length_le (Nat.le_refl _)] at ho2
          obtain ⟨H', hR⟩ := Rpl.ex (w.heap.size, AObj.spare ((xs ++ ys).length * s')) hmem
          exact growCase _ cap olds H' (by omega) ho1 ho2 ho3 (fun x hx => (hR.mem hsat.nodup x hx).imp id And.left) (hR.nodup hsat.nodup (.inr hsat.fresh)) (hK _ _ H' (.inr hsat.fresh) hR)

end
end Go.AL
