/- The abstract layer, text B2: its parts 10, 11, 12, 13, 14, 15, 16, 17, 17B. -/
import Derived.Test.YthphaolkihageaaB1
set_option linter.unusedVariables false
set_option linter.unusedSimpArgs false
/- The abstract layer, part 10: maps, iterators, literals of slices, make, append, copy. -/
namespace Go.AL
open Go.RowKit

section
variable {G : Nat → Option (List AV)} {B : Nat} {w0 w w' : World} {m m' : Im} {H H' : Heap} {P : Program}

/-- A new object that is no row of cells. -/
theorem Sat.newObj (hsat : Sat G B w0 m H w) {o : AObj} {ob : Obj} (hok : o.ok m (w.alloc ob) w.heap.size) : Sat G B w0 m ((w.heap.size, o) :: H) (w.alloc ob) := by
  refine hsat.turn ((Below.refl B w).alloc hsat.base _) (.refl m) w.heap.size (fun k hk _ => heap_alloc_ne _ _ _ hk) hsat.base (by simp) (fun _ _ _ => rfl) (fun o v h => ?_) (fun _ _ => rfl) (fun n h => ?_) (fun j o h => ?_) ?_
  · exact absurd (hsat.cell_lt h) (Nat.lt_irrefl _)
  · exact absurd (hsat.size_lt h) (Nat.lt_irrefl _)
  · rcases List.mem_cons.1 h with h | h
    · cases h; exact .inl ⟨rfl, hok⟩
    · exact .inr ⟨fun e => hsat.fresh (by rw [← e]; exact List.mem_map.2 ⟨_, h, rfl⟩), h⟩
  · simp only [List.map_cons, List.nodup_cons]; exact ⟨hsat.fresh, hsat.nodup⟩

/-- A builder's zero, made. -/
theorem ef_rawal (hsat : Sat G B w0 m H w) {t : TypeId} {z : AV} {K : AV → Heap → Prop} (hz : zero? P t = some z) (hb : z.cells = [.nilp, .sl [] .nil]) (h : ef (.rawal t) [] H K) :
    ∃ w' m' v cv H', (Instr.alloc t true (.tuple #[])).run P w = .ok cv w' ∧ m.le m' ∧ Sat G B w0 m' H' w' ∧ Rel m' v cv ∧ K v H' := by
  obtain ⟨cz, hcz, hrz⟩ := zero?_run hz w
  obtain ⟨h1, h2, h3⟩ := (hrz m).cells_of (by rw [hb]; exact Nat.zero_lt_succ _)
  rw [hb] at h1 h2
  obtain ⟨a, b, hab⟩ : ∃ a b, cz.cells = #[a, b] := by
    generalize cz.cells = cs at h1
    obtain ⟨l⟩ := cs
    match l, h1 with
    | [a, b], _ => exact ⟨a, b, rfl⟩
  have ha : a = .pointer none := by
    have := h2 0 _ a rfl (by rw [hab]; rfl)
    cases this; rfl
  have hb2 : b = .slice none 0 0 := by
    have := h2 1 _ b rfl (by rw [hab]; rfl)
    cases this with
    | slnil => rfl
    | sl _ _ _ _ _ _ _ ht => exact absurd rfl ht
  subst ha hb2
  have hnone : ∀ o, m.cell w.heap.size o = none := fun o => by
    cases hc : m.cell w.heap.size o with
    | none => rfl
    | some v => exact absurd (hsat.cell_lt hc) (Nat.lt_irrefl _)
  have hn := hsat.newObj (o := .raw t [.pointer none, .slice none 0 0]) (ob := .cells cz.cells t) ⟨by rw [heap_alloc_new, hab], hnone⟩
  exact ⟨_, m, _, .pointer (some ⟨w.heap.size, 0, none⟩), _, by simp [Instr.alloc, newVar, Go.newRow, hcz], .refl m, hn, .ptr _ _, h _ hsat.fresh⟩

/-- An object that is no row of cells, turned. -/
theorem Sat.setObj (hsat : Sat G B w0 m H w) {id : Nat} {o o' : AObj} {ob : Obj} (hr : Rpl H (id, o) (id, o') H') (hnc : ∀ c e f, w.heap[id]? ≠ some (.cells c e f))
    (hok : o'.ok m { w with heap := w.heap.setIfInBounds id ob } id) : Sat G B w0 m H' { w with heap := w.heap.setIfInBounds id ob } := by
  obtain ⟨hB, hid, _⟩ := hsat.obj _ _ hr.src
  have hne : ∀ k, k ≠ id → (w.heap.setIfInBounds id ob)[k]? = w.heap[k]? := fun k hk => by rw [Array.getElem?_setIfInBounds_ne (Ne.symm hk)]
  refine hsat.turn ⟨rfl, rfl, rfl, by simp, fun k hk => hne k (by omega)⟩ (.refl m) id (fun k hk _ => hne k hk) hB (by simpa using hid) (fun _ _ _ => rfl) (fun o v h => ?_) (fun _ _ => rfl) (fun n h => ?_) (fun j o h => ?_) (hr.nodup hsat.nodup (.inl rfl))
  · exfalso
    have := hsat.cell id o v h
    unfold World.cell? at this
    split at this
    · rename_i h1; exact hnc _ _ _ h1
    · cases this
  · exfalso
    obtain ⟨cs, e, fr, h1, _⟩ := hsat.size id n h
    exact hnc _ _ _ h1
  · rcases hr.mem hsat.nodup _ h with h | ⟨h1, h2⟩
    · cases h; exact .inl ⟨rfl, hok⟩
    · exact .inr ⟨h2, h1⟩

/-- An array's place, sliced. -/
theorem ef_slp (hsat : Sat G B w0 m H w) {t e : TypeId} {n sz : Nat} {lo hi : Option Value} {p : AV} {bs : List AV} {c : Value} {K : AV → Heap → Prop} (h1 : P.underlying t = some (.array n e)) (h2 : size? P e = some sz) (hn : n ≤ 65536)
    (hx : Rel m p c) (hr : RelL m bs (lo.toList ++ hi.toList)) (h : ef (.slp sz n lo.isSome hi.isSome) (p :: bs) H K) :
    ∃ w' m' v cv H', (Instr.sliceAt t c lo hi none).run P w = .ok cv w' ∧ m.le m' ∧ Sat G B w0 m' H' w' ∧ Rel m' v cv ∧ K v H' := by
  cases p with
  | ptr id off =>
    obtain ⟨vs, l, h', hm, hle, hb, hK⟩ := h
    obtain ⟨hB, hid, cs, el, fr, hblk, hvs, _⟩ := hsat.obj _ _ hm
    obtain ⟨e1, hl, hh⟩ := run_bounds (P := P) (w := w) (isS := false) hb hr (Nat.le_refl _)
    have hz := size?_run h2
    have hms : ∀ k, m.size id = some k → k = cs.size := fun k hk => by
      obtain ⟨cs', e', fr', q1, q2⟩ := hsat.size _ _ hk
      rw [hblk] at q1; cases q1; exact q2.symm
    have hml : m.le (m.addSize id cs.size) := ⟨fun _ _ _ h => h, fun b k hk => by
      simp only [Im.addSize]
      split
      · rename_i hb; subst hb; rw [hms k hk]
      · exact hk⟩
    have hsat' : Sat G B w0 (m.addSize id cs.size) H w := ⟨hsat.below, hsat.base, hsat.cell, fun b k hk => by
      simp only [Im.addSize] at hk
      split at hk
      · rename_i hb; subst hb; cases hk; exact ⟨cs, el, fr, hblk, rfl⟩
      · exact hsat.size b k hk, hsat.nodup, fun j o hj => by
      obtain ⟨q1, q2, q3⟩ := hsat.obj j o hj
      exact ⟨q1, q2, AObj.ok_of_block hml rfl (fun _ => rfl) q3⟩, fun g cs hg => ⟨(hsat.glob g cs hg).1, (hsat.glob g cs hg).2.mono hml⟩⟩
    cases hx with
    | ptr _ _ =>
      refine ⟨w, _, .msl id (off + l * sz) (h' - l) sz, .slice (some (if n = l then ⟨id, off, none⟩ else Addr.add ⟨id, off, none⟩ (l * sz))) (h' - l) (n - l), H, ?_, hml, hsat', ?_, hK⟩
      · simp [Instr.sliceAt, run_underlying h1, Instr.sureAddr, e1, hz]
      · by_cases hnl : n = l
        · rw [if_pos hnl, show h' - l = 0 by omega, show n - l = 0 by omega]
          exact .msl0 _ _ _ _
        · rw [if_neg hnl, addr_add _ _ rfl]
          have hml2 : maxLen ≥ 65536 := by unfold maxLen; omega
          refine .msl _ _ _ _ _ cs.size (by omega) (by omega) (by simp [Im.addSize]) ?_
          have : off + l * sz + (n - l) * sz = off + n * sz := by rw [Nat.add_assoc, ← Nat.add_mul, show l + (n - l) = n by omega]
          omega
  | _ => exact h.elim
theorem ef_mkmap (hsat : Sat G B w0 m H w) {t : TypeId} {K : AV → Heap → Prop} (h : ef .mkmap [] H K) :
    ∃ w' m' v cv H', (Instr.makeMap t none).run P w = .ok cv w' ∧ m.le m' ∧ Sat G B w0 m' H' w' ∧ Rel m' v cv ∧ K v H' := by
  have hn := hsat.newObj (o := .map []) (ob := .map #[] 0) ⟨#[], 0, heap_alloc_new w _, rfl, fun i k v x h => by simp at h⟩
  exact ⟨_, m, _, .map (some w.heap.size), _, by simp [Instr.makeMap], .refl m, hn, .map _, h _ hsat.fresh⟩

theorem ef_rngs (hsat : Sat G B w0 m H w) {t : TypeId} {s : List UInt8} {c : Value} {K : AV → Heap → Prop} (hu : P.underlying t = some .string) (hx : Rel m (.str s) c) (h : ef .rngs [.str s] H K) :
    ∃ w' m' v cv H', (Instr.range t c).run P w = .ok cv w' ∧ m.le m' ∧ Sat G B w0 m' H' w' ∧ Rel m' v cv ∧ K v H' := by
  cases hx with
  | str b =>
    have hn := hsat.newObj (o := .iter b.data.toList 0) (ob := .stringIter b 0) ⟨b, rfl, heap_alloc_new w _⟩
    exact ⟨_, m, _, .pointer (some ⟨w.heap.size, 0, none⟩), _, by simp [Instr.range, run_underlying hu], .refl m, hn, .ptr _ _, h _ hsat.fresh⟩

theorem rel_tup3 {a b c : AV} {x y z : Value} (h1 : Rel m a x) (h2 : Rel m b y) (h3 : Rel m c z) : Rel m (.tup [a, b, c]) (.tuple #[x, y, z]) := by
  refine .tup _ _ rfl (fun i p q hp hq => ?_)
  match i with
  | 0 => simp at hp hq; subst hp hq; exact h1
  | 1 => simp at hp hq; subst hp hq; exact h2
  | 2 => simp at hp hq; subst hp hq; exact h3
  | n + 3 => simp at hp

theorem ef_nxts (hsat : Sat G B w0 m H w) {ty : TypeId} {id : Nat} {c : Value} {K : AV → Heap → Prop} (hx : Rel m (.ptr id 0) c) (h : ef .nxts [.ptr id 0] H K) :
    ∃ w' m' v cv H', (Instr.next c true ty).run P w = .ok cv w' ∧ m.le m' ∧ Sat G B w0 m' H' w' ∧ Rel m' v cv ∧ K v H' := by
  obtain ⟨s, pos, h1, h2, h3⟩ := h
  obtain ⟨hB, hid, b, hb, hh⟩ := hsat.obj _ _ h3
  have hbs : (⟨s.toArray⟩ : ByteArray) = b := by subst hb; simp
  have hlen : s.length = b.size := by subst hb; simp
  cases hx
  have hg : (getObj id).run P w = .ok (.stringIter b pos) w := by simp [getObj, Sem.run, hh]
  by_cases hlt : pos < s.length
  · obtain ⟨H', hr, hK⟩ := h1 hlt
    rw [hbs] at hr hK
    have hset : (setObj id (.stringIter b (pos + (Utf8.decode b pos).2))).run P w = .ok () { w with heap := w.heap.setIfInBounds id (.stringIter b (pos + (Utf8.decode b pos).2)) } := by
      simp [setObj, Sem.run, hh]
    refine ⟨_, m, _, .tuple #[.bool true, .int .i64 pos, .int .i32 (Utf8.decode b pos).1], H', ?_, .refl m, hsat.setObj (ob := .stringIter b (pos + (Utf8.decode b pos).2)) hr (by rw [hh]; simp) ⟨b, hb, by simp [hid]⟩, rel_tup3 (.bool _) (.int _ _) (.int _ _), hK⟩
    simp only [Instr.next, Sem.run_bind, hg, Result.andThen_ok]
    rw [if_pos (by omega)]
    simp only [Sem.run_bind, hset, Result.andThen_ok, Sem.run_pure]
    rfl
  · obtain ⟨_, hK⟩ := h2 (by omega)
    refine ⟨w, m, _, .tuple #[.bool false], H, ?_, .refl m, hsat, .tup _ _ rfl (fun i x y hx hy => ?_), hK⟩
    · simp only [Instr.next, Sem.run_bind, hg, Result.andThen_ok]
      rw [if_neg (by omega)]; rfl
    · match i with
      | 0 => simp at hx hy; subst hx hy; exact .bool _
      | n + 1 => simp at hx

theorem updA_look (k v : AV) : ∀ {es es' : List (AV × AV)}, updA k v es = some es' → ∃ r, lookA k es = some r ∧ (match r with
    | none => es' = es ++ [(k, v)]
    | some _ => ∃ i k' v', es[i]? = some (k', v') ∧ k.same k' = some true ∧ (∀ j k1 v1, j < i → es[j]? = some (k1, v1) → k.same k1 = some false) ∧ es' = es.set i (k, v))
  | [], es', h => by simp [updA] at h; subst h; exact ⟨none, rfl, rfl⟩
  | (k', v') :: es, es', h => by
    simp only [updA] at h
    split at h
    · rename_i hs
      cases h
      exact ⟨some v', by simp [lookA, hs], 0, k', v', rfl, hs, fun j _ _ hj => by omega, rfl⟩
    · rename_i hs
      cases hu : updA k v es with
      | none => rw [hu] at h; cases h
      | some es2 =>
        rw [hu] at h; simp at h; subst h
        obtain ⟨r, h1, h2⟩ := updA_look k v hu
        refine ⟨r, by simp [lookA, hs, h1], ?_⟩
        cases r with
        | none => simp only at h2 ⊢; rw [h2]; rfl
        | some x =>
          obtain ⟨i, k1, v1, g1, g2, g3, g4⟩ := h2
          refine ⟨i + 1, k1, v1, by simpa using g1, g2, fun j k2 v2 hj he => ?_, by rw [g4]; rfl⟩
          cases j with
          | zero => simp at he; rw [← he.1]; exact hs
          | succ j => exact g3 j k2 v2 (by omega) (by simpa using he)
    · cases h

theorem same_bits {a b : AV} {c d : Value} (ha : Rel m a c) (hb : Rel m b d) (hk : a.kindN ≤ 2) (h : a.same b = some true) (n : Nat) : Instr.sameBits n d c = true := by
  cases a <;> simp [AV.kindN] at hk
  · cases b <;> simp [AV.same] at h
    cases ha; cases hb; cases n <;> simp [Instr.sameBits, h]
  · cases b <;> simp [AV.same] at h
    obtain ⟨rfl, rfl⟩ := h
    cases ha; cases hb; cases n <;> simp [Instr.sameBits]
  · cases b <;> simp [AV.same] at h
    cases ha; cases hb
    rename_i s1 s2
    have : s1 = s2 := by cases s1; cases s2; simp at h; simp [h]
    subst this
    cases n <;> simp [Instr.sameBits, beq_toListBytes]

theorem ef_mup (hsat : Sat G B w0 m H w) {t kt e : TypeId} {kd id : Nat} {k v : AV} {c ck cv : Value} {K : AV → Heap → Prop} (hu : P.underlying t = some (.map kt e)) (hkt : kindT P kt = some kd)
    (hx : Rel m (.map id) c) (hk : Rel m k ck) (hv : Rel m v cv) (h : ef (.mup kd) [.map id, k, v] H K) :
    ∃ w' m' H', (Instr.mapUpdate t c ck cv).run P w = .ok () w' ∧ m.le m' ∧ Sat G B w0 m' H' w' ∧ K .undef H' := by
  obtain ⟨es, es', H', hkd, hkd2, hna, hupd, hr, hK⟩ := h
  obtain ⟨hB, hid, ents, clock, hb, hlen, hrel⟩ := hsat.obj _ _ hr.src
  cases hx
  have hck := run_checkKey (w := w) (c := ck) hkt false
  have hg : (getObj id).run P w = .ok (.map ents clock) w := by simp [getObj, Sem.run, hb]
  cases hukt : P.underlying kt with
  | none => unfold kindT at hkt; rw [hukt] at hkt; cases hkt
  | some d =>
    obtain ⟨r, hl, hcase⟩ := updA_look k v hupd
    obtain ⟨q, hq, hm⟩ := find_now hkt hukt hk hkd es ents.toList 0 r (by simpa using hlen) (fun i k v x h1 h2 => hrel i k v x h1 (by simpa using h2)) hl
    have hfk : (Instr.findKey kt ck ents.toList).run P w = .ok q w := by simp [Instr.findKey, run_underlying hukt, hq]
    cases r with
    | none =>
      cases q with
      | some _ => exact hm.elim
      | none =>
        simp only at hcase
        subst hcase
        refine ⟨{ w with heap := w.heap.setIfInBounds id (.map (ents.push { key := ck, val := cv, born := clock }) (clock + 1)) }, m, H', ?_, .refl m,
          hsat.setObj hr (by rw [hb]; simp) ⟨ents.push { key := ck, val := cv, born := clock }, clock + 1, by simp [hid], by simp [hlen], fun i k1 v1 x h1 h2 => ?_⟩, hK⟩
        · simp only [Instr.mapUpdate, Sem.run_bind, run_underlying hu, Result.andThen_ok, hg, hck, hfk]
          simp [setObj, Sem.run, hb]
        · rw [Array.getElem?_push] at h2
          rw [List.getElem?_append] at h1
          split at h2
          · rename_i hi
            rw [if_neg (by omega)] at h1
            have : i - es.length = 0 := by omega
            rw [this] at h1
            simp at h1; obtain ⟨rfl, rfl⟩ := h1
            cases h2; exact ⟨hk, hv⟩
          · rename_i hi
            have hlt : i < es.length := by
              have := (Array.getElem?_eq_some_iff.1 h2).1; omega
            rw [if_pos hlt] at h1
            exact hrel i k1 v1 x h1 h2
    | some vv =>
      cases q with
      | none => exact hm.elim
      | some iu =>
        obtain ⟨i, u⟩ := iu
        obtain ⟨i', e1, ⟨k1, x, e2, e3, e4, e5⟩, e6, e7⟩ := hm
        obtain ⟨i2, k2, v2, g1, g2, g3, g4⟩ := hcase
        have hii : i' = i2 := by
          rcases Nat.lt_trichotomy i' i2 with h | h | h
          · have := g3 i' _ _ h e2; rw [e5] at this; cases this
          · exact h
          · have := e7 i2 _ _ h g1; rw [g2] at this; cases this
        subst hii
        have hi0 : i = i' := by omega
        subst hi0
        have e3' : ents[i]? = some x := by simpa using e3
        have hrk := (hrel i k1 vv x e2 e3').1
        have hst : (Instr.keyThatStays x.key ck).run P w = .ok ck w := by
          simp [Instr.keyThatStays, same_bits hk hrk (by omega) e5]
        subst g4
        refine ⟨{ w with heap := w.heap.setIfInBounds id (.map (ents.modify i fun e => { e with key := ck, val := cv }) clock) }, m, H', ?_, .refl m,
          hsat.setObj hr (by rw [hb]; simp) ⟨ents.modify i fun e => { e with key := ck, val := cv }, clock, by simp [hid], by simp [hlen], fun j k3 v3 y h1 h2 => ?_⟩, hK⟩
        · simp only [Instr.mapUpdate, Sem.run_bind, run_underlying hu, Result.andThen_ok, hg, hck, hfk, e3', Option.map_some, Option.getD_some, hst]
          simp [setObj, Sem.run, hb]
        · rw [Array.getElem?_modify] at h2
          rw [List.getElem?_set] at h1
          split at h2
          · rename_i hij
            subst hij
            rw [if_pos rfl] at h1
            split at h1
            · cases h1
              rw [e3'] at h2; simp at h2; subst h2
              exact ⟨hk, hv⟩
            · cases h1
          · rename_i hij
            rw [if_neg hij] at h1
            exact hrel j k3 v3 y h1 h2

end
end Go.AL

/- The abstract layer, part 11: literals of slices, make, append, copy. -/
namespace Go.AL
open Go.RowKit

section
variable {G : Nat → Option (List AV)} {B : Nat} {w0 w w' : World} {m m' : Im} {H H' : Heap} {P : Program}

theorem bytesAV_get (l : List UInt8) (i : Nat) : (bytesAV l)[i]? = (l[i]?).map byteAV := by simp [bytesAV]
theorem allSz_bytes (l : List UInt8) : AllSz 1 (bytesAV l) := by
  intro x hx
  obtain ⟨b, _, rfl⟩ := List.mem_map.1 hx
  rfl
theorem flat_one : ∀ {ys : List AV}, AllSz 1 ys → (∀ x ∈ ys, ∀ cs, x ≠ .agg cs) → flat ys = ys
  | [], _, _ => rfl
  | y :: ys, h, h2 => by
    have h1 := h y List.mem_cons_self
    simp only [flat, List.flatMap_cons]
    have e : y.cells = [y] := by
      have := h2 y List.mem_cons_self
      cases y <;> first | rfl | (exact absurd rfl (this _)) | (simp [AV.cells] at h1)
    rw [e]
    have := flat_one (ys := ys) (fun x hx => h x (List.mem_cons_of_mem _ hx)) (fun x hx => h2 x (List.mem_cons_of_mem _ hx))
    simp only [flat] at this
    rw [this]; rfl
theorem flat_bytes (l : List UInt8) : flat (bytesAV l) = bytesAV l :=
  flat_one (allSz_bytes l) (fun x hx cs e => by obtain ⟨b, _, rfl⟩ := List.mem_map.1 hx; cases e)

/-- What is handed to append or copy, in the model: its length, and its first cells. -/
theorem src_run (hsat : Sat G B w0 m H w) {sz : Nat} {x : AV} {c : Value} {ys : List AV} (hx : Rel m x c) (h0 : 0 < sz) (hs : Src sz x H ys) :
    (Builtin.lenOf c).run P w = .ok ys.length w ∧
    ∀ k, k ≤ ys.length → ∃ cs : Array Value, (Builtin.firstCells sz k c).run P w = .ok cs w ∧ RelL m (flat (ys.take k)) cs.toList ∧ ∀ u ∈ cs.toList, u.oneCell' = true := by
  obtain ⟨hsz, hm⟩ := hs
  have htk : ∀ k, k ≤ ys.length → (flat (ys.take k)).length = k * sz := fun k hk => by
    rw [flat_length (fun y hy => hsz y (List.mem_of_mem_take hy)), List.length_take, Nat.min_eq_left hk]
  have known : ∀ (a : Addr) (f : Nat → Value) (k : Nat), k ≤ ys.length → (∀ i, i < k * sz → w.cell? (a.add i) = some (f i)) → (∀ i, i < k * sz → (f i).oneCell' = true) →
      (∀ (i : Nat) (x : AV), (flat (ys.take k))[i]? = some x → Rel m x (f i)) →
      ∃ cs : Array Value, (loadCells a (k * sz)).run P w = .ok cs w ∧ RelL m (flat (ys.take k)) cs.toList ∧ ∀ u ∈ cs.toList, u.oneCell' = true := by
    intro a f k hk h1 h2 h3
    have hl := run_loadCells_known (P := P) (k * sz) a f w 0 #[] (fun j hj => by simpa using h1 j hj)
    simp only [Nat.zero_add, Array.empty_append] at hl
    refine ⟨_, hl, ⟨by simp [htk k hk], fun i x y hx hy => ?_⟩, fun u hu => ?_⟩
    · rw [Array.toList_ofFn, List.getElem?_ofFn] at hy
      split at hy
      · have e := Option.some.inj hy; subst e; exact h3 i x hx
      · cases hy
    · rw [Array.toList_ofFn, List.mem_ofFn] at hu
      obtain ⟨i, rfl⟩ := hu
      exact h2 i i.2
  cases x <;> simp only at hm
  case str s =>
    obtain ⟨rfl, rfl⟩ := hm
    cases hx with
    | str b =>
      refine ⟨by simp [Builtin.lenOf, bytesAV], fun k hk => ⟨_, rfl, ?_, ?_⟩⟩
      · rw [flat_one (fun y hy => allSz_bytes _ y (List.mem_of_mem_take hy)) (fun y hy cs e => by obtain ⟨_, _, rfl⟩ := List.mem_map.1 (List.mem_of_mem_take hy); cases e)]
        have hk' : k ≤ b.size := by simpa [bytesAV] using hk
        have e1 : ((b.extract 0 k).data.map fun (b : UInt8) => Value.int .u8 b.toNat).toList = (b.data.toList.take k).map fun b => Value.int .u8 (b.toNat : Int) := by
          rw [Array.toList_map, ByteArray.data_extract, Array.toList_extract, List.extract_eq_take_drop]; simp
        rw [e1]
        refine ⟨by simp [bytesAV], fun i x y hx hy => ?_⟩
        rw [bytesAV, ← List.map_take, List.getElem?_map] at hx
        rw [List.getElem?_map] at hy
        cases hb : (b.data.toList.take k)[i]? with
        | none => rw [hb] at hx; cases hx
        | some u => rw [hb] at hx hy; cases hx; cases hy; exact .int _ _
      · intro u hu
        rw [Array.toList_map] at hu
        obtain ⟨b, _, rfl⟩ := List.mem_map.1 hu
        rfl
  case sl xs t =>
    subst hm
    have hx' := hx
    cases hx with
    | slnil => exact ⟨by simp [Builtin.lenOf], fun k hk => ⟨#[], by simp [Builtin.firstCells], by simp at hk; subst hk; simpa [flat] using RelL.nil m, by simp⟩⟩
    | sl _ _ a len cap sz' f ht hl hlc hcm hs hz hc ho hr hk =>
      refine ⟨by simp [Builtin.lenOf, hl], fun k hk => ?_⟩
      simp only [Builtin.firstCells]
      by_cases hk0 : k = 0
      · subst hk0
        exact ⟨#[], by simp [loadCells, loadCellsFrom], by simpa [flat] using RelL.nil m, by simp⟩
      · have hne : ys ≠ [] := by intro e; subst e; simp at hk; omega
        have hpos := List.length_pos_iff.2 hne
        have hzz : sz' = sz := by rw [← hz 0 ys[0] (List.getElem?_eq_getElem hpos)]; exact hsz _ (List.getElem_mem hpos)
        subst hzz
        have hdiv : ∀ i, i < k * sz' → i / sz' < k ∧ i % sz' < sz' := fun i hi => ⟨(Nat.div_lt_iff_lt_mul h0).2 hi, Nat.mod_lt _ h0⟩
        refine known a (fun i => f (i / sz') (i % sz')) k hk (fun i hi => ?_) (fun i hi => ho _ _ (by have := (hdiv i hi).1; omega) (hdiv i hi).2) (fun i x hx => ?_)
        · have h1 := hc (i / sz') (i % sz') (by have := (hdiv i hi).1; omega) (hdiv i hi).2
          rw [addr_add _ _ (hs hne)]
          have h2 := hsat.cell _ _ _ h1
          rwa [Nat.add_assoc, Nat.div_add_mod' i sz'] at h2
        · have hi : i < k * sz' := by rw [← htk k hk]; exact (List.getElem?_eq_some_iff.1 hx).1
          obtain ⟨d1, d2⟩ := hdiv i hi
          have hlt : i / sz' < ys.length := by omega
          have e1 : (ys.take k)[i / sz']? = some ys[i / sz'] := by rw [List.getElem?_take, if_pos d1, List.getElem?_eq_getElem hlt]
          have hcl : ys[i / sz'].cells.length = sz' := hsz _ (List.getElem_mem hlt)
          have e2 : ys[i / sz'].cells[i % sz']? = some ys[i / sz'].cells[i % sz'] := List.getElem?_eq_getElem (by omega)
          have e3 := flat_get (sz := sz') (fun y hy => hsz y (List.mem_of_mem_take hy)) _ _ _ _ e1 e2
          rw [Nat.div_add_mod' i sz'] at e3
          rw [e3] at hx; cases hx
          exact hr _ _ _ _ (List.getElem?_eq_getElem hlt) e2
  case msl id off n s =>
    obtain ⟨rfl, hn, vs, hm, hle, hfl⟩ := hm
    obtain ⟨_, _, cs, e, fr, hblk, hlen, hfr, hno, hcell⟩ := hsat.obj _ _ hm
    have htakecells : ∀ k, k ≤ n → flat (ys.take k) = (vs.drop off).take (k * s) := by
      intro k hk
      have e1 : flat ys = flat (ys.take k) ++ flat (ys.drop k) := by
        simp only [flat]; rw [← List.flatMap_append, List.take_append_drop]
      have e2 : (flat ys).take (k * s) = flat (ys.take k) := by
        rw [e1, List.take_left' (htk k (by omega))]
      rw [← e2, hfl, List.take_take]
      congr 1
      exact Nat.min_eq_left (Nat.mul_le_mul_right _ hk)
    have main : ∀ cap k, k ≤ ys.length → ∃ cs : Array Value, (Builtin.firstCells s k (.slice (some ⟨id, off, none⟩) n cap)).run P w = .ok cs w ∧ RelL m (flat (ys.take k)) cs.toList ∧ ∀ u ∈ cs.toList, u.oneCell' = true := by
      intro cap k hk
      simp only [Builtin.firstCells]
      have hks : k * s ≤ n * s := Nat.mul_le_mul_right _ (by omega)
      refine known _ (fun i => (w.cell? ⟨id, off + i, none⟩).getD default) k hk (fun i hi => ?_) (fun i hi => ?_) (fun i x hx => ?_)
      · obtain ⟨u, hu, _, _⟩ := hcell (off + i) vs[off + i] (List.getElem?_eq_getElem (by omega))
        rw [addr_add _ _ rfl]; simp [World.cell?, hblk, hu]
      · obtain ⟨u, hu, _, h1⟩ := hcell (off + i) vs[off + i] (List.getElem?_eq_getElem (by omega))
        simpa [World.cell?, hblk, hu] using h1
      · rw [htakecells k (by omega), List.getElem?_take] at hx
        split at hx
        · rw [List.getElem?_drop] at hx
          obtain ⟨u, hu, hr, _⟩ := hcell (off + i) x hx
          simpa [World.cell?, hblk, hu] using hr
        · cases hx
    cases hx with
    | msl _ _ _ cap => exact ⟨by simp [Builtin.lenOf, hn], fun k hk => main cap k hk⟩
    | msl0 _ _ _ a =>
      refine ⟨by simp [Builtin.lenOf, hn], fun k hk => ?_⟩
      have : k = 0 := by omega
      subst this
      exact ⟨#[], by simp [Builtin.firstCells, loadCells, loadCellsFrom], by simpa [flat] using RelL.nil m, by simp⟩

theorem ef_cpy (hsat : Sat G B w0 m H w) {ta tb ty e : TypeId} {sz : Nat} {d x : AV} {cd cx : Value} {K : AV → Heap → Prop} (hu : P.underlying ta = some (.slice e)) (hs : size? P e = some sz) (h0 : 0 < sz)
    (hd : Rel m d cd) (hx : Rel m x cx) (h : ef (.cpy sz) [d, x] H K) :
    ∃ w' m' v cv H', (Builtin.copy_ #[ta, tb] ty #[cd, cx]).run P w = .ok cv w' ∧ m.le m' ∧ Sat G B w0 m' H' w' ∧ Rel m' v cv ∧ K v H' := by
  have hz := size?_run hs
  obtain ⟨ys, hsrc, hm⟩ := h
  obtain ⟨hlen, hcells⟩ := src_run (P := P) hsat hx h0 hsrc
  have hsz := hsrc.1
  cases d <;> try (exact hm.elim)
  case msl id off n s =>
    obtain ⟨rfl, vs, H', hle, hr, hK⟩ := hm
    obtain ⟨cs, hc1, hc2, hc3⟩ := hcells (Nat.min ys.length n) (Nat.min_le_left _ _)
    have hmin : ys.take (Nat.min ys.length n) = ys.take n := by
      rw [show Nat.min ys.length n = min ys.length n from rfl]
      rcases Nat.le_total ys.length n with h | h
      · rw [Nat.min_eq_left h, List.take_of_length_le (Nat.le_refl _), List.take_of_length_le h]
      · rw [Nat.min_eq_right h]
    have hfl : (flat (ys.take n)).length = min n ys.length * s := by rw [flat_length (fun y hy => hsz y (List.mem_of_mem_take hy)), List.length_take]
    have hle2 : min n ys.length * s ≤ n * s := Nat.mul_le_mul_right _ (Nat.min_le_left _ _)
    rw [hmin] at hc2
    have go : ∃ w', (storeCells ⟨id, off, none⟩ cs.toList).run P w = .ok () w' ∧ Sat G B w0 m H' w' := hsat.store hr hc2 hc3 (by omega)
    obtain ⟨w', r1, r2⟩ := go
    have fin : ∀ (a : Addr) (cap : Nat), (storeCells a cs.toList).run P w = .ok () w' → (Builtin.copy_ #[ta, tb] ty #[.slice (some a) n cap, cx]).run P w = .ok (.int .i64 (Nat.min ys.length n : Nat)) w' := by
      intro a cap hst
      simp [Builtin.copy_, run_underlying hu, hlen, hz, hc1, hst, goInt]
    cases hd with
    | msl _ _ _ cap => exact ⟨w', m, _, _, H', fin _ cap r1, .refl m, r2, .int _ _, hK⟩
    | msl0 _ _ _ a =>
      have hcs : cs.toList = [] := by
        have := hc2.1
        rw [hfl] at this
        have e0 : min 0 ys.length = 0 := Nat.zero_min _
        rw [e0] at this
        exact List.eq_nil_of_length_eq_zero (by omega)
      rw [hcs] at r1
      simp [storeCells] at r1
      subst r1
      exact ⟨w, m, _, _, H', fin a 0 (by rw [hcs]; simp [storeCells]), .refl m, r2, .int _ _, hK⟩
  case sl xs t =>
    cases xs with
    | cons _ _ => exact hm.elim
    | nil =>
      have hm : K (.int .i64 0) H := hm
      obtain ⟨cs, hc1, hc2, hc3⟩ := hcells 0 (Nat.zero_le _)
      have hcs : cs = #[] := by have := hc2.1; rw [List.take_zero] at this; exact Array.eq_empty_of_size_eq_zero (by simpa [flat] using this.symm)
      subst hcs
      cases hd with
      | slnil => exact ⟨w, m, .int .i64 0, .int .i64 0, H, by simp [Builtin.copy_, run_underlying hu, hlen, hz, hc1, goInt], .refl m, hsat, .int _ _, hm⟩
      | sl _ _ a len cap _ _ _ hl =>
        have hl0 : len = 0 := hl
        subst hl0
        exact ⟨w, m, .int .i64 0, .int .i64 0, H, by simp [Builtin.copy_, run_underlying hu, hlen, hz, hc1, goInt, storeCells], .refl m, hsat, .int _ _, hm⟩

theorem info_of {e : TypeId} {sz b : Nat} {z : AV} (hs : size? P e = some sz) (hb : bytes? P e = some b) (hz : zero? P e = some z) :
    ∃ (i : TypeInfo) (c : Value), P.info? e = some i ∧ i.size = sz ∧ i.bytes = b ∧ i.zero = some c ∧ ∀ m, Rel m z c := by
  unfold size? at hs; unfold bytes? at hb; unfold zero? at hz
  cases hi : P.info? e with
  | none => rw [hi] at hs; cases hs
  | some i =>
    rw [hi] at hs hb hz
    simp only [Option.map_some, Option.some.injEq, Option.bind_some] at hs hb hz
    cases hc : i.zero with
    | none => rw [hc] at hz; cases hz
    | some c => rw [hc] at hz; exact ⟨i, c, rfl, hs, hb, hc, fun m => toAV_rel hz⟩

theorem ef_mksl (hsat : Sat G B w0 m H w) {t e : TypeId} {sz by_ : Nat} {z : AV} {k k' : IntKind} {n c : Int} {K : AV → Heap → Prop} (hu : P.underlying t = some (.slice e)) (hs : size? P e = some sz) (hb : bytes? P e = some by_) (hz : zero? P e = some z)
    (hzl : z.cells.length = sz) (h0 : 0 < sz) (h : ef (.mksl sz by_ z.cells) [.int k n, .int k' c] H K) :
    ∃ w' m' v cv H', (Instr.makeSlice t (.int k n) (.int k' c)).run P w = .ok cv w' ∧ m.le m' ∧ Sat G B w0 m' H' w' ∧ Rel m' v cv ∧ K v H' := by
  obtain ⟨hn0, hnc, hcm, hbc, hK⟩ := h
  obtain ⟨inf, cz, hinf, his, hib, hcz, hrz⟩ := info_of hs hb hz
  obtain ⟨g1, g2, g3⟩ := (hrz m).cells_of (by omega)
  simp only [maxLen] at hcm
  let cs : Array Value := madeCells cz.cells (c.toNat * sz)
  have hget : ∀ i, i < c.toNat * sz → cs[i]? = some cz.cells[i % cz.cells.size]! := by
    intro i hi
    simp only [cs, madeCells, Array.getElem?_map, Array.getElem?_range, hi, if_true, Option.map_some]
  have hrep : ∀ (q i : Nat) (x : AV), ((List.replicate q z.cells).flatten)[i]? = some x → i < q * sz ∧ z.cells[i % sz]? = some x := by
    intro q
    induction q with
    | zero => intro i x h; simp at h
    | succ q ih =>
      intro i x h
      rw [List.replicate_succ, List.flatten_cons] at h
      rcases Nat.lt_or_ge i sz with hlt | hge
      · rw [List.getElem?_append_left (by omega)] at h
        exact ⟨by rw [Nat.add_mul]; omega, by rw [Nat.mod_eq_of_lt hlt]; exact h⟩
      · rw [List.getElem?_append_right (by omega), hzl] at h
        obtain ⟨h1, h2⟩ := ih _ _ h
        refine ⟨by rw [Nat.add_mul]; omega, ?_⟩
        rw [Nat.mod_eq_sub_mod hge]; exact h2
  have hrl : ∀ q : Nat, ((List.replicate q z.cells).flatten).length = q * sz := by
    intro q
    induction q with
    | zero => simp
    | succ q ih => rw [List.replicate_succ, List.flatten_cons, List.length_append, ih, hzl, Nat.add_mul]; omega
  have hnew := hsat.newCells (vs := (List.replicate n.toNat z.cells).flatten) (cs := cs) e (by
      rw [hrl]
      rw [size_madeCells]
      exact Nat.mul_le_mul_right sz (show n.toNat ≤ c.toNat by omega)) (fun i x hx => by
    obtain ⟨h1, h2⟩ := hrep _ _ _ hx
    have hlt : i < c.toNat * sz := Nat.lt_of_lt_of_le h1 (Nat.mul_le_mul_right _ (by omega))
    have hmod : i % cz.cells.size < cz.cells.size := Nat.mod_lt _ (by omega)
    have e1 : cz.cells[i % cz.cells.size]? = some cz.cells[i % cz.cells.size]! := by rw [getElem!_pos cz.cells _ hmod, Array.getElem?_eq_getElem hmod]
    have e2 : cz.cells.size = sz := by omega
    refine ⟨_, hget i hlt, ?_, g3 _ _ e1⟩
    exact g2 _ _ _ (by rw [e2]; exact h2) e1)
  refine ⟨_, _, _, .slice (some ⟨w.heap.size, 0, none⟩) n.toNat c.toNat, _, ?_, le_addSize hsat _, hnew, ?_, hK _ hsat.fresh⟩
  · have hr := run_make (P := P) w t e inf cz hu hinf hcz k k' n c hn0 hnc (by rw [hib]; exact hbc) (by omega)
    rw [his] at hr
    exact hr
  · refine .msl _ 0 n.toNat c.toNat sz _ (by omega) (by simp only [maxLen]; omega) (by simp [Im.addSize]; rfl) ?_
    rw [Nat.zero_add, size_madeCells]; exact Nat.le_refl _

end
end Go.AL

/- The abstract layer, part 12: append, literals of slices, strings as bytes. -/
namespace Go.AL
open Go.RowKit

section
variable {G : Nat → Option (List AV)} {B : Nat} {w0 w w' : World} {m m' : Im} {H H' : Heap} {P : Program}

theorem run_app_fits {t t2 ty e : TypeId} {sz : Nat} {d2 : TypeDesc} (hu : P.underlying t = some (.slice e)) (hu2 : P.underlying t2 = some d2) (hd2 : ∀ k, d2 ≠ .int k) (hs : size? P e = some sz)
    {base : Option Addr} {sLen sCap n : Nat} {x : Value} {news : Array Value} (hl : (Builtin.lenOf x).run P w = .ok n w) (hf : sLen + n ≤ sCap) (hn : (Builtin.firstCells sz n x).run P w = .ok news w)
    (hst : (match base with | some a => (storeCells (a.add (sLen * sz)) news.toList).run P w | none => .ok () w) = .ok () w') :
    (Builtin.append_ #[t, t2] ty #[.slice base sLen sCap, x]).run P w = .ok (.slice base (sLen + n) sCap) w' := by
  have hz := size?_run hs
  cases base with
  | none => simp only [Result.ok.injEq, true_and] at hst; subst hst; simp [Builtin.append_, run_underlying hu, run_underlying hu2, hz, hl, hf, hn]
  | some a => simp [Builtin.append_, run_underlying hu, run_underlying hu2, hz, hl, hf, hn, hst]

theorem run_app_grow {t t2 ty e : TypeId} {sz by_ : Nat} {d2 : TypeDesc} {i : TypeInfo} {cz : Value} (hu : P.underlying t = some (.slice e)) (hu2 : P.underlying t2 = some d2) (hd2 : ∀ k, d2 ≠ .int k)
    (hi : P.info? e = some i) (his : i.size = sz) (hib : i.bytes = by_) (hiz : i.zero = some cz)
    {base : Option Addr} {sLen sCap n : Nat} {x : Value} {olds news : Array Value} (hl : (Builtin.lenOf x).run P w = .ok n w) (hf : sCap < sLen + n) (h63 : sLen + n ≤ maxLen) (hb : (sLen + n) * by_ ≤ 140737488355328)
    (ho : (Builtin.firstCells sz sLen (.slice base sLen sCap)).run P w.drew = .ok olds w.drew) (hn : (Builtin.firstCells sz n x).run P w.drew = .ok news w.drew) :
    (Builtin.append_ #[t, t2] ty #[.slice base sLen sCap, x]).run P w = .ok (.slice (some ⟨w.heap.size, 0, none⟩) (sLen + n) (grownCap w (sLen + n) sCap e))
      (w.drew.alloc (.cells (olds ++ news ++ Builtin.zeroCells cz.cells (grownCap w (sLen + n) sCap e - (sLen + n))) e)) := by
  subst his hib
  have hfit := growslice_fits hf hb
  simp only [maxLen] at h63
  have hnf : ¬ (sLen + n ≤ sCap) := by omega
  have h63' : ¬ (9223372036854775807 < ((sLen : Int) + (n : Int))) := by omega
  have h48' : ¬ (281474976710656 < Builtin.nextslicecap (sLen + n) sCap * i.bytes) := by omega
  simp [Builtin.append_, run_underlying hu, run_underlying hu2, sizeOf, typeInfo, zeroValue, hi, hiz, hl, hnf, h63', h48', Question.forced, ho, hn, newRow, grownCap]

theorem Rpl.refl {p : Nat × AObj} (h : p ∈ H) : Rpl H p p H := by
  induction H with
  | nil => cases h
  | cons q H ih =>
    rcases List.mem_cons.1 h with rfl | h
    · exact .here _ _ _
    · exact .there _ _ _ _ _ (ih h)

theorem Rpl.ex {p : Nat × AObj} (q : Nat × AObj) (h : p ∈ H) : ∃ H', Rpl H p q H' := by
  induction H with
  | nil => cases h
  | cons x H ih =>
    rcases List.mem_cons.1 h with rfl | h
    · exact ⟨_, .here _ _ _⟩
    · obtain ⟨H', h'⟩ := ih h; exact ⟨_, .there _ _ _ _ _ h'⟩

/-- A new block of cells in the place of an entry of the heap, or beside all. -/
theorem Sat.newCells' (hsat : Sat G B w0 m H w) {vs : List AV} {cs : Array Value} (e : TypeId) (hl : vs.length ≤ cs.size) (hr : ∀ (i : Nat) (x : AV), vs[i]? = some x → ∃ c : Value, cs[i]? = some c ∧ Rel m x c ∧ c.oneCell' = true)
    (hH : ∀ x ∈ H', x = (w.heap.size, .cells vs) ∨ x ∈ H) (hnd : (H'.map Prod.fst).Nodup) : Sat G B w0 (m.addSize w.heap.size cs.size) H' (w.alloc (.cells cs e)) := by
  have h := hsat.newCells e hl hr
  refine ⟨h.below, h.base, h.cell, h.size, hnd, fun id o hm => ?_, h.glob⟩
  rcases hH _ hm with h1 | h1
  · exact h.obj id o (by rw [h1]; exact List.mem_cons_self)
  · exact h.obj id o (List.mem_cons_of_mem _ h1)

theorem Sat.newRow' (hsat : Sat G B w0 m H w) {n : Nat} {cs : Array Value} (e : TypeId) (hle : n ≤ cs.size) (hH : ∀ x ∈ H', x = (w.heap.size, .spare n) ∨ x ∈ H) (hnd : (H'.map Prod.fst).Nodup) :
    ∃ m', m.le m' ∧ Sat G B w0 m' H' (w.alloc (.cells cs e)) ∧ (∀ i, i < n → m'.cell w.heap.size i = cs[i]?) ∧ m'.size w.heap.size = some cs.size := by
  obtain ⟨m', h1, h, h2, h3⟩ := hsat.newRow e hle
  refine ⟨m', h1, ⟨h.below, h.base, h.cell, h.size, hnd, fun id o hm => ?_, h.glob⟩, h2, h3⟩
  rcases hH _ hm with h1 | h1
  · exact h.obj id o (by rw [h1]; exact List.mem_cons_self)
  · exact h.obj id o (List.mem_cons_of_mem _ h1)

theorem RelL.one_get {xs : List AV} {cs : List Value} (h : RelL m xs cs) (h1 : ∀ u ∈ cs, u.oneCell' = true) (i : Nat) {x : AV} (hx : xs[i]? = some x) : ∃ c : Value, cs[i]? = some c ∧ Rel m x c ∧ c.oneCell' = true := by
  obtain ⟨y, hy, hr⟩ := h.get i hx
  exact ⟨y, hy, hr, h1 y (List.mem_of_getElem? hy)⟩

theorem flat_append (xs ys : List AV) : flat (xs ++ ys) = flat xs ++ flat ys := by simp [flat]
theorem allSz_append {sz : Nat} {xs ys : List AV} (h : AllSz sz xs) (k : AllSz sz ys) : AllSz sz (xs ++ ys) := by
  intro x hx
  rcases List.mem_append.1 hx with h1 | h1
  · exact h x h1
  · exact k x h1

/-- A row just made of cells that are known. -/
theorem rel_newrow {ys : List AV} {sz id cap : Nat} {cs : List Value} {blk : Array Value} (hs : AllSz sz ys) (hlc : ys.length ≤ cap) (hcm : cap ≤ maxLen) (hr : RelL m (flat ys) cs) (h1 : ∀ u ∈ cs, u.oneCell' = true)
    (hblk : ∀ i, i < ys.length * sz → blk[i]? = cs[i]?) (hle : m.le m') (hc : ∀ i, i < ys.length * sz → m'.cell id i = blk[i]?) (hsz : m'.size id = some blk.size) (hcap : cap * sz ≤ blk.size) :
    Rel m' (.sl ys (.at id (ys.length * sz) sz)) (.slice (some ⟨id, 0, none⟩) ys.length cap) := by
  have hfl := flat_length hs
  refine rel_sl (g := fun i => (cs[i]?).getD default) (by simp) hs hlc hcm (fun i hi => ?_) (fun i hi => ?_) (fun i x hx => ?_) (fun b e s h => ?_)
  · have hlt : i < cs.length := by rw [← hr.1]; omega
    rw [Nat.zero_add, hc i hi, hblk i hi, List.getElem?_eq_getElem hlt]; rfl
  · have hlt : i < cs.length := by rw [← hr.1]; omega
    rw [List.getElem?_eq_getElem hlt]; exact h1 _ (List.getElem_mem hlt)
  · obtain ⟨y, hy, hrr⟩ := hr.get i hx
    rw [hy]; exact hrr.mono hle
  · cases h
    exact ⟨rfl, by omega, rfl, _, hsz, by omega⟩

/-- Cells of the spare place of a block written: the block's first cells never turn again as far as they are written now. -/
theorem Sat.useSpare (hsat : Sat G B w0 m H w) {b e : Nat} {l : List Value} (hr : Rpl H (b, .spare e) (b, .spare (e + l.length)) H') (h1 : ∀ u ∈ l, u.oneCell' = true) {n : Nat} (hn : m.size b = some n) (hle : e + l.length ≤ n) :
    ∃ w' m', (storeCells ⟨b, e, none⟩ l).run P w = .ok () w' ∧ m.le m' ∧ Sat G B w0 m' H' w' ∧ (∀ i, i < l.length → m'.cell b (e + i) = l[i]?) := by
  obtain ⟨hB, hid, cs, el, fr, hb, hfr, hno⟩ := hsat.obj _ _ hr.src
  obtain ⟨cs0, e0, fr0, g1, g2⟩ := hsat.size b n hn
  rw [hb] at g1; cases g1
  obtain ⟨w', cs', r1, r2, r3, r4, r5, r6, r7, r8, r9⟩ := run_storeAll (P := P) l e 0 cs w hb (fun o h1 ho => nofr hb hfr o ho) (by omega) h1
  have hle1 : m.le (m.addCells b (fun o => if e ≤ o then l[o - e]? else none)) := by
    refine ⟨fun b' o v h => ?_, fun _ _ h => h⟩
    simp only [Im.addCells]
    split
    · rename_i hbb
      subst hbb
      split
      · rename_i u hu
        split at hu
        · rename_i ho; rw [hno o ho] at h; cases h
        · cases hu
      · exact h
    · exact h
  refine ⟨w', m.addCells b (fun o => if e ≤ o then l[o - e]? else none), r1, hle1,
    hsat.turn (below_of hB r5 r6 r7 r8 r9) hle1 b (fun k hk _ => r5 k hk) hB (by omega) (fun b' o hb' => by simp [Im.addCells, hb']) (fun o v h => ?_) (fun _ _ => rfl) (fun k h => ?_) (fun j o h => ?_) (hr.nodup hsat.nodup (.inl rfl)), fun i hi => ?_⟩
  · simp only [Im.addCells, if_true] at h
    split at h
    · rename_i u hu
      cases h
      split at hu
      · rename_i ho
        have hlt := (List.getElem?_eq_some_iff.1 hu).1
        simp only [World.cell?, r2, Option.isSome_none, Bool.false_eq_true, if_false]
        rw [r4 o, if_pos (by omega)]; simpa using hu
      · cases hu
    · rename_i hu
      have h2 := hsat.cell b o v h
      simp only [World.cell?, hb, Option.isSome_none, Bool.false_eq_true, if_false] at h2
      simp only [World.cell?, r2, Option.isSome_none, Bool.false_eq_true, if_false]
      have : ¬ (e + 0 ≤ o ∧ o < e + 0 + l.length) := by
        intro ⟨c1, c2⟩
        rw [hno o (by omega)] at h; cases h
      rw [r4 o, if_neg this]; exact h2
  · obtain ⟨cs1, e1, fr1, q1, q2⟩ := hsat.size b k h
    rw [hb] at q1; cases q1
    exact ⟨cs', el, fr, r2, by omega⟩
  · rcases hr.mem hsat.nodup _ h with h | ⟨h1, h2⟩
    · cases h
      refine .inl ⟨rfl, cs', el, fr, r2, by rw [r3]; exact hfr, fun o ho => ?_⟩
      simp only [Im.addCells, if_true]
      rw [if_pos (by omega), List.getElem?_eq_none (by omega)]
      exact hno o (by omega)
    · exact .inr ⟨h2, h1⟩
  · simp only [Im.addCells, if_true]
    rw [if_pos (by omega), show e + i - e = i by omega, List.getElem?_eq_getElem hi]

theorem splice_end (vs xs : List AV) : splice vs vs.length xs = vs ++ xs := by simp [splice]

/-- Cells behind the known cells of an object of one's own written. -/
theorem Sat.grow (hsat : Sat G B w0 m H w) {id : Nat} {vs xs : List AV} {l : List Value} (hr : Rpl H (id, .cells vs) (id, .cells (vs ++ xs)) H') (hx : RelL m xs l) (h1 : ∀ u ∈ l, u.oneCell' = true)
    {n : Nat} (hn : m.size id = some n) (hle : vs.length + xs.length ≤ n) : ∃ w', (storeCells ⟨id, vs.length, none⟩ l).run P w = .ok () w' ∧ Sat G B w0 m H' w' := by
  obtain ⟨hB, hid, cs, e, fr, hb, hlen, hfr, hno, hcell⟩ := hsat.obj _ _ hr.src
  obtain ⟨cs0, e0, fr0, g1, g2⟩ := hsat.size id n hn
  rw [hb] at g1; cases g1
  obtain ⟨w', cs', r1, r2, r3, r4, r5, r6, r7, r8, r9⟩ := run_storeAll (P := P) l vs.length 0 cs w hb (fun o _ ho => nofr hb hfr o ho) (by rw [← hx.1]; omega) h1
  refine ⟨w', r1, hsat.turn (below_of hB r5 r6 r7 r8 r9) (.refl m) id (fun k hk _ => r5 k hk) hB (by omega) (fun _ _ _ => rfl) (fun o v h => by rw [hno o] at h; cases h) (fun _ _ => rfl) (fun k h => ?_) (fun j o h => ?_) (hr.nodup hsat.nodup (.inl rfl))⟩
  · obtain ⟨cs1, e1, fr1, q1, q2⟩ := hsat.size id k h
    rw [hb] at q1; cases q1
    exact ⟨cs', e, fr, r2, by omega⟩
  · rcases hr.mem hsat.nodup _ h with h | ⟨h1, h2⟩
    · cases h
      refine .inl ⟨rfl, cs', e, fr, r2, by rw [List.length_append]; omega, by rw [r3]; exact hfr, hno, fun i x hi => ?_⟩
      rw [r4 i]
      simp only [Nat.add_zero]
      rw [← hx.1]
      rw [List.getElem?_append] at hi
      split at hi
      · rename_i hc
        rw [if_neg (by omega)]
        exact hcell i x hi
      · rename_i hc
        have := (List.getElem?_eq_some_iff.1 hi).1
        rw [if_pos (by omega)]
        exact RelL.one_get hx ‹∀ u ∈ l, u.oneCell' = true› _ hi
    · exact .inr ⟨h2, h1⟩

theorem grown_le (w : World) (need old : Nat) (e : TypeId) (h : need ≤ maxLen) : need ≤ grownCap w need old e ∧ grownCap w need old e ≤ maxLen := ⟨grownCap_ge w need old e, grownCap_le_maxLen w need old e h⟩

theorem blk_get {olds news : Array Value} {z : Array Value} {k : Nat} {i : Nat} (hi : i < olds.size + news.size) : (olds ++ news ++ Builtin.zeroCells z k)[i]? = (olds.toList ++ news.toList)[i]? := by
  have : i < (olds ++ news).size := by simpa using hi
  rw [Array.getElem?_append_left this, ← Array.getElem?_toList]
  simp

theorem addSize_size (m : Im) (id n : Nat) : (m.addSize id n).size id = some n := by simp [Im.addSize]

theorem loadObj (hsat : Sat G B w0 m H w) {id off k : Nat} {vs : List AV} (hm : (id, AObj.cells vs) ∈ H) (hle : off + k ≤ vs.length) :
    ∃ cs : Array Value, (loadCells ⟨id, off, none⟩ k).run P w = .ok cs w ∧ RelL m ((vs.drop off).take k) cs.toList ∧ ∀ u ∈ cs.toList, u.oneCell' = true := by
  obtain ⟨_, _, cs, e, fr, hblk, hlen, hfr, hno, hcell⟩ := hsat.obj _ _ hm
  have hl := run_loadCells_known (P := P) k ⟨id, off, none⟩ (fun i => (w.cell? ⟨id, off + i, none⟩).getD default) w 0 #[] (fun j hj => by
    obtain ⟨u, hu, _, _⟩ := hcell (off + j) vs[off + j] (List.getElem?_eq_getElem (by omega))
    rw [addr_add _ _ rfl]; simp [World.cell?, hblk, hu])
  simp only [Nat.zero_add, Array.empty_append] at hl
  refine ⟨_, hl, ⟨by simp; omega, fun i x y hx hy => ?_⟩, fun u hu => ?_⟩
  · rw [Array.toList_ofFn, List.getElem?_ofFn] at hy
    split at hy
    · rename_i hi
      have e := Option.some.inj hy; subst e
      rw [List.getElem?_take, if_pos hi, List.getElem?_drop] at hx
      obtain ⟨u, hu, hr, _⟩ := hcell (off + i) x hx
      simpa [World.cell?, hblk, hu] using hr
    · cases hy
  · rw [Array.toList_ofFn, List.mem_ofFn] at hu
    obtain ⟨i, rfl⟩ := hu
    obtain ⟨u, hu, _, h1⟩ := hcell (off + i) vs[off + i.1] (List.getElem?_eq_getElem (by have := i.2; omega))
    simpa [World.cell?, hblk, hu] using h1

theorem ef_app (hsat : Sat G B w0 m H w) {t t2 ty e : TypeId} {sz by_ : Nat} {d2 : TypeDesc} {z s x : AV} {cs0 cx : Value} {K : AV → Heap → Prop} (hu : P.underlying t = some (.slice e)) (hu2 : P.underlying t2 = some d2) (hd2 : ∀ k, d2 ≠ .int k)
    (hs : size? P e = some sz) (hb : bytes? P e = some by_) (hz : zero? P e = some z) (hzl : z.cells.length = sz) (hrs : Rel m s cs0) (hrx : Rel m x cx) (h : ef (.app sz by_) [s, x] H K) :
    ∃ w' m' v cv H', (Builtin.append_ #[t, t2] ty #[cs0, cx]).run P w = .ok cv w' ∧ m.le m' ∧ Sat G B w0 m' H' w' ∧ Rel m' v cv ∧ K v H' := by
  obtain ⟨ys, hsrc, h0, hm⟩ := h
  obtain ⟨inf, cz, hinf, his, hib, hcz, hrz⟩ := info_of hs hb hz
  obtain ⟨g1, g2, g3⟩ := (hrz m).cells_of (by omega)
  obtain ⟨hlen, hcells⟩ := src_run (P := P) hsat hrx h0 hsrc
  obtain ⟨news, hn1, hn2, hn3⟩ := hcells ys.length (Nat.le_refl _)
  rw [List.take_of_length_le (Nat.le_refl _)] at hn2
  obtain ⟨_, hcellsD⟩ := src_run (P := P) hsat.drew hrx h0 hsrc
  obtain ⟨newsD, hd1, hd2', hd3⟩ := hcellsD ys.length (Nat.le_refl _)
  rw [List.take_of_length_le (Nat.le_refl _)] at hd2'
  have hysz := hsrc.1
  have hfy := flat_length hysz
  have hnl : news.size = ys.length * sz := by have := hn2.1; simp at this; omega
  have hnlD : newsD.size = ys.length * sz := by have := hd2'.1; simp at this; omega
  have hzsz : ∀ k, (Builtin.zeroCells cz.cells k).size = k * sz := fun k => by rw [size_zeroCells]; rw [← g1, hzl]
  cases s <;> try (exact hm.elim)
  case msl b off n s' =>
    cases off with
    | succ _ => exact hm.elim
    | zero =>
      obtain ⟨rfl, h63, hbytes, vs, hvl, hmem, hK⟩ := hm
      -- in a new block
      have growCase : ∀ (base : Option Addr) (cap : Nat) (olds : Array Value), cap < n + ys.length → (Builtin.firstCells s' n (.slice base n cap)).run P w.drew = .ok olds w.drew → RelL m vs olds.toList → (∀ u ∈ olds.toList, u.oneCell' = true) →
          ∃ w' m' v cv H', (Builtin.append_ #[t, t2] ty #[.slice base n cap, cx]).run P w = .ok cv w' ∧ m.le m' ∧ Sat G B w0 m' H' w' ∧ Rel m' v cv ∧ K v H' := by
        intro base cap olds hg ho hor ho1
        have hr := run_app_grow (ty := ty) hu hu2 hd2 hinf his hib hcz hlen hg h63 hbytes ho hd1
        obtain ⟨gc1, gc2⟩ := grown_le w (n + ys.length) cap e h63
        obtain ⟨H', hR⟩ := Rpl.ex (w.heap.size, AObj.cells (vs ++ flat ys)) hmem
        have hol : olds.size = n * s' := by have := hor.1; simp at this; omega
        have hsize : (olds ++ newsD ++ Builtin.zeroCells cz.cells (grownCap w (n + ys.length) cap e - (n + ys.length))).size = grownCap w (n + ys.length) cap e * s' := by
          simp only [Array.size_append, hol, hnlD, hzsz, ← Nat.add_mul]
          congr 1; omega
        have hge : (n + ys.length) * s' ≤ grownCap w (n + ys.length) cap e * s' := Nat.mul_le_mul_right _ gc1
        rw [Nat.add_mul] at hge
        have hS := hsat.drew.newCells' (H' := H') (vs := vs ++ flat ys) (cs := olds ++ newsD ++ Builtin.zeroCells cz.cells (grownCap w (n + ys.length) cap e - (n + ys.length))) e
          (by rw [hsize, List.length_append, hvl, hfy]; exact hge)
          (fun i x hi => by
            have hlt := (List.getElem?_eq_some_iff.1 hi).1
            rw [List.length_append, hvl, hfy] at hlt
            rw [blk_get (by omega)]
            exact RelL.one_get (hor.append hd2') (fun u hu => (List.mem_append.1 hu).elim (ho1 u) (hd3 u)) i hi)
          (fun x hx => (hR.mem hsat.nodup x hx).imp id And.left) (hR.nodup hsat.nodup (.inr hsat.fresh))
        refine ⟨_, _, _, _, H', hr, le_addSize hsat.drew _, hS, ?_, hK w.heap.size H' (.inr hsat.fresh) hR⟩
        exact .msl _ 0 _ _ s' _ gc1 gc2 (addSize_size _ _ _) (by rw [hsize]; omega)
      cases hrs with
      | msl _ _ _ cap _ N k1 k2 k3 k4 =>
        obtain ⟨_, _, cs, el, fr, hblk, hlen2, hfr, hno, hcell⟩ := hsat.obj _ _ hmem
        by_cases hf : n + ys.length ≤ cap
        · obtain ⟨H', hR⟩ := Rpl.ex (b, AObj.cells (vs ++ flat ys)) hmem
          have hcap : (n + ys.length) * s' ≤ cap * s' := Nat.mul_le_mul_right _ hf
          rw [Nat.add_mul] at hcap
          obtain ⟨w', r1, r2⟩ := hsat.grow (P := P) hR hn2 hn3 k3 (by rw [hvl, hfy]; omega)
          have hst : (storeCells ((⟨b, 0, none⟩ : Addr).add (n * s')) news.toList).run P w = .ok () w' := by
            rw [addr_add _ _ rfl, Nat.zero_add, ← hvl]; exact r1
          exact ⟨w', m, _, _, H', run_app_fits (base := some ⟨b, 0, none⟩) hu hu2 hd2 hs hlen hf hn1 hst, .refl m, r2, .msl b 0 (n + ys.length) cap s' N hf k2 k3 k4, hK b H' (.inl rfl) hR⟩
        · obtain ⟨olds, ho1, ho2, ho3⟩ := loadObj (P := P) hsat.drew hmem (off := 0) (k := n * s') (by omega)
          rw [List.drop_zero, List.take_of_length_le (by omega)] at ho2
          exact growCase _ cap olds (by omega) (by simpa [Builtin.firstCells] using ho1) ho2 ho3
      | msl0 _ _ _ a =>
        have hvs : vs = [] := List.eq_nil_of_length_eq_zero (by omega)
        subst hvs
        by_cases hy : ys = []
        · subst hy
          have hnn : news = #[] := Array.eq_empty_of_size_eq_zero (by simpa using hnl)
          subst hnn
          have hK' := hK b H (.inl rfl) (by simpa [flat] using Rpl.refl hmem)
          exact ⟨w, m, _, _, H, run_app_fits (base := some a) hu hu2 hd2 hs hlen (by simp) hn1 (by simp [storeCells]), .refl m, hsat, .msl0 _ _ _ _, hK'⟩
        · have hpos := List.length_pos_iff.2 hy
          exact growCase (some a) 0 #[] (by omega) (by simp [Builtin.firstCells, loadCells, loadCellsFrom]) (RelL.nil m) (by simp)
  case sl xs tk =>
    obtain ⟨hxsz, h63, hbytes, hm⟩ := hm
    have hfx := flat_length hxsz
    have hsz2 := allSz_append hxsz hysz
    -- in a new block
    have growCase : ∀ (base : Option Addr) (cap : Nat) (olds : Array Value) (H' : Heap), cap < xs.length + ys.length → (Builtin.firstCells sz xs.length (.slice base xs.length cap)).run P w.drew = .ok olds w.drew →
        RelL m (flat xs) olds.toList → (∀ u ∈ olds.toList, u.oneCell' = true) → (∀ x ∈ H', x = (w.heap.size, .spare ((xs ++ ys).length * sz)) ∨ x ∈ H) → (H'.map Prod.fst).Nodup →
        K (.sl (xs ++ ys) (.at w.heap.size ((xs ++ ys).length * sz) sz)) H' →
        ∃ w' m' v cv H', (Builtin.append_ #[t, t2] ty #[.slice base xs.length cap, cx]).run P w = .ok cv w' ∧ m.le m' ∧ Sat G B w0 m' H' w' ∧ Rel m' v cv ∧ K v H' := by
      intro base cap olds H' hg ho hor ho1 hH hnd hKK
      have hr := run_app_grow (ty := ty) hu hu2 hd2 hinf his hib hcz hlen hg h63 hbytes ho hd1
      obtain ⟨gc1, gc2⟩ := grown_le w (xs.length + ys.length) cap e h63
      have hol : olds.size = xs.length * sz := by have := hor.1; simp at this; omega
      have hsize : (olds ++ newsD ++ Builtin.zeroCells cz.cells (grownCap w (xs.length + ys.length) cap e - (xs.length + ys.length))).size = grownCap w (xs.length + ys.length) cap e * sz := by
        simp only [Array.size_append, hol, hnlD, hzsz, ← Nat.add_mul]
        congr 1; omega
      have hge : (xs.length + ys.length) * sz ≤ grownCap w (xs.length + ys.length) cap e * sz := Nat.mul_le_mul_right _ gc1
      have hadd : (xs.length + ys.length) * sz = olds.size + newsD.size := by rw [hol, hnlD, Nat.add_mul]
      obtain ⟨m', l1, l2, l3, l4⟩ := hsat.drew.newRow' (H' := H') (n := (xs ++ ys).length * sz) (cs := olds ++ newsD ++ Builtin.zeroCells cz.cells (grownCap w (xs.length + ys.length) cap e - (xs.length + ys.length))) e
        (by rw [hsize, List.length_append]; exact hge) hH hnd
      have hrel := rel_newrow (ys := xs ++ ys) (cs := olds.toList ++ newsD.toList) hsz2 (by rw [List.length_append]; exact gc1) gc2 (by rw [flat_append]; exact hor.append hd2')
        (fun u hu => (List.mem_append.1 hu).elim (ho1 u) (hd3 u)) (fun i hi => blk_get (by rw [← hadd, ← List.length_append]; exact hi)) l1 l3 l4 (by rw [hsize]; exact Nat.le_refl _)
      rw [List.length_append (as := xs)] at hrel
      exact ⟨_, m', _, _, H', hr, l1, l2, by rw [List.length_append]; exact hrel, hKK⟩
    cases tk with
    | no => exact hm.elim
    | nil =>
      obtain ⟨hK1, hK2⟩ := hm
      cases hrs with
      | sl _ _ _ _ _ _ _ ht => exact absurd rfl ht
      | slnil =>
        by_cases hy : ys = []
        · subst hy
          have hnn : news = #[] := Array.eq_empty_of_size_eq_zero (by simpa using hnl)
          subst hnn
          exact ⟨w, m, _, _, H, run_app_fits (base := none) hu hu2 hd2 hs hlen (by simp) hn1 rfl, .refl m, hsat, .slnil, hK1 rfl⟩
        · have hpos := List.length_pos_iff.2 hy
          rcases hK2 hy with hK2 | hK2
          · exact growCase none 0 #[] ((w.heap.size, .spare (([] ++ ys : List AV).length * sz)) :: H) (by simp; omega) (by simp [Builtin.firstCells]) (RelL.nil m) (by simp) (fun x hx => List.mem_cons.1 hx)
              (by simp only [List.map_cons, List.nodup_cons]; exact ⟨hsat.fresh, hsat.nodup⟩) (by simpa using hK2 w.heap.size _ hsat.fresh)
          · have h63' : 0 + ys.length ≤ maxLen := by simpa using h63
            have hr := run_app_grow (ty := ty) (base := none) (sCap := 0) (sLen := 0) (olds := #[]) hu hu2 hd2 hinf his hib hcz hlen (by omega) h63' (by simpa using hbytes) (by simp [Builtin.firstCells]) hd1
            obtain ⟨gc1, gc2⟩ := grown_le w (0 + ys.length) 0 e h63'
            have hsize : ((#[] : Array Value) ++ newsD ++ Builtin.zeroCells cz.cells (grownCap w (0 + ys.length) 0 e - (0 + ys.length))).size = grownCap w (0 + ys.length) 0 e * sz := by
              simp only [Array.size_append, hnlD, hzsz]
              show 0 + ys.length * sz + _ = _
              rw [Nat.zero_add, ← Nat.add_mul]
              congr 1; omega
            have hge : (0 + ys.length) * sz ≤ grownCap w (0 + ys.length) 0 e * sz := Nat.mul_le_mul_right _ gc1
            rw [Nat.zero_add] at hge
            have hS := hsat.drew.newCells' (H' := (w.heap.size, .cells (flat ys)) :: H) (vs := flat ys) (cs := (#[] : Array Value) ++ newsD ++ Builtin.zeroCells cz.cells (grownCap w (0 + ys.length) 0 e - (0 + ys.length))) e
              (by rw [hsize, hfy, Nat.zero_add]; exact hge)
              (fun i x hi => by
                have hlt := (List.getElem?_eq_some_iff.1 hi).1
                rw [hfy] at hlt
                rw [blk_get (olds := #[]) (by show i < 0 + newsD.size; omega)]
                exact RelL.one_get ((RelL.nil m).append hd2') (fun u hu => (List.mem_append.1 hu).elim (fun h => by simp at h) (hd3 u)) i hi)
              (fun x hx => List.mem_cons.1 hx) (by simp only [List.map_cons, List.nodup_cons]; exact ⟨hsat.fresh, hsat.nodup⟩)
            refine ⟨_, _, _, _, _, hr, le_addSize hsat.drew _, hS, ?_, hK2 w.heap.size hsat.fresh⟩
            have e0 : (AV.msl w.heap.size 0 ys.length sz) = .msl w.heap.size 0 (0 + ys.length) sz := by rw [Nat.zero_add]
            rw [e0]
            exact .msl _ 0 _ _ sz _ gc1 gc2 (addSize_size _ _ _) (by rw [hsize]; omega)
    | «at» b ee s' =>
      obtain ⟨rfl, hmem, hK⟩ := hm
      cases hrs with
      | sl _ _ a len cap sz' f ht hl hlc hcm hsp hzz hc ho hr hk =>
        subst hl
        have kr : Rel m (.sl xs (.at b ee s')) (.slice (some a) xs.length cap) := .sl xs _ a _ cap sz' f ht rfl hlc hcm hsp hzz hc ho hr hk
        by_cases hf : xs.length + ys.length ≤ cap
        · by_cases hy : ys = []
          · subst hy
            have hnn : news = #[] := Array.eq_empty_of_size_eq_zero (by simpa using hnl)
            subst hnn
            have hK' := hK b ee H (.inl rfl) (Rpl.refl hmem)
            rw [List.append_nil] at hK'
            exact ⟨w, m, _, _, H, run_app_fits (base := some a) hu hu2 hd2 hs hlen hf hn1 (by simp [storeCells]), .refl m, hsat, by simpa using kr, hK'⟩
          · have hpos := List.length_pos_iff.2 hy
            rcases hk b ee s' rfl with q | ⟨q1, q2, q3, q5, N, q4, q6⟩
            · omega
            · subst q1
              have hcap : (xs.length + ys.length) * s' ≤ cap * s' := Nat.mul_le_mul_right _ hf
              rw [Nat.add_mul] at hcap
              have hnlen : news.toList.length = ys.length * s' := by simpa using hnl
              obtain ⟨H', hR⟩ := Rpl.ex (a.block, AObj.spare (ee + news.toList.length)) hmem
              obtain ⟨w', m', r1, r2, r3, r4⟩ := hsat.useSpare (P := P) hR hn3 q4 (by omega)
              have hst : (storeCells (a.add (xs.length * s')) news.toList).run P w = .ok () w' := by
                rw [addr_add _ _ q2, q3]; exact r1
              refine ⟨w', m', _, _, H', run_app_fits (base := some a) hu hu2 hd2 hs hlen hf hn1 hst, r2, r3, ?_, hK a.block _ H' (.inl rfl) hR⟩
              have ha : a = ⟨a.block, a.off, none⟩ := by cases a; simp_all
              rw [ha]
              have hdiv : ∀ i, i < xs.length * s' → i / s' < xs.length ∧ i % s' < s' := fun i hi => ⟨(Nat.div_lt_iff_lt_mul h0).2 hi, Nat.mod_lt _ h0⟩
              have hss : xs ≠ [] → sz' = s' := q5
              have hne : ∀ i, i < xs.length * s' → xs ≠ [] := by intro i hi e; subst e; simp at hi
              rw [← List.length_append]
              refine rel_sl (g := fun i => if i < xs.length * s' then f (i / s') (i % s') else (news.toList[i - xs.length * s']?).getD default) (by simp) hsz2 (by rw [List.length_append]; exact hf) hcm (fun i hi => ?_) (fun i hi => ?_) (fun i x hx => ?_) (fun b' e' s2 h => ?_)
              · rw [List.length_append, Nat.add_mul] at hi
                split
                · rename_i hlt
                  obtain ⟨d1, d2⟩ := hdiv i hlt
                  have e1 := hss (hne i hlt)
                  subst e1
                  have := r2.cell _ _ _ (hc (i / sz') (i % sz') d1 d2)
                  rwa [Nat.add_assoc, Nat.div_add_mod' i sz'] at this
                · rename_i hlt
                  have := r4 (i - xs.length * s') (by omega)
                  rw [show ee + (i - xs.length * s') = a.off + i by omega] at this
                  rw [this, List.getElem?_eq_getElem (by omega)]; rfl
              · rw [List.length_append, Nat.add_mul] at hi
                split
                · rename_i hlt
                  obtain ⟨d1, d2⟩ := hdiv i hlt
                  exact ho _ _ d1 (by have e1 := hss (hne i hlt); omega)
                · rw [List.getElem?_eq_getElem (by omega)]; exact hn3 _ (List.getElem_mem _)
              · rw [flat_append, List.getElem?_append, hfx] at hx
                split at hx
                · rename_i hlt
                  rw [if_pos hlt]
                  obtain ⟨d1, d2⟩ := hdiv i hlt
                  have e1 := hss (hne i hlt)
                  have hcl : xs[i / s'].cells.length = s' := hxsz _ (List.getElem_mem d1)
                  have e2 : xs[i / s'].cells[i % s']? = some xs[i / s'].cells[i % s'] := List.getElem?_eq_getElem (by omega)
                  have e3 := flat_get hxsz _ _ _ _ (List.getElem?_eq_getElem d1) e2
                  rw [Nat.div_add_mod' i s'] at e3
                  rw [e3] at hx; cases hx
                  exact (hr _ _ _ _ (List.getElem?_eq_getElem d1) e2).mono r2
                · rename_i hlt
                  rw [if_neg hlt]
                  obtain ⟨y, hy1, hy2⟩ := hn2.get _ hx
                  rw [hy1]; exact hy2.mono r2
              · cases h
                exact ⟨rfl, by rw [List.length_append, Nat.add_mul, hnlen]; omega, rfl, N, r2.size _ _ q4, q6⟩
        · obtain ⟨_, hself⟩ := src_run (P := P) (x := .sl xs (.at b ee s')) (ys := xs) hsat.drew kr h0 ⟨hxsz, rfl⟩
          obtain ⟨olds, ho1, ho2, ho3⟩ := hself xs.length (Nat.le_refl _)
          rw [List.take_of_length_le (Nat.le_refl _)] at ho2
          obtain ⟨H', hR⟩ := Rpl.ex (w.heap.size, AObj.spare ((xs ++ ys).length * s')) hmem
          exact growCase _ cap olds H' (by omega) ho1 ho2 ho3 (fun x hx => (hR.mem hsat.nodup x hx).imp id And.left) (hR.nodup hsat.nodup (.inr hsat.fresh)) (hK _ _ H' (.inr hsat.fresh) hR)

end
end Go.AL

/- The abstract layer, part 13: literals of slices, strings as bytes; every operation that writes is sound. -/
namespace Go.AL
open Go.RowKit

section
variable {G : Nat → Option (List AV)} {B : Nat} {w0 w w' : World} {m m' : Im} {H H' : Heap} {P : Program}

theorem replicate_get {zs : List AV} {sz : Nat} (hzl : zs.length = sz) : ∀ (q i : Nat) (x : AV), ((List.replicate q zs).flatten)[i]? = some x → i < q * sz ∧ zs[i % sz]? = some x
  | 0, i, x, h => by simp at h
  | q + 1, i, x, h => by
    rw [List.replicate_succ, List.flatten_cons] at h
    rcases Nat.lt_or_ge i sz with hlt | hge
    · rw [List.getElem?_append_left (by omega)] at h
      exact ⟨by rw [Nat.add_mul]; omega, by rw [Nat.mod_eq_of_lt hlt]; exact h⟩
    · rw [List.getElem?_append_right (by omega), hzl] at h
      obtain ⟨h1, h2⟩ := replicate_get hzl q _ _ h
      refine ⟨by rw [Nat.add_mul]; omega, ?_⟩
      rw [Nat.mod_eq_sub_mod hge]; exact h2

theorem replicate_len {zs : List AV} {sz : Nat} (hzl : zs.length = sz) (q : Nat) : ((List.replicate q zs).flatten).length = q * sz := by
  induction q with
  | zero => simp
  | succ q ih => rw [List.replicate_succ, List.flatten_cons, List.length_append, ih, hzl, Nat.add_mul]; omega

theorem rel_made {z : AV} {cz : Value} {sz : Nat} (hr : Rel m z cz) (hzl : z.cells.length = sz) (h0 : 0 < sz) (n : Nat) : Rel m (.agg ((List.replicate n z.cells).flatten)) (.agg (madeCells cz.cells (n * sz))) := by
  obtain ⟨g1, g2, g3⟩ := hr.cells_of (by omega)
  have hget : ∀ i, i < n * sz → (madeCells cz.cells (n * sz))[i]? = cz.cells[i % sz]? := by
    intro i hi
    have hmod : i % cz.cells.size < cz.cells.size := Nat.mod_lt _ (by omega)
    simp only [madeCells, Array.getElem?_map, Array.getElem?_range, hi, if_true, Option.map_some]
    rw [getElem!_pos cz.cells _ hmod, ← Array.getElem?_eq_getElem hmod, show cz.cells.size = sz by omega]
  refine .agg _ _ (by rw [replicate_len hzl, size_madeCells]) (fun i y hy => ?_) (fun i x y hx hy => ?_)
  · have hi := (Array.getElem?_eq_some_iff.1 hy).1
    rw [size_madeCells] at hi
    rw [hget i hi] at hy
    exact g3 _ _ hy
  · obtain ⟨hi, hzx⟩ := replicate_get hzl _ _ _ hx
    rw [hget i hi] at hy
    exact g2 _ _ _ hzx hy

theorem rel_zero {z : AV} {cz : Value} {sz : Nat} (hr : Rel m z cz) (hzl : z.cells.length = sz) (h0 : 0 < sz) (n : Nat) : RelL m (List.replicate n z.cells).flatten (Builtin.zeroCells cz.cells n).toList ∧ ∀ u ∈ (Builtin.zeroCells cz.cells n).toList, u.oneCell' = true := by
  obtain ⟨g1, g2, g3⟩ := hr.cells_of (by omega)
  have e : Builtin.zeroCells cz.cells n = madeCells cz.cells (n * sz) := by
    rw [← hzl, g1]; rfl
  rw [e]
  have h := rel_made hr hzl h0 n
  generalize hc : madeCells cz.cells (n * sz) = C at h
  cases h with
  | agg _ _ hl h1 hr' =>
    refine ⟨⟨by simpa using hl, fun i x y hx hy => hr' i x y hx (by simpa using hy)⟩, fun u hu => ?_⟩
    obtain ⟨i, hi⟩ := List.getElem?_of_mem hu
    exact h1 i u (by simpa using hi)
theorem ef_clr (hsat : Sat G B w0 m H w) {ta ty e : TypeId} {sz : Nat} {z d : AV} {cd : Value} {K : AV → Heap → Prop} (hu : P.underlying ta = some (.slice e)) (hz : zero? P e = some z) (hzl : z.cells.length = sz) (h0 : 0 < sz)
    (hd : Rel m d cd) (h : ef (.clr sz z.cells) [d] H K) :
    ∃ w' m' v cv H', (Builtin.clear_ #[ta] ty #[cd]).run P w = .ok cv w' ∧ m.le m' ∧ Sat G B w0 m' H' w' ∧ Rel m' v cv ∧ K v H' := by
  have tup0 : Rel m (.tup []) (.tuple #[]) := .tup [] #[] rfl (fun i x y h => by simp at h)
  obtain ⟨cz, hcz, hrz⟩ := zero?_run hz w
  cases d <;> try (exact h.elim)
  case msl id off n s =>
    obtain ⟨rfl, vs, H', hle, hr, hK⟩ := h
    obtain ⟨z1, z2⟩ := rel_zero (hrz m) hzl h0 n
    obtain ⟨w', r1, r2⟩ : ∃ w', (storeCells ⟨id, off, none⟩ (Builtin.zeroCells cz.cells n).toList).run P w = .ok () w' ∧ Sat G B w0 m H' w' :=
      hsat.store hr z1 z2 (by rw [replicate_len hzl]; exact hle)
    have zero : ∀ a cap, n = 0 → (Builtin.clear_ #[ta] ty #[.slice (some a) n cap]).run P w = .ok (.tuple #[]) w' := by
      intro a cap hn
      subst hn
      have : (Builtin.zeroCells cz.cells 0).toList = [] := by simp [Builtin.zeroCells]
      rw [this] at r1
      simp [storeCells] at r1
      subst r1
      simp [Builtin.clear_, run_underlying hu]
    cases hd with
    | msl _ _ _ cap =>
      cases n with
      | zero => exact ⟨w', m, _, _, H', zero _ _ rfl, .refl m, r2, tup0, hK⟩
      | succ n =>
        refine ⟨w', m, _, _, H', ?_, .refl m, r2, tup0, hK⟩
        simp [Builtin.clear_, run_underlying hu, hcz, r1]
    | msl0 _ _ _ a => exact ⟨w', m, _, _, H', zero _ _ rfl, .refl m, r2, tup0, hK⟩
  case sl xs t =>
    cases xs with
    | cons x xs => exact h.elim
    | nil =>
      refine ⟨w, m, _, .tuple #[], H, ?_, .refl m, hsat, tup0, h⟩
      cases hd with
      | slnil => simp [Builtin.clear_, run_underlying hu]
      | sl _ _ a len cap sz' f ht hl =>
        subst hl
        simp [Builtin.clear_, run_underlying hu]

theorem ef_bslice (hsat : Sat G B w0 m H w) {t e : TypeId} {sz n : Nat} {z : AV} {parts : Array (Nat × Operand)} {ρ : Operand → Value} {xs : List AV} {K : AV → Heap → Prop} (hu : P.underlying t = some (.slice e))
    (hs : size? P e = some sz) (hz : zero? P e = some z) (hzl : z.cells.length = sz) (h0 : 0 < sz) (hbig : n * sz ≤ 65536) (hr : RelL m xs ((parts.toList.map (·.2)).map ρ))
    (h : ef (.bslice sz n z.cells (parts.toList.map fun p => (p.1 * sz, sz))) xs H K) :
    ∃ w' m' v cv H', (Instr.buildSlice t n (parts.map fun (i, x) => (i, ρ x))).run P w = .ok cv w' ∧ m.le m' ∧ Sat G B w0 m' H' w' ∧ Rel m' v cv ∧ K v H' := by
  have hrz := fun (m : Im) => (zero?_run (P := P) hz w)
  obtain ⟨cz, hcz, hrz⟩ := zero?_run hz w
  have hsz := size?_run hs w
  have h : ∃ cs, fillL ((List.replicate n z.cells).flatten) (parts.toList.map fun p => (p.1 * sz, sz)) xs = some cs ∧
      ((∀ id, id ∉ H.keys → K (.msl id 0 n sz) ((id, .cells cs) :: H)) ∨
       (∃ ys, AllSz sz ys ∧ ys.length = n ∧ flat ys = cs ∧ ∀ id, id ∉ H.keys → K (.sl ys (.at id (n * sz) sz)) ((id, .spare (n * sz)) :: H))) := h
  obtain ⟨cs, hfl, hcase⟩ := h
  obtain ⟨cb, hcb, hrel⟩ := snd_fill (m := m) (ps := (parts.map fun (i, x) => (i, ρ x)).toList) (place := fun i => some (i * sz, sz)) (rel_made (hrz m) hzl h0 n) (by simp) (fun i p q hi hq => by
    simp only [Array.toList_map, List.getElem?_map] at hi hq
    cases hpi : parts.toList[i]? with
    | none => rw [hpi] at hi; cases hi
    | some p' => rw [hpi] at hi hq; cases hi; cases hq; rfl) (by simpa [List.map_map, Function.comp_def] using hr) hfl
  have hrun : (Instr.buildSlice t n (parts.map fun (i, x) => (i, ρ x))).run P w = .ok (.slice (some ⟨w.heap.size, 0, none⟩) n n) (w.alloc (.cells cb e)) := by
    have hb2 : ¬ (n * sz > 2 ^ 24) := by omega
    simp only [Instr.buildSlice, Sem.run_bind, run_underlying hu, Result.andThen_ok, hsz]
    rw [if_neg hb2]
    by_cases hn : n * sz = 0
    · have e1 : madeCells cz.cells (n * sz) = #[] := by rw [hn]; simp [madeCells, Array.range_zero']
      simp only [hn, if_true, Sem.run_pure, Result.andThen_ok, Sem.run_bind]
      rw [e1] at hcb
      simp only [Array.range_zero', List.map_toArray, List.map_nil]
      rw [hcb]
      simp [newRow]
    · simp only [hn, if_false, Sem.run_pure, Result.andThen_ok, Sem.run_bind, hcz]
      rw [show (Array.map (fun x => cz.cells[x % cz.cells.size]!) (Array.range (n * sz))) = madeCells cz.cells (n * sz) from rfl, hcb]
      simp [newRow]
  have hlen : cs.length = n * sz := by
    have : ∀ {pl : List (Nat × Nat)} {xs z cs : List AV}, fillL z pl xs = some cs → cs.length = z.length := by
      intro pl
      induction pl with
      | nil => intro xs z cs h; cases xs <;> simp [fillL] at h; subst h; rfl
      | cons q pl ih =>
        intro xs z cs h
        cases xs with
        | nil => simp [fillL] at h
        | cons x xs =>
          unfold fillL at h
          split at h
          · rename_i hc
            rw [ih h, splice_length _ _ _ (by omega)]
          · cases h
    rw [this hfl, replicate_len hzl]
  cases hrel with
  | agg _ _ hl ho hrr =>
    have hcbs : cb.size = n * sz := by omega
    rcases hcase with hK | ⟨ys, hys, hyl, hyf, hK⟩
    · have hn := hsat.newCells (vs := cs) (cs := cb) e (by omega) (fun i x hx => by
        have hlt : i < cb.size := by rw [← hl]; exact (List.getElem?_eq_some_iff.1 hx).1
        exact ⟨cb[i], Array.getElem?_eq_getElem hlt, hrr i x _ hx (Array.getElem?_eq_getElem hlt), ho i _ (Array.getElem?_eq_getElem hlt)⟩)
      refine ⟨_, _, _, _, _, hrun, le_addSize hsat _, hn, .msl _ 0 n n sz _ (Nat.le_refl _) ?_ (addSize_size _ _ _) (by omega), hK _ hsat.fresh⟩
      simp only [maxLen]
      have : n ≤ n * sz := Nat.le_mul_of_pos_right _ h0
      omega
    · obtain ⟨m', l1, l2, l3, l4⟩ := hsat.newRow (n := n * sz) (cs := cb) e (by omega)
      subst hyl
      refine ⟨_, m', _, _, _, hrun, l1, l2, ?_, hK _ hsat.fresh⟩
      refine rel_newrow (cs := cb.toList) hys (Nat.le_refl _) ?_ ⟨by rw [hyf]; simpa using hl, fun i x y hx hy => ?_⟩ (fun u hu => ?_) (fun i hi => by simp) l1 l3 l4 (by omega)
      · simp only [maxLen]
        have : ys.length ≤ ys.length * sz := Nat.le_mul_of_pos_right _ h0
        omega
      · rw [hyf] at hx; exact hrr i x y hx (by simpa using hy)
      · obtain ⟨i, hi⟩ := List.mem_iff_getElem?.1 hu
        exact ho i u (by simpa using hi)

/-- A mark behind the end of a block turns nothing that is known. -/
theorem Sat.freezeEnd {W : World} (hsat : Sat G B w0 m H W) {id : Nat} {C : Array Value} {e : TypeId} {fr0 : Nat × Nat} (hfr0 : fr0.1 = fr0.2 ∨ C.size ≤ fr0.1) (hB : B ≤ id) (hb : W.heap[id]? = some (.cells C e fr0)) (hnr : ∀ o, (id, o) ∈ H → ∀ t cs, o ≠ .raw t cs) : Sat G B w0 m H (W.freeze ⟨id, C.size, none⟩ 1) := by
  obtain ⟨fr1, hself, hfr1⟩ : ∃ fr1 : Nat × Nat, (W.freeze ⟨id, C.size, none⟩ 1).heap[id]? = some (.cells C e fr1) ∧ (fr1.1 = fr1.2 ∨ C.size ≤ fr1.1) := by
    obtain ⟨lo, hi⟩ := fr0
    refine ⟨if lo == hi then (C.size, C.size + 1) else (min lo C.size, max hi (C.size + 1)), by simp [World.freeze, Array.getElem?_modify, hb], ?_⟩
    by_cases h : lo = hi
    · simp [h]
    · have : (lo == hi) = false := by simpa using h
      rw [this]
      rcases hfr0 with h2 | h2
      · exact absurd h2 h
      · exact .inr (by simp only [Bool.false_eq_true, if_false] at h2 ⊢; omega)
  have hne : ∀ k, k ≠ id → (W.freeze ⟨id, C.size, none⟩ 1).heap[k]? = W.heap[k]? := by
    intro k hk
    simp only [World.freeze, Nat.one_ne_zero, if_false, Array.getElem?_modify]
    rw [if_neg (Ne.symm hk)]
  have hsize : (W.freeze ⟨id, C.size, none⟩ 1).heap.size = W.heap.size := by simp [World.freeze]
  have hcell : ∀ b o, (W.freeze ⟨id, C.size, none⟩ 1).cell? ⟨b, o, none⟩ = W.cell? ⟨b, o, none⟩ := by
    intro b o
    by_cases hbi : b = id
    · subst hbi; simp [World.cell?, hself, hb]
    · exact World.cell?_of_block (w := W) (a := ⟨b, o, none⟩) (hne b hbi)
  refine ⟨hsat.below.trans ⟨?_, ?_, ?_, by omega, fun k hk => hne k (by omega)⟩, by rw [hsize]; exact hsat.base, fun b o v h => by rw [hcell]; exact hsat.cell b o v h, fun b n h => ?_, hsat.nodup, fun j o h => ?_, hsat.glob⟩
  · simp [World.freeze]
  · simp [World.freeze]
  · simp [World.freeze]
  · obtain ⟨cs, e', fr, h1, h2⟩ := hsat.size b n h
    by_cases hbi : b = id
    · subst hbi
      rw [hb] at h1; cases h1
      exact ⟨C, e, _, hself, h2⟩
    · exact ⟨cs, e', fr, by rw [hne b hbi]; exact h1, h2⟩
  · obtain ⟨h1, h2, h3⟩ := hsat.obj j o h
    refine ⟨h1, by rw [hsize]; exact h2, ?_⟩
    by_cases hji : j = id
    · subst hji
      cases o with
      | cells vs =>
        obtain ⟨cs, e', fr, q1, q2, q3, q4, q5⟩ := h3
        rw [hb] at q1; cases q1
        exact ⟨C, e, _, hself, q2, hfr1, q4, q5⟩
      | spare ee =>
        obtain ⟨cs, e', fr, q1, q2, q3⟩ := h3
        rw [hb] at q1; cases q1
        exact ⟨C, e, _, hself, hfr1, q3⟩
      | map es => obtain ⟨_, _, q1, _⟩ := h3; rw [hb] at q1; cases q1
      | iter s pos => obtain ⟨_, _, q1⟩ := h3; rw [hb] at q1; cases q1
      | raw t cs => exact absurd rfl (hnr _ h t cs)
      | keep o => obtain ⟨q1, q2⟩ := h3; rw [hb] at q2; cases q2; exact absurd rfl (q1 _ _ _)
    · exact AObj.ok_of_block (.refl m) (hne j hji) (fun _ => rfl) h3

theorem ef_sb (hsat : Sat G B w0 m H w) {s d e : TypeId} {l : List UInt8} {c : Value} {K : AV → Heap → Prop} (h1 : P.underlying s = some .string) (h2 : P.underlying d = some (.slice e)) (h3 : P.underlying e = some (.int .u8))
    (hx : Rel m (.str l) c) (h : ef .sb [.str l] H K) :
    ∃ w' m' v cv H', (convert s d c).run P w = .ok cv w' ∧ m.le m' ∧ Sat G B w0 m' H' w' ∧ Rel m' v cv ∧ K v H' := by
  cases hx with
  | str b =>
    have hlen : b.data.toList.length = b.size := by simp
    obtain ⟨hm, h⟩ := (h : b.data.toList.length ≤ maxLen ∧ ((∀ id, id ∉ H.keys → K (.msl id 0 b.data.toList.length 1) ((id, .cells (bytesAV b.data.toList)) :: H)) ∨
       (∀ id, id ∉ H.keys → K (.sl (bytesAV b.data.toList) (.at id b.data.toList.length 1)) ((id, .spare b.data.toList.length) :: H))))
    rw [hlen] at hm h
    obtain ⟨gc1, gc2⟩ := grown_le w b.size 0 e hm
    let elems : Array Value := b.data.map fun b => .int .u8 b.toNat
    let C : Array Value := elems ++ Array.replicate (grownCap w b.size 0 e - b.size) (.int .u8 0)
    have hes : elems.size = b.size := by simp [elems]
    have hCs : C.size = grownCap w b.size 0 e := by simp only [C, Array.size_append, Array.size_replicate, hes]; omega
    have hget : ∀ i, i < b.size → C[i]? = elems[i]? := fun i hi => by simp only [C]; rw [Array.getElem?_append_left (by omega)]
    have hrel : ∀ (i : Nat) (x : AV), (bytesAV b.data.toList)[i]? = some x → ∃ c : Value, C[i]? = some c ∧ Rel m x c ∧ c.oneCell' = true := by
      intro i x hx
      rw [bytesAV_get] at hx
      cases hb : b.data.toList[i]? with
      | none => rw [hb] at hx; cases hx
      | some u =>
        rw [hb] at hx; cases hx
        have hi := (List.getElem?_eq_some_iff.1 hb).1
        rw [hlen] at hi
        refine ⟨.int .u8 u.toNat, ?_, .int _ _, rfl⟩
        rw [hget i hi]
        have : b.data[i]? = some u := by simpa using hb
        simp [elems, this]
    have hrun : (convert s d (.string b)).run P w = .ok (.slice (some ⟨w.heap.size, 0, none⟩) b.size (grownCap w b.size 0 e)) ((w.drew.alloc (.cells C e)).freeze ⟨w.heap.size, C.size, none⟩ 1) := by
      have hsh : (w.drew.alloc (.cells C e)).shape? w.heap.size = some (e, C.size) := by
        simp only [World.shape?]; rw [show w.heap.size = w.drew.heap.size from rfl, heap_alloc_new]
      simp only [convert, Sem.run_bind, run_underlying h1, run_underlying h2, run_underlying h3, Result.andThen_ok, Conv.stringToBytes, run_choose, Question.forced, Bool.false_eq_true, if_false, newRow, run_newObj, Sem.run_pure, markStringish, World.alloc_eq, World.drew_eq]
      have hsh' : (w.drew.alloc (.cells ((b.data.map fun b => Value.int .u8 b.toNat) ++ Array.replicate (Question.cut (.appendCap b.size 0 e) (w.tape w.drawn (.appendCap b.size 0 e)) - b.size) (.int .u8 0)) e)).shape? w.drew.heap.size = some (e, C.size) := hsh
      simp only [run_shape, Result.andThen_ok, hsh', run_freeze]
      rfl
    rcases h with hK | hK
    · have hn := hsat.drew.newCells (vs := bytesAV b.data.toList) (cs := C) e (by simp [bytesAV]; omega) hrel
      refine ⟨_, _, _, _, _, hrun, le_addSize hsat.drew _, hn.freezeEnd (.inl rfl) hsat.base (heap_alloc_new w.drew _) (fun o ho t cs e => by subst e; have := hn.uniq ho List.mem_cons_self; cases this), .msl _ 0 b.size _ 1 _ gc1 gc2 (addSize_size _ _ _) (by omega), hK w.heap.size hsat.fresh⟩
    · obtain ⟨m', l1, l2, l3, l4⟩ := hsat.drew.newRow (n := b.size) (cs := C) e (by omega)
      refine ⟨_, m', _, _, _, hrun, l1, l2.freezeEnd (.inl rfl) hsat.base (heap_alloc_new w.drew _) (fun o ho t cs e => by subst e; have := l2.uniq ho List.mem_cons_self; cases this), ?_, hK w.heap.size hsat.fresh⟩
      have hbl : (bytesAV b.data.toList).length = b.size := by simp [bytesAV]
      have := rel_newrow (ys := bytesAV b.data.toList) (sz := 1) (cs := elems.toList) (blk := C) (cap := grownCap w b.size 0 e) (m := m) (m' := m') (id := w.heap.size) (allSz_bytes _) (by omega) gc2
        ⟨by rw [flat_bytes, hbl]; simpa using hes.symm, fun i x y hx hy => by
          rw [flat_bytes] at hx
          obtain ⟨c, h1, h2, _⟩ := hrel i x hx
          have hi : i < b.size := by rw [← hbl]; exact (List.getElem?_eq_some_iff.1 hx).1
          rw [hget i hi] at h1
          have hy' : elems[i]? = some y := by simpa using hy
          rw [h1] at hy'; cases hy'; exact h2⟩ (fun u hu => by simp [elems] at hu; obtain ⟨_, _, rfl⟩ := hu; rfl) (fun i hi => by rw [hbl] at hi; rw [hget i (by omega)]; simp) l1 (fun i hi => by rw [hbl] at hi; exact l3 i (by omega)) l4 (by omega)
      rw [hbl, Nat.mul_one] at this
      exact this

/-- An object of one's own that is written no more: its cells never turn again. -/
theorem Sat.shut (hsat : Sat G B w0 m H w) {id : Nat} {vs : List AV} (hr : Rpl H (id, .cells vs) (id, .spare vs.length) H') :
    ∃ m', m.le m' ∧ Sat G B w0 m' H' w ∧ ∃ f : Nat → Value, (∀ i, i < vs.length → m'.cell id i = some (f i) ∧ (f i).oneCell' = true) ∧ ∀ (i : Nat) (x : AV), vs[i]? = some x → Rel m' x (f i) := by
  obtain ⟨hB, hid, cs, e, fr, hb, hlen, hfr, hno, hcell⟩ := hsat.obj _ _ hr.src
  have hle : m.le (m.addCells id (fun o => if o < vs.length then cs[o]? else none)) := by
    refine ⟨fun b o v h => ?_, fun _ _ h => h⟩
    simp only [Im.addCells]
    split
    · rename_i hbb; subst hbb; rw [hno o] at h; cases h
    · exact h
  refine ⟨m.addCells id (fun o => if o < vs.length then cs[o]? else none), hle, hsat.turn (Below.refl B w) hle id (fun _ _ _ => rfl) hB hid (fun b o hb' => by simp [Im.addCells, hb']) (fun o v h => ?_) (fun _ _ => rfl) (fun n h => hsat.size id n h) (fun j o h => ?_) (hr.nodup hsat.nodup (.inl rfl)),
    fun i => (cs[i]?).getD default, fun i hi => ?_, fun i x hx => ?_⟩
  · simp only [Im.addCells, if_true] at h
    split at h
    · rename_i u hu
      cases h
      split at hu
      · simpa [World.cell?, hb] using hu
      · cases hu
    · rw [hno o] at h; cases h
  · rcases hr.mem hsat.nodup _ h with h | ⟨h1, h2⟩
    · cases h
      refine .inl ⟨rfl, cs, e, fr, hb, hfr, fun o ho => ?_⟩
      simp only [Im.addCells, if_true]
      rw [if_neg (by omega)]
      exact hno o
    · exact .inr ⟨h2, h1⟩
  · obtain ⟨c, h1, h2, h3⟩ := hcell i vs[i] (List.getElem?_eq_getElem hi)
    simp only [Im.addCells, if_true, hi, h1, Option.getD_some]
    exact ⟨trivial, h3⟩
  · obtain ⟨c, h1, h2, h3⟩ := hcell i x hx
    simp only [h1, Option.getD_some]
    exact h2.mono hle

theorem ef_cvm (hsat : Sat G B w0 m H w) {s d e e2 : TypeId} {a : AV} {c : Value} {K : AV → Heap → Prop} (h1 : P.underlying s = some (.slice e2)) (h2 : P.underlying d = some (.slice e)) (hsd : (s == d) = true) (h3 : P.underlying e = some (.int .u8))
    (hx : Rel m a c) (h : ef .cvm [a] H K) :
    ∃ w' m' v cv H', (convert s d c).run P w = .ok cv w' ∧ m.le m' ∧ Sat G B w0 m' H' w' ∧ Rel m' v cv ∧ K v H' := by
  have hsh : ∃ id n, a = .msl id 0 n 1 ∧ 0 < n ∧ ∃ vs, (id, AObj.cells vs) ∈ H ∧ n = vs.length ∧ (K (.msl id 0 n 1) H ∨ (AllSz 1 vs ∧ flat vs = vs ∧ ∃ H', Rpl H (id, .cells vs) (id, .spare n) H' ∧ K (.sl vs (.at id n 1)) H')) := by
    cases a with
    | msl id off n sz =>
      cases off with
      | zero =>
        obtain ⟨rfl, h⟩ := (h : sz = 1 ∧ _)
        exact ⟨id, n, rfl, h⟩
      | succ _ => exact h.elim
    | _ => exact h.elim
  obtain ⟨id, n, rfl, hn, vs, hmem, hlen, hK⟩ := hsh
  have hc : ∃ cap n', c = .slice (some ⟨id, 0, none⟩) n cap ∧ n ≤ cap ∧ cap ≤ maxLen ∧ m.size id = some n' ∧ cap ≤ n' := by
    cases hx with
    | msl _ _ _ cap _ n' q1 q2 q3 q4 => exact ⟨cap, n', rfl, q1, q2, q3, by omega⟩
    | msl0 => exact absurd hn (Nat.lt_irrefl _)
  obtain ⟨cap, n', rfl, hlc, hcm, hsz, hcap⟩ := hc
  obtain ⟨hB, hid, cs, el, fr, hb, hvl, hfr, hno, hcell⟩ := hsat.obj _ _ hmem
  obtain ⟨cs0, e0, fr0, g1, g2⟩ := hsat.size id n' hsz
  rw [hb] at g1; cases g1
  have hrun : (convert s d (.slice (some ⟨id, 0, none⟩) n cap)).run P w = .ok (.slice (some ⟨id, 0, none⟩) n cap) (w.freeze ⟨id, cs.size, none⟩ 1) := by
    have hs : w.shape? id = some (el, cs.size) := by simp [World.shape?, hb]
    simp only [convert, Sem.run_bind, run_underlying h1, run_underlying h2, run_underlying h3, Result.andThen_ok, hsd, markStringish, run_shape, hs, run_freeze, Sem.run_pure]
  have hfz := hsat.freezeEnd hfr hB hb (fun o ho t cs e => by subst e; have := hsat.uniq ho hmem; cases this)
  rcases hK with hK | ⟨ha, hfl, H', hr, hK⟩
  · exact ⟨_, m, _, _, _, hrun, .refl m, hfz, .msl _ 0 n cap 1 _ hlc hcm hsz (by omega), hK⟩
  · subst hlen
    obtain ⟨m', l1, l2, f, l3, l4⟩ := hfz.shut hr
    refine ⟨_, m', _, _, _, hrun, l1, l2, ?_, hK⟩
    refine rel_sl (g := f) (by simp) ha hlc hcm (fun i hi => ?_) (fun i hi => (l3 i (by omega)).2) (fun i x hx => l4 i x (by rw [hfl] at hx; exact hx)) (fun b e s h => ?_)
    · rw [Nat.zero_add]; exact (l3 i (by omega)).1
    · cases h
      exact ⟨rfl, by omega, rfl, _, l1.size _ _ hsz, by omega⟩

theorem RelL.one {m : Im} {xs : List AV} {y : Value} (h : RelL m xs [y]) : ∃ x, xs = [x] ∧ Rel m x y := by
  match xs, h with
  | [a], h => exact ⟨a, rfl, h.2 0 _ _ rfl rfl⟩
  | [], h => have := h.1; simp at this
  | _ :: _ :: _, h => have := h.1; simp at this
theorem RelL.two {m : Im} {xs : List AV} {y y' : Value} (h : RelL m xs [y, y']) : ∃ x x', xs = [x, x'] ∧ Rel m x y ∧ Rel m x' y' := by
  match xs, h with
  | [a, b], h => exact ⟨a, b, rfl, h.2 0 _ _ rfl rfl, h.2 1 _ _ rfl rfl⟩
  | [], h => have := h.1; simp at this
  | [_], h => have := h.1; simp at this
  | _ :: _ :: _ :: _, h => have := h.1; simp at this
theorem RelL.three {m : Im} {xs : List AV} {y y' y2 : Value} (h : RelL m xs [y, y', y2]) : ∃ x x' x2, xs = [x, x', x2] ∧ Rel m x y ∧ Rel m x' y' ∧ Rel m x2 y2 := by
  match xs, h with
  | [a, b, c], h => exact ⟨a, b, c, rfl, h.2 0 _ _ rfl rfl, h.2 1 _ _ rfl rfl, h.2 2 _ _ rfl rfl⟩
  | [], h => have := h.1; simp at this
  | [_], h => have := h.1; simp at this
  | [_, _], h => have := h.1; simp at this
  | _ :: _ :: _ :: _ :: _, h => have := h.1; simp at this

theorem ef_sound (hsat : Sat G B w0 m H w) {ρ : Operand → Value} {o : Oper} {op : AOp} {os : List Operand} {xs : List AV} {K : AV → Heap → Prop} (hc : compOp P o.op = some (op, os)) (hr : RelL m xs (os.map ρ)) (hq : op.quiet = false)
    (hn1 : ∀ f, op ≠ .call f) (hn2 : op ≠ .callv) (h : ef op xs H K) : Ef G B w0 P m w (execOp ρ o) K := by
  obtain ⟨dst, oo, ty, pos, after, guard⟩ := o
  simp only at hc
  have qno : ∀ {a : AOp} {l : List Operand}, some (a, l) = some (op, os) → a.quiet = true → False := by
    intro a l e hqa; cases e; rw [hq] at hqa; cases hqa
  cases oo with
  | alloc t =>
    simp only [compOp] at hc
    cases hz : zero? P t with
    | none => rw [hz] at hc; cases hc
    | some z =>
      rw [hz] at hc; simp only [Option.bind_some] at hc
      split at hc
      · rename_i h0
        have := hr.1
        cases hb : isBld z.cells with
        | false =>
          simp only [hb, Bool.false_eq_true, if_false] at hc
          cases hc
          simp at this; subst this
          exact .value (ef_alloc hsat hz h0 h)
        | true =>
          simp only [hb, if_true] at hc
          cases hc
          simp at this; subst this
          exact .value (ef_rawal hsat hz (isBld_eq hb) h)
      · cases hc
  | box t x =>
    simp only [compOp, Option.some.injEq, Prod.mk.injEq] at hc; obtain ⟨rfl, rfl⟩ := hc
    obtain ⟨a, rfl, ha⟩ := hr.one
    exact .value (ef_box hsat ha h)
  | buildSlice t n parts =>
    simp only [compOp] at hc
    split at hc
    · rename_i e hu
      cases hz : zero? P e with
      | none => simp [hz] at hc
      | some z =>
        cases hs : size? P e with
        | none => simp [hz, hs] at hc
        | some s =>
          simp only [hz, hs, Option.bind_some] at hc
          split at hc
          · rename_i hcond
            cases hc
            exact .value (ef_bslice hsat hu hs hz hcond.1 hcond.2.1 hcond.2.2 hr h)
          · cases hc
    · cases hc
  | store t a v =>
    simp only [compOp] at hc
    cases hs : size? P t with
    | none => simp [hs] at hc
    | some s =>
      simp only [hs, Option.map_some, Option.some.injEq, Prod.mk.injEq] at hc; obtain ⟨rfl, rfl⟩ := hc
      obtain ⟨p, x, rfl, hp, hx⟩ := hr.two
      exact .skip (ef_st hsat hs hp hx h)
  | makeMap t r =>
    cases r <;> simp [compOp] at hc
    obtain ⟨rfl, rfl⟩ := hc
    have := hr.1; simp at this; subst this
    exact .value (ef_mkmap hsat h)
  | makeSlice t l c =>
    simp only [compOp] at hc
    split at hc
    · rename_i e hu
      cases hz : zero? P e with
      | none => simp [hz] at hc
      | some z =>
        cases hs : size? P e with
        | none => simp [hz, hs] at hc
        | some s =>
          cases hb : bytes? P e with
          | none => simp [hz, hs, hb] at hc
          | some b =>
            simp only [hz, hs, hb, Option.bind_some] at hc
            split at hc
            · rename_i hcond
              cases hc
              obtain ⟨p, x, rfl, hp, hx⟩ := hr.two
              refine .value ?_
              cases p with
              | int k n =>
                cases x with
                | int k' c' =>
                  generalize hl : ρ l = cl at hp
                  generalize hcc : ρ c = cc at hx
                  cases hp; cases hx
                  exact ef_mksl hsat hu hs hb hz hcond.1 hcond.2 h
                | _ => exact h.elim
              | _ => exact h.elim
            · cases hc
    · cases hc
  | mapUpdate t a b c =>
    simp only [compOp] at hc
    split at hc
    · rename_i kt _ hu
      cases hk : kindT P kt with
      | none => simp [hk] at hc
      | some kd =>
        simp only [hk, Option.map_some, Option.some.injEq, Prod.mk.injEq] at hc; obtain ⟨rfl, rfl⟩ := hc
        obtain ⟨x, y, z, rfl, hx, hy, hz⟩ := hr.three
        refine .skip ?_
        cases x with
        | map id => exact ef_mup hsat hu hk hx hy hz h
        | _ => exact h.elim
    · cases hc
  | range t x =>
    simp only [compOp] at hc
    split at hc
    · rename_i hu
      cases hc
      obtain ⟨a, rfl, ha⟩ := hr.one
      refine .value ?_
      cases a with
      | str s => exact ef_rngs hsat hu ha h
      | _ => exact h.elim
    · cases hc
  | slice t x lo hi mx =>
    cases mx with
    | some _ => simp [compOp] at hc
    | none =>
      simp only [compOp] at hc
      have hl : (lo.map ρ).isSome = lo.isSome := by cases lo <;> rfl
      have hh : (hi.map ρ).isSome = hi.isSome := by cases hi <;> rfl
      have hlist : (lo.toList ++ hi.toList).map ρ = (lo.map ρ).toList ++ (hi.map ρ).toList := by cases lo <;> cases hi <;> rfl
      split at hc
      · exact (qno hc rfl).elim
      · rename_i e hu
        cases hs : size? P e with
        | none => rw [hs] at hc; cases hc
        | some s =>
          rw [hs] at hc
          simp only [Option.bind_some] at hc
          split at hc
          · exact (qno hc rfl).elim
          · cases hc
      · rename_i n e hu
        cases hs : size? P e with
        | none => rw [hs] at hc; cases hc
        | some s =>
          rw [hs] at hc
          simp only [Option.bind_some] at hc
          split at hc
          · rename_i hs0
            cases hc
            cases xs with
            | nil => have := hr.1; simp at this
            | cons a bs =>
              obtain ⟨_, _, e, ha, hbs⟩ := hr.uncons
              simp only [List.map_cons, List.cons.injEq] at e
              obtain ⟨rfl, rfl⟩ := e
              rw [hlist] at hbs
              rw [← hl, ← hh] at h
              exact .value (ef_slp hsat hu hs hs0.2 ha hbs h)
          · cases hc
      · cases hc
  | next it b =>
    cases b <;> simp [compOp] at hc
    obtain ⟨rfl, rfl⟩ := hc
    obtain ⟨a, rfl, ha⟩ := hr.one
    refine .value ?_
    cases a with
    | ptr id off =>
      cases off with
      | zero => exact ef_nxts hsat ha h
      | succ n => exact h.elim
    | _ => exact h.elim
  | convert s d x =>
    simp only [compOp] at hc
    split at hc
    · exact (qno hc rfl).elim
    · exact (qno hc rfl).elim
    · exact (qno hc rfl).elim
    · split at hc
      · exact (qno hc rfl).elim
      · exact (qno hc rfl).elim
      · cases hc
    · rename_i e hs hd
      split at hc
      · rename_i he
        cases hc
        obtain ⟨a, rfl, ha⟩ := hr.one
        refine .value ?_
        cases a with
        | str l => exact ef_sb hsat hs hd he ha h
        | _ => exact h.elim
      · cases hc
    · rename_i e2 e hs hd
      split at hc
      · rename_i he
        split at hc
        · rename_i hsd
          cases hc
          obtain ⟨a, rfl, ha⟩ := hr.one
          exact .value (ef_cvm hsat hs hd hsd he ha h)
        · cases hc
      · cases hc
    · cases hc
  | call c =>
    simp only [compOp, compCall] at hc
    split at hc
    · cases hc; exact absurd rfl (hn1 _)
    · cases hc; exact absurd rfl hn2
    · cases hc
    · rename_i b hcal
      have hexec : ∀ (s : Sem Value), (builtin b c.argTypes ty (c.args.map fun | .const _ => true | _ => false) (c.args.map ρ)) = (do pure (.value (← s))) →
          execOp ρ ⟨dst, .call c, ty, pos, after, guard⟩ = (do pure (.value (← s))) := by
        intro s hs
        simp only [execOp, resolve, hcal, invoke, pure_bind]
        exact hs
      split at hc
      · exfalso
        repeat' split at hc
        all_goals first | (exact qno hc rfl) | (cases hc; done)
      · exfalso
        split at hc
        · cases hc
        · exact qno hc rfl
      · exfalso
        split at hc
        · cases hc
        · exact qno hc rfl
      · rename_i t hat
        have main : ∀ (e t2 : TypeId) (x y : Operand) (d2 : TypeDesc) (s b : Nat) (z : AV), P.underlying t = some (.slice e) → c.argTypes[1]? = some t2 → c.args.toList = [x, y] → P.underlying t2 = some d2 → (∀ k, d2 ≠ .int k) →
            size? P e = some s → bytes? P e = some b → zero? P e = some z → z.cells.length = s → op = .app s b → os = c.args.toList → Ef G B w0 P m w (execOp ρ ⟨dst, .call c, ty, pos, after, guard⟩) K := by
          intro e t2 x y d2 s b z hu ht2 hxy hu2 hd2 hs hb hz hzl hop hos
          subst hop hos
          rw [hxy] at hr
          obtain ⟨a1, a2, rfl, h1, h2⟩ := hr.two
          rw [hexec _ rfl]
          have hargs : c.args.map ρ = #[ρ x, ρ y] := by rw [← Array.toList_inj]; simp [hxy]
          rw [hargs]
          have hl : ∀ (u v : Value), (Builtin.append_ c.argTypes ty #[u, v]).run P w = (Builtin.append_ #[t, t2] ty #[u, v]).run P w := by
            intro u v; simp [Builtin.append_, hat, ht2]
          refine .value ?_
          rw [hl]
          exact ef_app hsat hu hu2 hd2 hs hb hz hzl h1 h2 h
        split at hc
        · rename_i e t2 x y hu ht2 hxy
          split at hc
          · rename_i e2 s b z hu2 hs hb hz
            split at hc
            · rename_i hzl; cases hc; exact main e t2 x y _ s b z hu ht2 hxy hu2 (by simp) hs hb hz hzl rfl rfl
            · cases hc
          · rename_i s b z hu2 hs hb hz
            split at hc
            · rename_i hzl; cases hc; exact main e t2 x y _ s b z hu ht2 hxy hu2 (by simp) hs hb hz hzl rfl rfl
            · cases hc
          · cases hc
        · cases hc
      · rename_i t hat
        split at hc
        · rename_i e x hu hxy
          cases hz : zero? P e with
          | none => rw [hz] at hc; cases hc
          | some z =>
            rw [hz] at hc
            simp only [Option.bind_some] at hc
            cases hs : size? P e with
            | none => rw [hs] at hc; cases hc
            | some s =>
              rw [hs] at hc
              simp only [Option.bind_some] at hc
              split at hc
              · rename_i h0
                cases hc
                rw [hxy] at hr
                obtain ⟨a1, rfl, h1⟩ := hr.one
                rw [hexec _ rfl]
                have hargs : c.args.map ρ = #[ρ x] := by rw [← Array.toList_inj]; simp [hxy]
                rw [hargs]
                have hl : ∀ (u : Value), (Builtin.clear_ c.argTypes ty #[u]).run P w = (Builtin.clear_ #[t] ty #[u]).run P w := by
                  intro u; simp [Builtin.clear_, hat]
                refine .value ?_
                rw [hl]
                exact ef_clr hsat hu hz h0.1 h0.2 h1 h
              · cases hc
        · cases hc
      · rename_i t hat
        split at hc
        · rename_i e x y hu hxy
          cases hs : size? P e with
          | none => rw [hs] at hc; cases hc
          | some s =>
            rw [hs] at hc
            simp only [Option.bind_some] at hc
            split at hc
            · rename_i h0
              cases hc
              rw [hxy] at hr
              obtain ⟨a1, a2, rfl, h1, h2⟩ := hr.two
              rw [hexec _ rfl]
              have hargs : c.args.map ρ = #[ρ x, ρ y] := by rw [← Array.toList_inj]; simp [hxy]
              rw [hargs]
              have hl : ∀ (u v : Value), (Builtin.copy_ c.argTypes ty #[u, v]).run P w = (Builtin.copy_ #[t, t] ty #[u, v]).run P w := by
                intro u v; simp [Builtin.copy_, hat]
              refine .value ?_
              rw [hl]
              exact ef_cpy hsat hu hs h0 h1 h2 h
            · cases hc
        · cases hc
      · cases hc
  | binOp b t x y yt =>
    exfalso
    simp only [compOp] at hc
    split at hc
    · split at hc
      · cases hks : (Array.toList _).mapM (fun (f : Field) => kindT P f.type) with
        | none => rw [hks] at hc; cases hc
        | some ks =>
          rw [hks] at hc
          simp only [Option.bind_some] at hc
          split at hc
          · exact qno hc rfl
          · cases hc
      · cases hk : eqKind _ with
        | none => rw [hk] at hc; cases hc
        | some kd => rw [hk] at hc; exact qno hc rfl
      · cases hc
    · split at hc
      · cases hks : (Array.toList _).mapM (fun (f : Field) => kindT P f.type) with
        | none => rw [hks] at hc; cases hc
        | some ks =>
          rw [hks] at hc
          simp only [Option.bind_some] at hc
          split at hc
          · exact qno hc rfl
          · cases hc
      · cases hk : eqKind _ with
        | none => rw [hk] at hc; cases hc
        | some kd => rw [hk] at hc; exact qno hc rfl
      · cases hc
    · exact qno hc rfl
  | move x => exact (qno hc rfl).elim
  | assign x => exact (qno hc rfl).elim
  | pick c a b => exact (qno hc rfl).elim
  | nilCheck x => exact (qno hc rfl).elim
  | extract x i => exact (qno hc rfl).elim
  | unOp u t x => exact (qno hc rfl).elim
  | makeFunc f a b => exact (qno hc rfl).elim
  | load t a =>
    exfalso
    simp only [compOp] at hc
    cases hg : isAgg? P t with
    | none => rw [hg] at hc; cases hc
    | some g =>
      cases hs : size? P t with
      | none => simp [hg, hs] at hc
      | some s => simp only [hg, hs, Option.bind_some, Option.map_some] at hc; exact qno hc rfl
  | makeInterface t x =>
    exfalso
    simp only [compOp] at hc
    split at hc
    · cases hc
    · cases hc
    · exact qno hc rfl
  | fieldAddr t x i =>
    exfalso
    simp only [compOp] at hc
    split at hc
    · rename_i fs hu
      cases hf : fs[i]? with
      | none => rw [hf] at hc; cases hc
      | some f =>
        cases hs : size? P f.type with
        | none => simp [hf, hs] at hc
        | some s =>
          simp only [hf, hs, Option.bind_some] at hc
          split at hc
          · exact qno hc rfl
          · cases hc
    · cases hc
  | field t x i =>
    exfalso
    simp only [compOp] at hc
    split at hc
    · rename_i fs hu
      cases hf : fs[i]? with
      | none => rw [hf] at hc; cases hc
      | some f =>
        cases hg : isAgg? P f.type with
        | none => simp [hf, hg] at hc
        | some g =>
          cases hs : size? P f.type with
          | none => simp [hf, hg, hs] at hc
          | some s => simp only [hf, hg, hs, Option.bind_some, Option.map_some] at hc; exact qno hc rfl
    · cases hc
  | indexAddr t x i =>
    exfalso
    simp only [compOp] at hc
    split at hc
    · cases hs : size? P _ with
      | none => rw [hs] at hc; cases hc
      | some s =>
        rw [hs] at hc; simp only [Option.bind_some] at hc
        split at hc
        · exact qno hc rfl
        · cases hc
    · cases hs : size? P _ with
      | none => rw [hs] at hc; cases hc
      | some s =>
        rw [hs] at hc; simp only [Option.bind_some] at hc
        split at hc
        · exact qno hc rfl
        · cases hc
    · cases hc
  | index t x i =>
    exfalso
    simp only [compOp] at hc
    split at hc
    · exact qno hc rfl
    · rename_i n e hu
      cases hg : isAgg? P e with
      | none => simp [hg] at hc
      | some g =>
        cases hs : size? P e with
        | none => simp [hg, hs] at hc
        | some s => simp only [hg, hs, Option.bind_some, Option.map_some] at hc; exact qno hc rfl
    · cases hc
  | lookup t x i ok =>
    exfalso
    simp only [compOp] at hc
    split at hc
    · rename_i k e hu
      cases hk : kindT P k with
      | none => simp [hk] at hc
      | some kd =>
        cases hz : zero? P e with
        | none => simp [hk, hz] at hc
        | some z => simp only [hk, hz, Option.bind_some, Option.map_some] at hc; exact qno hc rfl
    · cases hc
  | typeAssert x xt t ok =>
    exfalso
    simp only [compOp] at hc
    split at hc
    · cases hc
    · split at hc
      · cases hz : zero? P t with
        | none => rw [hz] at hc; cases hc
        | some z => rw [hz] at hc; exact qno hc rfl
      · exact qno hc rfl
    · cases hc
  | build t parts =>
    exfalso
    simp only [compOp] at hc
    split at hc
    · cases hz : zero? P t with
      | none => rw [hz] at hc; cases hc
      | some z =>
        rw [hz] at hc
        simp only [Option.bind_some] at hc
        rw [Option.bind_eq_some_iff] at hc
        obtain ⟨pl, _, hc⟩ := hc
        split at hc
        · split at hc
          · exact qno hc rfl
          · cases hc
        · cases hc
    · rename_i n e hu
      cases hz : zero? P t with
      | none => rw [hz] at hc; cases hc
      | some z =>
        cases hs : size? P e with
        | none => simp [hz, hs] at hc
        | some s =>
          simp only [hz, hs, Option.bind_some] at hc
          split at hc
          · exact qno hc rfl
          · cases hc
    · cases hc
  | _ => simp [compOp] at hc

end
end Go.AL

/- The abstract layer, part 14: environments, calls, one operation as a step of the model. -/
namespace Go.AL
open Go.RowKit

/-- What is known of a frame's slots. -/
abbrev Env := List (Nat × AV)

def Env.get : Env → Nat → AV
  | [], _ => .any
  | (t, v) :: σ, s => if s = t then v else Env.get σ s
def Env.put (σ : Env) (d : Option Nat) (v : AV) : Env := match d with | some t => (t, v) :: σ | none => σ
def Env.keep (σ : Env) (ts : List Nat) : Env := ts.map fun t => (t, σ.get t)

def opE (G : Nat → Option (List AV)) (σ : Env) : Operand → AV
  | .tmp t => σ.get t
  | .const v => (toAV v).getD .any
  | .global g => match G g with | some cs => .iptr cs | none => .any
  | .func f => .fn (.func f) [] []

structure AOper where
  dst : Option Nat
  op : AOp
  args : List Operand
  guard : Option (Nat × Bool)

/-- The frame's slots hold what is known of them; nothing is deferred. -/
structure RelT (m : Im) (n : Nat) (σ : Env) (a : Act) : Prop where
  size : a.tmps.size = n
  defers : a.defers = []
  rel : ∀ t, Rel m (σ.get t) (a.tmps.getD t undef)

def FnOk (P : Program) (f : FuncId) : Prop := ∃ fn, P.funcs[f]? = some fn ∧ (fn.name == "runtime.NumGoroutine") = false ∧ fn.body.isSome = true

/-- A call, abstractly. -/
def ACalls (G : Nat → Option (List AV)) (P : Program) (f : FuncId) (args : List AV) (H : Heap) (K : AV → Heap → Prop) : Prop :=
  FnOk P f ∧ ∀ B w0 m w (cargs : Array Value), Sat G B w0 m H w → RelL m args cargs.toList →
    Calls P f cargs w fun e w' => ∃ v cv m' H', e = .returned cv ∧ m.le m' ∧ Sat G B w0 m' H' w' ∧ Rel m' v cv ∧ K v H'

/-- What an operation does, of whatever kind. -/
def eff (G : Nat → Option (List AV)) (P : Program) (op : AOp) (xs : List AV) (H : Heap) (K : AV → Heap → Prop) : Prop :=
  match op with
  | .call f => ACalls G P f xs H K
  | .callv => match xs with
    | .fn (.func f) first captured :: ys => ACalls G P f (first ++ ys ++ captured) H K
    | _ => False
  | op => if op.quiet then ∃ v, Rd op xs H v ∧ K v H else ef op xs H K

/-- Is an operation wanted? -/
def gate (σ : Env) (g : Option (Nat × Bool)) (yes no : Prop) : Prop :=
  match g with
  | none => yes
  | some (t, want) => match σ.get t with
    | .bool b => if b = want then yes else no
    | .tup [] => no
    | _ => False

def doOp (G : Nat → Option (List AV)) (P : Program) (o : AOper) (σ : Env) (H : Heap) (K : Env → Heap → Prop) : Prop :=
  gate σ o.guard (eff G P o.op (o.args.map (opE G σ)) H fun v H' => K (σ.put o.dst v) H') (K (σ.put o.dst .undef) H)

def dstOk (d : Option Nat) (n : Nat) : Bool := match d with | some t => decide (t < n) | none => true

/-- An operation turned; one that is not covered is held to be stuck. -/
def compOpT (P : Program) (o : Op) : AOp × List Operand := (compOp P o).getD (.stuck, [])
/-- An operation of a region turned. -/
def compO (P : Program) (n : Nat) (ops : Array Oper) (o : Oper) : Option AOper :=
  if dstOk o.dst n then
    match o.guard with
    | none => some ⟨o.dst, (compOpT P o.op).1, (compOpT P o.op).2, none⟩
    | some (j, want) => ((ops[j]?).bind (·.dst)).map fun t => ⟨o.dst, (compOpT P o.op).1, (compOpT P o.op).2, some (t, want)⟩
  else none

section
variable {G : Nat → Option (List AV)} {B : Nat} {w0 w w' : World} {m m' : Im} {H H' : Heap} {P : Program} {n : Nat} {σ : Env} {a : Act}

theorem RelT.mono (h : RelT m n σ a) (hm : m.le m') : RelT m' n σ a := ⟨h.size, h.defers, fun t => (h.rel t).mono hm⟩

theorem RelT.opE (h : RelT m n σ a) (hs : Sat G B w0 m H w) (x : Operand) : Rel m (opE G σ x) (a.eval x) := by
  cases x with
  | tmp t => exact h.rel t
  | const v =>
    simp only [Go.AL.opE, Act.eval]
    cases h : toAV v with
    | none => exact .any _
    | some y => exact toAV_rel h
  | global g =>
    simp only [Go.AL.opE, Act.eval]
    cases h : G g with
    | none => exact .any _
    | some cs => exact (hs.glob g cs h).2
  | func f => exact .fn (.func f) [] [] #[] #[] rfl rfl (fun i x y h => by simp at h) (fun i x y h => by simp at h)

theorem RelT.args (h : RelT m n σ a) (hs : Sat G B w0 m H w) (os : List Operand) : RelL m (os.map (Go.AL.opE G σ)) (os.map a.eval) := by
  induction os with
  | nil => exact RelL.nil m
  | cons x os ih => exact ih.cons (h.opE hs x)

theorem RelT.put (h : RelT m n σ a) {d : Option Nat} (hd : ∀ t, d = some t → t < n) {v : AV} {c : Value} (hv : Rel m v c) : RelT m n (σ.put d v) (a.put d c) := by
  cases d with
  | none => exact h
  | some t =>
    refine ⟨by simp [Act.put, h.size], h.defers, fun s => ?_⟩
    simp only [Env.put, Env.get, Act.put]
    by_cases hst : s = t
    · subst hst
      have : s < a.tmps.size := by rw [h.size]; exact hd s rfl
      simp [this, hv]
    · rw [if_neg hst, Array.getD_eq_getD_getElem?, Array.getElem?_setIfInBounds_ne (Ne.symm hst), ← Array.getD_eq_getD_getElem?]
      exact h.rel s

theorem Env.get_keep (σ : Env) (ts : List Nat) (s : Nat) : (σ.keep ts).get s = σ.get s ∨ (σ.keep ts).get s = .any := by
  induction ts with
  | nil => exact .inr rfl
  | cons t ts ih =>
    simp only [Env.keep, List.map_cons, Env.get]
    by_cases h : s = t
    · subst h; simp
    · rw [if_neg h]; exact ih

theorem RelT.keep (h : RelT m n σ a) (ts : List Nat) : RelT m n (σ.keep ts) a := by
  refine ⟨h.size, h.defers, fun s => ?_⟩
  rcases Env.get_keep σ ts s with e | e
  · rw [e]; exact h.rel s
  · rw [e]; exact .any _

/-- What stands behind a step. -/
def Cont (G : Nat → Option (List AV)) (B : Nat) (w0 : World) (m : Im) (n : Nat) (K : Env → Heap → Prop) (a : Act) (w : World) : Prop :=
  ∃ m' σ' H', m.le m' ∧ Sat G B w0 m' H' w ∧ RelT m' n σ' a ∧ K σ' H'

theorem callFunc_run {f : FuncId} (hf : FnOk P f) (args : Array Value) (w : World) : (callFunc f args).run P w = .ok (.enter f args) w := by
  obtain ⟨fn, h1, h2, h3⟩ := hf
  have h4 : fn.body.isNone = false := by cases hb : fn.body <;> simp_all
  simp only [callFunc, Sem.run_bind, run_program, Result.andThen_ok, h1]
  rw [h2]
  simp [h4]

def AOp.isCall : AOp → Bool
  | .call _ | .callv => true
  | _ => false

/-- No result of a turning is a call. -/
def NoCall (o : Option (AOp × List Operand)) : Prop := ∀ x, o = some x → x.1.isCall = false
theorem noCall_none : NoCall none := fun x h => by cases h
theorem noCall_some {op : AOp} {os : List Operand} (h : op.isCall = false) : NoCall (some (op, os)) := fun x e => by cases e; exact h
theorem noCall_bind {α : Type} {x : Option α} {f : α → Option (AOp × List Operand)} (h : ∀ a, NoCall (f a)) : NoCall (x.bind f) := by
  cases x with
  | none => exact noCall_none
  | some a => exact h a
theorem noCall_map {α : Type} {x : Option α} {f : α → AOp × List Operand} (h : ∀ a, (f a).1.isCall = false) : NoCall (x.map f) := by
  cases x with
  | none => exact noCall_none
  | some a => intro y e; cases e; exact h a

theorem noCall_use {op : AOp} {os : List Operand} {o : Option (AOp × List Operand)} (h : NoCall o) (e : o = some (op, os)) : (∀ f, op ≠ .call f) ∧ op ≠ .callv := by
  have := h _ e
  exact ⟨fun f hf => (by rw [hf] at this; cases this), fun hf => (by rw [hf] at this; cases this)⟩

theorem compCall_nc {c : Call} {op : AOp} {os : List Operand} (h : compCall P c = some (op, os)) (hn : ∀ x, c.callee ≠ .value x) : (∀ f, op ≠ .call f) ∧ op ≠ .callv := by
  refine noCall_use ?_ h
  unfold compCall
  split
  · rename_i h; exact absurd h (hn _)
  · rename_i h; exact absurd h (hn _)
  · exact noCall_none
  · repeat' first
      | exact noCall_none
      | exact noCall_some rfl
      | (refine noCall_bind fun _ => ?_)
      | (refine noCall_map fun _ => ?_; rfl)
      | split
      | (dsimp only; split)

theorem compOp_nc {o : Op} {op : AOp} {os : List Operand} (h : compOp P o = some (op, os)) (hn : ∀ c, o ≠ .call c) : (∀ f, op ≠ .call f) ∧ op ≠ .callv := by
  refine noCall_use ?_ h
  clear h
  cases o
  case call c => exact absurd rfl (hn c)
  case makeMap t r => cases r <;> simp only [compOp] <;> first | exact noCall_none | exact noCall_some rfl
  case next it b => cases b <;> simp only [compOp] <;> first | exact noCall_none | exact noCall_some rfl
  case slice t x lo hi mx =>
    cases mx <;> simp only [compOp]
    · repeat' first
        | exact noCall_none
        | exact noCall_some rfl
        | (refine noCall_bind fun _ => ?_)
        | split
    · exact noCall_none
  all_goals simp only [compOp]
  all_goals repeat' first
      | exact noCall_none
      | exact noCall_some rfl
      | (refine noCall_bind fun _ => ?_)
      | (refine noCall_map fun _ => ?_; rfl)
      | split
      | (dsimp only; split)

theorem eff_sound (hsat : Sat G B w0 m H w) (hrel : RelT m n σ a) {o : Oper} {op : AOp} {os : List Operand} {Q : Exit → Act → World → Prop} {Kc : Act → World → Prop} {K : AV → Heap → Prop} (hc : compOp P o.op = some (op, os))
    (hd : ∀ t, o.dst = some t → t < n) (h : eff G P op (os.map (opE G σ)) H K)
    (hK : ∀ m' w' v cv H', m.le m' → Sat G B w0 m' H' w' → Rel m' v cv → K v H' → Kc (a.put o.dst cv) w') : o.wp P a w Kc Q := by
  have hargs := hrel.args hsat os
  have plain : ∀ (hq : op.quiet = true), (∃ v, Rd op (os.map (opE G σ)) H v ∧ K v H) → o.wp P a w Kc Q := by
    intro hq ⟨v, hv, hk⟩
    obtain ⟨cv, h1, h2⟩ := rd_sound hsat hc hargs hq hv
    unfold Oper.wp
    rw [h1]
    exact hK m w v cv H (.refl m) hsat h2 hk
  have loud : ∀ (hq : op.quiet = false), (∀ f, op ≠ .call f) → op ≠ .callv → ef op (os.map (opE G σ)) H K → o.wp P a w Kc Q := by
    intro hq h1 h2 h
    obtain ⟨nx, w', m', v, cv, H', e1, e2, e3, e4, e5, e6⟩ := ef_sound hsat hc hargs hq h1 h2 h
    unfold Oper.wp
    rw [e1]
    rcases e2 with rfl | ⟨rfl, rfl⟩
    · exact hK m' w' v cv H' e3 e4 e5 e6
    · exact hK m' w' v undef H' e3 e4 e5 e6
  have callK : ∀ {f : FuncId} {xs : List AV} {cargs : Array Value}, ACalls G P f xs H K → RelL m xs cargs.toList → (execOp a.eval o).run P w = .ok (.enter f cargs) w → o.wp P a w Kc Q := by
    intro f xs cargs hA hr he
    unfold Oper.wp
    rw [he]
    refine (hA.2 B w0 m w cargs hsat hr).mono ?_
    rintro e w' ⟨v, cv, m', H', rfl, h1, h2, h3, h4⟩
    exact hK m' w' v cv H' h1 h2 h3 h4
  obtain ⟨dst, oo, ty, pos, after, guard⟩ := o
  by_cases hcc : ∃ c, oo = .call c
  · obtain ⟨c, rfl⟩ := hcc
    have hc' : compCall P c = some (op, os) := hc
    have h2 := hc'
    unfold compCall at h2
    split at h2
    · rename_i f hcal
      cases h2
      have hA : ACalls G P f (c.args.toList.map (opE G σ)) H K := h
      refine callK hA (cargs := c.args.map a.eval) (by simpa using hargs) ?_
      simp only [execOp, resolve, hcal, Sem.run_bind, Sem.run_pure, Result.andThen_ok, Act.eval, Deferred.ofValue]
      simp only [invoke, Array.empty_append, Array.append_empty]
      exact callFunc_run hA.1 _ w
    · rename_i x hnf hcal
      cases h2
      have hv : match (x :: c.args.toList).map (opE G σ) with
        | .fn (.func f) first captured :: ys => ACalls G P f (first ++ ys ++ captured) H K
        | _ => False := h
      simp only [List.map_cons] at hv hargs
      obtain ⟨cx, cs, e, hx, hxs⟩ := hargs.uncons
      simp only [List.cons.injEq] at e
      obtain ⟨rfl, rfl⟩ := e
      generalize hax : opE G σ x = ax at hv hx
      cases ax <;> try (exact hv.elim)
      rename_i fn first captured
      cases fn <;> try (exact hv.elim)
      rename_i f
      generalize hcx : a.eval x = cx at hx
      cases hx with
      | fn _ _ _ fa ca hf hcp hfr hcr =>
        have hA : ACalls G P f (first ++ c.args.toList.map (opE G σ) ++ captured) H K := hv
        have r1 : RelL m first fa.toList := ⟨by simpa using hf, fun i x y h1 h2 => hfr i x y h1 (by simpa using h2)⟩
        have r2 : RelL m captured ca.toList := ⟨by simpa using hcp, fun i x y h1 h2 => hcr i x y h1 (by simpa using h2)⟩
        refine callK hA (cargs := fa ++ c.args.map a.eval ++ ca) (by
          simp only [Array.toList_append, Array.toList_map]
          exact (r1.append hxs).append r2) ?_
        simp only [execOp, resolve, hcal, hcx, Sem.run_bind, Sem.run_pure, Result.andThen_ok, Deferred.ofValue]
        simp only [invoke]
        exact callFunc_run hA.1 _ w
    · cases h2
    · have hnc := compCall_nc hc' (by rename_i b hcal; intro x hx; rw [hcal] at hx; cases hx)
      have h' : if op.quiet then ∃ v, Rd op (os.map (opE G σ)) H v ∧ K v H else ef op (os.map (opE G σ)) H K := by
        unfold eff at h
        split at h
        · exact absurd rfl (hnc.1 _)
        · exact absurd rfl hnc.2
        · exact h
      cases hq : op.quiet with
      | true => rw [hq] at h'; exact plain hq h'
      | false => rw [hq] at h'; exact loud hq hnc.1 hnc.2 h'
  · have hnc := compOp_nc hc (fun c e => hcc ⟨c, e⟩)
    have h' : if op.quiet then ∃ v, Rd op (os.map (opE G σ)) H v ∧ K v H else ef op (os.map (opE G σ)) H K := by
      unfold eff at h
      split at h
      · exact absurd rfl (hnc.1 _)
      · exact absurd rfl hnc.2
      · exact h
    cases hq : op.quiet with
    | true => rw [hq] at h'; exact plain hq h'
    | false => rw [hq] at h'; exact loud hq hnc.1 hnc.2 h'

end
end Go.AL

/- The abstract layer, part 15: regions. -/
namespace Go.AL
open Go.RowKit

/-- The operations of a region, one after another. -/
def runL (G : Nat → Option (List AV)) (P : Program) : List AOper → Env → Heap → (Env → Heap → Prop) → Prop
  | [], σ, H, K => K σ H
  | o :: l, σ, H, K => doOp G P o σ H fun σ' H' => runL G P l σ' H' K

section
variable {G : Nat → Option (List AV)} {B : Nat} {w0 w w' : World} {m m' : Im} {H H' : Heap} {P : Program} {n : Nat} {σ : Env} {a : Act} {ops : Array Oper}

theorem compOpT_or (P : Program) (o : Op) : compOp P o = some ((compOpT P o).1, (compOpT P o).2) ∨ (compOpT P o).1 = .stuck := by
  unfold compOpT
  cases compOp P o with
  | none => exact .inr rfl
  | some c => exact .inl rfl
theorem compO_dst {o : Oper} {ao : AOper} (h : compO P n ops o = some ao) : ao.dst = o.dst ∧ (∀ t, o.dst = some t → t < n) ∧ (compOp P o.op = some (ao.op, ao.args) ∨ ao.op = .stuck) ∧
    (match o.guard, ao.guard with
      | none, none => True
      | some (j, want), some (t, want') => (ops[j]?).bind (·.dst) = some t ∧ want = want'
      | _, _ => False) := by
  unfold compO at h
  split at h
  · rename_i hd
    have hd' : ∀ t, o.dst = some t → t < n := by
      intro t ht
      rw [ht] at hd
      simpa [dstOk] using hd
    split at h
    · rename_i hg
      cases h
      rw [hg]
      exact ⟨rfl, hd', compOpT_or P o.op, trivial⟩
    · rename_i j want hg
      cases hj : (ops[j]?).bind (·.dst) with
      | none => rw [hj] at h; cases h
      | some t =>
        rw [hj] at h; cases h
        rw [hg]
        exact ⟨rfl, hd', compOpT_or P o.op, hj, rfl⟩
  · cases h

theorem doOp_sound (hsat : Sat G B w0 m H w) (hrel : RelT m n σ a) {i : Nat} {o : Oper} {ao : AOper} {K : Env → Heap → Prop} {Q : Exit → Act → World → Prop} {Kc : Act → World → Prop} (ho : ops[i]? = some o) (hc : compO P n ops o = some ao)
    (h : doOp G P ao σ H K) (hK : ∀ m' w' a' σ' H', m.le m' → Sat G B w0 m' H' w' → RelT m' n σ' a' → K σ' H' → Kc a' w') : wpOp P ops Q i Kc a w := by
  obtain ⟨hdst, hd, hco, hg⟩ := compO_dst hc
  have yes : eff G P ao.op (ao.args.map (opE G σ)) H (fun v H' => K (σ.put ao.dst v) H') → o.wp P a w Kc Q := by
    intro h
    rcases hco with hco | hst
    case inr => rw [hst] at h; exact (show False from h).elim
    refine eff_sound hsat hrel hco hd h (fun m' w' v cv H' h1 h2 h3 h4 => hK m' w' _ _ H' h1 h2 ((hrel.mono h1).put hd h3) ?_)
    rw [hdst] at h4; exact h4
  have no : K (σ.put ao.dst .undef) H → Kc (a.put o.dst undef) w := by
    intro h
    rw [hdst] at h
    exact hK m w _ _ H (.refl m) hsat (hrel.put hd (.tup [] #[] rfl (fun i x y h => by simp at h))) h
  unfold wpOp
  rw [ho]
  simp only
  unfold doOp gate at h
  cases hgo : o.guard with
  | none =>
    rw [hgo] at hg
    have hw : Region.wanted o (yielded ops a.tmps) = true := by simp [Region.wanted, hgo]
    rw [if_pos hw]
    cases hga : ao.guard with
    | none => rw [hga] at h; exact .inl (yes h)
    | some _ => rw [hga] at hg; exact hg.elim
  | some jw =>
    obtain ⟨j, want⟩ := jw
    rw [hgo] at hg
    cases hga : ao.guard with
    | none => rw [hga] at hg; exact hg.elim
    | some tw =>
      obtain ⟨t, want'⟩ := tw
      rw [hga] at hg h
      obtain ⟨hj, rfl⟩ := hg
      simp only at h
      have hrt := hrel.rel t
      have hy : yielded ops a.tmps j = match a.tmps[t]? with | some (.bool b) => some b | _ => none := by
        unfold yielded; rw [hj]; rfl
      split at h
      · rename_i b hb
        rw [hb] at hrt
        generalize hgt : a.tmps.getD t undef = cv at hrt
        cases hrt
        have htm : a.tmps[t]? = some (.bool b) := by
          rw [Array.getD_eq_getD_getElem?] at hgt
          cases hq : a.tmps[t]? with
          | none => rw [hq] at hgt; cases hgt
          | some u => rw [hq] at hgt; simp at hgt; rw [hgt]
        have hw : Region.wanted o (yielded ops a.tmps) = (b == want) := by simp [Region.wanted, hgo, hy, htm]
        rw [hw]
        split at h
        · rename_i hbw; subst hbw; simp only [beq_self_eq_true, if_true]; exact .inl (yes h)
        · rename_i hbw
          have : (b == want) = false := by simpa using hbw
          rw [this]; exact no h
      · rename_i hb
        rw [hb] at hrt
        generalize hgt : a.tmps.getD t undef = cv at hrt
        have hyn : yielded ops a.tmps j = none := by
          rw [hy]
          rw [Array.getD_eq_getD_getElem?] at hgt
          cases hq : a.tmps[t]? with
          | none => rfl
          | some u =>
            rw [hq] at hgt; simp at hgt; subst hgt
            cases hrt
            rfl
        have hw : Region.wanted o (yielded ops a.tmps) = false := by simp [Region.wanted, hgo, hyn]
        rw [hw]; exact no h
      · exact h.elim

/-- What a piece of code may end in, abstractly and in the model. -/
def Post (G : Nat → Option (List AV)) (B : Nat) (w0 : World) (m : Im) (n : Nat) (Q : Exit → Env → Heap → Prop) : Exit → Act → World → Prop :=
  fun e a w => ∃ m' σ H, m.le m' ∧ Sat G B w0 m' H w ∧ RelT m' n σ a ∧ Q e σ H

theorem runL_sound {aos : List AOper} (hlen : aos.length = ops.size) (hcs : ∀ (i : Nat) (o : Oper), ops[i]? = some o → ∃ ao : AOper, aos[i]? = some ao ∧ compO P n ops o = some ao) {K : Env → Heap → Prop} {Q : Exit → Act → World → Prop} :
    ∀ (k i : Nat), i + k = ops.size → ∀ (m : Im) (w : World) (a : Act) (σ : Env) (H : Heap), Sat G B w0 m H w → RelT m n σ a → runL G P (aos.drop i) σ H K →
      (∀ m' w' a' σ' H', m.le m' → Sat G B w0 m' H' w' → RelT m' n σ' a' → K σ' H' → Q .normal a' w') → wpOps P ops Q (List.range' i k) a w
  | 0, i, hi, m, w, a, σ, H, hsat, hrel, h, hK => by
    rw [List.drop_eq_nil_of_le (by omega)] at h
    exact hK m w a σ H (.refl m) hsat hrel h
  | k + 1, i, hi, m, w, a, σ, H, hsat, hrel, h, hK => by
    have hlt : i < ops.size := by omega
    rw [List.range'_succ, wpOps_cons]
    obtain ⟨ao, ha, hco⟩ := hcs i ops[i] (Array.getElem?_eq_getElem hlt)
    have hd : aos.drop i = ao :: aos.drop (i + 1) := by
      have hl : i < aos.length := by omega
      rw [List.drop_eq_getElem_cons hl]
      congr 1
      rw [List.getElem?_eq_getElem hl] at ha; cases ha; rfl
    rw [hd] at h
    exact doOp_sound hsat hrel (Array.getElem?_eq_getElem hlt) hco h (fun m' w' a' σ' H' h1 h2 h3 h4 =>
      runL_sound hlen hcs k (i + 1) (by omega) m' w' a' σ' H' h2 h3 h4 (fun m2 w2 a2 σ2 H2 g1 g2 g3 g4 => hK m2 w2 a2 σ2 H2 (h1.trans g1) g2 g3 g4))

/-- All operations of a region turned. -/
def compR (P : Program) (n : Nat) (ops : Array Oper) : Option (List AOper) := ops.toList.mapM (compO P n ops)

theorem compR_spec {aos : List AOper} (h : compR P n ops = some aos) : aos.length = ops.size ∧ ∀ (i : Nat) (o : Oper), ops[i]? = some o → ∃ ao : AOper, aos[i]? = some ao ∧ compO P n ops o = some ao := by
  obtain ⟨h1, h2⟩ := mapM_len h
  refine ⟨by simpa using h1, fun i o ho => ?_⟩
  have hi : i < aos.length := by rw [h1]; simpa using (Array.getElem?_eq_some_iff.1 ho).1
  exact ⟨aos[i], List.getElem?_eq_getElem hi, h2 i o _ (by simpa using ho) (List.getElem?_eq_getElem hi)⟩

/-- A piece of code, abstractly. -/
def AWp (G : Nat → Option (List AV)) (P : Program) (n : Nat) (c : Code) (σ : Env) (H : Heap) (Q : Exit → Env → Heap → Prop) : Prop :=
  ∀ B w0 m w a, Sat G B w0 m H w → RelT m n σ a → c.wp P (Post G B w0 m n Q) a w

theorem AWp_region {id : Nat} {aos : List AOper} {K : Env → Heap → Prop} {Q : Exit → Env → Heap → Prop} (hc : compR P n ops = some aos) (h : runL G P aos σ H K) (hK : ∀ σ H, K σ H → Q .normal σ H) : AWp G P n (.region id ops false) σ H Q := by
  intro B w0 m w a hsat hrel
  obtain ⟨h1, h2⟩ := compR_spec hc
  refine wp_region ?_
  rw [List.range_eq_range']
  exact runL_sound h1 h2 ops.size 0 (by omega) m w a σ H hsat hrel h (fun m' w' a' σ' H' g1 g2 g3 g4 => ⟨m', σ', H', g1, g2, g3, hK _ _ g4⟩)

end
end Go.AL

/- The abstract layer, part 16: regions that draw their order. -/
namespace Go.AL
open Go.RowKit

/-- Does a quiet operation look at memory that may turn? -/
def AOp.reads : AOp → Bool
  | .ld _ _ | .len 2 | .lkp _ _ _ | .cvb => true
  | _ => false

structure Item where
  i : Nat
  o : AOper
  ob : List Nat

structure Pend where
  i : Nat
  op : AOp
  xs : List AV
  v : AV

/-- What was read stays as it was read. -/
def oblP (ob : List Nat) (pend : List Pend) (H : Heap) (X : Prop) : Prop :=
  match ob with
  | [] => X
  | _ => (∀ p ∈ pend, p.i ∈ ob → Rd p.op p.xs H p.v) ∧ X

def seqD (G : Nat → Option (List AV)) (P : Program) : List Item → List Pend → Env → Heap → (Env → Heap → Prop) → Prop
  | [], _, σ, H, K => K σ H
  | x :: l, pend, σ, H, K =>
    gate σ x.o.guard
      (if x.o.op.quiet then ∃ v, Rd x.o.op (x.o.args.map (opE G σ)) H v ∧ seqD G P l (⟨x.i, x.o.op, x.o.args.map (opE G σ), v⟩ :: pend) (σ.put x.o.dst v) H K
       else eff G P x.o.op (x.o.args.map (opE G σ)) H fun v H' => oblP x.ob pend H' (seqD G P l pend (σ.put x.o.dst v) H' K))
      (seqD G P l pend (σ.put x.o.dst .undef) H K)

def tmpsOf (o : AOper) : List Nat := (o.args.filterMap fun | .tmp t => some t | _ => none) ++ (match o.guard with | some (t, _) => [t] | none => [])

/-- Two operations that do not touch each other's slots. -/
def apartO (x y : AOper) : Bool :=
  (match x.dst with | some d => !(tmpsOf y).contains d && y.dst != some d | none => true) && (match y.dst with | some d => !(tmpsOf x).contains d | none => true)

/-- x may be done behind j, though it stands before it. -/
def pairOk (x j : Item) : Bool := x.o.op.quiet && apartO x.o j.o && (j.o.op.quiet || !x.o.op.reads || j.ob.contains x.i)

section
variable {G : Nat → Option (List AV)} {B : Nat} {w0 w w' : World} {m m' : Im} {H H' : Heap} {P : Program} {n : Nat} {σ : Env} {a : Act} {ops : Array Oper}

theorem ACalls.mono {f : FuncId} {xs : List AV} {K K' : AV → Heap → Prop} (h : ACalls G P f xs H K) (hK : ∀ v H, K v H → K' v H) : ACalls G P f xs H K' :=
  ⟨h.1, fun B w0 m w cargs h1 h2 => (h.2 B w0 m w cargs h1 h2).mono fun _ _ ⟨v, cv, m', H', e1, e2, e3, e4, e5⟩ => ⟨v, cv, m', H', e1, e2, e3, e4, hK _ _ e5⟩⟩

theorem ef_mono {op : AOp} {xs : List AV} {K K' : AV → Heap → Prop} (hK : ∀ v H, K v H → K' v H) (h : ef op xs H K) : ef op xs H K' := by
  unfold ef at h ⊢
  split at h
  · obtain ⟨id, off, vs, H', h1, h2, h3, h4, h5, h6⟩ := h; exact ⟨id, off, vs, H', h1, h2, h3, h4, h5, hK _ _ h6⟩
  · exact ⟨h.1, fun id hid => hK _ _ (h.2 id hid)⟩
  · exact fun id hid => hK _ _ (h id hid)
  · exact fun id hid => hK _ _ (h id hid)
  · obtain ⟨cs, h1, h2⟩ := h
    exact ⟨cs, h1, h2.imp (fun h id hid => hK _ _ (h id hid)) (fun ⟨ys, g1, g2, g3, g4⟩ => ⟨ys, g1, g2, g3, fun id hid => hK _ _ (g4 id hid)⟩)⟩
  · exact ⟨h.1, h.2.imp (fun h id hid => hK _ _ (h id hid)) (fun h id hid => hK _ _ (h id hid))⟩
  · obtain ⟨h0, h1, vs, h2, h3, h4⟩ := h
    exact ⟨h0, h1, vs, h2, h3, h4.imp (fun h => hK _ _ h) (fun ⟨g0, g1, H', g2, g3⟩ => ⟨g0, g1, H', g2, hK _ _ g3⟩)⟩
  · obtain ⟨h1, h2, h3, h4, h5⟩ := h; exact ⟨h1, h2, h3, h4, fun id hid => hK _ _ (h5 id hid)⟩
  · exact fun id hid => hK _ _ (h id hid)
  · obtain ⟨es, es', H', h1, h2, h3, h4, h5, h6⟩ := h; exact ⟨es, es', H', h1, h2, h3, h4, h5, hK _ _ h6⟩
  · exact fun id hid => hK _ _ (h id hid)
  · obtain ⟨s, pos, h1, h2, h3⟩ := h
    exact ⟨s, pos, fun hlt => (let ⟨H', g1, g2⟩ := h1 hlt; ⟨H', g1, hK _ _ g2⟩), fun hle => ⟨(h2 hle).1, hK _ _ (h2 hle).2⟩, h3⟩
  · obtain ⟨ys, h1, h0, h2⟩ := h
    refine ⟨ys, h1, h0, ?_⟩
    split at h2
    · obtain ⟨g1, g2, g3, g4⟩ := h2
      refine ⟨g1, g2, g3, ?_⟩
      split at g4
      · exact ⟨fun e => hK _ _ (g4.1 e), fun e => (g4.2 e).imp (fun h id ee hid => hK _ _ (h id ee hid)) (fun h id hid => hK _ _ (h id hid))⟩
      · exact ⟨g4.1, g4.2.1, fun id e' H' q1 q2 => hK _ _ (g4.2.2 id e' H' q1 q2)⟩
      · exact g4
    · obtain ⟨g1, g2, g3, vs, g4, g5, g6⟩ := h2
      exact ⟨g1, g2, g3, vs, g4, g5, fun id H' q1 q2 => hK _ _ (g6 id H' q1 q2)⟩
    · exact h2
  · obtain ⟨ys, h1, h2⟩ := h
    refine ⟨ys, h1, ?_⟩
    split at h2
    · obtain ⟨g1, vs, H', g2, g3, g4⟩ := h2; exact ⟨g1, vs, H', g2, g3, hK _ _ g4⟩
    · exact hK _ _ h2
    · exact h2
  · split at h
    · obtain ⟨g1, vs, H', g2, g3, g4⟩ := h; exact ⟨g1, vs, H', g2, g3, hK _ _ g4⟩
    · exact hK _ _ h
    · exact h
  · obtain ⟨vs, l, h', h1, h2, h3, h4⟩ := h; exact ⟨vs, l, h', h1, h2, h3, hK _ _ h4⟩
  · exact h

theorem eff_mono {op : AOp} {xs : List AV} {K K' : AV → Heap → Prop} (hK : ∀ v H, K v H → K' v H) (h : eff G P op xs H K) : eff G P op xs H K' := by
  unfold eff at h ⊢
  split at h
  · exact h.mono hK
  · split at h
    · exact ACalls.mono h hK
    · exact h
  · cases hq : op.quiet with
    | true => rw [hq] at h; obtain ⟨v, h1, h2⟩ := h; exact ⟨v, h1, hK _ _ h2⟩
    | false => rw [hq] at h; exact ef_mono hK h

theorem gate_mono {g : Option (Nat × Bool)} {p q p' q' : Prop} (h1 : p → p') (h2 : q → q') (h : gate σ g p q) : gate σ g p' q' := by
  unfold gate at h ⊢
  split at h
  · exact h1 h
  · split at h
    · rename_i b _
      split at h
      · rename_i hb; rw [if_pos hb]; exact h1 h
      · rename_i hb; rw [if_neg hb]; exact h2 h
    · exact h2 h
    · exact h

theorem oblP_mono {ob : List Nat} {pend pend' : List Pend} {X Y : Prop} (hp : ∀ p ∈ pend', p ∈ pend) (hX : X → Y) (h : oblP ob pend H X) : oblP ob pend' H Y := by
  unfold oblP at h ⊢
  split at h
  · exact hX h
  · exact ⟨fun p hp' hi => h.1 p (hp p hp') hi, hX h.2⟩

/-- Slots that read alike. -/
def Env.same (σ σ' : Env) : Prop := ∀ t, σ.get t = σ'.get t
theorem Env.same.put {σ σ' : Env} (h : σ.same σ') (d : Option Nat) (v : AV) : (σ.put d v).same (σ'.put d v) := by
  intro t
  cases d with
  | none => exact h t
  | some s => simp only [Env.put, Env.get]; split; rfl; exact h t
theorem Env.same.opE {σ σ' : Env} (h : σ.same σ') (x : Operand) : Go.AL.opE G σ x = Go.AL.opE G σ' x := by
  cases x <;> simp [Go.AL.opE, h _]
theorem Env.same.args {σ σ' : Env} (h : σ.same σ') (l : List Operand) : l.map (Go.AL.opE G σ) = l.map (Go.AL.opE G σ') := List.map_congr_left fun x _ => h.opE x
theorem Env.same.gate {σ σ' : Env} (h : σ.same σ') (g : Option (Nat × Bool)) (p q : Prop) : Go.AL.gate σ g p q = Go.AL.gate σ' g p q := by
  unfold Go.AL.gate
  cases g with
  | none => rfl
  | some tw => simp only; rw [h]
theorem Env.put_comm {σ : Env} {d e : Option Nat} (h : ∀ t, d = some t → e ≠ some t) (u v : AV) : ((σ.put d u).put e v).same ((σ.put e v).put d u) := by
  intro t
  cases d with
  | none => rfl
  | some x =>
    cases e with
    | none => rfl
    | some y =>
      have : x ≠ y := fun e => h x rfl (by rw [e])
      simp only [Env.put, Env.get]
      by_cases h1 : t = y
      · subst h1; simp [Ne.symm this]
      · simp [h1]

def KExt (K : Env → Heap → Prop) : Prop := ∀ σ σ' H, Env.same σ σ' → K σ H → K σ' H

theorem seqD_ext {K : Env → Heap → Prop} (hK : KExt K) : ∀ (l : List Item) (pend pend' : List Pend) (σ σ' : Env) (H : Heap), (∀ p ∈ pend', p ∈ pend) → σ.same σ' → seqD G P l pend σ H K → seqD G P l pend' σ' H K
  | [], pend, pend', σ, σ', H, _, hs, h => hK σ σ' H hs h
  | x :: l, pend, pend', σ, σ', H, hp, hs, h => by
    simp only [seqD] at h ⊢
    rw [← hs.gate, ← hs.args]
    refine gate_mono (fun h => ?_) (fun h => seqD_ext hK l pend pend' _ _ H hp (hs.put _ _) h) h
    split at h
    · rename_i hq
      rw [if_pos hq]
      obtain ⟨v, h1, h2⟩ := h
      refine ⟨v, h1, seqD_ext hK l _ _ _ _ H (fun p hm => ?_) (hs.put _ _) h2⟩
      rcases List.mem_cons.1 hm with rfl | hm
      · exact List.mem_cons_self
      · exact List.mem_cons_of_mem _ (hp p hm)
    · rename_i hq
      rw [if_neg hq]
      exact eff_mono (fun v H' h => oblP_mono hp (seqD_ext hK l pend pend' _ _ H' hp (hs.put _ _)) h) h

theorem apartO_spec {x y : AOper} (h : apartO x y = true) : (∀ d, x.dst = some d → d ∉ tmpsOf y ∧ y.dst ≠ some d) ∧ (∀ d, y.dst = some d → d ∉ tmpsOf x) := by
  unfold apartO at h
  rw [Bool.and_eq_true] at h
  refine ⟨fun d hd => ?_, fun d hd => ?_⟩
  · have := h.1; rw [hd] at this; simpa using this
  · have := h.2; rw [hd] at this; simpa using this

theorem put_args {x : AOper} {d : Option Nat} (h : ∀ t, d = some t → t ∉ tmpsOf x) (v : AV) : x.args.map (opE G (σ.put d v)) = x.args.map (opE G σ) := by
  refine List.map_congr_left fun y hy => ?_
  cases y with
  | tmp t =>
    cases d with
    | none => rfl
    | some s =>
      have : t ≠ s := by
        intro e; subst e
        exact h t rfl (List.mem_append_left _ (List.mem_filterMap.2 ⟨_, hy, rfl⟩))
      simp [opE, Env.put, Env.get, this]
  | _ => rfl

theorem put_gate {x : AOper} {d : Option Nat} (h : ∀ t, d = some t → t ∉ tmpsOf x) (v : AV) (p q : Prop) : gate (σ.put d v) x.guard p q = gate σ x.guard p q := by
  unfold gate
  cases hg : x.guard with
  | none => rfl
  | some tw =>
    obtain ⟨t, want⟩ := tw
    cases d with
    | none => rfl
    | some s =>
      have : t ≠ s := by
        intro e; subst e
        exact h t rfl (List.mem_append_right _ (by rw [hg]; simp))
      simp [Env.put, Env.get, this]

theorem Rd_heap {op : AOp} {xs : List AV} {v : AV} (hr : op.reads = false) (h : Rd op xs H v) : Rd op xs H' v := by
  unfold Rd at h ⊢
  rcases h with h | h
  · exact .inl h
  · exfalso
    split at h <;> first | (simp [AOp.reads] at hr; done) | exact h

/-- Two neighbours change their places. -/
theorem seqD_swap {K : Env → Heap → Prop} (hK : KExt K) {x j : Item} (hp : pairOk x j = true) {l : List Item} {pend : List Pend} (h : seqD G P (x :: j :: l) pend σ H K) : seqD G P (j :: x :: l) pend σ H K := by
  simp only [pairOk, Bool.and_eq_true, Bool.or_eq_true, Bool.not_eq_true'] at hp
  obtain ⟨⟨hxq, hap⟩, hob⟩ := hp
  obtain ⟨ha1, ha2⟩ := apartO_spec hap
  have hxj : ∀ t, x.o.dst = some t → t ∉ tmpsOf j.o := fun t ht => (ha1 t ht).1
  have hjx : ∀ t, j.o.dst = some t → t ∉ tmpsOf x.o := ha2
  have hdd : ∀ t, x.o.dst = some t → j.o.dst ≠ some t := fun t ht => (ha1 t ht).2
  have hX : ∀ (pend' : List Pend) (u : AV) (H0 : Heap), seqD G P (j :: l) pend' (σ.put x.o.dst u) H0 K →
      gate σ j.o.guard
        (if j.o.op.quiet then ∃ v, Rd j.o.op (j.o.args.map (opE G σ)) H0 v ∧ seqD G P l (⟨j.i, j.o.op, j.o.args.map (opE G σ), v⟩ :: pend') ((σ.put j.o.dst v).put x.o.dst u) H0 K
         else eff G P j.o.op (j.o.args.map (opE G σ)) H0 fun v H' => oblP j.ob pend' H' (seqD G P l pend' ((σ.put j.o.dst v).put x.o.dst u) H' K))
        (seqD G P l pend' ((σ.put j.o.dst .undef).put x.o.dst u) H0 K) := by
    intro pend' u H0 h
    simp only [seqD] at h
    rw [put_gate hxj, put_args hxj] at h
    refine gate_mono (fun h => ?_) (fun h => seqD_ext hK _ _ _ _ _ _ (fun _ h => h) (Env.put_comm hdd _ _) h) h
    split at h
    · rename_i hq; rw [if_pos hq]
      obtain ⟨v, h1, h2⟩ := h
      exact ⟨v, h1, seqD_ext hK _ _ _ _ _ _ (fun _ h => h) (Env.put_comm hdd _ _) h2⟩
    · rename_i hq; rw [if_neg hq]
      exact eff_mono (fun v H' h => oblP_mono (fun _ h => h) (seqD_ext hK _ _ _ _ _ _ (fun _ h => h) (Env.put_comm hdd _ _)) h) h
  rw [seqD] at h
  -- is x wanted?
  have key : (∃ u : AV, u = .undef ∧ (∀ p q : Prop, gate σ x.o.guard p q = q) ∧ seqD G P (j :: l) pend (σ.put x.o.dst u) H K) ∨
      ((∀ p q : Prop, gate σ x.o.guard p q = p) ∧ ∃ u, Rd x.o.op (x.o.args.map (opE G σ)) H u ∧ seqD G P (j :: l) (⟨x.i, x.o.op, x.o.args.map (opE G σ), u⟩ :: pend) (σ.put x.o.dst u) H K) := by
    rw [if_pos hxq] at h
    unfold gate at h ⊢
    cases hg : x.o.guard with
    | none => rw [hg] at h; exact .inr ⟨fun _ _ => rfl, h⟩
    | some tw =>
      obtain ⟨t, want⟩ := tw
      rw [hg] at h
      dsimp only at h
      cases hgt : σ.get t <;> rw [hgt] at h <;> try (exact False.elim h)
      · rename_i b
        by_cases hb : b = want
        · dsimp only at h; rw [if_pos hb] at h; exact .inr ⟨fun _ _ => by dsimp only; rw [hgt]; exact if_pos hb, h⟩
        · dsimp only at h; rw [if_neg hb] at h; exact .inl ⟨_, rfl, fun _ _ => by dsimp only; rw [hgt]; exact if_neg hb, h⟩
      · rename_i vs
        cases vs with
        | nil => exact .inl ⟨_, rfl, fun _ _ => by dsimp only; rw [hgt], h⟩
        | cons _ _ => exact False.elim h
  rcases key with ⟨u, rfl, hg, h⟩ | ⟨hg, u, hu, h⟩
  · rw [seqD]
    have hstep : ∀ (pd : List Pend) (v : AV) (H0 : Heap), seqD G P l pd ((σ.put j.o.dst v).put x.o.dst .undef) H0 K → seqD G P (x :: l) pd (σ.put j.o.dst v) H0 K := by
      intro pd v H0 h
      rw [seqD, put_gate hjx, hg]; exact h
    refine gate_mono (fun h => ?_) (hstep _ _ _) (hX pend _ H h)
    split at h
    · rename_i hq; rw [if_pos hq]
      obtain ⟨v, h1, h2⟩ := h
      exact ⟨v, h1, hstep _ _ _ h2⟩
    · rename_i hq; rw [if_neg hq]
      exact eff_mono (fun v H' h => oblP_mono (fun _ h => h) (hstep _ _ _) h) h
  · rw [seqD]
    have hstep : ∀ (pd : List Pend) (v : AV) (H0 : Heap), Rd x.o.op (x.o.args.map (opE G σ)) H0 u → seqD G P l (⟨x.i, x.o.op, x.o.args.map (opE G σ), u⟩ :: pd) ((σ.put j.o.dst v).put x.o.dst u) H0 K → seqD G P (x :: l) pd (σ.put j.o.dst v) H0 K := by
      intro pd v H0 hr h
      rw [seqD, put_gate hjx, hg, if_pos hxq, put_args hjx]; exact ⟨u, hr, h⟩
    refine gate_mono (fun h => ?_) (hstep _ _ _ hu) (hX _ u H h)
    split at h
    · rename_i hq; rw [if_pos hq]
      obtain ⟨v, h1, h2⟩ := h
      refine ⟨v, h1, hstep _ _ _ hu (seqD_ext hK _ _ _ _ _ _ (fun p hp => ?_) (fun _ => rfl) h2)⟩
      simp only [List.mem_cons] at hp ⊢
      rcases hp with h | h | h
      · exact .inr (.inl h)
      · exact .inl h
      · exact .inr (.inr h)
    · rename_i hq; rw [if_neg hq]
      refine eff_mono (fun v H' h => ?_) h
      have hobl : oblP j.ob pend H' (Rd x.o.op (x.o.args.map (opE G σ)) H' u ∧ seqD G P l (⟨x.i, x.o.op, x.o.args.map (opE G σ), u⟩ :: pend) ((σ.put j.o.dst v).put x.o.dst u) H' K) := by
        have hmem : x.o.op.reads = false ∨ x.i ∈ j.ob := by
          rcases hob with (h | h) | h
          · rw [h] at hq; exact absurd rfl hq
          · exact .inl h
          · exact .inr (by simpa using h)
        unfold oblP at h ⊢
        split at h
        · rename_i hnil
          rcases hmem with hr | hi
          · exact ⟨Rd_heap hr hu, h⟩
          · rw [hnil] at hi; cases hi
        · refine ⟨fun p hp hi => h.1 p (List.mem_cons_of_mem _ hp) hi, ?_, h.2⟩
          rcases hmem with hr | hi
          · exact Rd_heap hr hu
          · exact h.1 _ List.mem_cons_self hi
      exact oblP_mono (fun _ h => h) (fun ⟨h1, h2⟩ => hstep _ _ _ h1 h2) hobl

/-- One that is ready comes to the front. -/
theorem seqD_front {K : Env → Heap → Prop} (hK : KExt K) {j : Item} {l2 : List Item} : ∀ (l1 : List Item) (pend : List Pend) (σ : Env) (H : Heap), (∀ x ∈ l1, pairOk x j = true) → seqD G P (l1 ++ j :: l2) pend σ H K → seqD G P (j :: (l1 ++ l2)) pend σ H K
  | [], pend, σ, H, _, h => h
  | x :: l1, pend, σ, H, hp, h => by
    refine seqD_swap hK (hp x List.mem_cons_self) ?_
    simp only [List.cons_append] at h
    rw [seqD] at h ⊢
    have ih := fun pd s H0 => seqD_front hK (j := j) (l2 := l2) l1 pd s H0 (fun y hy => hp y (List.mem_cons_of_mem _ hy))
    refine gate_mono (fun h => ?_) (ih _ _ _) h
    split at h
    · rename_i hq; rw [if_pos hq]
      obtain ⟨v, h1, h2⟩ := h
      exact ⟨v, h1, ih _ _ _ h2⟩
    · rename_i hq; rw [if_neg hq]
      exact eff_mono (fun v H' h => oblP_mono (fun _ h => h) (ih _ _ _) h) h

end
end Go.AL

/- The abstract layer, part 17: a region that draws its order, once for all orders. -/
namespace Go.AL
open Go.RowKit

/-- Whom each operation waits for. -/
def edgesOf (ops : Array Oper) : List (List Nat) := ops.toList.map fun o => (o.after.toList.filter (Region.binds .any)).map (·.on)

/-- A number worked out before it is used. -/
def forceN {α : Type} (n : Nat) (k : Nat → α) : α := match n with | 0 => k 0 | m + 1 => k (m + 1)

/-- Whom an operation comes behind, as a number's bits: those it waits for, and those that they come behind. -/
def maskOf (look : Nat → Nat) (e : List Nat) : Nat := e.foldl (fun mk k => mk ||| (2 ^ k ||| look k)) 0

def befL : List (List Nat) → Nat → List Nat → List Nat
  | [], _, acc => acc.reverse
  | e :: es, j, acc => forceN (maskOf (fun i => if i < j then acc.getD (j - 1 - i) 0 else 0) e) fun v => befL es (j + 1) (v :: acc)

/-- Whom each operation comes behind, whatever the order. -/
def befs (es : List (List Nat)) : List Nat := befL es 0 []

def befOk (es : List (List Nat)) (bef : List Nat) : Bool :=
  (List.range bef.length).all fun i => (bef.getD i 0 == maskOf (fun k => bef.getD k 0) (es.getD i [])) && (es.getD i []).all fun e => decide (e < i)

def pairsOk (es : List (List Nat)) (bef : List Nat) : List Item → Bool
  | [] => true
  | x :: l => !(es.getD x.i []).contains x.i && l.all (fun j => !(es.getD x.i []).contains j.i && x.i != j.i && ((bef.getD j.i 0).testBit x.i || pairOk x j)) && pairsOk es bef l

def mkItems (aos : List AOper) : List (Nat × List Nat) → List Item
  | [] => []
  | (i, ob) :: l => match aos[i]? with
    | some o => ⟨i, o, ob⟩ :: mkItems aos l
    | none => []

/-- A region that draws its order, turned: in the order that is told. -/
def compD (P : Program) (n : Nat) (ops : Array Oper) (ord : List (Nat × List Nat)) : Option (List Item) :=
  (compR P n ops).bind fun aos =>
    let es := edgesOf ops
    let bef := befs es
    let items := mkItems aos ord
    if befOk es bef && (es.all (fun l => l.all fun e => decide (e < ops.size)) && (es.length == ops.size && (bef.length == ops.size && (items.length == ops.size && ((List.range ops.size).all (fun i => items.any fun x => x.i == i) && pairsOk es bef items))))) then some items else none

theorem mkItems_mem {aos : List AOper} : ∀ (l : List (Nat × List Nat)) (x : Item), x ∈ mkItems aos l → aos[x.i]? = some x.o
  | [], _, h => by cases h
  | (i, ob) :: l, x, h => by
    rw [mkItems] at h
    split at h
    · rename_i o ho
      rcases List.mem_cons.1 h with rfl | h
      · exact ho
      · exact mkItems_mem l x h
    · cases h

theorem maskOf_bit {look : Nat → Nat} {b : Nat} : ∀ (e : List Nat) (mk : Nat), (e.foldl (fun mk k => mk ||| (2 ^ k ||| look k)) mk).testBit b = true → mk.testBit b = true ∨ b ∈ e ∨ ∃ k ∈ e, (look k).testBit b = true
  | [], mk, h => .inl h
  | k :: e, mk, h => by
    rw [List.foldl_cons] at h
    rcases maskOf_bit e _ h with h | h | ⟨k', h1, h2⟩
    · rw [Nat.testBit_or, Nat.testBit_or, Nat.testBit_two_pow, Bool.or_eq_true, Bool.or_eq_true, decide_eq_true_eq] at h
      rcases h with h | h | h
      · exact .inl h
      · exact .inr (.inl (by rw [h]; exact List.mem_cons_self))
      · exact .inr (.inr ⟨k, List.mem_cons_self, h⟩)
    · exact .inr (.inl (List.mem_cons_of_mem _ h))
    · exact .inr (.inr ⟨k', List.mem_cons_of_mem _ h1, h2⟩)

/-- What holds of two of which the first stands earlier. -/
def PairR (es : List (List Nat)) (bef : List Nat) (x j : Item) : Prop := j.i ∉ es.getD x.i [] ∧ x.i ≠ j.i ∧ ((bef.getD j.i 0).testBit x.i = true ∨ pairOk x j = true)

theorem pairsOk_spec {es : List (List Nat)} {bef : List Nat} : ∀ {l : List Item}, pairsOk es bef l = true → l.Pairwise (PairR es bef) ∧ ∀ x ∈ l, x.i ∉ es.getD x.i []
  | [], _ => ⟨.nil, fun _ h => by cases h⟩
  | x :: l, h => by
    simp only [pairsOk, Bool.and_eq_true, List.all_eq_true, Bool.not_eq_true', Bool.or_eq_true, bne_iff_ne, ne_eq] at h
    obtain ⟨⟨h1, h2⟩, h3⟩ := h
    obtain ⟨i1, i2⟩ := pairsOk_spec h3
    refine ⟨.cons (fun j hj => ?_) i1, fun y hy => ?_⟩
    · obtain ⟨⟨g1, g2⟩, g3⟩ := h2 j hj
      exact ⟨by simpa using g1, g2, g3⟩
    · rcases List.mem_cons.1 hy with rfl | hy
      · simpa using h1
      · exact i2 y hy

section
variable {G : Nat → Option (List AV)} {B : Nat} {w0 w w' : World} {m m' : Im} {H H' : Heap} {P : Program} {n : Nat} {σ : Env} {a : Act} {ops : Array Oper}

theorem ready_mem {listed : Array Bool} {i : Nat} (h : i ∈ Region.ready .any ops listed) : i < ops.size ∧ listed.getD i true = false ∧ ∀ e ∈ (edgesOf ops).getD i [], listed.getD e false = true := by
  simp only [Region.ready, List.mem_filter, List.mem_range, Bool.and_eq_true, Bool.not_eq_true'] at h
  obtain ⟨hi, h1, h2⟩ := h
  refine ⟨hi, h1, fun e he => ?_⟩
  rw [Array.getElem?_eq_getElem hi] at h2
  simp only [Option.map_some, Option.getD_some, Array.all_eq_true', Bool.or_eq_true, Bool.not_eq_true'] at h2
  simp only [edgesOf, List.getD_eq_getElem?_getD, List.getElem?_map, Array.getElem?_toList, Array.getElem?_eq_getElem hi, Option.map_some, Option.getD_some, List.mem_map, List.mem_filter, Array.mem_toList_iff] at he
  obtain ⟨ed, ⟨g1, g2⟩, rfl⟩ := he
  rcases h2 ed g1 with h | h
  · rw [h] at g2; cases g2
  · exact h

theorem ready_of {listed : Array Bool} {i : Nat} (hi : i < ops.size) (h1 : listed.getD i true = false) (h2 : ∀ e ∈ (edgesOf ops).getD i [], listed.getD e false = true) : i ∈ Region.ready .any ops listed := by
  simp only [Region.ready, List.mem_filter, List.mem_range, Bool.and_eq_true, Bool.not_eq_true']
  refine ⟨hi, h1, ?_⟩
  rw [Array.getElem?_eq_getElem hi]
  simp only [Option.map_some, Option.getD_some, Array.all_eq_true', Bool.or_eq_true, Bool.not_eq_true']
  intro ed hed
  cases hb : Region.binds .any ed with
  | false => exact .inl rfl
  | true =>
    refine .inr (h2 _ ?_)
    simp only [edgesOf, List.getD_eq_getElem?_getD, List.getElem?_map, Array.getElem?_toList, Array.getElem?_eq_getElem hi, Option.map_some, Option.getD_some, List.mem_map, List.mem_filter, Array.mem_toList_iff]
    exact ⟨ed, ⟨hed, hb⟩, rfl⟩

/-- Closed: who is listed has all listed whom it waits for. -/
def Closed (es : List (List Nat)) (listed : Array Bool) : Prop := ∀ i : Nat, listed.getD i false = true → ∀ e ∈ es.getD i [], listed.getD e false = true

theorem bef_listed {es : List (List Nat)} {bef : List Nat} (hb : befOk es bef = true) {listed : Array Bool} (hc : Closed es listed) : ∀ (i : Nat), (∀ e ∈ es.getD i [], listed.getD e false = true) → ∀ b, (bef.getD i 0).testBit b = true → listed.getD b false = true := by
  intro i
  induction i using Nat.strongRecOn with
  | _ i ih =>
    intro he b hbm
    have hi : i < bef.length := by
      apply Decidable.byContradiction; intro hn
      rw [List.getD_eq_getElem?_getD, List.getElem?_eq_none (by omega)] at hbm
      simp at hbm
    simp only [befOk, List.all_eq_true, List.mem_range, Bool.and_eq_true, beq_iff_eq, decide_eq_true_eq] at hb
    obtain ⟨h1, h2⟩ := hb i hi
    rw [h1] at hbm
    rcases maskOf_bit _ _ hbm with h | h | ⟨k, h3, h4⟩
    · simp at h
    · exact he b h
    · exact ih k (h2 k h3) (hc k (he k h3)) b h4

theorem seqD_doOp {x : Item} {l : List Item} {pend : List Pend} {K : Env → Heap → Prop} (hK : KExt K) (h : seqD G P (x :: l) pend σ H K) : doOp G P x.o σ H fun σ' H' => seqD G P l [] σ' H' K := by
  rw [seqD] at h
  unfold doOp
  refine gate_mono (fun h => ?_) (fun h => seqD_ext hK _ _ _ _ _ _ (fun _ h => by cases h) (fun _ => rfl) h) h
  cases hq : x.o.op.quiet with
  | true =>
    rw [hq, if_pos rfl] at h
    obtain ⟨v, h1, h2⟩ := h
    have h2 := seqD_ext hK _ _ [] _ (σ.put x.o.dst v) _ (fun _ h => by cases h) (fun _ => rfl) h2
    unfold eff
    split
    · rename_i ho; rw [ho] at hq; cases hq
    · rename_i ho; rw [ho] at hq; cases hq
    · rw [if_pos hq]; exact ⟨v, h1, h2⟩
  | false =>
    rw [hq] at h
    refine eff_mono (fun v H' h => ?_) h
    have h' : seqD G P l pend (σ.put x.o.dst v) H' K := by
      unfold oblP at h
      split at h
      · exact h
      · exact h.2
    exact seqD_ext hK _ _ _ _ _ _ (fun _ h => by cases h) (fun _ => rfl) h'

theorem wpAny_seqD {aos : List AOper} (hcs : ∀ (i : Nat) (o : Oper), ops[i]? = some o → ∃ ao : AOper, aos[i]? = some ao ∧ compO P n ops o = some ao) {es : List (List Nat)} {bef : List Nat} (hes : es = edgesOf ops) (hbo : befOk es bef = true) (hEdge : ∀ i e, e ∈ es.getD i [] → e < ops.size)
    {K : Env → Heap → Prop} (hKe : KExt K) {Q : Exit → Act → World → Prop} :
    ∀ (fuel : Nat) (listed : Array Bool) (items : List Item) (m : Im) (w : World) (a : Act) (σ : Env) (H : Heap), listed.size = ops.size → Closed es listed → items.length = fuel →
      items.Pairwise (PairR es bef) → (∀ x ∈ items, x.i ∉ es.getD x.i [] ∧ aos[x.i]? = some x.o ∧ x.i < ops.size ∧ listed.getD x.i false = false) → (∀ i, i < ops.size → listed.getD i false = false → ∃ x ∈ items, x.i = i) →
      Sat G B w0 m H w → RelT m n σ a → seqD G P items [] σ H K →
      (∀ m' w' a' σ' H', m.le m' → Sat G B w0 m' H' w' → RelT m' n σ' a' → K σ' H' → Q .normal a' w') → wpAny P .any ops Q fuel listed a w
  | 0, listed, items, m, w, a, σ, H, hsz, hcl, hlen, hpw, hit, hcov, hsat, hrel, h, hK => by
    have : items = [] := List.eq_nil_of_length_eq_zero hlen
    subst this
    refine ⟨?_, hK m w a σ H (.refl m) hsat hrel h⟩
    apply List.eq_nil_iff_forall_not_mem.2
    intro i hi
    obtain ⟨h1, h2, _⟩ := ready_mem hi
    have : listed.getD i false = false := by
      rw [Array.getD_eq_getD_getElem?, Array.getElem?_eq_getElem (by omega)] at h2 ⊢; exact h2
    obtain ⟨x, hx, _⟩ := hcov i h1 this
    cases hx
  | fuel + 1, listed, items, m, w, a, σ, H, hsz, hcl, hlen, hpw, hit, hcov, hsat, hrel, h, hK => by
    have hlf : ∀ i, i < ops.size → listed.getD i true = listed.getD i false := by
      intro i hi
      rw [Array.getD_eq_getD_getElem?, Array.getD_eq_getD_getElem?, Array.getElem?_eq_getElem (by omega)]; rfl
    refine ⟨fun hr => ?_, fun i hi => ?_⟩
    · exfalso
      cases items with
      | nil => cases hlen
      | cons x l =>
        obtain ⟨g1, g2, g3, g4⟩ := hit x List.mem_cons_self
        have : x.i ∈ Region.ready .any ops listed := by
          refine ready_of g3 (by rw [hlf _ g3]; exact g4) (fun e he => ?_)
          rw [← hes] at he
          cases hl : listed.getD e false with
          | true => rfl
          | false =>
            by_cases heo : e < ops.size
            · obtain ⟨y, hy, rfl⟩ := hcov e heo hl
              rcases List.mem_cons.1 hy with rfl | hy
              · exact absurd he g1
              · exact absurd he ((List.rel_of_pairwise_cons hpw hy).1)
            · exact absurd (hEdge _ _ he) heo
        rw [hr] at this; cases this
    · obtain ⟨h1, h2, h3⟩ := ready_mem hi
      rw [← hes] at h3
      have h2' : listed.getD i false = false := by rw [← hlf i h1]; exact h2
      obtain ⟨j, hj, rfl⟩ := hcov i h1 h2'
      obtain ⟨l1, l2, rfl⟩ := List.append_of_mem hj
      have hp : ∀ x ∈ l1, pairOk x j = true := by
        intro x hx
        obtain ⟨_, _, hor⟩ := (List.pairwise_append.1 hpw).2.2 x hx j List.mem_cons_self
        rcases hor with hb | hb
        · have := bef_listed hbo hcl j.i h3 _ hb
          rw [(hit x (List.mem_append_left _ hx)).2.2.2] at this; cases this
        · exact hb
      have hd := seqD_doOp hKe (seqD_front hKe l1 [] σ H hp h)
      obtain ⟨ao, ha, hco⟩ := hcs j.i ops[j.i] (Array.getElem?_eq_getElem h1)
      have : ao = j.o := by
        have := (hit j hj).2.1
        rw [this] at ha; cases ha; rfl
      subst this
      refine doOp_sound hsat hrel (Array.getElem?_eq_getElem h1) hco hd (fun m' w' a' σ' H' q1 q2 q3 q4 => ?_)
      have hmid : ∀ x, x ∈ l1 ++ l2 → x ∈ l1 ++ j :: l2 := by
        intro x hx
        rcases List.mem_append.1 hx with h | h
        · exact List.mem_append_left _ h
        · exact List.mem_append_right _ (List.mem_cons_of_mem _ h)
      have hne : ∀ x ∈ l1 ++ l2, x.i ≠ j.i := by
        intro x hx
        have hpp := List.pairwise_append.1 hpw
        rcases List.mem_append.1 hx with h | h
        · exact (hpp.2.2 x h j List.mem_cons_self).2.1
        · exact Ne.symm (List.rel_of_pairwise_cons hpp.2.1 h).2.1
      have hset : ∀ k, (listed.setIfInBounds j.i true).getD k false = if j.i = k then true else listed.getD k false := by
        intro k
        simp only [Array.getD_eq_getD_getElem?, Array.getElem?_setIfInBounds]
        split
        · rename_i e; subst e; rw [if_pos (by omega)]; rfl
        · rfl
      refine wpAny_seqD hcs hes hbo hEdge hKe fuel _ (l1 ++ l2) m' w' a' σ' H' (by simpa using hsz) ?_ ?_ ?_ ?_ ?_ q2 q3 q4 (fun m2 w2 a2 σ2 H2 g1 g2 g3 g4 => hK m2 w2 a2 σ2 H2 (q1.trans g1) g2 g3 g4)
      · intro k hk e he
        rw [hset] at hk ⊢
        split at hk
        · rename_i e'; subst e'
          have := h3 e he
          rw [this]; simp
        · have := hcl k hk e he
          rw [this]; simp
      · simp only [List.length_append, List.length_cons] at hlen ⊢; omega
      · exact hpw.sublist (List.Sublist.append (List.Sublist.refl l1) (List.sublist_cons_self j l2))
      · intro x hx
        obtain ⟨g1, g2, g3, g4⟩ := hit x (hmid x hx)
        refine ⟨g1, g2, g3, ?_⟩
        rw [hset, if_neg (Ne.symm (hne x hx))]; exact g4
      · intro k hk hkl
        rw [hset] at hkl
        split at hkl
        · cases hkl
        · rename_i hjk
          obtain ⟨x, hx, rfl⟩ := hcov k hk hkl
          refine ⟨x, ?_, rfl⟩
          rcases List.mem_append.1 hx with h | h
          · exact List.mem_append_left _ h
          · rcases List.mem_cons.1 h with rfl | h
            · exact absurd rfl hjk
            · exact List.mem_append_right _ h

theorem AWp_draw {id : Nat} {items : List Item} {ord : List (Nat × List Nat)} {K : Env → Heap → Prop} {Q : Exit → Env → Heap → Prop} (hm : P.follows .mixedOrders = true) (hc : compD P n ops ord = some items) (hKe : KExt K) (h : seqD G P items [] σ H K) (hK : ∀ σ H, K σ H → Q .normal σ H) :
    AWp G P n (.region id ops true) σ H Q := by
  intro B w0 m w a hsat hrel
  unfold compD at hc
  cases hcr : compR P n ops with
  | none => rw [hcr] at hc; cases hc
  | some aos =>
    rw [hcr] at hc
    simp only [Option.bind_some] at hc
    split at hc
    · rename_i hck
      cases hc
      simp only [Bool.and_eq_true, beq_iff_eq, List.all_eq_true, List.mem_range, List.any_eq_true, decide_eq_true_eq] at hck
      obtain ⟨c1, c0, c2, c3, c4, c5, c6⟩ := hck
      obtain ⟨p1, p2⟩ := pairsOk_spec c6
      obtain ⟨_, hcs⟩ := compR_spec hcr
      refine wp_region_any hm ?_
      refine wpAny_seqD hcs rfl c1 (fun i e he => ?_) hKe ops.size _ _ m _ a σ H (by simp) ?_ c4 p1 ?_ ?_ hsat.drew hrel h (fun m' w' a' σ' H' g1 g2 g3 g4 => ⟨m', σ', H', g1, g2, g3, hK _ _ g4⟩)
      · rw [List.getD_eq_getElem?_getD] at he
        cases hg : (edgesOf ops)[i]? with
        | none => rw [hg] at he; cases he
        | some l => rw [hg] at he; exact c0 l (List.mem_of_getElem? hg) e he
      · intro i hi
        rw [Array.getD_eq_getD_getElem?, Array.getElem?_replicate] at hi
        split at hi <;> cases hi
      · intro x hx
        have hx' := mkItems_mem _ x hx
        refine ⟨p2 x hx, hx', ?_, ?_⟩
        · have := (List.getElem?_eq_some_iff.1 hx').1
          obtain ⟨hl, _⟩ := compR_spec hcr
          omega
        · rw [Array.getD_eq_getD_getElem?, Array.getElem?_replicate]; split <;> rfl
      · intro i hi _
        obtain ⟨x, hx, he⟩ := c5 i hi
        exact ⟨x, hx, he⟩
    · cases hc

end
end Go.AL

/- The abstract layer, part 17b: regions in which two writing operations stand in no order: both orders. -/
set_option linter.unusedVariables false
namespace Go.AL
open Go.RowKit

/-- As seqD, up to a place where it goes on with what was read. -/
def seqP (G : Nat → Option (List AV)) (P : Program) : List Item → List Pend → Env → Heap → (List Pend → Env → Heap → Prop) → Prop
  | [], pend, σ, H, K => K pend σ H
  | x :: l, pend, σ, H, K =>
    gate σ x.o.guard
      (if x.o.op.quiet then ∃ v, Rd x.o.op (x.o.args.map (opE G σ)) H v ∧ seqP G P l (⟨x.i, x.o.op, x.o.args.map (opE G σ), v⟩ :: pend) (σ.put x.o.dst v) H K
       else eff G P x.o.op (x.o.args.map (opE G σ)) H fun v H' => oblP x.ob pend H' (seqP G P l pend (σ.put x.o.dst v) H' K))
      (seqP G P l pend (σ.put x.o.dst .undef) H K)
def KExtP (K : List Pend → Env → Heap → Prop) : Prop := ∀ pend pend' σ σ' H, (∀ p ∈ pend', p ∈ pend) → Env.same σ σ' → K pend σ H → K pend' σ' H

section
variable {G : Nat → Option (List AV)} {B : Nat} {w0 w w' : World} {m m' : Im} {H H' : Heap} {P : Program} {n : Nat} {σ : Env} {a : Act} {ops : Array Oper}

theorem seqP_ext {K : List Pend → Env → Heap → Prop} (hK : KExtP K) : ∀ (l : List Item) (pend pend' : List Pend) (σ σ' : Env) (H : Heap), (∀ p ∈ pend', p ∈ pend) → σ.same σ' → seqP G P l pend σ H K → seqP G P l pend' σ' H K
  | [], pend, pend', σ, σ', H, hp, hs, h => hK pend pend' σ σ' H hp hs h
  | x :: l, pend, pend', σ, σ', H, hp, hs, h => by
    simp only [seqP] at h ⊢
    rw [← hs.gate, ← hs.args]
    refine gate_mono (fun h => ?_) (fun h => seqP_ext hK l pend pend' _ _ H hp (hs.put _ _) h) h
    split at h
    · rename_i hq
      rw [if_pos hq]
      obtain ⟨v, h1, h2⟩ := h
      refine ⟨v, h1, seqP_ext hK l _ _ _ _ H (fun p hm => ?_) (hs.put _ _) h2⟩
      rcases List.mem_cons.1 hm with rfl | hm
      · exact List.mem_cons_self
      · exact List.mem_cons_of_mem _ (hp p hm)
    · rename_i hq
      rw [if_neg hq]
      exact eff_mono (fun v H' h => oblP_mono hp (seqP_ext hK l pend pend' _ _ H' hp (hs.put _ _)) h) h

/-- Two neighbours change their places. -/
theorem seqP_swap {K : List Pend → Env → Heap → Prop} (hK : KExtP K) {x j : Item} (hp : pairOk x j = true) {l : List Item} {pend : List Pend} (h : seqP G P (x :: j :: l) pend σ H K) : seqP G P (j :: x :: l) pend σ H K := by
  simp only [pairOk, Bool.and_eq_true, Bool.or_eq_true, Bool.not_eq_true'] at hp
  obtain ⟨⟨hxq, hap⟩, hob⟩ := hp
  obtain ⟨ha1, ha2⟩ := apartO_spec hap
  have hxj : ∀ t, x.o.dst = some t → t ∉ tmpsOf j.o := fun t ht => (ha1 t ht).1
  have hjx : ∀ t, j.o.dst = some t → t ∉ tmpsOf x.o := ha2
  have hdd : ∀ t, x.o.dst = some t → j.o.dst ≠ some t := fun t ht => (ha1 t ht).2
  have hX : ∀ (pend' : List Pend) (u : AV) (H0 : Heap), seqP G P (j :: l) pend' (σ.put x.o.dst u) H0 K →
      gate σ j.o.guard
        (if j.o.op.quiet then ∃ v, Rd j.o.op (j.o.args.map (opE G σ)) H0 v ∧ seqP G P l (⟨j.i, j.o.op, j.o.args.map (opE G σ), v⟩ :: pend') ((σ.put j.o.dst v).put x.o.dst u) H0 K
         else eff G P j.o.op (j.o.args.map (opE G σ)) H0 fun v H' => oblP j.ob pend' H' (seqP G P l pend' ((σ.put j.o.dst v).put x.o.dst u) H' K))
        (seqP G P l pend' ((σ.put j.o.dst .undef).put x.o.dst u) H0 K) := by
    intro pend' u H0 h
    simp only [seqP] at h
    rw [put_gate hxj, put_args hxj] at h
    refine gate_mono (fun h => ?_) (fun h => seqP_ext hK _ _ _ _ _ _ (fun _ h => h) (Env.put_comm hdd _ _) h) h
    split at h
    · rename_i hq; rw [if_pos hq]
      obtain ⟨v, h1, h2⟩ := h
      exact ⟨v, h1, seqP_ext hK _ _ _ _ _ _ (fun _ h => h) (Env.put_comm hdd _ _) h2⟩
    · rename_i hq; rw [if_neg hq]
      exact eff_mono (fun v H' h => oblP_mono (fun _ h => h) (seqP_ext hK _ _ _ _ _ _ (fun _ h => h) (Env.put_comm hdd _ _)) h) h
  rw [seqP] at h
  -- is x wanted?
  have key : (∃ u : AV, u = .undef ∧ (∀ p q : Prop, gate σ x.o.guard p q = q) ∧ seqP G P (j :: l) pend (σ.put x.o.dst u) H K) ∨
      ((∀ p q : Prop, gate σ x.o.guard p q = p) ∧ ∃ u, Rd x.o.op (x.o.args.map (opE G σ)) H u ∧ seqP G P (j :: l) (⟨x.i, x.o.op, x.o.args.map (opE G σ), u⟩ :: pend) (σ.put x.o.dst u) H K) := by
    rw [if_pos hxq] at h
    unfold gate at h ⊢
    cases hg : x.o.guard with
    | none => rw [hg] at h; exact .inr ⟨fun _ _ => rfl, h⟩
    | some tw =>
      obtain ⟨t, want⟩ := tw
      rw [hg] at h
      dsimp only at h
      cases hgt : σ.get t <;> rw [hgt] at h <;> try (exact False.elim h)
      · rename_i b
        by_cases hb : b = want
        · dsimp only at h; rw [if_pos hb] at h; exact .inr ⟨fun _ _ => by dsimp only; rw [hgt]; exact if_pos hb, h⟩
        · dsimp only at h; rw [if_neg hb] at h; exact .inl ⟨_, rfl, fun _ _ => by dsimp only; rw [hgt]; exact if_neg hb, h⟩
      · rename_i vs
        cases vs with
        | nil => exact .inl ⟨_, rfl, fun _ _ => by dsimp only; rw [hgt], h⟩
        | cons _ _ => exact False.elim h
  rcases key with ⟨u, rfl, hg, h⟩ | ⟨hg, u, hu, h⟩
  · rw [seqP]
    have hstep : ∀ (pd : List Pend) (v : AV) (H0 : Heap), seqP G P l pd ((σ.put j.o.dst v).put x.o.dst .undef) H0 K → seqP G P (x :: l) pd (σ.put j.o.dst v) H0 K := by
      intro pd v H0 h
      rw [seqP, put_gate hjx, hg]; exact h
    refine gate_mono (fun h => ?_) (hstep _ _ _) (hX pend _ H h)
    split at h
    · rename_i hq; rw [if_pos hq]
      obtain ⟨v, h1, h2⟩ := h
      exact ⟨v, h1, hstep _ _ _ h2⟩
    · rename_i hq; rw [if_neg hq]
      exact eff_mono (fun v H' h => oblP_mono (fun _ h => h) (hstep _ _ _) h) h
  · rw [seqP]
    have hstep : ∀ (pd : List Pend) (v : AV) (H0 : Heap), Rd x.o.op (x.o.args.map (opE G σ)) H0 u → seqP G P l (⟨x.i, x.o.op, x.o.args.map (opE G σ), u⟩ :: pd) ((σ.put j.o.dst v).put x.o.dst u) H0 K → seqP G P (x :: l) pd (σ.put j.o.dst v) H0 K := by
      intro pd v H0 hr h
      rw [seqP, put_gate hjx, hg, if_pos hxq, put_args hjx]; exact ⟨u, hr, h⟩
    refine gate_mono (fun h => ?_) (hstep _ _ _ hu) (hX _ u H h)
    split at h
    · rename_i hq; rw [if_pos hq]
      obtain ⟨v, h1, h2⟩ := h
      refine ⟨v, h1, hstep _ _ _ hu (seqP_ext hK _ _ _ _ _ _ (fun p hp => ?_) (fun _ => rfl) h2)⟩
      simp only [List.mem_cons] at hp ⊢
      rcases hp with h | h | h
      · exact .inr (.inl h)
      · exact .inl h
      · exact .inr (.inr h)
    · rename_i hq; rw [if_neg hq]
      refine eff_mono (fun v H' h => ?_) h
      have hobl : oblP j.ob pend H' (Rd x.o.op (x.o.args.map (opE G σ)) H' u ∧ seqP G P l (⟨x.i, x.o.op, x.o.args.map (opE G σ), u⟩ :: pend) ((σ.put j.o.dst v).put x.o.dst u) H' K) := by
        have hmem : x.o.op.reads = false ∨ x.i ∈ j.ob := by
          rcases hob with (h | h) | h
          · rw [h] at hq; exact absurd rfl hq
          · exact .inl h
          · exact .inr (by simpa using h)
        unfold oblP at h ⊢
        split at h
        · rename_i hnil
          rcases hmem with hr | hi
          · exact ⟨Rd_heap hr hu, h⟩
          · rw [hnil] at hi; cases hi
        · refine ⟨fun p hp hi => h.1 p (List.mem_cons_of_mem _ hp) hi, ?_, h.2⟩
          rcases hmem with hr | hi
          · exact Rd_heap hr hu
          · exact h.1 _ List.mem_cons_self hi
      exact oblP_mono (fun _ h => h) (fun ⟨h1, h2⟩ => hstep _ _ _ h1 h2) hobl

/-- One that is ready comes to the front. -/
theorem seqP_front {K : List Pend → Env → Heap → Prop} (hK : KExtP K) {j : Item} {l2 : List Item} : ∀ (l1 : List Item) (pend : List Pend) (σ : Env) (H : Heap), (∀ x ∈ l1, pairOk x j = true) → seqP G P (l1 ++ j :: l2) pend σ H K → seqP G P (j :: (l1 ++ l2)) pend σ H K
  | [], pend, σ, H, _, h => h
  | x :: l1, pend, σ, H, hp, h => by
    refine seqP_swap hK (hp x List.mem_cons_self) ?_
    simp only [List.cons_append] at h
    rw [seqP] at h ⊢
    have ih := fun pd s H0 => seqP_front hK (j := j) (l2 := l2) l1 pd s H0 (fun y hy => hp y (List.mem_cons_of_mem _ hy))
    refine gate_mono (fun h => ?_) (ih _ _ _) h
    split at h
    · rename_i hq; rw [if_pos hq]
      obtain ⟨v, h1, h2⟩ := h
      exact ⟨v, h1, ih _ _ _ h2⟩
    · rename_i hq; rw [if_neg hq]
      exact eff_mono (fun v H' h => oblP_mono (fun _ h => h) (ih _ _ _) h) h

theorem seqP_doOp {x : Item} {l : List Item} {pend : List Pend} {K : List Pend → Env → Heap → Prop} (hK : KExtP K) (h : seqP G P (x :: l) pend σ H K) : doOp G P x.o σ H fun σ' H' => seqP G P l [] σ' H' K := by
  rw [seqP] at h
  unfold doOp
  refine gate_mono (fun h => ?_) (fun h => seqP_ext hK _ _ _ _ _ _ (fun _ h => by cases h) (fun _ => rfl) h) h
  cases hq : x.o.op.quiet with
  | true =>
    rw [hq, if_pos rfl] at h
    obtain ⟨v, h1, h2⟩ := h
    have h2 := seqP_ext hK _ _ [] _ (σ.put x.o.dst v) _ (fun _ h => by cases h) (fun _ => rfl) h2
    unfold eff
    split
    · rename_i ho; rw [ho] at hq; cases hq
    · rename_i ho; rw [ho] at hq; cases hq
    · rw [if_pos hq]; exact ⟨v, h1, h2⟩
  | false =>
    rw [hq] at h
    refine eff_mono (fun v H' h => ?_) h
    have h' : seqP G P l pend (σ.put x.o.dst v) H' K := by
      unfold oblP at h
      split at h
      · exact h
      · exact h.2
    exact seqP_ext hK _ _ _ _ _ _ (fun _ h => by cases h) (fun _ => rfl) h'


theorem seqP_mono {K K' : List Pend → Env → Heap → Prop} (hK : ∀ pd σ H, K pd σ H → K' pd σ H) : ∀ (l : List Item) (pend : List Pend) (σ : Env) (H : Heap), seqP G P l pend σ H K → seqP G P l pend σ H K'
  | [], _, _, _, h => hK _ _ _ h
  | x :: l, pend, σ, H, h => by
    simp only [seqP] at h ⊢
    refine gate_mono (fun h => ?_) (seqP_mono hK l _ _ _) h
    cases hq : x.o.op.quiet with
    | true => rw [hq] at h; obtain ⟨v, h1, h2⟩ := h; exact ⟨v, h1, seqP_mono hK l _ _ _ h2⟩
    | false => rw [hq] at h; exact eff_mono (fun v H' h => oblP_mono (fun _ h => h) (seqP_mono hK l _ _ _) h) h

theorem seqP_app {K : Env → Heap → Prop} {l2 : List Item} : ∀ (l : List Item) (pend : List Pend) (σ : Env) (H : Heap), seqP G P l pend σ H (fun pd s h => seqD G P l2 pd s h K) → seqD G P (l ++ l2) pend σ H K
  | [], _, _, _, h => h
  | x :: l, pend, σ, H, h => by
    simp only [List.cons_append, seqP] at h ⊢
    rw [seqD]
    refine gate_mono (fun h => ?_) (seqP_app l _ _ _) h
    cases hq : x.o.op.quiet with
    | true => rw [hq] at h; obtain ⟨v, h1, h2⟩ := h; exact ⟨v, h1, seqP_app l _ _ _ h2⟩
    | false => rw [hq] at h; exact eff_mono (fun v H' h => oblP_mono (fun _ h => h) (seqP_app l _ _ _) h) h

def forkK (G : Nat → Option (List AV)) (P : Program) (l1 l2 : List Item) (K : Env → Heap → Prop) : List Pend → Env → Heap → Prop := fun pd s h => seqD G P l1 pd s h K ∧ seqD G P l2 pd s h K
theorem forkK_ext {l1 l2 : List Item} {K : Env → Heap → Prop} (hK : KExt K) : KExtP (forkK G P l1 l2 K) :=
  fun pd pd' σ σ' H hp hs h => ⟨seqD_ext hK _ _ _ _ _ _ hp hs h.1, seqD_ext hK _ _ _ _ _ _ hp hs h.2⟩

/-- What is asked of a fork: pre comes ahead; x :: r1 and y :: r2 are the two ways. -/
structure Fork (es : List (List Nat)) (bef : List Nat) (pre : List Item) (x y : Item) (r1 r2 : List Item) : Prop where
  p1 : (pre ++ r1).Pairwise (PairR es bef)
  p2 : (pre ++ r2).Pairwise (PairR es bef)
  hx : ∀ z ∈ pre, PairR es bef z x
  hy : ∀ z ∈ pre, PairR es bef z y
  xr : ∀ j ∈ r1, j.i ∉ es.getD x.i [] ∧ j.i ≠ x.i
  yr : ∀ j ∈ r2, j.i ≠ y.i
  tl : ∀ j ∈ r1, j.i = y.i ∨ (bef.getD j.i 0).testBit x.i = true ∨ (bef.getD j.i 0).testBit y.i = true

theorem wpAny_fork {aos : List AOper} (hcs : ∀ (i : Nat) (o : Oper), ops[i]? = some o → ∃ ao : AOper, aos[i]? = some ao ∧ compO P n ops o = some ao) {es : List (List Nat)} {bef : List Nat} (hes : es = edgesOf ops) (hbo : befOk es bef = true) (hEdge : ∀ i e, e ∈ es.getD i [] → e < ops.size)
    {K : Env → Heap → Prop} (hKe : KExt K) {Q : Exit → Act → World → Prop} {x y : Item} {r1 r2 : List Item} :
    ∀ (fuel : Nat) (listed : Array Bool) (pre : List Item) (m : Im) (w : World) (a : Act) (σ : Env) (H : Heap), listed.size = ops.size → Closed es listed → (pre ++ x :: r1).length = fuel → (pre ++ y :: r2).length = fuel → Fork es bef pre x y r1 r2 →
      (∀ z ∈ pre ++ x :: r1, z.i ∉ es.getD z.i [] ∧ aos[z.i]? = some z.o ∧ z.i < ops.size ∧ listed.getD z.i false = false) → (∀ z ∈ pre ++ y :: r2, z.i ∉ es.getD z.i [] ∧ aos[z.i]? = some z.o ∧ z.i < ops.size ∧ listed.getD z.i false = false) →
      (∀ i, i < ops.size → listed.getD i false = false → ∃ z ∈ pre ++ x :: r1, z.i = i) → (∀ i, i < ops.size → listed.getD i false = false → ∃ z ∈ pre ++ y :: r2, z.i = i) →
      Sat G B w0 m H w → RelT m n σ a → seqP G P pre [] σ H (forkK G P (x :: r1) (y :: r2) K) →
      (∀ m' w' a' σ' H', m.le m' → Sat G B w0 m' H' w' → RelT m' n σ' a' → K σ' H' → Q .normal a' w') → wpAny P .any ops Q fuel listed a w
  | 0, listed, pre, m, w, a, σ, H, hsz, hcl, hlen, hlen2, hF, hit, hit2, hcov, hcov2, hsat, hrel, h, hK => by simp at hlen
  | fuel + 1, listed, pre, m, w, a, σ, H, hsz, hcl, hlen, hlen2, hF, hit, hit2, hcov, hcov2, hsat, hrel, h, hK => by
    have hlf : ∀ i, i < ops.size → listed.getD i true = listed.getD i false := by
      intro i hi
      rw [Array.getD_eq_getD_getElem?, Array.getD_eq_getD_getElem?, Array.getElem?_eq_getElem (by omega)]; rfl
    refine ⟨fun hr => ?_, fun i hi => ?_⟩
    · exfalso
      -- the first is ready
      obtain ⟨z, hz, hzr⟩ : ∃ z ∈ pre ++ x :: r1, ∀ j ∈ pre ++ x :: r1, j.i ∉ es.getD z.i [] := by
        cases pre with
        | nil =>
          refine ⟨x, List.mem_cons_self, fun j hj => ?_⟩
          rcases List.mem_cons.1 hj with rfl | hj
          · exact (hit _ List.mem_cons_self).1
          · exact (hF.xr j hj).1
        | cons z pre =>
          refine ⟨z, List.mem_cons_self, fun j hj => ?_⟩
          rcases List.mem_cons.1 hj with rfl | hj
          · exact (hit _ List.mem_cons_self).1
          · rcases List.mem_append.1 hj with hj | hj
            · exact (List.rel_of_pairwise_cons hF.p1 (List.mem_append_left _ hj)).1
            · rcases List.mem_cons.1 hj with rfl | hj
              · exact (hF.hx z List.mem_cons_self).1
              · exact (List.rel_of_pairwise_cons hF.p1 (List.mem_append_right _ hj)).1
      obtain ⟨g1, g2, g3, g4⟩ := hit z hz
      have : z.i ∈ Region.ready .any ops listed := by
        refine ready_of g3 (by rw [hlf _ g3]; exact g4) (fun e he => ?_)
        rw [← hes] at he
        cases hl : listed.getD e false with
        | true => rfl
        | false =>
          by_cases heo : e < ops.size
          · obtain ⟨j, hj, rfl⟩ := hcov e heo hl
            exact absurd he (hzr j hj)
          · exact absurd (hEdge _ _ he) heo
      rw [hr] at this; cases this
    · obtain ⟨h1, h2, h3⟩ := ready_mem hi
      rw [← hes] at h3
      have h2' : listed.getD i false = false := by rw [← hlf i h1]; exact h2
      have hset : ∀ j k, j < ops.size → (listed.setIfInBounds j true).getD k false = if j = k then true else listed.getD k false := by
        intro j k hj
        simp only [Array.getD_eq_getD_getElem?, Array.getElem?_setIfInBounds]
        split
        · rename_i e; subst e; rw [if_pos (by omega)]; rfl
        · rfl
      have hcl' : Closed es (listed.setIfInBounds i true) := by
        intro k hk e he
        rw [hset i _ h1] at hk ⊢
        split at hk
        · rename_i e'; subst e'
          rw [h3 e he]; simp
        · rw [hcl k hk e he]; simp
      have one : ∀ (j : Item), j.i = i → aos[j.i]? = some j.o → ∀ {K' : Env → Heap → Prop}, doOp G P j.o σ H K' →
          (∀ m' w' a' σ' H', m.le m' → Sat G B w0 m' H' w' → RelT m' n σ' a' → K' σ' H' → wpAny P .any ops Q fuel (listed.setIfInBounds i true) a' w') →
          wpOp P ops Q i (wpAny P .any ops Q fuel (listed.setIfInBounds i true)) a w := by
        rintro j rfl hj K' hd hk
        obtain ⟨ao, ha, hco⟩ := hcs j.i ops[j.i] (Array.getElem?_eq_getElem h1)
        have : ao = j.o := by rw [hj] at ha; cases ha; rfl
        subst this
        exact doOp_sound hsat hrel (Array.getElem?_eq_getElem h1) hco hd hk
      have late : ∀ z j : Item, j.i = i → listed.getD z.i false = false → PairR es bef z j → pairOk z j = true := by
        rintro z j rfl hz ⟨_, _, hb | hb⟩
        · rw [bef_listed hbo hcl j.i h3 _ hb] at hz; cases hz
        · exact hb
      have keep : ∀ (z j : Item), j.i = i → z.i ≠ j.i → listed.getD z.i false = false → (listed.setIfInBounds i true).getD z.i false = false := by
        rintro z j rfl hne hz
        rw [hset _ _ h1, if_neg (Ne.symm hne)]; exact hz
      have unl : ∀ k, k < ops.size → (listed.setIfInBounds i true).getD k false = false → i ≠ k ∧ listed.getD k false = false := by
        intro k _ hk
        rw [hset _ _ h1] at hk
        split at hk
        · cases hk
        · rename_i hne; exact ⟨hne, hk⟩
      obtain ⟨j, hj, hji⟩ := hcov i h1 h2'
      rcases List.mem_append.1 hj with hjp | hjx
      · obtain ⟨p1, p2, rfl⟩ := List.append_of_mem hjp
        have hpw1 := hF.p1
        rw [List.append_assoc, List.cons_append] at hpw1
        have hpw2 := hF.p2
        rw [List.append_assoc, List.cons_append] at hpw2
        have hpp := List.pairwise_append.1 hpw1
        have hsub1 : ∀ z, z ∈ p1 → z ∈ (p1 ++ j :: p2) ++ x :: r1 := fun z h => List.mem_append_left _ (List.mem_append_left _ h)
        have hp : ∀ z ∈ p1, pairOk z j = true := fun z hz => late z j hji (hit z (hsub1 z hz)).2.2.2 (hpp.2.2 z hz j List.mem_cons_self)
        have hd := seqP_doOp (forkK_ext hKe) (seqP_front (forkK_ext hKe) p1 [] σ H hp h)
        refine one j hji (hit j hj).2.1 hd fun m' w' a' σ' H' q1 q2 q3 q4 => ?_
        have hne1 : ∀ z, z ∈ p1 ++ p2 → z.i ≠ j.i := by
          intro z hz
          rcases List.mem_append.1 hz with hz | hz
          · exact (hpp.2.2 z hz j List.mem_cons_self).2.1
          · exact Ne.symm (List.rel_of_pairwise_cons hpp.2.1 (List.mem_append_left _ hz)).2.1
        have hner1 : ∀ z ∈ r1, z.i ≠ j.i := fun z hz => Ne.symm (List.rel_of_pairwise_cons hpp.2.1 (List.mem_append_right _ hz)).2.1
        have hner2 : ∀ z ∈ r2, z.i ≠ j.i := fun z hz => Ne.symm (List.rel_of_pairwise_cons (List.pairwise_append.1 hpw2).2.1 (List.mem_append_right _ hz)).2.1
        have hjx : x.i ≠ j.i := Ne.symm (hF.hx j hjp).2.1
        have hjy : y.i ≠ j.i := Ne.symm (hF.hy j hjp).2.1
        have hsubp : ∀ z, z ∈ p1 ++ p2 → z ∈ p1 ++ j :: p2 := by
          intro z hz
          rcases List.mem_append.1 hz with hz | hz
          · exact List.mem_append_left _ hz
          · exact List.mem_append_right _ (List.mem_cons_of_mem _ hz)
        have hF' : Fork es bef (p1 ++ p2) x y r1 r2 := by
          refine ⟨?_, ?_, fun z hz => hF.hx z (hsubp z hz), fun z hz => hF.hy z (hsubp z hz), hF.xr, hF.yr, hF.tl⟩
          · rw [List.append_assoc]; exact hpw1.sublist (List.Sublist.append (List.Sublist.refl p1) (List.sublist_cons_self j _))
          · rw [List.append_assoc]; exact hpw2.sublist (List.Sublist.append (List.Sublist.refl p1) (List.sublist_cons_self j _))
        refine wpAny_fork hcs hes hbo hEdge hKe fuel _ (p1 ++ p2) m' w' a' σ' H' (by simpa using hsz) hcl' ?_ ?_ hF' ?_ ?_ ?_ ?_ q2 q3 q4 (fun m2 w2 a2 σ2 H2 g1 g2 g3 g4 => hK m2 w2 a2 σ2 H2 (q1.trans g1) g2 g3 g4)
        · simp only [List.length_append, List.length_cons] at hlen ⊢; omega
        · simp only [List.length_append, List.length_cons] at hlen2 ⊢; omega
        · intro z hz
          have hz' : z ∈ (p1 ++ j :: p2) ++ x :: r1 := by
            rcases List.mem_append.1 hz with hz | hz
            · exact List.mem_append_left _ (hsubp z hz)
            · exact List.mem_append_right _ hz
          have hne : z.i ≠ j.i := by
            rcases List.mem_append.1 hz with hz | hz
            · exact hne1 z hz
            · rcases List.mem_cons.1 hz with rfl | hz
              · exact hjx
              · exact hner1 z hz
          obtain ⟨g1, g2, g3, g4⟩ := hit z hz'
          exact ⟨g1, g2, g3, keep z j hji hne g4⟩
        · intro z hz
          have hz' : z ∈ (p1 ++ j :: p2) ++ y :: r2 := by
            rcases List.mem_append.1 hz with hz | hz
            · exact List.mem_append_left _ (hsubp z hz)
            · exact List.mem_append_right _ hz
          have hne : z.i ≠ j.i := by
            rcases List.mem_append.1 hz with hz | hz
            · exact hne1 z hz
            · rcases List.mem_cons.1 hz with rfl | hz
              · exact hjy
              · exact hner2 z hz
          obtain ⟨g1, g2, g3, g4⟩ := hit2 z hz'
          exact ⟨g1, g2, g3, keep z j hji hne g4⟩
        · intro k hk hkl
          obtain ⟨hne, hkl⟩ := unl k hk hkl
          obtain ⟨z, hz, rfl⟩ := hcov k hk hkl
          refine ⟨z, ?_, rfl⟩
          rcases List.mem_append.1 hz with hz | hz
          · rcases List.mem_append.1 hz with hz | hz
            · exact List.mem_append_left _ (List.mem_append_left _ hz)
            · rcases List.mem_cons.1 hz with rfl | hz
              · exact absurd hji (Ne.symm hne)
              · exact List.mem_append_left _ (List.mem_append_right _ hz)
          · exact List.mem_append_right _ hz
        · intro k hk hkl
          obtain ⟨hne, hkl⟩ := unl k hk hkl
          obtain ⟨z, hz, rfl⟩ := hcov2 k hk hkl
          refine ⟨z, ?_, rfl⟩
          rcases List.mem_append.1 hz with hz | hz
          · rcases List.mem_append.1 hz with hz | hz
            · exact List.mem_append_left _ (List.mem_append_left _ hz)
            · rcases List.mem_cons.1 hz with rfl | hz
              · exact absurd hji (Ne.symm hne)
              · exact List.mem_append_left _ (List.mem_append_right _ hz)
          · exact List.mem_append_right _ hz
      · -- one of the two, with its list
        have two : ∀ (u : Item) (r : List Item), u.i = i → (pre ++ u :: r).length = fuel + 1 → (pre ++ r).Pairwise (PairR es bef) → (∀ z ∈ pre, PairR es bef z u) → (∀ z ∈ r, z.i ≠ u.i) →
            (∀ z ∈ pre ++ u :: r, z.i ∉ es.getD z.i [] ∧ aos[z.i]? = some z.o ∧ z.i < ops.size ∧ listed.getD z.i false = false) → (∀ i, i < ops.size → listed.getD i false = false → ∃ z ∈ pre ++ u :: r, z.i = i) →
            seqD G P (pre ++ u :: r) [] σ H K → wpOp P ops Q i (wpAny P .any ops Q fuel (listed.setIfInBounds i true)) a w := by
          intro u r hui hl hpw hu hr hi' hc' hs
          have hmem : u ∈ pre ++ u :: r := List.mem_append_right _ List.mem_cons_self
          have hp : ∀ z ∈ pre, pairOk z u = true := fun z hz => late z u hui (hi' z (List.mem_append_left _ hz)).2.2.2 (hu z hz)
          have hd := seqD_doOp hKe (seqD_front hKe pre [] σ H hp hs)
          refine one u hui (hi' u hmem).2.1 hd fun m' w' a' σ' H' q1 q2 q3 q4 => ?_
          refine wpAny_seqD hcs hes hbo hEdge hKe fuel _ (pre ++ r) m' w' a' σ' H' (by simpa using hsz) hcl' ?_ hpw ?_ ?_ q2 q3 q4 (fun m2 w2 a2 σ2 H2 g1 g2 g3 g4 => hK m2 w2 a2 σ2 H2 (q1.trans g1) g2 g3 g4)
          · simp only [List.length_append, List.length_cons] at hl ⊢; omega
          · intro z hz
            have hz' : z ∈ pre ++ u :: r := by
              rcases List.mem_append.1 hz with hz | hz
              · exact List.mem_append_left _ hz
              · exact List.mem_append_right _ (List.mem_cons_of_mem _ hz)
            have hne : z.i ≠ u.i := by
              rcases List.mem_append.1 hz with hz | hz
              · exact (hu z hz).2.1
              · exact hr z hz
            obtain ⟨g1, g2, g3, g4⟩ := hi' z hz'
            exact ⟨g1, g2, g3, keep z u hui hne g4⟩
          · intro k hk hkl
            obtain ⟨hne, hkl⟩ := unl k hk hkl
            obtain ⟨z, hz, rfl⟩ := hc' k hk hkl
            refine ⟨z, ?_, rfl⟩
            rcases List.mem_append.1 hz with hz | hz
            · exact List.mem_append_left _ hz
            · rcases List.mem_cons.1 hz with rfl | hz
              · exact absurd hui (Ne.symm hne)
              · exact List.mem_append_right _ hz
        have goX : x.i = i → wpOp P ops Q i (wpAny P .any ops Q fuel (listed.setIfInBounds i true)) a w := fun hx =>
          two x r1 hx hlen hF.p1 hF.hx (fun z hz => (hF.xr z hz).2) hit hcov (seqP_app pre [] σ H (seqP_mono (fun _ _ _ h => h.1) _ _ _ _ h))
        have goY : y.i = i → wpOp P ops Q i (wpAny P .any ops Q fuel (listed.setIfInBounds i true)) a w := fun hy =>
          two y r2 hy hlen2 hF.p2 hF.hy hF.yr hit2 hcov2 (seqP_app pre [] σ H (seqP_mono (fun _ _ _ h => h.2) _ _ _ _ h))
        rcases List.mem_cons.1 hjx with rfl | hjr
        · exact goX hji
        · rcases hF.tl j hjr with hb | hb | hb
          · exact goY (by rw [← hb]; exact hji)
          · exfalso
            have := bef_listed hbo hcl j.i (by rw [hji]; exact h3) _ hb
            rw [(hit x (List.mem_append_right _ List.mem_cons_self)).2.2.2] at this; cases this
          · exfalso
            have := bef_listed hbo hcl j.i (by rw [hji]; exact h3) _ hb
            rw [(hit2 y (List.mem_append_right _ List.mem_cons_self)).2.2.2] at this; cases this

/-- The region turned: what comes ahead, and the two ways. -/
def forkOk (es : List (List Nat)) (bef : List Nat) (n : Nat) (pre : List Item) (l1 l2 : List Item) : Bool :=
  match l1, l2 with
  | x :: r1, y :: r2 =>
    pairsOk es bef (pre ++ r1) && pairsOk es bef (pre ++ r2) &&
    (pre.all fun z => !(es.getD z.i []).contains x.i && z.i != x.i && ((bef.getD x.i 0).testBit z.i || pairOk z x)) &&
    (pre.all fun z => !(es.getD z.i []).contains y.i && z.i != y.i && ((bef.getD y.i 0).testBit z.i || pairOk z y)) &&
    (r1.all fun j => !(es.getD x.i []).contains j.i && j.i != x.i) && (r2.all fun j => j.i != y.i) && !(es.getD x.i []).contains x.i && !(es.getD y.i []).contains y.i &&
    (r1.all fun j => j.i == y.i || (bef.getD j.i 0).testBit x.i || (bef.getD j.i 0).testBit y.i) &&
    ((pre ++ x :: r1).length == n) && ((pre ++ y :: r2).length == n) &&
    ((List.range n).all fun i => (pre ++ x :: r1).any fun z => z.i == i) && ((List.range n).all fun i => (pre ++ y :: r2).any fun z => z.i == i)
  | _, _ => false

def compDF (P : Program) (n : Nat) (ops : Array Oper) (op o1 o2 : List (Nat × List Nat)) : Option (List Item × List Item × List Item) :=
  (compR P n ops).bind fun aos =>
    let es := edgesOf ops
    let bef := befs es
    let pre := mkItems aos op
    let l1 := mkItems aos o1
    let l2 := mkItems aos o2
    if befOk es bef && (es.all (fun l => l.all fun e => decide (e < ops.size)) && (es.length == ops.size && (bef.length == ops.size && forkOk es bef ops.size pre l1 l2))) then some (pre, l1, l2) else none

theorem AWp_fork {id : Nat} {pre l1 l2 : List Item} {op o1 o2 : List (Nat × List Nat)} {K : Env → Heap → Prop} {Q : Exit → Env → Heap → Prop} (hm : P.follows .mixedOrders = true) (hc : compDF P n ops op o1 o2 = some (pre, l1, l2)) (hKe : KExt K)
    (h : seqP G P pre [] σ H (forkK G P l1 l2 K)) (hK : ∀ σ H, K σ H → Q .normal σ H) :
    AWp G P n (.region id ops true) σ H Q := by
  intro B w0 m w a hsat hrel
  unfold compDF at hc
  cases hcr : compR P n ops with
  | none => rw [hcr] at hc; cases hc
  | some aos =>
    rw [hcr] at hc
    simp only [Option.bind_some] at hc
    split at hc
    · rename_i hck
      simp only [Option.some.injEq, Prod.mk.injEq] at hc
      obtain ⟨e1, e2, e3⟩ := hc
      simp only [Bool.and_eq_true, beq_iff_eq] at hck
      obtain ⟨c1, c0, c2, c3, c4⟩ := hck
      rw [e1, e2, e3] at c4
      simp only [List.all_eq_true, decide_eq_true_eq] at c0
      have hm0 : ∀ z ∈ pre, aos[z.i]? = some z.o := fun z hz => by rw [← e1] at hz; exact mkItems_mem _ z hz
      have hm1 : ∀ z ∈ l1, aos[z.i]? = some z.o := fun z hz => by rw [← e2] at hz; exact mkItems_mem _ z hz
      have hm2 : ∀ z ∈ l2, aos[z.i]? = some z.o := fun z hz => by rw [← e3] at hz; exact mkItems_mem _ z hz
      cases l1 with
      | nil => simp [forkOk] at c4
      | cons x r1 =>
        cases l2 with
        | nil => simp [forkOk] at c4
        | cons y r2 =>
          simp only [forkOk, Bool.and_eq_true, List.all_eq_true, Bool.not_eq_true', Bool.or_eq_true, bne_iff_ne, ne_eq, beq_iff_eq, List.any_eq_true, List.mem_range] at c4
          obtain ⟨⟨⟨⟨⟨⟨⟨⟨⟨⟨⟨⟨d1, d2⟩, d3⟩, d4⟩, d5⟩, d6⟩, d7⟩, d8⟩, d9⟩, d11⟩, d12⟩, d13⟩, d14⟩ := c4
          obtain ⟨p1, s1⟩ := pairsOk_spec d1
          obtain ⟨p2, s2⟩ := pairsOk_spec d2
          obtain ⟨hcl, hcs⟩ := compR_spec hcr
          have hlt : ∀ z : Item, aos[z.i]? = some z.o → z.i < ops.size := fun z hz => by have := (List.getElem?_eq_some_iff.1 hz).1; omega
          have hun : ∀ i, (Array.replicate ops.size false).getD i false = false := fun i => by rw [Array.getD_eq_getD_getElem?, Array.getElem?_replicate]; split <;> rfl
          have hF : Fork (edgesOf ops) (befs (edgesOf ops)) pre x y r1 r2 := by
            refine ⟨p1, p2, fun z hz => ?_, fun z hz => ?_, fun j hj => ?_, fun j hj => d6 j hj, fun j hj => ?_⟩
            · obtain ⟨⟨g1, g2⟩, g3⟩ := d3 z hz
              exact ⟨by simpa using g1, g2, g3⟩
            · obtain ⟨⟨g1, g2⟩, g3⟩ := d4 z hz
              exact ⟨by simpa using g1, g2, g3⟩
            · obtain ⟨g1, g2⟩ := d5 j hj
              exact ⟨by simpa using g1, g2⟩
            · rcases d9 j hj with (g | g) | g
              · exact .inl g
              · exact .inr (.inl g)
              · exact .inr (.inr g)
          refine wp_region_any hm ?_
          refine wpAny_fork hcs rfl c1 (fun i e he => ?_) hKe ops.size _ pre m _ a σ H (by simp) ?_ d11 d12 hF (fun z hz => ?_) (fun z hz => ?_) (fun i hi _ => ?_) (fun i hi _ => ?_) hsat.drew hrel h (fun m' w' a' σ' H' g1 g2 g3 g4 => ⟨m', σ', H', g1, g2, g3, hK _ _ g4⟩)
          · rw [List.getD_eq_getElem?_getD] at he
            cases hg : (edgesOf ops)[i]? with
            | none => rw [hg] at he; cases he
            | some l => rw [hg] at he; exact c0 l (List.mem_of_getElem? hg) e he
          · intro i hi
            rw [hun] at hi; cases hi
          · rcases List.mem_append.1 hz with hz | hz
            · exact ⟨s1 z (List.mem_append_left _ hz), hm0 z hz, hlt z (hm0 z hz), hun _⟩
            · have ho := hm1 z hz
              refine ⟨?_, ho, hlt z ho, hun _⟩
              rcases List.mem_cons.1 hz with rfl | hz
              · simpa using d7
              · exact s1 z (List.mem_append_right _ hz)
          · rcases List.mem_append.1 hz with hz | hz
            · exact ⟨s1 z (List.mem_append_left _ hz), hm0 z hz, hlt z (hm0 z hz), hun _⟩
            · have ho := hm2 z hz
              refine ⟨?_, ho, hlt z ho, hun _⟩
              rcases List.mem_cons.1 hz with rfl | hz
              · simpa using d8
              · exact s2 z (List.mem_append_right _ hz)
          · obtain ⟨z, hz, he⟩ := d13 i hi
            exact ⟨z, hz, he⟩
          · obtain ⟨z, hz, he⟩ := d14 i hi
            exact ⟨z, hz, he⟩
    · cases hc
end

/-- Ways through a region where some pairs of loud operations stand in no order: each fork has what comes ahead, and the two ways. -/
inductive Plan where
  | lin (l : List Item)
  | frk (pre : List Item) (x : Item) (p : Plan) (y : Item) (q : Plan)
def planD (G : Nat → Option (List AV)) (P : Program) : Plan → (Env → Heap → Prop) → List Pend → Env → Heap → Prop
  | .lin l, K, pd, s, h => seqD G P l pd s h K
  | .frk pre x p y q, K, pd, s, h => seqP G P pre pd s h fun pd s h => seqP G P [x] pd s h (planD G P p K) ∧ seqP G P [y] pd s h (planD G P q K)
def Plan.paths : Plan → List (List Item)
  | .lin l => [l]
  | .frk pre x p y q => (p.paths.map fun l => pre ++ x :: l) ++ (q.paths.map fun l => pre ++ y :: l)
def Plan.on (A : List Item) : Plan → Plan
  | .lin l => .lin (A ++ l)
  | .frk pre x p y q => .frk (A ++ pre) x p y q

section
variable {G : Nat → Option (List AV)} {B : Nat} {w0 w w' : World} {m m' : Im} {H H' : Heap} {P : Program} {n : Nat} {σ : Env} {a : Act} {ops : Array Oper}

theorem planD_ext {K : Env → Heap → Prop} (hK : KExt K) : ∀ p : Plan, KExtP (planD G P p K)
  | .lin l => fun _ _ _ _ _ hp hs h => seqD_ext hK _ _ _ _ _ _ hp hs h
  | .frk pre x p y q => fun _ _ _ _ _ hp hs h => seqP_ext (fun _ _ _ _ _ hp hs h => ⟨seqP_ext (planD_ext hK p) _ _ _ _ _ _ hp hs h.1, seqP_ext (planD_ext hK q) _ _ _ _ _ _ hp hs h.2⟩) _ _ _ _ _ _ hp hs h
theorem planD_mono {K K' : Env → Heap → Prop} (hD : ∀ (l : List Item) pd s h, seqD G P l pd s h K → seqD G P l pd s h K') : ∀ (p : Plan) (pd : List Pend) (s : Env) (h : Heap), planD G P p K pd s h → planD G P p K' pd s h
  | .lin l, _, _, _, h => hD _ _ _ _ h
  | .frk pre x p y q, _, _, _, h => seqP_mono (fun _ _ _ h => ⟨seqP_mono (planD_mono hD p) _ _ _ _ h.1, seqP_mono (planD_mono hD q) _ _ _ _ h.2⟩) _ _ _ _ h
theorem seqP_appP {K : List Pend → Env → Heap → Prop} {l2 : List Item} : ∀ (l : List Item) (pend : List Pend) (σ : Env) (H : Heap), seqP G P l pend σ H (fun pd s h => seqP G P l2 pd s h K) → seqP G P (l ++ l2) pend σ H K
  | [], _, _, _, h => h
  | x :: l, pend, σ, H, h => by
    simp only [List.cons_append, seqP] at h ⊢
    refine gate_mono (fun h => ?_) (seqP_appP l _ _ _) h
    cases hq : x.o.op.quiet with
    | true => rw [hq] at h; obtain ⟨v, h1, h2⟩ := h; exact ⟨v, h1, seqP_appP l _ _ _ h2⟩
    | false => rw [hq] at h; exact eff_mono (fun v H' h => oblP_mono (fun _ h => h) (seqP_appP l _ _ _) h) h
theorem paths_ne : ∀ p : Plan, ∃ l, l ∈ p.paths
  | .lin l => ⟨l, List.mem_cons_self⟩
  | .frk pre x p y q => let ⟨l, h⟩ := paths_ne p; ⟨pre ++ x :: l, List.mem_append_left _ (List.mem_map.2 ⟨l, h, rfl⟩)⟩
/-- What is asked of a plan behind A. -/
def PlanOk (es : List (List Nat)) (bef : List Nat) : List Item → Plan → Prop
  | A, .lin l => (A ++ l).Pairwise (PairR es bef)
  | A, .frk pre x p y q => PlanOk es bef (A ++ pre) p ∧ PlanOk es bef (A ++ pre) q ∧ (∀ z ∈ A ++ pre, PairR es bef z x ∧ PairR es bef z y) ∧ (A ++ pre).Pairwise (PairR es bef) ∧
    (∀ l ∈ p.paths, ∀ j ∈ l, j.i ∉ es.getD x.i [] ∧ j.i ≠ x.i ∧ (j.i = y.i ∨ (bef.getD j.i 0).testBit x.i = true ∨ (bef.getD j.i 0).testBit y.i = true) ∧ ∀ z ∈ A ++ pre, j.i ∉ es.getD z.i [] ∧ z.i ≠ j.i) ∧
    (∀ l ∈ q.paths, ∀ j ∈ l, j.i ≠ y.i ∧ ∀ z ∈ A ++ pre, z.i ≠ j.i)
theorem PlanOk.sub {es : List (List Nat)} {bef : List Nat} : ∀ {p : Plan} {A B : List Item}, A.Sublist B → PlanOk es bef B p → PlanOk es bef A p
  | .lin l, _, _, hs, h => List.Pairwise.sublist (List.Sublist.append hs (List.Sublist.refl l)) h
  | .frk pre x p y q, _, _, hs, ⟨h1, h2, h3, h4, h5, h6⟩ =>
    have hs' := List.Sublist.append hs (List.Sublist.refl pre)
    ⟨PlanOk.sub hs' h1, PlanOk.sub hs' h2, fun z hz => h3 z (hs'.subset hz), h4.sublist hs',
      fun l hl j hj => ⟨(h5 l hl j hj).1, (h5 l hl j hj).2.1, (h5 l hl j hj).2.2.1, fun z hz => (h5 l hl j hj).2.2.2 z (hs'.subset hz)⟩, fun l hl j hj => ⟨(h6 l hl j hj).1, fun z hz => (h6 l hl j hj).2 z (hs'.subset hz)⟩⟩

theorem wpAny_plan {aos : List AOper} (hcs : ∀ (i : Nat) (o : Oper), ops[i]? = some o → ∃ ao : AOper, aos[i]? = some ao ∧ compO P n ops o = some ao) {es : List (List Nat)} {bef : List Nat} (hes : es = edgesOf ops) (hbo : befOk es bef = true) (hEdge : ∀ i e, e ∈ es.getD i [] → e < ops.size)
    {K : Env → Heap → Prop} (hKe : KExt K) {Q : Exit → Act → World → Prop} :
    ∀ (fuel : Nat) (listed : Array Bool) (A : List Item) (p : Plan) (m : Im) (w : World) (a : Act) (σ : Env) (H : Heap), listed.size = ops.size → Closed es listed → (∀ l ∈ p.paths, (A ++ l).length = fuel) → PlanOk es bef A p →
      (∀ l ∈ p.paths, ∀ z ∈ A ++ l, z.i ∉ es.getD z.i [] ∧ aos[z.i]? = some z.o ∧ z.i < ops.size ∧ listed.getD z.i false = false) →
      (∀ l ∈ p.paths, ∀ i, i < ops.size → listed.getD i false = false → ∃ z ∈ A ++ l, z.i = i) →
      Sat G B w0 m H w → RelT m n σ a → seqP G P A [] σ H (planD G P p K) →
      (∀ m' w' a' σ' H', m.le m' → Sat G B w0 m' H' w' → RelT m' n σ' a' → K σ' H' → Q .normal a' w') → wpAny P .any ops Q fuel listed a w
  | fuel, listed, A, .lin l, m, w, a, σ, H, hsz, hcl, hlen, hF, hit, hcov, hsat, hrel, h, hK =>
    wpAny_seqD hcs hes hbo hEdge hKe fuel listed (A ++ l) m w a σ H hsz hcl (hlen l List.mem_cons_self) hF (hit l List.mem_cons_self) (hcov l List.mem_cons_self) hsat hrel (seqP_app A [] σ H h) hK
  | 0, listed, A, .frk pre x p y q, m, w, a, σ, H, hsz, hcl, hlen, hF, hit, hcov, hsat, hrel, h, hK => by
    obtain ⟨l, hl⟩ := paths_ne p
    have := hlen _ (List.mem_append_left _ (List.mem_map.2 ⟨l, hl, rfl⟩))
    simp at this
  | fuel + 1, listed, A, .frk pre x p y q, m, w, a, σ, H, hsz, hcl, hlen, hF, hit, hcov, hsat, hrel, h, hK => by
    obtain ⟨f1, f2, f3, f4, f5, f6⟩ := hF
    have hp1 : ∀ l ∈ p.paths, pre ++ x :: l ∈ (Plan.frk pre x p y q).paths := fun l hl => List.mem_append_left _ (List.mem_map.2 ⟨l, hl, rfl⟩)
    have hq1 : ∀ l ∈ q.paths, pre ++ y :: l ∈ (Plan.frk pre x p y q).paths := fun l hl => List.mem_append_right _ (List.mem_map.2 ⟨l, hl, rfl⟩)
    have h := seqP_appP A [] σ H h
    -- one list ahead
    have lenp : ∀ l ∈ p.paths, ((A ++ pre) ++ x :: l).length = fuel + 1 := fun l hl => by rw [List.append_assoc]; exact hlen _ (hp1 l hl)
    have lenq : ∀ l ∈ q.paths, ((A ++ pre) ++ y :: l).length = fuel + 1 := fun l hl => by rw [List.append_assoc]; exact hlen _ (hq1 l hl)
    have hitp : ∀ l ∈ p.paths, ∀ z ∈ (A ++ pre) ++ x :: l, z.i ∉ es.getD z.i [] ∧ aos[z.i]? = some z.o ∧ z.i < ops.size ∧ listed.getD z.i false = false := fun l hl => by rw [List.append_assoc]; exact hit _ (hp1 l hl)
    have hitq : ∀ l ∈ q.paths, ∀ z ∈ (A ++ pre) ++ y :: l, z.i ∉ es.getD z.i [] ∧ aos[z.i]? = some z.o ∧ z.i < ops.size ∧ listed.getD z.i false = false := fun l hl => by rw [List.append_assoc]; exact hit _ (hq1 l hl)
    have covp : ∀ l ∈ p.paths, ∀ i, i < ops.size → listed.getD i false = false → ∃ z ∈ (A ++ pre) ++ x :: l, z.i = i := fun l hl => by rw [List.append_assoc]; exact hcov _ (hp1 l hl)
    have covq : ∀ l ∈ q.paths, ∀ i, i < ops.size → listed.getD i false = false → ∃ z ∈ (A ++ pre) ++ y :: l, z.i = i := fun l hl => by rw [List.append_assoc]; exact hcov _ (hq1 l hl)
    generalize A ++ pre = A at *
    obtain ⟨l0, hl0⟩ := paths_ne p
    obtain ⟨l1, hl1⟩ := paths_ne q
    have hlf : ∀ i, i < ops.size → listed.getD i true = listed.getD i false := by
      intro i hi
      rw [Array.getD_eq_getD_getElem?, Array.getD_eq_getD_getElem?, Array.getElem?_eq_getElem (by omega)]; rfl
    have hE : KExtP (fun pd s h => seqP G P [x] pd s h (planD G P p K) ∧ seqP G P [y] pd s h (planD G P q K)) :=
      fun _ _ _ _ _ hp hs h => ⟨seqP_ext (planD_ext hKe p) _ _ _ _ _ _ hp hs h.1, seqP_ext (planD_ext hKe q) _ _ _ _ _ _ hp hs h.2⟩
    refine ⟨fun hr => ?_, fun i hi => ?_⟩
    · exfalso
      obtain ⟨z, hz, hzr⟩ : ∃ z ∈ A ++ x :: l0, ∀ j ∈ A ++ x :: l0, j.i ∉ es.getD z.i [] := by
        cases A with
        | nil =>
          refine ⟨x, List.mem_cons_self, fun j hj => ?_⟩
          rcases List.mem_cons.1 hj with rfl | hj
          · exact (hitp l0 hl0 _ List.mem_cons_self).1
          · exact (f5 l0 hl0 j hj).1
        | cons z A =>
          refine ⟨z, List.mem_cons_self, fun j hj => ?_⟩
          rcases List.mem_cons.1 hj with rfl | hj
          · exact (hitp l0 hl0 _ List.mem_cons_self).1
          · rcases List.mem_append.1 hj with hj | hj
            · exact (List.rel_of_pairwise_cons f4 hj).1
            · rcases List.mem_cons.1 hj with rfl | hj
              · exact (f3 z List.mem_cons_self).1.1
              · exact ((f5 l0 hl0 j hj).2.2.2 z List.mem_cons_self).1
      obtain ⟨g1, g2, g3, g4⟩ := hitp l0 hl0 z hz
      have : z.i ∈ Region.ready .any ops listed := by
        refine ready_of g3 (by rw [hlf _ g3]; exact g4) (fun e he => ?_)
        rw [← hes] at he
        cases hl : listed.getD e false with
        | true => rfl
        | false =>
          by_cases heo : e < ops.size
          · obtain ⟨j, hj, rfl⟩ := covp l0 hl0 e heo hl
            exact absurd he (hzr j hj)
          · exact absurd (hEdge _ _ he) heo
      rw [hr] at this; cases this
    · obtain ⟨h1, h2, h3⟩ := ready_mem hi
      rw [← hes] at h3
      have h2' : listed.getD i false = false := by rw [← hlf i h1]; exact h2
      have hset : ∀ j k, j < ops.size → (listed.setIfInBounds j true).getD k false = if j = k then true else listed.getD k false := by
        intro j k hj
        simp only [Array.getD_eq_getD_getElem?, Array.getElem?_setIfInBounds]
        split
        · rename_i e; subst e; rw [if_pos (by omega)]; rfl
        · rfl
      have hcl' : Closed es (listed.setIfInBounds i true) := by
        intro k hk e he
        rw [hset i _ h1] at hk ⊢
        split at hk
        · rename_i e'; subst e'
          rw [h3 e he]; simp
        · rw [hcl k hk e he]; simp
      have one : ∀ (j : Item), j.i = i → aos[j.i]? = some j.o → ∀ {K' : Env → Heap → Prop}, doOp G P j.o σ H K' →
          (∀ m' w' a' σ' H', m.le m' → Sat G B w0 m' H' w' → RelT m' n σ' a' → K' σ' H' → wpAny P .any ops Q fuel (listed.setIfInBounds i true) a' w') →
          wpOp P ops Q i (wpAny P .any ops Q fuel (listed.setIfInBounds i true)) a w := by
        rintro j rfl hj K' hd hk
        obtain ⟨ao, ha, hco⟩ := hcs j.i ops[j.i] (Array.getElem?_eq_getElem h1)
        have : ao = j.o := by rw [hj] at ha; cases ha; rfl
        subst this
        exact doOp_sound hsat hrel (Array.getElem?_eq_getElem h1) hco hd hk
      have late : ∀ z j : Item, j.i = i → listed.getD z.i false = false → PairR es bef z j → pairOk z j = true := by
        rintro z j rfl hz ⟨_, _, hb | hb⟩
        · rw [bef_listed hbo hcl j.i h3 _ hb] at hz; cases hz
        · exact hb
      have keep : ∀ (z j : Item), j.i = i → z.i ≠ j.i → listed.getD z.i false = false → (listed.setIfInBounds i true).getD z.i false = false := by
        rintro z j rfl hne hz
        rw [hset _ _ h1, if_neg (Ne.symm hne)]; exact hz
      have unl : ∀ k, k < ops.size → (listed.setIfInBounds i true).getD k false = false → i ≠ k ∧ listed.getD k false = false := by
        intro k _ hk
        rw [hset _ _ h1] at hk
        split at hk
        · cases hk
        · rename_i hne; exact ⟨hne, hk⟩
      -- one of the two
      have two : ∀ (u : Item) (r : Plan), u.i = i → (∀ l ∈ r.paths, (A ++ u :: l).length = fuel + 1) → PlanOk es bef A r → (∀ z ∈ A, PairR es bef z u) → (∀ l ∈ r.paths, ∀ j ∈ l, j.i ≠ u.i) →
          (∀ l ∈ r.paths, ∀ z ∈ A ++ u :: l, z.i ∉ es.getD z.i [] ∧ aos[z.i]? = some z.o ∧ z.i < ops.size ∧ listed.getD z.i false = false) → (∀ l ∈ r.paths, ∀ i, i < ops.size → listed.getD i false = false → ∃ z ∈ A ++ u :: l, z.i = i) →
          seqP G P A [] σ H (fun pd s h => seqP G P [u] pd s h (planD G P r K)) → wpOp P ops Q i (wpAny P .any ops Q fuel (listed.setIfInBounds i true)) a w := by
        intro u r hui hl hok hu hr hi' hc' hs
        obtain ⟨l, hlr⟩ := paths_ne r
        have hp : ∀ z ∈ A, pairOk z u = true := fun z hz => late z u hui (hi' l hlr z (List.mem_append_left _ hz)).2.2.2 (hu z hz)
        have hs2 := seqP_front (planD_ext hKe r) A [] σ H (l2 := []) hp (seqP_appP A [] σ H hs)
        rw [List.append_nil] at hs2
        have hd := seqP_doOp (planD_ext hKe r) hs2
        refine one u hui (hi' l hlr u (List.mem_append_right _ List.mem_cons_self)).2.1 hd fun m' w' a' σ' H' q1 q2 q3 q4 => ?_
        refine wpAny_plan hcs hes hbo hEdge hKe fuel _ A r m' w' a' σ' H' (by simpa using hsz) hcl' ?_ hok ?_ ?_ q2 q3 q4 (fun m2 w2 a2 σ2 H2 g1 g2 g3 g4 => hK m2 w2 a2 σ2 H2 (q1.trans g1) g2 g3 g4)
        · intro l hlr
          have := hl l hlr
          simp only [List.length_append, List.length_cons] at this ⊢; omega
        · intro l hlr z hz
          have hz' : z ∈ A ++ u :: l := by
            rcases List.mem_append.1 hz with hz | hz
            · exact List.mem_append_left _ hz
            · exact List.mem_append_right _ (List.mem_cons_of_mem _ hz)
          have hne : z.i ≠ u.i := by
            rcases List.mem_append.1 hz with hz | hz
            · exact (hu z hz).2.1
            · exact hr l hlr z hz
          obtain ⟨g1, g2, g3, g4⟩ := hi' l hlr z hz'
          exact ⟨g1, g2, g3, keep z u hui hne g4⟩
        · intro l hlr k hk hkl
          obtain ⟨hne, hkl⟩ := unl k hk hkl
          obtain ⟨z, hz, rfl⟩ := hc' l hlr k hk hkl
          refine ⟨z, ?_, rfl⟩
          rcases List.mem_append.1 hz with hz | hz
          · exact List.mem_append_left _ hz
          · rcases List.mem_cons.1 hz with rfl | hz
            · exact absurd hui (Ne.symm hne)
            · exact List.mem_append_right _ hz
      have goX : x.i = i → wpOp P ops Q i (wpAny P .any ops Q fuel (listed.setIfInBounds i true)) a w := fun hx =>
        two x p hx lenp f1 (fun z hz => (f3 z hz).1) (fun l hl j hj => (f5 l hl j hj).2.1) hitp covp (seqP_mono (fun _ _ _ h => h.1) _ _ _ _ h)
      have goY : y.i = i → wpOp P ops Q i (wpAny P .any ops Q fuel (listed.setIfInBounds i true)) a w := fun hy =>
        two y q hy lenq f2 (fun z hz => (f3 z hz).2) (fun l hl j hj => (f6 l hl j hj).1) hitq covq (seqP_mono (fun _ _ _ h => h.2) _ _ _ _ h)
      obtain ⟨j, hj, hji⟩ := covp l0 hl0 i h1 h2'
      rcases List.mem_append.1 hj with hjp | hjx
      · obtain ⟨p1, p2, rfl⟩ := List.append_of_mem hjp
        have hp : ∀ z ∈ p1, pairOk z j = true := fun z hz => late z j hji (hitp l0 hl0 z (List.mem_append_left _ (List.mem_append_left _ hz))).2.2.2 ((List.pairwise_append.1 f4).2.2 z hz j List.mem_cons_self)
        have hd := seqP_doOp hE (seqP_front hE p1 [] σ H hp h)
        refine one j hji (hitp l0 hl0 j hj).2.1 hd fun m' w' a' σ' H' q1 q2 q3 q4 => ?_
        have hsub : (p1 ++ p2).Sublist (p1 ++ j :: p2) := List.Sublist.append (List.Sublist.refl p1) (List.sublist_cons_self j p2)
        have hne1 : ∀ z, z ∈ p1 ++ p2 → z.i ≠ j.i := by
          intro z hz
          rcases List.mem_append.1 hz with hz | hz
          · exact ((List.pairwise_append.1 f4).2.2 z hz j List.mem_cons_self).2.1
          · exact Ne.symm (List.rel_of_pairwise_cons (List.pairwise_append.1 f4).2.1 hz).2.1
        have hjm : j ∈ p1 ++ j :: p2 := hjp
        have e1 : ∀ (u : Item) (l : List Item), (p1 ++ p2) ++ (([] : List Item) ++ u :: l) = (p1 ++ p2) ++ u :: l := fun _ _ => rfl
        -- the conditions of the plan that is left
        have hok : PlanOk es bef (p1 ++ p2) (.frk [] x p y q) := by
          have a0 : (p1 ++ p2) ++ [] = p1 ++ p2 := List.append_nil _
          refine ⟨?_, ?_, ?_, ?_, ?_, ?_⟩ <;> rw [a0]
          · exact f1.sub hsub
          · exact f2.sub hsub
          · exact fun z hz => f3 z (hsub.subset hz)
          · exact f4.sublist hsub
          · exact fun l hl j' hj' => ⟨(f5 l hl j' hj').1, (f5 l hl j' hj').2.1, (f5 l hl j' hj').2.2.1, fun z hz => (f5 l hl j' hj').2.2.2 z (hsub.subset hz)⟩
          · exact fun l hl j' hj' => ⟨(f6 l hl j' hj').1, fun z hz => (f6 l hl j' hj').2 z (hsub.subset hz)⟩
        have nx : x.i ≠ j.i := Ne.symm (f3 j hjm).1.2.1
        have ny : y.i ≠ j.i := Ne.symm (f3 j hjm).2.2.1
        have inb : ∀ (u : Item) (l : List Item) (z : Item), z ∈ (p1 ++ p2) ++ u :: l → z ∈ (p1 ++ j :: p2) ++ u :: l := by
          intro u l z hz
          rcases List.mem_append.1 hz with hz | hz
          · exact List.mem_append_left _ (hsub.subset hz)
          · exact List.mem_append_right _ hz
        have mids : ∀ (l : List Item), l ∈ (Plan.frk [] x p y q).paths → (∃ l' ∈ p.paths, l = x :: l') ∨ (∃ l' ∈ q.paths, l = y :: l') := by
          intro l hl
          rcases List.mem_append.1 hl with hl | hl
          · obtain ⟨l', h1, rfl⟩ := List.mem_map.1 hl; exact .inl ⟨l', h1, rfl⟩
          · obtain ⟨l', h1, rfl⟩ := List.mem_map.1 hl; exact .inr ⟨l', h1, rfl⟩
        refine wpAny_plan hcs hes hbo hEdge hKe fuel _ (p1 ++ p2) (.frk [] x p y q) m' w' a' σ' H' (by simpa using hsz) hcl' ?_ hok ?_ ?_ q2 q3 q4 (fun m2 w2 a2 σ2 H2 g1 g2 g3 g4 => hK m2 w2 a2 σ2 H2 (q1.trans g1) g2 g3 g4)
        · intro l hl
          rcases mids l hl with ⟨l', hl', rfl⟩ | ⟨l', hl', rfl⟩
          · have := lenp l' hl'
            simp only [List.length_append, List.length_cons] at this ⊢; omega
          · have := lenq l' hl'
            simp only [List.length_append, List.length_cons] at this ⊢; omega
        · intro l hl z hz
          rcases mids l hl with ⟨l', hl', rfl⟩ | ⟨l', hl', rfl⟩
          · obtain ⟨g1, g2, g3, g4⟩ := hitp l' hl' z (inb _ _ _ hz)
            refine ⟨g1, g2, g3, keep z j hji ?_ g4⟩
            rcases List.mem_append.1 hz with hz | hz
            · exact hne1 z hz
            · rcases List.mem_cons.1 hz with rfl | hz
              · exact nx
              · exact Ne.symm ((f5 l' hl' z hz).2.2.2 j hjm).2
          · obtain ⟨g1, g2, g3, g4⟩ := hitq l' hl' z (inb _ _ _ hz)
            refine ⟨g1, g2, g3, keep z j hji ?_ g4⟩
            rcases List.mem_append.1 hz with hz | hz
            · exact hne1 z hz
            · rcases List.mem_cons.1 hz with rfl | hz
              · exact ny
              · exact Ne.symm ((f6 l' hl' z hz).2 j hjm)
        · intro l hl k hk hkl
          obtain ⟨hne, hkl⟩ := unl k hk hkl
          have back : ∀ (u : Item) (l' : List Item), (∃ z ∈ (p1 ++ j :: p2) ++ u :: l', z.i = k) → ∃ z ∈ (p1 ++ p2) ++ u :: l', z.i = k := by
            rintro u l' ⟨z, hz, rfl⟩
            refine ⟨z, ?_, rfl⟩
            rcases List.mem_append.1 hz with hz | hz
            · rcases List.mem_append.1 hz with hz | hz
              · exact List.mem_append_left _ (List.mem_append_left _ hz)
              · rcases List.mem_cons.1 hz with rfl | hz
                · exact absurd hji (Ne.symm hne)
                · exact List.mem_append_left _ (List.mem_append_right _ hz)
            · exact List.mem_append_right _ hz
          rcases mids l hl with ⟨l', hl', rfl⟩ | ⟨l', hl', rfl⟩
          · exact back x l' (covp l' hl' k hk hkl)
          · exact back y l' (covq l' hl' k hk hkl)
      · rcases List.mem_cons.1 hjx with rfl | hjr
        · exact goX hji
        · rcases (f5 l0 hl0 j hjr).2.2.1 with hb | hb | hb
          · exact goY (by rw [← hb]; exact hji)
          · exfalso
            have := bef_listed hbo hcl j.i (by rw [hji]; exact h3) _ hb
            rw [(hitp l0 hl0 x (List.mem_append_right _ List.mem_cons_self)).2.2.2] at this; cases this
          · exfalso
            have := bef_listed hbo hcl j.i (by rw [hji]; exact h3) _ hb
            rw [(hitq l1 hl1 y (List.mem_append_right _ List.mem_cons_self)).2.2.2] at this; cases this
end

def planOkB (es : List (List Nat)) (bef : List Nat) : List Item → Plan → Bool
  | A, .lin l => pairsOk es bef (A ++ l)
  | A, .frk pre x p y q => planOkB es bef (A ++ pre) p && (planOkB es bef (A ++ pre) q && (((A ++ pre).all fun z => !(es.getD z.i []).contains x.i && z.i != x.i && ((bef.getD x.i 0).testBit z.i || pairOk z x)) &&
    (((A ++ pre).all fun z => !(es.getD z.i []).contains y.i && z.i != y.i && ((bef.getD y.i 0).testBit z.i || pairOk z y)) && (pairsOk es bef (A ++ pre) &&
    ((p.paths.all fun l => l.all fun j => !(es.getD x.i []).contains j.i && (j.i != x.i && ((j.i == y.i || (bef.getD j.i 0).testBit x.i || (bef.getD j.i 0).testBit y.i) && (A ++ pre).all fun z => !(es.getD z.i []).contains j.i && z.i != j.i))) &&
    (q.paths.all fun l => l.all fun j => j.i != y.i && (A ++ pre).all fun z => z.i != j.i))))))
theorem planOkB_spec {es : List (List Nat)} {bef : List Nat} : ∀ {p : Plan} {A : List Item}, planOkB es bef A p = true → PlanOk es bef A p
  | .lin l, A, h => (pairsOk_spec h).1
  | .frk pre x p y q, A, h => by
    simp only [planOkB, Bool.and_eq_true, List.all_eq_true, Bool.or_eq_true, Bool.not_eq_true', bne_iff_ne, ne_eq, beq_iff_eq] at h
    obtain ⟨h1, h2, h3, h4, h5, h6, h7⟩ := h
    refine ⟨planOkB_spec h1, planOkB_spec h2, fun z hz => ⟨?_, ?_⟩, (pairsOk_spec h5).1, fun l hl j hj => ?_, fun l hl j hj => ?_⟩
    · obtain ⟨⟨g1, g2⟩, g3⟩ := h3 z hz; exact ⟨by simpa using g1, g2, g3⟩
    · obtain ⟨⟨g1, g2⟩, g3⟩ := h4 z hz; exact ⟨by simpa using g1, g2, g3⟩
    · obtain ⟨g1, g2, g3, g4⟩ := h6 l hl j hj
      refine ⟨by simpa using g1, g2, ?_, fun z hz => ⟨by simpa using (g4 z hz).1, (g4 z hz).2⟩⟩
      rcases g3 with (g | g) | g
      · exact .inl g
      · exact .inr (.inl g)
      · exact .inr (.inr g)
    · obtain ⟨g1, g2⟩ := h7 l hl j hj; exact ⟨g1, fun z hz => g2 z hz⟩

/-- A plan, told. -/
inductive HPlan where
  | lin (l : List (Nat × List Nat))
  | frk (pre : List (Nat × List Nat)) (x : Nat × List Nat) (p : HPlan) (y : Nat × List Nat) (q : HPlan)
def Plan.tell : Plan → HPlan
  | .lin l => .lin (l.map fun x => (x.i, x.ob))
  | .frk pre x p y q => .frk (pre.map fun x => (x.i, x.ob)) (x.i, x.ob) p.tell (y.i, y.ob) q.tell
def mkPlan (aos : List AOper) : HPlan → Option Plan
  | .lin l => some (.lin (mkItems aos l))
  | .frk pre x p y q => match mkItems aos [x], mkItems aos [y] with
    | [a], [b] => (mkPlan aos p).bind fun p => (mkPlan aos q).map fun q => .frk (mkItems aos pre) a p b q
    | _, _ => none
theorem mkPlan_mem {aos : List AOper} : ∀ {h : HPlan} {p : Plan}, mkPlan aos h = some p → ∀ l ∈ p.paths, ∀ z ∈ l, aos[z.i]? = some z.o
  | .lin l, p, h => by
    cases h
    intro l' hl z hz
    rcases List.mem_cons.1 hl with rfl | hl
    · exact mkItems_mem _ z hz
    · cases hl
  | .frk pre x hp y hq, p, h => by
    rw [mkPlan] at h
    split at h
    · rename_i a b ha hb
      simp only [Option.bind_eq_some_iff, Option.map_eq_some_iff] at h
      obtain ⟨p', h1, q', h2, rfl⟩ := h
      have ma := mkItems_mem (aos := aos) [x] a (by rw [ha]; exact List.mem_cons_self)
      have mb := mkItems_mem (aos := aos) [y] b (by rw [hb]; exact List.mem_cons_self)
      intro l hl z hz
      rcases List.mem_append.1 hl with hl | hl
      · obtain ⟨l', g1, rfl⟩ := List.mem_map.1 hl
        rcases List.mem_append.1 hz with hz | hz
        · exact mkItems_mem _ z hz
        · rcases List.mem_cons.1 hz with rfl | hz
          · exact ma
          · exact mkPlan_mem h1 l' g1 z hz
      · obtain ⟨l', g1, rfl⟩ := List.mem_map.1 hl
        rcases List.mem_append.1 hz with hz | hz
        · exact mkItems_mem _ z hz
        · rcases List.mem_cons.1 hz with rfl | hz
          · exact mb
          · exact mkPlan_mem h2 l' g1 z hz
    · cases h

def compDT (P : Program) (n : Nat) (ops : Array Oper) (hp : HPlan) : Option Plan :=
  (compR P n ops).bind fun aos => (mkPlan aos hp).bind fun p =>
    let es := edgesOf ops
    let bef := befs es
    if befOk es bef && (es.all (fun l => l.all fun e => decide (e < ops.size)) && (planOkB es bef [] p && (p.paths.all fun l => l.length == ops.size && ((List.range ops.size).all (fun i => l.any fun z => z.i == i) && l.all fun z => !(es.getD z.i []).contains z.i)))) then some p else none

section
variable {G : Nat → Option (List AV)} {B : Nat} {w0 w w' : World} {m m' : Im} {H H' : Heap} {P : Program} {n : Nat} {σ : Env} {a : Act} {ops : Array Oper}
theorem AWp_plan {id : Nat} {p : Plan} {hp : HPlan} {K : Env → Heap → Prop} {Q : Exit → Env → Heap → Prop} (hm : P.follows .mixedOrders = true) (hc : compDT P n ops hp = some p) (hKe : KExt K)
    (h : planD G P p K [] σ H) (hK : ∀ σ H, K σ H → Q .normal σ H) :
    AWp G P n (.region id ops true) σ H Q := by
  intro B w0 m w a hsat hrel
  unfold compDT at hc
  cases hcr : compR P n ops with
  | none => rw [hcr] at hc; cases hc
  | some aos =>
    rw [hcr] at hc
    simp only [Option.bind_some, Option.bind_eq_some_iff] at hc
    obtain ⟨p', hp', hc⟩ := hc
    split at hc
    · rename_i hck
      obtain rfl : p' = p := Option.some.inj hc
      simp only [Bool.and_eq_true, List.all_eq_true, decide_eq_true_eq, beq_iff_eq, List.any_eq_true, List.mem_range, Bool.not_eq_true'] at hck
      obtain ⟨c1, c0, c2, c3⟩ := hck
      obtain ⟨hcl, hcs⟩ := compR_spec hcr
      have hmem := mkPlan_mem hp'
      have hlt : ∀ z : Item, aos[z.i]? = some z.o → z.i < ops.size := fun z hz => by have := (List.getElem?_eq_some_iff.1 hz).1; omega
      have hun : ∀ i, (Array.replicate ops.size false).getD i false = false := fun i => by rw [Array.getD_eq_getD_getElem?, Array.getElem?_replicate]; split <;> rfl
      refine wp_region_any hm ?_
      refine wpAny_plan hcs rfl c1 (fun i e he => ?_) hKe ops.size _ [] p' m _ a σ H (by simp) ?_ (fun l hl => (c3 l hl).1) (planOkB_spec c2) (fun l hl z hz => ?_) (fun l hl i hi _ => ?_) hsat.drew hrel h (fun m' w' a' σ' H' g1 g2 g3 g4 => ⟨m', σ', H', g1, g2, g3, hK _ _ g4⟩)
      · rw [List.getD_eq_getElem?_getD] at he
        cases hg : (edgesOf ops)[i]? with
        | none => rw [hg] at he; cases he
        | some l => rw [hg] at he; exact c0 l (List.mem_of_getElem? hg) e he
      · intro i hi
        rw [hun] at hi; cases hi
      · have ho := hmem l hl z hz
        exact ⟨by simpa using (c3 l hl).2.2 z hz, ho, hlt z ho, hun _⟩
      · obtain ⟨z, hz, he⟩ := (c3 l hl).2.1 i hi
        exact ⟨z, hz, he⟩
    · cases hc
end
end Go.AL
