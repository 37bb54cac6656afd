/- The abstract layer, part 10: maps, iterators, literals of slices, make, append, copy. -/
import Derived.Test.YtpeaphpibnikcaaA9
namespace Go.AL
open Go.RowKit

section
variable {G : Nat → Option (List AV)} {B : Nat} {w0 w w' : World} {m m' : Im} {H H' : Heap} {P : Program}

/-- A new object that is no row of cells. -/
theorem Sat.newObj (hsat : Sat G B w0 m H w) {o : AObj} {ob : Obj} (hok : o.ok m (w.alloc ob) w.heap.size) : Sat G B w0 m ((w.heap.size, o) :: H) (w.alloc ob) := by
  refine hsat.turn ((Below.refl B w).alloc hsat.base _) (.refl m) w.heap.size (fun k hk _ => heap_alloc_ne _ _ _ hk) hsat.base (by simp) (fun _ _ _ => rfl) (fun o v h => ?_) (fun _ _ => rfl) (fun n h => ?_) (fun j o h => ?_) ?_
  · exact absurd (hsat.cell_lt h) (Nat.lt_irrefl _)
  · exact absurd (hsat.size_lt h) (Nat.lt_irrefl _)
  · rcases List.mem_cons.1 h with h | h
    · cases h; exact .inl ⟨rfl, hok⟩
    · exact .inr ⟨fun e => hsat.fresh (by rw [← e]; exact List.mem_map.2 ⟨_, h, rfl⟩), h⟩
  · simp only [List.map_cons, List.nodup_cons]; exact ⟨hsat.fresh, hsat.nodup⟩

/-- An object that is no row of cells, turned. -/
theorem Sat.setObj (hsat : Sat G B w0 m H w) {id : Nat} {o o' : AObj} {ob : Obj} (hr : Rpl H (id, o) (id, o') H') (hnc : ∀ c e f, w.heap[id]? ≠ some (.cells c e f))
    (hok : o'.ok m { w with heap := w.heap.setIfInBounds id ob } id) : Sat G B w0 m H' { w with heap := w.heap.setIfInBounds id ob } := by
  obtain ⟨hB, hid, _⟩ := hsat.obj _ _ hr.src
  have hne : ∀ k, k ≠ id → (w.heap.setIfInBounds id ob)[k]? = w.heap[k]? := fun k hk => by rw [Array.getElem?_setIfInBounds_ne (Ne.symm hk)]
  refine hsat.turn ⟨rfl, rfl, rfl, by simp, fun k hk => hne k (by omega)⟩ (.refl m) id (fun k hk _ => hne k hk) hB (by simpa using hid) (fun _ _ _ => rfl) (fun o v h => ?_) (fun _ _ => rfl) (fun n h => ?_) (fun j o h => ?_) (hr.nodup hsat.nodup (.inl rfl))
  · exfalso
    have := hsat.cell id o v h
    unfold World.cell? at this
    split at this
    · rename_i h1; exact hnc _ _ _ h1
    · cases this
  · exfalso
    obtain ⟨cs, e, fr, h1, _⟩ := hsat.size id n h
    exact hnc _ _ _ h1
  · rcases hr.mem hsat.nodup _ h with h | ⟨h1, h2⟩
    · cases h; exact .inl ⟨rfl, hok⟩
    · exact .inr ⟨h2, h1⟩

theorem ef_mkmap (hsat : Sat G B w0 m H w) {t : TypeId} {K : AV → Heap → Prop} (h : ef .mkmap [] H K) :
    ∃ w' m' v cv H', (Instr.makeMap t none).run P w = .ok cv w' ∧ m.le m' ∧ Sat G B w0 m' H' w' ∧ Rel m' v cv ∧ K v H' := by
  have hn := hsat.newObj (o := .map []) (ob := .map #[] 0) ⟨#[], 0, heap_alloc_new w _, rfl, fun i k v x h => by simp at h⟩
  exact ⟨_, m, _, .map (some w.heap.size), _, by simp [Instr.makeMap], .refl m, hn, .map _, h _ hsat.fresh⟩

theorem ef_rngs (hsat : Sat G B w0 m H w) {t : TypeId} {s : List UInt8} {c : Value} {K : AV → Heap → Prop} (hu : P.underlying t = some .string) (hx : Rel m (.str s) c) (h : ef .rngs [.str s] H K) :
    ∃ w' m' v cv H', (Instr.range t c).run P w = .ok cv w' ∧ m.le m' ∧ Sat G B w0 m' H' w' ∧ Rel m' v cv ∧ K v H' := by
  cases hx with
  | str b =>
    have hn := hsat.newObj (o := .iter b.data.toList 0) (ob := .stringIter b 0) ⟨b, rfl, heap_alloc_new w _⟩
    exact ⟨_, m, _, .pointer (some ⟨w.heap.size, 0, none⟩), _, by simp [Instr.range, run_underlying hu], .refl m, hn, .ptr _ _, h _ hsat.fresh⟩

theorem rel_tup3 {a b c : AV} {x y z : Value} (h1 : Rel m a x) (h2 : Rel m b y) (h3 : Rel m c z) : Rel m (.tup [a, b, c]) (.tuple #[x, y, z]) := by
  refine .tup _ _ rfl (fun i p q hp hq => ?_)
  match i with
  | 0 => simp at hp hq; subst hp hq; exact h1
  | 1 => simp at hp hq; subst hp hq; exact h2
  | 2 => simp at hp hq; subst hp hq; exact h3
  | n + 3 => simp at hp

theorem ef_nxts (hsat : Sat G B w0 m H w) {ty : TypeId} {id : Nat} {c : Value} {K : AV → Heap → Prop} (hx : Rel m (.ptr id 0) c) (h : ef .nxts [.ptr id 0] H K) :
    ∃ w' m' v cv H', (Instr.next c true ty).run P w = .ok cv w' ∧ m.le m' ∧ Sat G B w0 m' H' w' ∧ Rel m' v cv ∧ K v H' := by
  obtain ⟨s, pos, h1, h2, h3⟩ := h
  obtain ⟨hB, hid, b, hb, hh⟩ := hsat.obj _ _ h3
  have hbs : (⟨s.toArray⟩ : ByteArray) = b := by subst hb; simp
  have hlen : s.length = b.size := by subst hb; simp
  cases hx
  have hg : (getObj id).run P w = .ok (.stringIter b pos) w := by simp [getObj, Sem.run, hh]
  by_cases hlt : pos < s.length
  · obtain ⟨H', hr, hK⟩ := h1 hlt
    rw [hbs] at hr hK
    have hset : (setObj id (.stringIter b (pos + (Utf8.decode b pos).2))).run P w = .ok () { w with heap := w.heap.setIfInBounds id (.stringIter b (pos + (Utf8.decode b pos).2)) } := by
      simp [setObj, Sem.run, hh]
    refine ⟨_, m, _, .tuple #[.bool true, .int .i64 pos, .int .i32 (Utf8.decode b pos).1], H', ?_, .refl m, hsat.setObj (ob := .stringIter b (pos + (Utf8.decode b pos).2)) hr (by rw [hh]; simp) ⟨b, hb, by simp [hid]⟩, rel_tup3 (.bool _) (.int _ _) (.int _ _), hK⟩
    simp only [Instr.next, Sem.run_bind, hg, Result.andThen_ok]
    rw [if_pos (by omega)]
    simp only [Sem.run_bind, hset, Result.andThen_ok, Sem.run_pure]
    rfl
  · obtain ⟨_, hK⟩ := h2 (by omega)
    refine ⟨w, m, _, .tuple #[.bool false], H, ?_, .refl m, hsat, .tup _ _ rfl (fun i x y hx hy => ?_), hK⟩
    · simp only [Instr.next, Sem.run_bind, hg, Result.andThen_ok]
      rw [if_neg (by omega)]; rfl
    · match i with
      | 0 => simp at hx hy; subst hx hy; exact .bool _
      | n + 1 => simp at hx

theorem updA_look (k v : AV) : ∀ {es es' : List (AV × AV)}, updA k v es = some es' → ∃ r, lookA k es = some r ∧ (match r with
    | none => es' = es ++ [(k, v)]
    | some _ => ∃ i k' v', es[i]? = some (k', v') ∧ k.same k' = some true ∧ (∀ j k1 v1, j < i → es[j]? = some (k1, v1) → k.same k1 = some false) ∧ es' = es.set i (k, v))
  | [], es', h => by simp [updA] at h; subst h; exact ⟨none, rfl, rfl⟩
  | (k', v') :: es, es', h => by
    simp only [updA] at h
    split at h
    · rename_i hs
      cases h
      exact ⟨some v', by simp [lookA, hs], 0, k', v', rfl, hs, fun j _ _ hj => by omega, rfl⟩
    · rename_i hs
      cases hu : updA k v es with
      | none => rw [hu] at h; cases h
      | some es2 =>
        rw [hu] at h; simp at h; subst h
        obtain ⟨r, h1, h2⟩ := updA_look k v hu
        refine ⟨r, by simp [lookA, hs, h1], ?_⟩
        cases r with
        | none => simp only at h2 ⊢; rw [h2]; rfl
        | some x =>
          obtain ⟨i, k1, v1, g1, g2, g3, g4⟩ := h2
          refine ⟨i + 1, k1, v1, by simpa using g1, g2, fun j k2 v2 hj he => ?_, by rw [g4]; rfl⟩
          cases j with
          | zero => simp at he; rw [← he.1]; exact hs
          | succ j => exact g3 j k2 v2 (by omega) (by simpa using he)
    · cases h

theorem same_bits {a b : AV} {c d : Value} (ha : Rel m a c) (hb : Rel m b d) (hk : a.kindN ≤ 2) (h : a.same b = some true) (n : Nat) : Instr.sameBits n d c = true := by
  cases a <;> simp [AV.kindN] at hk
  · cases b <;> simp [AV.same] at h
    cases ha; cases hb; cases n <;> simp [Instr.sameBits, h]
  · cases b <;> simp [AV.same] at h
    obtain ⟨rfl, rfl⟩ := h
    cases ha; cases hb; cases n <;> simp [Instr.sameBits]
  · cases b <;> simp [AV.same] at h
    cases ha; cases hb
    rename_i s1 s2
    have : s1 = s2 := by cases s1; cases s2; simp at h; simp [h]
    subst this
    cases n <;> simp [Instr.sameBits, beq_toListBytes]

theorem ef_mup (hsat : Sat G B w0 m H w) {t kt e : TypeId} {kd id : Nat} {k v : AV} {c ck cv : Value} {K : AV → Heap → Prop} (hu : P.underlying t = some (.map kt e)) (hkt : kindT P kt = some kd)
    (hx : Rel m (.map id) c) (hk : Rel m k ck) (hv : Rel m v cv) (h : ef (.mup kd) [.map id, k, v] H K) :
    ∃ w' m' H', (Instr.mapUpdate t c ck cv).run P w = .ok () w' ∧ m.le m' ∧ Sat G B w0 m' H' w' ∧ K .undef H' := by
  obtain ⟨es, es', H', hkd, hkd2, hna, hupd, hr, hK⟩ := h
  obtain ⟨hB, hid, ents, clock, hb, hlen, hrel⟩ := hsat.obj _ _ hr.src
  cases hx
  have hck := run_checkKey (w := w) (c := ck) hkt false
  have hg : (getObj id).run P w = .ok (.map ents clock) w := by simp [getObj, Sem.run, hb]
  cases hukt : P.underlying kt with
  | none => unfold kindT at hkt; rw [hukt] at hkt; cases hkt
  | some d =>
    obtain ⟨r, hl, hcase⟩ := updA_look k v hupd
    obtain ⟨q, hq, hm⟩ := find_now hkt hukt hk hkd es ents.toList 0 r (by simpa using hlen) (fun i k v x h1 h2 => hrel i k v x h1 (by simpa using h2)) hl
    have hfk : (Instr.findKey kt ck ents.toList).run P w = .ok q w := by simp [Instr.findKey, run_underlying hukt, hq]
    cases r with
    | none =>
      cases q with
      | some _ => exact hm.elim
      | none =>
        simp only at hcase
        subst hcase
        refine ⟨{ w with heap := w.heap.setIfInBounds id (.map (ents.push { key := ck, val := cv, born := clock }) (clock + 1)) }, m, H', ?_, .refl m,
          hsat.setObj hr (by rw [hb]; simp) ⟨ents.push { key := ck, val := cv, born := clock }, clock + 1, by simp [hid], by simp [hlen], fun i k1 v1 x h1 h2 => ?_⟩, hK⟩
        · simp only [Instr.mapUpdate, Sem.run_bind, run_underlying hu, Result.andThen_ok, hg, hck, hfk]
          simp [setObj, Sem.run, hb]
        · rw [Array.getElem?_push] at h2
          rw [List.getElem?_append] at h1
          split at h2
          · rename_i hi
            rw [if_neg (by omega)] at h1
            have : i - es.length = 0 := by omega
            rw [this] at h1
            simp at h1; obtain ⟨rfl, rfl⟩ := h1
            cases h2; exact ⟨hk, hv⟩
          · rename_i hi
            have hlt : i < es.length := by
              have := (Array.getElem?_eq_some_iff.1 h2).1; omega
            rw [if_pos hlt] at h1
            exact hrel i k1 v1 x h1 h2
    | some vv =>
      cases q with
      | none => exact hm.elim
      | some iu =>
        obtain ⟨i, u⟩ := iu
        obtain ⟨i', e1, ⟨k1, x, e2, e3, e4, e5⟩, e6, e7⟩ := hm
        obtain ⟨i2, k2, v2, g1, g2, g3, g4⟩ := hcase
        have hii : i' = i2 := by
          rcases Nat.lt_trichotomy i' i2 with h | h | h
          · have := g3 i' _ _ h e2; rw [e5] at this; cases this
          · exact h
          · have := e7 i2 _ _ h g1; rw [g2] at this; cases this
        subst hii
        have hi0 : i = i' := by omega
        subst hi0
        have e3' : ents[i]? = some x := by simpa using e3
        have hrk := (hrel i k1 vv x e2 e3').1
        have hst : (Instr.keyThatStays x.key ck).run P w = .ok ck w := by
          simp [Instr.keyThatStays, same_bits hk hrk (by omega) e5]
        subst g4
        refine ⟨{ w with heap := w.heap.setIfInBounds id (.map (ents.modify i fun e => { e with key := ck, val := cv }) clock) }, m, H', ?_, .refl m,
          hsat.setObj hr (by rw [hb]; simp) ⟨ents.modify i fun e => { e with key := ck, val := cv }, clock, by simp [hid], by simp [hlen], fun j k3 v3 y h1 h2 => ?_⟩, hK⟩
        · simp only [Instr.mapUpdate, Sem.run_bind, run_underlying hu, Result.andThen_ok, hg, hck, hfk, e3', Option.map_some, Option.getD_some, hst]
          simp [setObj, Sem.run, hb]
        · rw [Array.getElem?_modify] at h2
          rw [List.getElem?_set] at h1
          split at h2
          · rename_i hij
            subst hij
            rw [if_pos rfl] at h1
            split at h1
            · cases h1
              rw [e3'] at h2; simp at h2; subst h2
              exact ⟨hk, hv⟩
            · cases h1
          · rename_i hij
            rw [if_neg hij] at h1
            exact hrel j k3 v3 y h1 h2

end
end Go.AL
