/- The abstract layer, part 7: slicing, look-ups, loads out of objects; all operations that write nothing. -/
import Derived.Test.YtpeaphpibnikcaaA6
namespace Go.AL
open Go.RowKit

section
variable {G : Nat → Option (List AV)} {B : Nat} {w0 w w' : World} {m m' : Im} {H H' : Heap} {P : Program}

theorem run_sliceBound {k : IntKind} {i : Int} {y : Nat} {code : BoundsCode} (h0 : 0 ≤ i) (h1 : i ≤ y) : (Instr.sliceBound (.int k i) y code).run P w = .ok i.toNat w := by
  simp [Instr.sliceBound, asIntOf, h0, h1]

theorem run_bounds {isS : Bool} {len cap l h : Nat} {lo hi : Option Value} {bs : List AV} (hb : boundsF lo.isSome hi.isSome len bs = some (l, h)) (hr : RelL m bs (lo.toList ++ hi.toList)) (hlc : len ≤ cap) :
    (Instr.sliceBounds isS len cap lo hi none).run P w = .ok (l, h, cap) w ∧ l ≤ h ∧ h ≤ len := by
  unfold boundsF at hb
  split at hb
  · split at hb
    · rename_i k1 a k2 b hc
      obtain ⟨c1, c2, c3, c4, c5⟩ := hc
      cases hb
      cases lo with
      | none => simp at c1
      | some lv =>
        cases hi with
        | none => simp at c2
        | some hv =>
          obtain ⟨y, ys, e, h1, h2⟩ := hr.uncons
          obtain ⟨y', ys', e', h1', h2'⟩ := h2.uncons
          simp at e; obtain ⟨rfl, rfl⟩ := e
          simp at e'; obtain ⟨rfl, _⟩ := e'
          cases h1; cases h1'
          refine ⟨?_, by omega, by omega⟩
          have hb1 : b ≤ (cap : Int) := by omega
          have e1 := run_sliceBound (P := P) (w := w) (k := k2) (code := if isS then .sliceAcap else .sliceAlen) (show 0 ≤ b by omega) hb1
          have e2 := run_sliceBound (P := P) (w := w) (k := k1) (y := b.toNat) (code := .sliceB) c3 (by omega)
          simp [Instr.sliceBounds, e1, e2]
    · cases hb
  · rename_i k x
    split at hb
    · rename_i hc
      split at hb
      · rename_i hc2
        cases hb
        cases lo with
        | none => simp at hc
        | some lv =>
          cases hi with
          | some hv => simp at hc
          | none =>
            obtain ⟨y, ys, e, h1, h2⟩ := hr.uncons
            simp at e; obtain ⟨rfl, rfl⟩ := e
            cases h1
            have e2 := run_sliceBound (P := P) (w := w) (k := k) (y := len) (code := .sliceB) hc2.1 hc2.2
            exact ⟨by simp [Instr.sliceBounds, e2], by omega, Nat.le_refl _⟩
      · cases hb
    · split at hb
      · rename_i hc
        split at hb
        · rename_i hc2
          cases hb
          cases hi with
          | none => simp at hc
          | some hv =>
            cases lo with
            | some lv => simp at hc
            | none =>
              obtain ⟨y, ys, e, h1, h2⟩ := hr.uncons
              simp at e; obtain ⟨rfl, rfl⟩ := e
              cases h1
              have e1 := run_sliceBound (P := P) (w := w) (k := k) (code := if isS then .sliceAcap else .sliceAlen) hc2.1 (show x ≤ (cap : Int) by omega)
              exact ⟨by simp [Instr.sliceBounds, e1], Nat.zero_le _, by omega⟩
        · cases hb
      · cases hb
  · split at hb
    · cases hb
    · rename_i hc
      cases hb
      cases lo with
      | some _ => simp at hc
      | none =>
        cases hi with
        | some _ => simp at hc
        | none => exact ⟨by simp [Instr.sliceBounds], Nat.zero_le _, Nat.le_refl _⟩
  · cases hb

theorem snd_slc_str {t : TypeId} {lo hi : Option Value} {s : List UInt8} {bs : List AV} {v : AV} {c : Value} {sz : Nat} (h1 : P.underlying t = some .string) (hx : Rel m (.str s) c) (hr : RelL m bs (lo.toList ++ hi.toList))
    (hp : pureF (.slc sz lo.isSome hi.isSome) (.str s :: bs) = some v) : ∃ cv, (Instr.slice t c lo hi none).run P w = .ok cv w ∧ Rel m v cv := by
  simp only [pureF] at hp
  split at hp
  · cases hb : boundsF lo.isSome hi.isSome s.length bs with
    | none => rw [hb] at hp; cases hp
    | some lh =>
      rw [hb] at hp; cases hp
      obtain ⟨l, h⟩ := lh
      cases hx with
      | str b =>
        have hsz : b.data.toList.length = b.size := by simp
        rw [hsz] at hb
        obtain ⟨e, hl, hh⟩ := run_bounds (P := P) (w := w) (isS := false) hb hr (Nat.le_refl _)
        refine ⟨.string (b.extract l h), by simp [Instr.slice, run_underlying h1, e], ?_⟩
        have := Rel.str (m := m) (b.extract l h)
        have e2 : (b.extract l h).data.toList = (b.data.toList.take h).drop l := by
          rw [ByteArray.data_extract, Array.toList_extract, List.extract_eq_take_drop, List.drop_take]
        rwa [e2] at this
  · cases hp

theorem sl_sub {xs : List AV} {t : Tok} {a : Addr} {len cap l h sz : Nat} (hx : Rel m (.sl xs t) (.slice (some a) len cap)) (hsz : AllSz sz xs) (h0 : 0 < sz) (hl : l ≤ h) (hh : h ≤ xs.length) :
    Rel m (.sl ((xs.take h).drop l) (if h = xs.length then t else .no)) (.slice (some (if cap = l then a else a.add (l * sz))) (h - l) (cap - l)) := by
  cases hx with
  | sl _ _ _ _ _ sz' f ht hlen hlc hcm hs hz hc ho hr hk =>
    have hszx : ∀ i, i < xs.length → sz' = sz := fun i hi => by rw [← hz i xs[i] (List.getElem?_eq_getElem hi)]; exact hsz _ (List.getElem_mem hi)
    have hlen' : ((xs.take h).drop l).length = h - l := by simp; omega
    have hget : ∀ i x, ((xs.take h).drop l)[i]? = some x → xs[l + i]? = some x := by
      intro i x hi
      rw [List.getElem?_drop, List.getElem?_take] at hi
      split at hi
      · exact hi
      · cases hi
    have hne : ((xs.take h).drop l) ≠ [] → l < h := by
      intro hn
      have : 0 < ((xs.take h).drop l).length := List.length_pos_iff.2 hn
      omega
    refine .sl _ _ _ _ _ sz' (fun i j => f (l + i) j) ?_ hlen'.symm (by omega) (by omega) ?_ (fun i x hi => hz _ x (hget i x hi)) ?_ ?_ (fun i x j y hi hj => hr _ x j y (hget i x hi) hj) ?_
    · split
      · exact ht
      · simp
    · intro hn
      have := hne hn
      split
      · omega
      · by_cases hl0 : l = 0
        · subst hl0; simp only [Nat.zero_mul, Addr.add, if_true]; exact hs (by intro e; subst e; simp at hh; omega)
        · have : l * sz ≠ 0 := by have := Nat.mul_pos (Nat.pos_of_ne_zero hl0) h0; omega
          simp [Addr.add, this]
    · intro i j hi hj
      rw [hlen'] at hi
      have hsz2 := hszx (l + i) (by omega)
      have hcl : cap ≠ l := by omega
      have hsp := hs (by intro e; subst e; simp at hh; omega)
      rw [if_neg hcl, addr_add _ _ hsp]
      have := hc (l + i) j (by omega) hj
      rw [← this]
      subst hsz2
      show m.cell a.block (a.off + l * sz' + i * sz' + j) = _
      congr 1
      rw [Nat.add_mul]
      omega
    · intro i j hi hj
      rw [hlen'] at hi
      exact ho (l + i) j (by omega) hj
    · intro b e s htk
      split at htk
      · rename_i hhx
        subst htk
        rcases hk b e s rfl with h1 | ⟨h1, h2, h3, h5, n, h4, h6⟩
        · exact .inl (by omega)
        · by_cases hcl : cap = l
          · exact .inl (by omega)
          · refine .inr ⟨?_, ?_, ?_, fun hn => h5 (by intro e; subst e; simp at hhx; have := hne hn; omega), n, h4, ?_⟩
            · rw [if_neg hcl, addr_add _ _ h2]; exact h1
            · rw [if_neg hcl, addr_add _ _ h2]
            · rw [if_neg hcl, addr_add _ _ h2]
              simp only
              by_cases hx0 : xs = []
              · subst hx0; simp at hhx; have : l = 0 := by omega
                subst this; subst hhx
                simp at hlen; subst hlen
                simpa using h3
              · have hss : sz' = s := h5 hx0
                have hpos : 0 < xs.length := List.length_pos_iff.2 hx0
                have := hszx 0 hpos
                subst hss
                subst this
                rw [← h3, Nat.add_assoc, ← Nat.add_mul]
                congr 2
                omega
            · rw [if_neg hcl, addr_add _ _ h2]
              simp only
              by_cases hx0 : xs = []
              · subst hx0; simp at hhx; have : l = 0 := by omega
                subst this
                simpa using h6
              · have hss : sz' = s := h5 hx0
                have hpos : 0 < xs.length := List.length_pos_iff.2 hx0
                have := hszx 0 hpos
                subst hss
                subst this
                rw [Nat.add_assoc, ← Nat.add_mul, show l + (cap - l) = cap by omega]
                exact h6
      · cases htk

theorem snd_slc {t e : TypeId} {lo hi : Option Value} {x : AV} {bs : List AV} {v : AV} {c : Value} {sz : Nat} (h1 : P.underlying t = some (.slice e)) (h2 : size? P e = some sz) (hx : Rel m x c)
    (hr : RelL m bs (lo.toList ++ hi.toList)) (hp : pureF (.slc sz lo.isSome hi.isSome) (x :: bs) = some v) (hs0 : 0 < sz) : ∃ cv, (Instr.slice t c lo hi none).run P w = .ok cv w ∧ Rel m v cv := by
  have hz := size?_run h2
  simp only [pureF] at hp
  split at hp
  · split at hp
    · omega
    · cases hp
  · rename_i xs tk
    split at hp
    · rename_i hc
      cases hb : boundsF lo.isSome hi.isSome xs.length bs with
      | none => rw [hb] at hp; cases hp
      | some lh =>
        rw [hb] at hp; cases hp
        obtain ⟨l, h⟩ := lh
        cases hx with
        | slnil =>
          obtain ⟨e, hl, hh⟩ := run_bounds (P := P) (w := w) (isS := true) (cap := 0) hb hr (Nat.le_refl _)
          have e1 : h = 0 := by simpa using hh
          subst e1
          have e2 : l = 0 := by omega
          subst e2
          simp at e
          exact ⟨.slice none 0 0, by simp [Instr.slice, run_underlying h1, e, hz], by simpa using Rel.slnil (m := m)⟩
        | sl _ _ a len cap sz' f ht hlen hlc hcm hs hz' hcc ho hrr hk =>
          have hx' : Rel m (.sl xs tk) (.slice (some a) len cap) := .sl xs tk a len cap sz' f ht hlen hlc hcm hs hz' hcc ho hrr hk
          obtain ⟨e, hl, hh⟩ := run_bounds (P := P) (w := w) (isS := true) (cap := cap) hb hr (by omega)
          rw [← hlen] at e
          refine ⟨_, ?_, sl_sub hx' hc.2 hc.1 hl hh⟩
          simp only [Instr.slice, Sem.run_bind, run_underlying h1, Result.andThen_ok, e, hz, Sem.run_pure, Option.map_some]
          split <;> rfl
    · cases hp
  · rename_i id off len s
    split at hp
    · rename_i hc
      obtain ⟨_, rfl⟩ := hc
      cases hb : boundsF lo.isSome hi.isSome len bs with
      | none => rw [hb] at hp; cases hp
      | some lh =>
        rw [hb] at hp; cases hp
        obtain ⟨l, h⟩ := lh
        cases hx with
        | msl _ _ _ cap _ n k1 k2 k3 k4 =>
          obtain ⟨e, hl, hh⟩ := run_bounds (P := P) (w := w) (isS := true) (cap := cap) hb hr k1
          refine ⟨.slice (some (if cap = l then ⟨id, off, none⟩ else (⟨id, off, none⟩ : Addr).add (l * s))) (h - l) (cap - l), ?_, ?_⟩
          · simp only [Instr.slice, Sem.run_bind, run_underlying h1, Result.andThen_ok, e, hz, Sem.run_pure, Option.map_some]
            split <;> rfl
          · by_cases hcl : cap = l
            · have : h - l = 0 := by omega
              show Rel m (.msl id (off + l * s) (h - l) s) _
              rw [this, show cap - l = 0 by omega]
              exact .msl0 _ _ _ _
            · rw [if_neg hcl, addr_add _ _ rfl]
              refine .msl id (off + l * s) (h - l) (cap - l) s n (by omega) (by omega) k3 ?_
              rw [Nat.add_assoc, ← Nat.add_mul, show l + (cap - l) = cap by omega]
              exact k4
        | msl0 _ _ _ a =>
          obtain ⟨e, hl, hh⟩ := run_bounds (P := P) (w := w) (isS := true) (cap := 0) hb hr (Nat.le_refl _)
          have e1 : h = 0 := by omega
          subst e1
          have e2 : l = 0 := by omega
          subst e2
          exact ⟨.slice (some a) 0 0, by simp [Instr.slice, run_underlying h1, e, hz], .msl0 _ _ _ _⟩
    · cases hp
  · cases hp

theorem snd_mkfn {f : Fn} {n : Nat} {xs : List AV} {v : AV} {fa ca : Array Value} (hr : RelL m xs (fa.toList ++ ca.toList)) (hn : n = fa.size) (hp : pureF (.mkfn f n) xs = some v) :
    ∃ cv, (Instr.makeFunc f fa ca).run P w = .ok cv w ∧ Rel m v cv := by
  have hp : (if n ≤ xs.length then some (.fn f (xs.take n) (xs.drop n)) else none) = some v := by
    rw [← hp]; rfl
  split at hp
  · rename_i hle
    cases hp
    subst hn
    have hlen := hr.1
    simp only [List.length_append, Array.length_toList] at hlen
    refine ⟨.func f fa ca, rfl, .fn f _ _ _ _ (by simp; omega) (by simp; omega) (fun i x y hx hy => ?_) (fun i x y hx hy => ?_)⟩
    · rw [List.getElem?_take] at hx
      split at hx
      · refine hr.2 i x y hx ?_
        rw [List.getElem?_append_left (by simpa using (Array.getElem?_eq_some_iff.1 hy).1)]
        simpa using hy
      · cases hx
    · rw [List.getElem?_drop] at hx
      refine hr.2 _ x y hx ?_
      rw [List.getElem?_append_right (by simp)]
      simpa using hy
  · cases hp

theorem snd_tasI {x v : AV} {c : Value} {xt t : TypeId} {ok : Bool} {z : AV} (h1 : P.underlying t = some (.interface #[])) (hz : ok = true → zero? P t = some z)
    (hx : Rel m x c) (hp : pureF (.tas none z ok) [x] = some v) (hi : ∀ u y, x = .iface u y → ∃ inf, P.info? u = some inf) : ∃ cv, (Instr.typeAssert c xt t ok).run P w = .ok cv w ∧ Rel m v cv := by
  have tup2 : ∀ {a : AV} {ca : Value} (b : Bool), Rel m a ca → Rel m (.tup [a, .bool b]) (.tuple #[ca, .bool b]) := by
    intro a ca b h
    refine .tup _ _ rfl (fun i x y hx hy => ?_)
    match i with
    | 0 => simp at hx hy; subst hx hy; exact h
    | 1 => simp at hx hy; subst hx hy; exact .bool b
    | n + 2 => simp at hx
  simp only [pureF] at hp
  split at hp
  · rename_i e; cases e
  · rename_i e; cases e
  · rename_i u y e
    cases hp
    obtain ⟨inf, hinf⟩ := hi u y rfl
    cases hx with
    | iface _ _ cv h hn =>
      have hmm : Instr.missingMethod #[] inf.methods = none := by simp [Instr.missingMethod, Instr.least]
      cases ok with
      | true => exact ⟨.tuple #[.iface u cv, .bool true], by simp [Instr.typeAssert, run_underlying h1, typeInfo, hinf, hmm], tup2 true (.iface u y cv h hn)⟩
      | false => exact ⟨.iface u cv, by simp [Instr.typeAssert, run_underlying h1, typeInfo, hinf, hmm], .iface u y cv h hn⟩
  · rename_i e
    cases hx
    split at hp
    · rename_i hok; subst hok
      cases hp
      obtain ⟨cz, hcz, hrz⟩ := zero?_run (hz rfl) w
      exact ⟨.tuple #[cz, .bool false], by simp [Instr.typeAssert, run_underlying h1, hcz], tup2 false (hrz m)⟩
    · cases hp
  · cases hp

theorem snd_ldp (hsat : Sat G B w0 m H w) {t : TypeId} {g : Bool} {sz id off : Nat} {v : AV} {c : Value} (h1 : isAgg? P t = some g) (h2 : size? P t = some sz)
    (hx : Rel m (.ptr id off) c) {vs : List AV} (hm : (id, AObj.cells vs) ∈ H) (hp : if g then off + sz ≤ vs.length ∧ v = .agg ((vs.drop off).take sz) else vs[off]? = some v) :
    ∃ cv, (Instr.loadAt t c).run P w = .ok cv w ∧ Rel m v cv := by
  have hg := isAgg?_run h1
  have hz := size?_run h2
  obtain ⟨_, _, cs, e, fr, hb, hlen, hfr, hno, hcell⟩ := hsat.obj _ _ hm
  have hc : ∀ i, i < vs.length → ∃ u, w.cell? ⟨id, i, none⟩ = some u ∧ (∀ x, vs[i]? = some x → Rel m x u) ∧ u.oneCell' = true := by
    intro i hi
    obtain ⟨u, hu, hr, h1⟩ := hcell i vs[i] (List.getElem?_eq_getElem hi)
    refine ⟨u, by simp [World.cell?, hb, hu], fun x hx => ?_, h1⟩
    rw [List.getElem?_eq_getElem hi] at hx; cases hx; exact hr
  cases hx
  cases g with
  | true =>
    simp only [if_true] at hp
    obtain ⟨hle, rfl⟩ := hp
    have hf : ∃ f : Nat → Value, ∀ j, j < sz → w.cell? ⟨id, off + j, none⟩ = some (f j) ∧ (∀ x, vs[off + j]? = some x → Rel m x (f j)) ∧ (f j).oneCell' = true := by
      refine ⟨fun j => (w.cell? ⟨id, off + j, none⟩).getD default, fun j hj => ?_⟩
      obtain ⟨u, h1, h2, h3⟩ := hc (off + j) (by omega)
      simp only [h1, Option.getD_some]; exact ⟨trivial, h2, h3⟩
    obtain ⟨f, hf⟩ := hf
    have hl := run_loadCells_known (P := P) sz ⟨id, off, none⟩ f w 0 #[] (fun j hj => by
      rw [addr_add _ _ rfl]; simpa using (hf j hj).1)
    simp only [Nat.zero_add, Array.empty_append] at hl
    refine ⟨_, by simp only [Instr.loadAt, Instr.sureAddr, Sem.run_bind, Sem.run_pure, Result.andThen_ok, loadVar, hg, if_true, hz, loadCells, hl]; rfl, ?_⟩
    refine .agg _ _ (by simp; omega) (fun i y hy => ?_) (fun i x y hx hy => ?_)
    · rw [Array.getElem?_ofFn] at hy
      split at hy
      · have e := Option.some.inj hy; subst e; exact (hf i (by omega)).2.2
      · cases hy
    · rw [Array.getElem?_ofFn] at hy
      split at hy
      · rename_i hin
        have e := Option.some.inj hy; subst e
        rw [List.getElem?_take, if_pos hin, List.getElem?_drop] at hx
        exact (hf i hin).2.1 x hx
      · cases hy
  | false =>
    simp only [Bool.false_eq_true, if_false] at hp
    have hlt := (List.getElem?_eq_some_iff.1 hp).1
    obtain ⟨u, h1, h2, h3⟩ := hc off hlt
    exact ⟨u, by simp only [Instr.loadAt, Instr.sureAddr, Sem.run_bind, Sem.run_pure, Result.andThen_ok, loadVar, hg, Bool.false_eq_true, if_false, run_load, h1], h2 v hp⟩

theorem snd_lenm (hsat : Sat G B w0 m H w) {t ty k e : TypeId} {id : Nat} {c : Value} (h1 : P.underlying t = some (.map k e)) (hx : Rel m (.map id) c) {es : List (AV × AV)} (hm : (id, AObj.map es) ∈ H) :
    ∃ cv, (Builtin.len_ #[t] ty #[c]).run P w = .ok cv w ∧ Rel m (.int .i64 es.length) cv := by
  obtain ⟨_, _, ents, clock, hb, hl, _⟩ := hsat.obj _ _ hm
  cases hx
  refine ⟨.int .i64 ents.size, ?_, by rw [hl]; exact .int _ _⟩
  simp [Builtin.len_, run_underlying h1, getObj, Sem.run, hb, goInt]

/-- Scalar keys. -/
theorem same_now {kt : TypeId} {d : TypeDesc} {a b : AV} {c e : Value} {kd : Nat} (hk : kindT P kt = some kd) (hu : P.underlying kt = some d) (ha : Rel m a c) (hb : Rel m b e) (hkd : a.kindN = kd) {r : Bool}
    (h : a.same b = some r) : Instr.sameNow d c e = some r := by
  unfold kindT at hk
  rw [hu] at hk
  cases a with
  | bool x =>
    cases b <;> simp [AV.same] at h
    cases ha; cases hb
    simp only [AV.kindN] at hkd; subst hkd
    cases d <;> simp at hk
    subst h
    simp only [Instr.sameNow, Option.some.injEq]; rw [Bool.eq_iff_iff]; simp
  | int k x =>
    cases b <;> simp [AV.same] at h
    cases ha; cases hb
    simp only [AV.kindN] at hkd; subst hkd
    cases d <;> simp at hk
    obtain ⟨rfl, rfl⟩ := h
    simp only [Instr.sameNow, if_true, Option.some.injEq]; rw [Bool.eq_iff_iff]; simp
  | str x =>
    cases b <;> simp [AV.same] at h
    cases ha; cases hb
    simp only [AV.kindN] at hkd; subst hkd
    cases d <;> simp at hk
    subst h
    simp only [Instr.sameNow, Option.some.injEq]
    rw [beq_toListBytes, ByteArray.toList_eq, ByteArray.toList_eq, Bool.eq_iff_iff]; simp
  | _ => simp only [AV.kindN] at hkd; subst hkd; cases d <;> simp at hk

theorem find_now {kt : TypeId} {d : TypeDesc} {a : AV} {c : Value} {kd : Nat} (hk : kindT P kt = some kd) (hu : P.underlying kt = some d) (ha : Rel m a c) (hkd : a.kindN = kd) :
    ∀ (es : List (AV × AV)) (ents : List MapEntry) (j : Nat) (r : Option AV), es.length = ents.length → (∀ (i : Nat) (k v : AV) (x : MapEntry), es[i]? = some (k, v) → ents[i]? = some x → Rel m k x.key ∧ Rel m v x.val) →
      lookA a es = some r → ∃ q, Instr.findNow d c ents j = some q ∧ (match r, q with
        | none, none => True
        | some v, some (i, u) => ∃ i', i = j + i' ∧ (∃ k x, es[i']? = some (k, v) ∧ ents[i']? = some x ∧ x.val = u ∧ a.same k = some true) ∧ Rel m v u ∧ ∀ i'' k v', i'' < i' → es[i'']? = some (k, v') → a.same k = some false
        | _, _ => False)
  | [], ents, j, r, hl, hr, h => by
    have : ents = [] := by cases ents with | nil => rfl | cons _ _ => simp at hl
    subst this
    simp [lookA] at h; subst h
    exact ⟨none, rfl, trivial⟩
  | (k, v) :: es, ents, j, r, hl, hr, h => by
    cases ents with
    | nil => simp at hl
    | cons x ents =>
      obtain ⟨h1, h2⟩ := hr 0 k v x rfl rfl
      simp only [lookA] at h
      split at h
      · rename_i hs
        cases h
        refine ⟨some (j, x.val), by simp [Instr.findNow, same_now hk hu ha h1 hkd hs], 0, rfl, ⟨k, x, rfl, rfl, rfl, hs⟩, h2, fun i'' k v' hlt => by omega⟩
      · rename_i hs
        obtain ⟨q, hq, hm⟩ := find_now hk hu ha hkd es ents (j + 1) r (by simpa using hl) (fun i k v x h1 h2 => hr (i + 1) k v x (by simpa using h1) (by simpa using h2)) h
        refine ⟨q, by simp [Instr.findNow, same_now hk hu ha h1 hkd hs, hq], ?_⟩
        cases r with
        | none => cases q with | none => trivial | some _ => exact hm
        | some v =>
          cases q with
          | none => exact hm
          | some iu =>
            obtain ⟨i, u⟩ := iu
            obtain ⟨i', e1, ⟨k', x', e2, e3, e4, e5⟩, e6, e7⟩ := hm
            refine ⟨i' + 1, by omega, ⟨k', x', by simpa using e2, by simpa using e3, e4, e5⟩, e6, fun i'' k1 v1 hlt he => ?_⟩
            cases i'' with
            | zero => simp at he; rw [← he.1]; exact hs
            | succ i'' => exact e7 i'' k1 v1 (by omega) (by simpa using he)
      · cases h

theorem run_checkKey {kt : TypeId} {kd : Nat} {c : Value} (hk : kindT P kt = some kd) (e : Bool) : (Instr.checkKey e 10000 kt c).run P w = .ok () w := by
  unfold kindT at hk
  show (Instr.checkKey e (9999 + 1) kt c).run P w = _
  rw [Instr.checkKey]
  split at hk <;> first | (cases hk; done) | skip
  all_goals (rename_i hu; simp only [Sem.run_bind, run_underlying hu, Result.andThen_ok]; rfl)

theorem found_rel {z : AV} {u : Value} {v : AV} {ok : Bool} (h : Rel m v u) : Rel m (foundA z ok (some v)) (if ok then .tuple #[u, .bool true] else u) := by
  cases ok
  · exact h
  · refine .tup _ _ rfl (fun i x y hx hy => ?_)
    match i with
    | 0 => simp at hx hy; subst hx hy; exact h
    | 1 => simp at hx hy; subst hx hy; exact .bool _
    | n + 2 => simp at hx

theorem nfound_rel {z : AV} {cz : Value} {ok : Bool} (h : Rel m z cz) : Rel m (foundA z ok none) (if ok then .tuple #[cz, .bool false] else cz) := by
  cases ok
  · exact h
  · refine .tup _ _ rfl (fun i x y hx hy => ?_)
    match i with
    | 0 => simp at hx hy; subst hx hy; exact h
    | 1 => simp at hx hy; subst hx hy; exact .bool _
    | n + 2 => simp at hx

theorem snd_lkp_nil {t k e : TypeId} {kd : Nat} {z key v : AV} {ck : Value} {ok : Bool} (h1 : P.underlying t = some (.map k e)) (h2 : kindT P k = some kd) (h3 : zero? P e = some z) (hp : pureF (.lkp kd z ok) [.nilm, key] = some v) :
    ∃ cv, (Instr.lookup t (.map none) ck ok).run P w = .ok cv w ∧ Rel m v cv := by
  obtain ⟨cz, hcz, hrz⟩ := zero?_run h3 w
  simp only [pureF] at hp
  split at hp
  · cases hp
    have hck := run_checkKey (w := w) (c := ck) h2 true
    unfold kindT at h2
    cases hu : P.underlying k with
    | none => rw [hu] at h2; cases h2
    | some d =>
      refine ⟨_, ?_, nfound_rel (hrz m)⟩
      simp [Instr.lookup, run_underlying h1, hck, Instr.findKey, run_underlying hu, Instr.findNow, hcz]
  · cases hp

theorem snd_lkp (hsat : Sat G B w0 m H w) {t k e : TypeId} {kd id : Nat} {z key : AV} {c ck : Value} {ok : Bool} (h1 : P.underlying t = some (.map k e)) (h2 : kindT P k = some kd) (h3 : zero? P e = some z)
    (hx : Rel m (.map id) c) (hk : Rel m key ck) (hkd : key.kindN = kd) {es : List (AV × AV)} {r : Option AV} (hm : (id, AObj.map es) ∈ H) (hl : lookA key es = some r) :
    ∃ cv, (Instr.lookup t c ck ok).run P w = .ok cv w ∧ Rel m (foundA z ok r) cv := by
  obtain ⟨_, _, ents, clock, hb, hlen, hr⟩ := hsat.obj _ _ hm
  obtain ⟨cz, hcz, hrz⟩ := zero?_run h3 w
  cases hx
  cases hu : P.underlying k with
  | none => unfold kindT at h2; rw [hu] at h2; cases h2
  | some d =>
    obtain ⟨q, hq, hm⟩ := find_now h2 hu hk hkd es ents.toList 0 r (by simpa using hlen) (fun i k v x h1 h2 => hr i k v x h1 (by simpa using h2)) hl
    have hck := run_checkKey (w := w) (c := ck) h2 ents.isEmpty
    have hg : (getObj id).run P w = .ok (.map ents clock) w := by simp [getObj, Sem.run, hb]
    cases r with
    | none =>
      cases q with
      | some _ => exact hm.elim
      | none => exact ⟨_, by simp [Instr.lookup, run_underlying h1, hg, hck, Instr.findKey, run_underlying hu, hq, hcz] <;> rfl, nfound_rel (hrz m)⟩
    | some v =>
      cases q with
      | none => exact hm.elim
      | some iu =>
        obtain ⟨i, u⟩ := iu
        obtain ⟨i', _, _, hrv, _⟩ := hm
        exact ⟨_, by simp [Instr.lookup, run_underlying h1, hg, hck, Instr.findKey, run_underlying hu, hq] <;> rfl, found_rel hrv⟩

end
end Go.AL
