/- The abstract layer, part 4: the operations that look at their operands alone. -/
import Derived.Test.YtpeaphpibnikcaaA3
import Derived.WalkLawsBesides
namespace Go.AL
open Go.RowKit

section
variable {G : Nat → Option (List AV)} {B : Nat} {w0 w w' : World} {m m' : Im} {H H' : Heap} {P : Program}

theorem size?_run {t : TypeId} {s : Nat} (h : size? P t = some s) (w : World) : (sizeOf t).run P w = .ok s w := by
  unfold size? at h
  cases hi : P.info? t with
  | none => rw [hi] at h; cases h
  | some i => rw [hi] at h; cases h; simp [sizeOf, typeInfo, hi]

theorem bytes?_run {t : TypeId} {s : Nat} (h : bytes? P t = some s) (w : World) : ∃ i, (typeInfo t).run P w = .ok i w ∧ i.bytes = s := by
  unfold bytes? at h
  cases hi : P.info? t with
  | none => rw [hi] at h; cases h
  | some i => rw [hi] at h; cases h; exact ⟨i, by simp [typeInfo, hi], rfl⟩

theorem isAgg?_run {t : TypeId} {g : Bool} (h : isAgg? P t = some g) (w : World) : (isAgg t).run P w = .ok g w := by
  unfold isAgg? at h
  cases hi : P.underlying t with
  | none => rw [hi] at h; cases h
  | some d => rw [hi] at h; cases d <;> cases h <;> simp [isAgg, run_underlying hi]

theorem zero?_run {t : TypeId} {z : AV} (h : zero? P t = some z) (w : World) : ∃ c, (zeroValue t).run P w = .ok c w ∧ ∀ m, Rel m z c := by
  unfold zero? at h
  cases hi : P.info? t with
  | none => rw [hi] at h; cases h
  | some i =>
    rw [hi] at h
    simp only [Option.bind_some] at h
    cases hz : i.zero with
    | none => rw [hz] at h; cases h
    | some c => rw [hz] at h; exact ⟨c, by simp [zeroValue, typeInfo, hi, hz], fun m => toAV_rel h⟩

theorem iptr_drop {cs : List AV} {a : Addr} (h : Rel m (.iptr cs) (.pointer (some a))) (o : Nat) : Rel m (.iptr (cs.drop o)) (.pointer (some (a.add o))) := by
  cases h with
  | iptr _ _ f hs hc h1 hr =>
    by_cases ho : o = 0
    · subst ho; simp only [List.drop_zero]; rw [show a.add 0 = a from by simp [Addr.add]]; exact .iptr cs a f hs hc h1 hr
    · refine .iptr _ _ (fun i => f (o + i)) (fun _ => by simp [Addr.add, ho]) (fun i hi => ?_) (fun i hi => ?_) (fun i x hx => ?_)
      · simp only [Addr.add, ho, if_false]
        rw [Nat.add_assoc]
        exact hc (o + i) (by simp at hi; omega)
      · exact h1 (o + i) (by simp at hi; omega)
      · rw [List.getElem?_drop] at hx
        exact hr _ _ hx

theorem ptr_add (id off o : Nat) : Rel m (.ptr id (off + o)) (.pointer (some ((⟨id, off, none⟩ : Addr).add o))) := by
  rw [addr_add _ _ rfl]; exact .ptr id (off + o)

theorem snd_faddr {t : TypeId} {fs : Array Field} {i s : Nat} {f : Field} {x v : AV} {c : Value} (h1 : P.underlying t = some (.struct fs)) (h2 : fs[i]? = some f) (h3 : size? P f.type = some s) (hs : 0 < s)
    (hx : Rel m x c) (hp : pureF (.faddr f.offset) [x] = some v) : ∃ cv, (Instr.fieldAt t c i).run P w = .ok cv w ∧ Rel m v cv := by
  have hz := size?_run h3
  simp only [pureF] at hp
  split at hp
  · cases hp
    cases hx
    refine ⟨_, ?_, ptr_add _ _ _⟩
    simp [Instr.fieldAt, run_underlying h1, h2, Instr.sureAddr, fieldPlace, hz, Nat.pos_iff_ne_zero.1 hs]
  · cases hp
    cases hx with
    | iptr _ a g k1 k2 k3 k4 =>
      refine ⟨_, ?_, iptr_drop (.iptr _ a g k1 k2 k3 k4) _⟩
      simp [Instr.fieldAt, run_underlying h1, h2, Instr.sureAddr, fieldPlace, hz, Nat.pos_iff_ne_zero.1 hs]
  · cases hp

/-- The cells of one element of a slice. -/
theorem sl_elem {xs : List AV} {t : Tok} {a : Addr} {len cap : Nat} (h : Rel m (.sl xs t) (.slice (some a) len cap)) {i : Nat} {y : AV} (hy : xs[i]? = some y) :
    len = xs.length ∧ Rel m (.iptr y.cells) (.pointer (some (a.add (i * y.cells.length)))) := by
  cases h with
  | sl _ _ _ _ _ sz f ht hl hlc hcm hs hz hc h1 hr hk =>
    have hi : i < xs.length := (List.getElem?_eq_some_iff.1 hy).1
    have hsp : a.spot = none := hs (by intro h; subst h; simp at hi)
    have hsz := hz i y hy
    refine ⟨hl, ?_⟩
    rw [addr_add _ _ hsp]
    refine .iptr _ _ (f i) (fun _ => rfl) (fun j hj => ?_) (fun j hj => ?_) (fun j x hx => hr i y j x hy hx)
    · simp only [hsz]; exact hc i j hi (by omega)
    · exact h1 i j hi (by omega)

theorem snd_iaddr {t e : TypeId} {sz : Nat} {x v : AV} {c : Value} {k : IntKind} {i : Int} (h1 : P.underlying t = some (.slice e)) (h3 : size? P e = some sz)
    (hx : Rel m x c) (hp : pureF (.iaddr sz) [x, .int k i] = some v) : ∃ cv, (Instr.indexAt t c (.int k i)).run P w = .ok cv w ∧ Rel m v cv := by
  have hz := size?_run h3
  simp only [pureF] at hp
  split at hp
  · rename_i xs tk
    split at hp
    · rename_i y hy
      split at hp
      · rename_i hc
        cases hp
        obtain ⟨h0, hsz⟩ := hc
        have hi := (List.getElem?_eq_some_iff.1 hy).1
        cases hx with
        | slnil => simp at hi
        | sl _ _ a len cap sz' f k1 k2 k3 k4 k5 k6 k7 k8 k9 k10 =>
          obtain ⟨hl, hr⟩ := sl_elem (.sl xs tk a len cap sz' f k1 k2 k3 k4 k5 k6 k7 k8 k9 k10) hy
          rw [hsz] at hr
          refine ⟨_, ?_, hr⟩
          have hlt : i < (len : Int) := by omega
          simp [Instr.indexAt, asIntOf, run_underlying h1, hz, h0, hlt]
      · cases hp
    · cases hp
  · rename_i id off len s
    split at hp
    · rename_i hc
      obtain ⟨rfl, h0, hlt⟩ := hc
      cases hp
      cases hx with
      | msl _ _ _ cap _ n k1 k2 k3 =>
        refine ⟨_, ?_, ptr_add _ _ _⟩
        simp [Instr.indexAt, asIntOf, run_underlying h1, hz, h0, hlt]
      | msl0 => simp at hlt; omega
    · cases hp
  · cases hp

theorem snd_aaddr {t e : TypeId} {sz n : Nat} {x v : AV} {c : Value} {k : IntKind} {i : Int} (h1 : P.underlying t = some (.array n e)) (h3 : size? P e = some sz)
    (hx : Rel m x c) (hp : pureF (.aaddr sz n) [x, .int k i] = some v) : ∃ cv, (Instr.indexAt t c (.int k i)).run P w = .ok cv w ∧ Rel m v cv := by
  have hz := size?_run h3
  simp only [pureF] at hp
  split at hp
  · rename_i hc
    obtain ⟨h0, hlt⟩ := hc
    split at hp
    · cases hp
      cases hx
      refine ⟨_, ?_, ptr_add _ _ _⟩
      simp [Instr.indexAt, asIntOf, run_underlying h1, hz, h0, hlt, Instr.sureAddr]
    · cases hp
      cases hx with
      | iptr _ a g k1 k2 k3 k4 =>
        refine ⟨_, ?_, iptr_drop (.iptr _ a g k1 k2 k3 k4) _⟩
        simp [Instr.indexAt, asIntOf, run_underlying h1, hz, h0, hlt, Instr.sureAddr]
    · cases hp
  · cases hp

theorem relL_agg {cs : List AV} {f : Nat → Value} {n : Nat} (hn : n ≤ cs.length) (h1 : ∀ i, i < cs.length → (f i).oneCell' = true) (hr : ∀ (i : Nat) (x : AV), cs[i]? = some x → Rel m x (f i)) :
    Rel m (.agg (cs.take n)) (.agg (Array.ofFn fun j : Fin n => f j)) := by
  refine .agg _ _ (by simp; omega) (fun i y hy => ?_) (fun i x y hx hy => ?_)
  · rw [Array.getElem?_ofFn] at hy
    split at hy
    · have := Option.some.inj hy; subst this; exact h1 _ (by simp; omega)
    · cases hy
  · rw [Array.getElem?_ofFn] at hy
    split at hy
    · rename_i hin
      have := Option.some.inj hy; subst this
      rw [List.getElem?_take, if_pos hin] at hx
      exact hr _ _ hx
    · cases hy

theorem snd_ldi (hsat : Sat G B w0 m H w) {t : TypeId} {g : Bool} {sz : Nat} {cs : List AV} {v : AV} {c : Value} (h1 : isAgg? P t = some g) (h2 : size? P t = some sz)
    (hx : Rel m (.iptr cs) c) (hp : pureF (.ld g sz) [.iptr cs] = some v) : ∃ cv, (Instr.loadAt t c).run P w = .ok cv w ∧ Rel m v cv := by
  have hg := isAgg?_run h1
  have hz := size?_run h2
  simp only [pureF] at hp
  cases hx with
  | iptr _ a f hs hc h3 hr =>
    cases g with
    | true =>
      simp only [if_true] at hp
      split at hp
      · rename_i hle
        cases hp
        refine ⟨_, ?_, relL_agg hle h3 hr⟩
        have hl := run_loadCells_known (P := P) sz a f w 0 #[] (fun j hj => by
          have hsp := hs (by intro h; subst h; simp at hle; omega)
          rw [addr_add _ _ hsp]
          simpa using hsat.cell _ _ _ (hc j (by omega)))
        simp only [Nat.zero_add, Array.empty_append] at hl
        simp [Instr.loadAt, Instr.sureAddr, loadVar, hg, hz, loadCells, hl]
      · cases hp
    | false =>
      simp only [Bool.false_eq_true, if_false] at hp
      have hlt := (List.getElem?_eq_some_iff.1 hp).1
      have hsp := hs (by intro h; subst h; simp at hlt)
      have h0 := hsat.cell _ _ _ (hc 0 hlt)
      refine ⟨f 0, ?_, hr 0 v hp⟩
      have ha : (⟨a.block, a.off + 0, none⟩ : Addr) = a := by cases a; simp_all
      rw [ha] at h0
      simp [Instr.loadAt, Instr.sureAddr, loadVar, hg, h0]

theorem snd_ixs {t : TypeId} {s : List UInt8} {v : AV} {c : Value} {k : IntKind} {i : Int} (h1 : P.underlying t = some .string)
    (hx : Rel m (.str s) c) (hp : pureF .ixs [.str s, .int k i] = some v) : ∃ cv, (Instr.index t c (.int k i)).run P w = .ok cv w ∧ Rel m v cv := by
  simp only [pureF] at hp
  split at hp
  · rename_i h0
    cases hx with
    | str b =>
      cases hb : b.data.toList[i.toNat]? with
      | none => rw [hb] at hp; cases hp
      | some u =>
        rw [hb] at hp; cases hp
        have hb' : b[i.toNat]? = some u := by
          have hlt := (List.getElem?_eq_some_iff.1 hb).1
          have hlt' : i.toNat < b.size := by simpa using hlt
          rw [getElem?_pos b i.toNat hlt']
          congr 1
          have := (List.getElem?_eq_some_iff.1 hb).2
          rw [← this]; rfl
        exact ⟨_, by simp [Instr.index, asIntOf, run_underlying h1, h0, hb'], .int _ _⟩
  · cases hp

theorem rel_part {cs : List AV} {ca : Array Value} (h : Rel m (.agg cs) (.agg ca)) {t : TypeId} {g : Bool} {sz off : Nat} {v : AV} (h1 : isAgg? P t = some g) (h2 : size? P t = some sz)
    (hp : (if g then some (.agg ((cs.drop off).take sz)) else cs[off]?) = some v) : ∃ cv, (part t ca off).run P w = .ok cv w ∧ Rel m v cv := by
  have hg := isAgg?_run h1
  have hz := size?_run h2
  cases h with
  | agg _ _ hl ho hr =>
    cases g with
    | true =>
      simp only [if_true] at hp
      cases hp
      refine ⟨_, by simp only [part, Sem.run_bind, hg, Result.andThen_ok, if_true, hz, Sem.run_pure]; rfl, ?_⟩
      refine .agg _ _ ?_ (fun i y hy => ?_) (fun i x y hx hy => ?_)
      · simp [hl]; omega
      · rw [Array.getElem?_extract] at hy
        split at hy
        · exact ho _ y hy
        · cases hy
      · rw [Array.getElem?_extract] at hy
        rw [List.getElem?_take, List.getElem?_drop] at hx
        split at hy
        · split at hx
          · exact hr _ x y hx hy
          · cases hx
        · cases hy
    | false =>
      simp only [Bool.false_eq_true, if_false] at hp
      have hlt := (List.getElem?_eq_some_iff.1 hp).1
      have hy : ca[off]? = some ca[off] := Array.getElem?_eq_getElem (by omega)
      exact ⟨ca[off], by simp only [part, Sem.run_bind, hg, Result.andThen_ok, Bool.false_eq_true, if_false, hy, Sem.run_pure], hr off v _ hp hy⟩

theorem snd_fld {t : TypeId} {fs : Array Field} {i sz : Nat} {f : Field} {g : Bool} {cs : List AV} {v : AV} {c : Value} (h1 : P.underlying t = some (.struct fs)) (h2 : fs[i]? = some f)
    (h3 : isAgg? P f.type = some g) (h4 : size? P f.type = some sz) (hx : Rel m (.agg cs) c) (hp : pureF (.fld g f.offset sz) [.agg cs] = some v) :
    ∃ cv, (Instr.field t c i).run P w = .ok cv w ∧ Rel m v cv := by
  simp only [pureF] at hp
  cases hx with
  | agg _ ca hl ho hr =>
    obtain ⟨cv, hc, hv⟩ := rel_part (w := w) (.agg cs ca hl ho hr) h3 h4 hp
    exact ⟨cv, by simp [Instr.field, run_underlying h1, h2, asAgg, hc], hv⟩

theorem snd_ixa {t e : TypeId} {n sz : Nat} {g : Bool} {cs : List AV} {v : AV} {c : Value} {k : IntKind} {i : Int} (h1 : P.underlying t = some (.array n e))
    (h3 : isAgg? P e = some g) (h4 : size? P e = some sz) (hx : Rel m (.agg cs) c) (hp : pureF (.ixa g sz n) [.agg cs, .int k i] = some v) :
    ∃ cv, (Instr.index t c (.int k i)).run P w = .ok cv w ∧ Rel m v cv := by
  simp only [pureF] at hp
  split at hp
  · rename_i hc
    obtain ⟨h0, hlt⟩ := hc
    cases hx with
    | agg _ ca hl ho hr =>
      obtain ⟨cv, hc, hv⟩ := rel_part (w := w) (.agg cs ca hl ho hr) h3 h4 hp
      have hz := size?_run h4
      exact ⟨cv, by simp [Instr.index, asIntOf, run_underlying h1, h0, hlt, hz, hc], hv⟩
  · cases hp

end
end Go.AL
