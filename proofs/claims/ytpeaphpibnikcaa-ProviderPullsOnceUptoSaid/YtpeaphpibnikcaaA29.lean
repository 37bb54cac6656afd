/- The abstract layer, part 29: readings of types that hold themselves, by the depth of the reading. -/
import Derived.Test.YtpeaphpibnikcaaA28
namespace Go.AL
open Go.RowKit Go.ChangeShapes

/-- As Rds, for readings of less than a depth. -/
def RdsU (N : Nat) {H : Type} (enc : TypeId × Value → H) (P : Program) (W : World) (bk : DataW H → Nat) (t : TypeId) (V : List AV → Nat → Prop) : Prop :=
  ∀ (fuel : Nat), fuel < N → ∀ (cs : List Value) (x : DataW H × List MemPlace), DataW.trod enc P W 0 (fun _ => true) true fuel t cs = some x → ∃ avs, RelL (im0 W) avs cs ∧ (∀ c ∈ cs, c.oneCell' = true) ∧ V avs (bk x.1)
theorem Rds.u {H : Type} {enc : TypeId × Value → H} {P : Program} {W : World} {bk : DataW H → Nat} {t : TypeId} {V : List AV → Nat → Prop} (h : Rds enc P W bk t V) (N : Nat) : RdsU N enc P W bk t V := fun f _ => h f
theorem rds_all {H : Type} {enc : TypeId × Value → H} {P : Program} {W : World} {bk : DataW H → Nat} {t : TypeId} {V : List AV → Nat → Prop} (h : ∀ N, RdsU N enc P W bk t V) : Rds enc P W bk t V := fun f => h (f + 1) f (Nat.lt_succ_self f)
theorem RdsU.le {H : Type} {enc : TypeId × Value → H} {P : Program} {W : World} {bk : DataW H → Nat} {t : TypeId} {V : List AV → Nat → Prop} {M N : Nat} (h : RdsU N enc P W bk t V) (hm : M ≤ N) : RdsU M enc P W bk t V := fun f hf => h f (by omega)
theorem RdsU.imp {H : Type} {enc : TypeId × Value → H} {P : Program} {W : World} {bk : DataW H → Nat} {t : TypeId} {V V' : List AV → Nat → Prop} {N : Nat} (h : RdsU N enc P W bk t V) (hv : ∀ a n, V a n → V' a n) : RdsU N enc P W bk t V' := fun f hf cs x hx => by
  obtain ⟨avs, h1, h2, h3⟩ := h f hf cs x hx
  exact ⟨avs, h1, h2, hv _ _ h3⟩
def FOkU (N : Nat) {H : Type} (enc : TypeId × Value → H) (P : Program) (W : World) (bk : DataW H → Nat) : Nat → List Field → List (List AV → Nat → Prop) → Nat → Prop
  | off, [], [], tot => off = tot
  | off, f :: fs, V :: Vs, tot => f.offset = off ∧ RdsU N enc P W bk f.type V ∧ FOkU N enc P W bk (off + P.cellsOf f.type) fs Vs tot
  | _, _, _, _ => False

section
variable {H : Type} {enc : TypeId × Value → H} {P : Program} {W : World} {bk : DataW H → Nat} {bkA : List (DataW H) → Nat} {t : TypeId}

theorem rd_sliceU (hb : BK bk bkA) {N : Nat} {e : TypeId} {g : Bool} {V : List AV → Nat → Prop} (ht : P.underlying t = some (.slice e)) (hpos : 0 < P.cellsOf e)
    (hg : g = true ∨ (g = false ∧ ∀ avs n, V avs n → ∃ x, avs = [x] ∧ x.cells = [x])) (hsz : ∀ avs n, V avs n → avs.length = P.cellsOf e) (he : RdsU N enc P W bk e V) :
    RdsU (N + 1) enc P W bk t fun avs n => ∃ xs tok m, avs = [.sl xs tok] ∧ ((tok = .nil ∧ xs = []) ∨ tok = .no) ∧ SlV g (P.cellsOf e) V xs m ∧ m + 1 ≤ n := by
  intro fuel hfu cs x h
  rcases DataW.trod_slice ht h with ⟨rfl, rfl⟩ | ⟨a, len, cap, elems, rest, n, hfn, rfl, rfl, _, hlc, hcm, hlen, hel, _, _⟩
  · exact ⟨[.sl [] .nil], (RelL.nil _).cons .slnil, by simp [Value.oneCell'], [], .nil, 0, rfl, .inl ⟨rfl, rfl⟩, .nil, hb.one _⟩
  · have key : ∀ (k i : Nat), i + k = len → ∃ (xs : List AV) (f : Nat → Nat → Value), xs.length = k ∧ SlV g (P.cellsOf e) V xs (bkA ((elems.drop i).map (·.1))) ∧ (xs ≠ [] → a.spot = none) ∧
        (∀ p j, p < k → j < P.cellsOf e → (im0 W).cell a.block (a.off + (i + p) * P.cellsOf e + j) = some (f p j) ∧ (f p j).oneCell' = true) ∧
        (∀ (p : Nat) (y : AV) (j : Nat) (z : AV), xs[p]? = some y → y.cells[j]? = some z → Rel (im0 W) z (f p j)) := by
      intro k
      induction k with
      | zero =>
        intro i hi
        refine ⟨[], fun _ _ => default, rfl, ?_, fun h => absurd rfl h, fun p j hp => absurd hp (Nat.not_lt_zero _), fun p y j z h => by simp at h⟩
        rw [List.drop_eq_nil_of_le (by omega)]
        simp only [List.map_nil, hb.nil]
        exact .nil
      | succ k ih =>
        intro i hi
        obtain ⟨xs, f, i1, i2, i3, i4, i5⟩ := ih (i + 1) (by omega)
        have hlt : i < len := by omega
        have hi' : i < elems.length := by omega
        have h1 := hel i hlt
        rw [List.getElem?_eq_getElem hi'] at h1
        cases hc : W.cells? 0 (a.add (i * P.cellsOf e)) (P.cellsOf e) with
        | none => rw [hc] at h1; cases h1
        | some cs' =>
          rw [hc] at h1
          obtain ⟨avs, q1, q2, q3⟩ := he n (by omega) _ _ h1
          obtain ⟨_, hcl, hcc⟩ := World.cells?_some hc
          have hal : avs.length = P.cellsOf e := hsz _ _ q3
          have hcell : ∀ j (hj : j < cs'.length), W.cell? ((a.add (i * P.cellsOf e)).add j) = some cs'[j] := fun j hj => by
            rw [hcc j (by omega), List.getElem?_eq_getElem hj]
          have hsp : a.spot = none := by
            have h0 := (cell_im0 (hcell 0 (by omega))).1
            simp only [Addr.add, if_true] at h0
            split at h0
            · exact h0
            · rename_i hne
              -- the first element lies where the slice begins
              have hc0 := hel 0 (by omega)
              rw [List.getElem?_eq_getElem (show 0 < elems.length by omega)] at hc0
              cases hcz : W.cells? 0 (a.add (0 * P.cellsOf e)) (P.cellsOf e) with
              | none => rw [hcz] at hc0; cases hc0
              | some cz =>
                obtain ⟨_, hzl, hzc⟩ := World.cells?_some hcz
                have hz := hzc 0 hpos
                rw [List.getElem?_eq_getElem (show 0 < cz.length by omega)] at hz
                have := (cell_im0 hz).1
                simpa [Addr.add] using this
          have hadd : ∀ j, (a.add (i * P.cellsOf e)).add j = ⟨a.block, a.off + i * P.cellsOf e + j, none⟩ := fun j => by
            rw [addr_add _ _ hsp, addr_add _ _ rfl]
          obtain ⟨y, hy1, hy2⟩ : ∃ y : AV, (if g then y = .agg avs else avs = [y]) ∧ y.cells = avs := by
            rcases hg with rfl | ⟨rfl, hg⟩
            · exact ⟨.agg avs, by simp, rfl⟩
            · obtain ⟨y, r1, r2⟩ := hg _ _ q3
              exact ⟨y, by simpa using r1, by rw [r2, r1]⟩
          refine ⟨y :: xs, fun p j => match p with | 0 => (cs'[j]?).getD default | p + 1 => f p j, by simp [i1], ?_, fun _ => hsp, ?_, ?_⟩
          · have : elems.drop i = elems[i] :: elems.drop (i + 1) := List.drop_eq_getElem_cons hi'
            rw [this, List.map_cons, hb.cons]
            exact .one avs y _ xs _ q3 hy1 hy2 hal i2
          · intro p j hp hj
            cases p with
            | zero =>
              have hjl : j < cs'.length := by omega
              have hcj := hcell j hjl
              rw [hadd] at hcj
              have := (cell_im0 hcj).2
              simp only [Nat.add_zero] at this ⊢
              rw [List.getElem?_eq_getElem hjl]
              exact ⟨this, q2 _ (List.getElem_mem hjl)⟩
            | succ p =>
              have := i4 p j (by omega) hj
              rw [show i + (p + 1) = i + 1 + p by omega]
              exact this
          · intro p y' j z hy hz
            cases p with
            | zero =>
              simp at hy; subst hy
              rw [hy2] at hz
              obtain ⟨c, hc1, hc2⟩ := q1.get j hz
              simp only [hc1, Option.getD_some]; exact hc2
            | succ p => exact i5 p y' j z (by simpa using hy) hz
    obtain ⟨xs, f, i1, i2, i3, i4, i5⟩ := key len 0 (by omega)
    rw [List.drop_zero] at i2
    refine ⟨[.sl xs .no], (RelL.nil _).cons (.sl xs .no a len cap (P.cellsOf e) f (by simp) i1.symm hlc hcm i3 (fun i y hy => i2.sz y (List.mem_of_getElem? hy)) (fun p j hp hj => ?_) (fun p j hp hj => (i4 p j (by omega) hj).2) i5 (fun _ _ _ h => by cases h)), by simp [Value.oneCell'], xs, .no, _, rfl, .inr rfl, i2, hb.slice _ _⟩
    have := (i4 p j (by omega) hj).1
    rw [Nat.zero_add] at this
    exact this


theorem rd_fieldsU (hb : BK bk bkA) {N n : Nat} (hn : n < N) (cs : List Value) (tot : Nat) (hl : cs.length = tot) : ∀ (fs : List Field) (Vs : List (List AV → Nat → Prop)) (off : Nat) (xs : List (DataW H × List MemPlace)),
    FOkU N enc P W bk off fs Vs tot → xs.length = fs.length →
    (∀ (i : Nat) (f : Field), fs[i]? = some f → DataW.trod enc P W 0 (fun _ => true) true n f.type ((cs.drop f.offset).take (P.cellsOf f.type)) = xs[i]?) →
    ∃ avs, RelL (im0 W) avs (cs.drop off) ∧ (∀ c ∈ cs.drop off, c.oneCell' = true) ∧ StV Vs avs (bkA (xs.map (·.1)))
  | [], [], off, xs, h, hx, _ => by
    have : off = tot := h
    subst this
    rw [List.drop_eq_nil_of_le (by omega)]
    exact ⟨[], RelL.nil _, by simp, rfl⟩
  | f :: fs, V :: Vs, off, xs, h, hx, ht => by
    obtain ⟨h1, h2, h3⟩ := h
    subst h1
    cases xs with
    | nil => simp at hx
    | cons x xs =>
      have h4 := ht 0 f rfl
      obtain ⟨a, q1, q2, q3⟩ := h2 n hn _ x (by simpa using h4)
      obtain ⟨r, k1, k2, k3⟩ := rd_fieldsU hb hn cs tot hl fs Vs (f.offset + P.cellsOf f.type) xs h3 (by simpa using hx) (fun i g hg => by have := ht (i + 1) g (by simpa using hg); simpa using this)
      have e : cs.drop f.offset = (cs.drop f.offset).take (P.cellsOf f.type) ++ cs.drop (f.offset + P.cellsOf f.type) := by rw [← List.drop_drop, List.take_append_drop]
      refine ⟨a ++ r, by rw [e]; exact q1.append k1, fun c hc => ?_, a, r, _, _, rfl, q3, k3, ?_⟩
      · rw [e] at hc
        rcases List.mem_append.1 hc with hc | hc
        · exact q2 c hc
        · exact k2 c hc
      · rw [List.map_cons, hb.cons]; exact Nat.le_refl _
  | [], _ :: _, _, _, h, _, _ => h.elim
  | _ :: _, [], _, _, h, _, _ => h.elim

theorem rd_structU (hb : BK bk bkA) {N : Nat} {fs : Array Field} {Vs : List (List AV → Nat → Prop)} (ht : P.underlying t = some (.struct fs)) (hf : FOkU N enc P W bk 0 fs.toList Vs (P.cellsOf t)) :
    RdsU (N + 1) enc P W bk t fun avs n => ∃ m, StV Vs avs m ∧ m ≤ n := by
  intro fuel hfu cs x h
  obtain ⟨xs, n, rfl, rfl, hl, hxl, hi⟩ := DataW.trod_struct ht h
  obtain ⟨avs, k1, k2, k3⟩ := rd_fieldsU hb (show n < N by omega) cs _ hl fs.toList Vs 0 xs hf (by simpa using hxl) (fun i f hf => hi i f (by simpa using hf))
  rw [List.drop_zero] at k1 k2
  exact ⟨avs, k1, k2, _, k3, hb.agg _⟩
end
end Go.AL
