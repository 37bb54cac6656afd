/- The abstract layer, part 26: what a row's reading of an argument says of its value. -/
import Derived.Test.YtpeaphpibnikcaaA25
import Derived.ChangeArms
import Derived.DataReads
import Derived.OpenShut
namespace Go.AL
open Go.RowKit Go.ChangeShapes

/-- A count of values and letters. -/
structure BK {H : Type} (bk : DataW H → Nat) (bkA : List (DataW H) → Nat) : Prop where
  slice : ∀ e s, bkA e + 1 ≤ bk (.slice e s)
  str : ∀ s, s.length + 1 ≤ bk (.lit (.string s))
  agg : ∀ ps, bkA ps ≤ bk (.agg ps)
  nil : bkA [] = 0
  cons : ∀ d r, bkA (d :: r) = bk d + bkA r
  one : ∀ d, 1 ≤ bk d

/-- A type's values, read: what is known of their cells and of their count. -/
def Rds {H : Type} (enc : TypeId × Value → H) (P : Program) (W : World) (bk : DataW H → Nat) (t : TypeId) (V : List AV → Nat → Prop) : Prop :=
  ∀ (fuel : Nat) (cs : List Value) (x : DataW H × List MemPlace), DataW.trod enc P W 0 (fun _ => true) true fuel t cs = some x → ∃ avs, RelL (im0 W) avs cs ∧ (∀ c ∈ cs, c.oneCell' = true) ∧ V avs (bk x.1)

/-- Elements of a slice. -/
inductive SlV (g : Bool) (sz : Nat) (V : List AV → Nat → Prop) : List AV → Nat → Prop
  | nil : SlV g sz V [] 0
  | one (avs : List AV) (x : AV) (b : Nat) (xs : List AV) (n : Nat) : V avs b → (if g then x = .agg avs else avs = [x]) → x.cells = avs → avs.length = sz → SlV g sz V xs n → SlV g sz V (x :: xs) (b + n)

theorem SlV.sz {g : Bool} {sz : Nat} {V : List AV → Nat → Prop} {xs : List AV} {n : Nat} (h : SlV g sz V xs n) : AllSz sz xs := by
  induction h with
  | nil => intro x h; cases h
  | one avs x b xs n _ _ hc hl _ ih =>
    intro y hy
    rcases List.mem_cons.1 hy with rfl | hy
    · rw [hc]; exact hl
    · exact ih y hy

section
variable {H : Type} {enc : TypeId × Value → H} {P : Program} {W : World} {bk : DataW H → Nat} {bkA : List (DataW H) → Nat} {t : TypeId}

theorem rd_int (hb : BK bk bkA) {k : IntKind} (ht : P.underlying t = some (.int k)) : Rds enc P W bk t fun avs b => 1 ≤ b ∧ ∃ n, avs = [.int k n] ∧ (Lit.int k n).wf = true := by
  intro fuel cs x h
  obtain ⟨n, rfl, rfl, hw⟩ := DataW.trod_int ht h
  exact ⟨[.int k n], (RelL.nil _).cons (.int _ _), by simp [Value.oneCell'], hb.one _, n, rfl, hw⟩

theorem rd_bool (ht : P.underlying t = some .bool) : Rds enc P W bk t fun avs _ => ∃ b, avs = [.bool b] := by
  intro fuel cs x h
  obtain ⟨b, rfl, rfl⟩ := DataW.trod_bool ht h
  exact ⟨[.bool b], (RelL.nil _).cons (.bool _), by simp [Value.oneCell'], b, rfl⟩

theorem rd_str (hb : BK bk bkA) (ht : P.underlying t = some .string) : Rds enc P W bk t fun avs n => ∃ s, avs = [.str s] ∧ s.length + 1 ≤ n := by
  intro fuel cs x h
  obtain ⟨s, rfl, rfl, hm⟩ := DataW.trod_string ht h
  exact ⟨[.str s.data.toList], (RelL.nil _).cons (.str _), by simp [Value.oneCell'], _, rfl, hb.str _⟩

theorem cell_im0 {p : Addr} {v : Value} (h : W.cell? p = some v) : p.spot = none ∧ (im0 W).cell p.block p.off = some v := by
  have hlt := World.block_lt_of_cell? _ _ h
  have hs : p.spot = none := by
    simp only [World.cell?] at h
    split at h
    · split at h
      · cases h
      · rename_i hn; simpa using hn
    · cases h
  refine ⟨hs, ?_⟩
  simp only [im0, if_pos hlt]
  rw [← h]
  congr 1
  cases p; simp at hs; subst hs; rfl

/-- Does a type's value lie in a row of its own in a slice? -/
def aggB (P : Program) (e : TypeId) : Bool := match P.underlying e with | some (.struct _) | some (.array _ _) => true | _ => false

theorem rd_slice (hb : BK bk bkA) {e : TypeId} {g : Bool} {V : List AV → Nat → Prop} (ht : P.underlying t = some (.slice e)) (hpos : 0 < P.cellsOf e)
    (hg : g = true ∨ (g = false ∧ ∀ avs n, V avs n → ∃ x, avs = [x] ∧ x.cells = [x])) (hsz : ∀ avs n, V avs n → avs.length = P.cellsOf e) (he : Rds enc P W bk e V) :
    Rds enc P W bk t fun avs n => ∃ xs tok m, avs = [.sl xs tok] ∧ ((tok = .nil ∧ xs = []) ∨ tok = .no) ∧ SlV g (P.cellsOf e) V xs m ∧ m + 1 ≤ n := by
  intro fuel cs x h
  rcases DataW.trod_slice ht h with ⟨rfl, rfl⟩ | ⟨a, len, cap, elems, rest, n, _, rfl, rfl, _, hlc, hcm, hlen, hel, _, _⟩
  · exact ⟨[.sl [] .nil], (RelL.nil _).cons .slnil, by simp [Value.oneCell'], [], .nil, 0, rfl, .inl ⟨rfl, rfl⟩, .nil, hb.one _⟩
  · have key : ∀ (k i : Nat), i + k = len → ∃ (xs : List AV) (f : Nat → Nat → Value), xs.length = k ∧ SlV g (P.cellsOf e) V xs (bkA ((elems.drop i).map (·.1))) ∧ (xs ≠ [] → a.spot = none) ∧
        (∀ p j, p < k → j < P.cellsOf e → (im0 W).cell a.block (a.off + (i + p) * P.cellsOf e + j) = some (f p j) ∧ (f p j).oneCell' = true) ∧
        (∀ (p : Nat) (y : AV) (j : Nat) (z : AV), xs[p]? = some y → y.cells[j]? = some z → Rel (im0 W) z (f p j)) := by
      intro k
      induction k with
      | zero =>
        intro i hi
        refine ⟨[], fun _ _ => default, rfl, ?_, fun h => absurd rfl h, fun p j hp => absurd hp (Nat.not_lt_zero _), fun p y j z h => by simp at h⟩
        rw [List.drop_eq_nil_of_le (by omega)]
        simp only [List.map_nil, hb.nil]
        exact .nil
      | succ k ih =>
        intro i hi
        obtain ⟨xs, f, i1, i2, i3, i4, i5⟩ := ih (i + 1) (by omega)
        have hlt : i < len := by omega
        have hi' : i < elems.length := by omega
        have h1 := hel i hlt
        rw [List.getElem?_eq_getElem hi'] at h1
        cases hc : W.cells? 0 (a.add (i * P.cellsOf e)) (P.cellsOf e) with
        | none => rw [hc] at h1; cases h1
        | some cs' =>
          rw [hc] at h1
          obtain ⟨avs, q1, q2, q3⟩ := he _ _ _ h1
          obtain ⟨_, hcl, hcc⟩ := World.cells?_some hc
          have hal : avs.length = P.cellsOf e := hsz _ _ q3
          have hcell : ∀ j (hj : j < cs'.length), W.cell? ((a.add (i * P.cellsOf e)).add j) = some cs'[j] := fun j hj => by
            rw [hcc j (by omega), List.getElem?_eq_getElem hj]
          have hsp : a.spot = none := by
            have h0 := (cell_im0 (hcell 0 (by omega))).1
            simp only [Addr.add, if_true] at h0
            split at h0
            · exact h0
            · rename_i hne
              -- the first element lies where the slice begins
              have hc0 := hel 0 (by omega)
              rw [List.getElem?_eq_getElem (show 0 < elems.length by omega)] at hc0
              cases hcz : W.cells? 0 (a.add (0 * P.cellsOf e)) (P.cellsOf e) with
              | none => rw [hcz] at hc0; cases hc0
              | some cz =>
                obtain ⟨_, hzl, hzc⟩ := World.cells?_some hcz
                have hz := hzc 0 hpos
                rw [List.getElem?_eq_getElem (show 0 < cz.length by omega)] at hz
                have := (cell_im0 hz).1
                simpa [Addr.add] using this
          have hadd : ∀ j, (a.add (i * P.cellsOf e)).add j = ⟨a.block, a.off + i * P.cellsOf e + j, none⟩ := fun j => by
            rw [addr_add _ _ hsp, addr_add _ _ rfl]
          obtain ⟨y, hy1, hy2⟩ : ∃ y : AV, (if g then y = .agg avs else avs = [y]) ∧ y.cells = avs := by
            rcases hg with rfl | ⟨rfl, hg⟩
            · exact ⟨.agg avs, by simp, rfl⟩
            · obtain ⟨y, r1, r2⟩ := hg _ _ q3
              exact ⟨y, by simpa using r1, by rw [r2, r1]⟩
          refine ⟨y :: xs, fun p j => match p with | 0 => (cs'[j]?).getD default | p + 1 => f p j, by simp [i1], ?_, fun _ => hsp, ?_, ?_⟩
          · have : elems.drop i = elems[i] :: elems.drop (i + 1) := List.drop_eq_getElem_cons hi'
            rw [this, List.map_cons, hb.cons]
            exact .one avs y _ xs _ q3 hy1 hy2 hal i2
          · intro p j hp hj
            cases p with
            | zero =>
              have hjl : j < cs'.length := by omega
              have hcj := hcell j hjl
              rw [hadd] at hcj
              have := (cell_im0 hcj).2
              simp only [Nat.add_zero] at this ⊢
              rw [List.getElem?_eq_getElem hjl]
              exact ⟨this, q2 _ (List.getElem_mem hjl)⟩
            | succ p =>
              have := i4 p j (by omega) hj
              rw [show i + (p + 1) = i + 1 + p by omega]
              exact this
          · intro p y' j z hy hz
            cases p with
            | zero =>
              simp at hy; subst hy
              rw [hy2] at hz
              obtain ⟨c, hc1, hc2⟩ := q1.get j hz
              simp only [hc1, Option.getD_some]; exact hc2
            | succ p => exact i5 p y' j z (by simpa using hy) hz
    obtain ⟨xs, f, i1, i2, i3, i4, i5⟩ := key len 0 (by omega)
    rw [List.drop_zero] at i2
    refine ⟨[.sl xs .no], (RelL.nil _).cons (.sl xs .no a len cap (P.cellsOf e) f (by simp) i1.symm hlc hcm i3 (fun i y hy => i2.sz y (List.mem_of_getElem? hy)) (fun p j hp hj => ?_) (fun p j hp hj => (i4 p j (by omega) hj).2) i5 (fun _ _ _ h => by cases h)), by simp [Value.oneCell'], xs, .no, _, rfl, .inr rfl, i2, hb.slice _ _⟩
    have := (i4 p j (by omega) hj).1
    rw [Nat.zero_add] at this
    exact this

theorem cells_one {r : Reach} {base : Nat} {v : Value} {d : TypeDesc} (hu : P.underlying t = some d) (hd : (match d with | .bool | .int _ | .string | .slice _ => true | _ => false) = true) (h : Value.okWide P W r base t v) : v.cells.toList = [v] := by
  cases v with
  | agg cs => exfalso; cases d <;> simp_all [Value.okWide, Cell.okWide, Cell.ok]
  | _ => rfl

/-- One argument, read. -/
theorem arg_one {r : Reach} {base : Nat} {v : Value} {d : TypeDesc} {V : List AV → Nat → Prop} {d0 : DataW H} {ps : List MemPlace} (hu : P.underlying t = some d)
    (hd : (match d with | .bool | .int _ | .string | .slice _ => true | _ => false) = true) (hok : Value.okWide P W r base t v) (h : DataW.Trod enc P W 0 (fun _ => true) true t v d0 ps) (hr : Rds enc P W bk t V) :
    ∃ x, Rel (im0 W) x v ∧ V [x] (bk d0) := by
  obtain ⟨fuel, h⟩ := h
  rw [cells_one hu hd hok] at h
  obtain ⟨avs, h1, _, h3⟩ := hr _ _ _ h
  match avs, h1, h3 with
  | [x], h1, h3 => exact ⟨x, h1.2 0 _ _ rfl rfl, h3⟩
  | [], h1, _ => have := h1.1; simp at this
  | _ :: _ :: _, h1, _ => have := h1.1; simp at this

/-- Bytes. -/
theorem slv_bytes {xs : List AV} {n : Nat} (h : SlV false 1 (fun avs b => 1 ≤ b ∧ ∃ n, avs = [.int .u8 n] ∧ (Lit.int .u8 n).wf = true) xs n) : ∃ bs, xs = bytesAV bs := by
  induction h with
  | nil => exact ⟨[], rfl⟩
  | one avs x b xs n hv hg _ _ _ ih =>
    obtain ⟨_, m, rfl, hw⟩ := hv
    obtain ⟨bs, rfl⟩ := ih
    obtain ⟨b1, b2⟩ := Go.bounds_u8 hw
    simp only [Bool.false_eq_true, if_false, List.cons.injEq, and_true] at hg
    subst hg
    refine ⟨UInt8.ofNat m.toNat :: bs, ?_⟩
    simp only [bytesAV, List.map_cons, byteAV, List.cons.injEq, and_true, AV.int.injEq, true_and]
    simp; omega

theorem slv_len {g : Bool} {sz : Nat} {V : List AV → Nat → Prop} (hV : ∀ avs b, V avs b → 1 ≤ b) {xs : List AV} {n : Nat} (h : SlV g sz V xs n) : xs.length ≤ n := by
  induction h with
  | nil => exact Nat.le_refl _
  | one avs x b xs n hv _ _ _ _ ih => have := hV _ _ hv; simp; omega

theorem slv_ints {k : IntKind} {xs : List AV} {n : Nat} (h : SlV false 1 (fun avs b => 1 ≤ b ∧ ∃ n, avs = [.int k n] ∧ (Lit.int k n).wf = true) xs n) : ∃ zs : List Int, xs = zs.map (.int k) ∧ ∀ z ∈ zs, (Lit.int k z).wf = true := by
  induction h with
  | nil => exact ⟨[], rfl, by simp⟩
  | one avs x b xs n hv hg _ _ _ ih =>
    obtain ⟨_, m, rfl, hw⟩ := hv
    obtain ⟨zs, rfl, hz⟩ := ih
    simp only [Bool.false_eq_true, if_false, List.cons.injEq, and_true] at hg
    subst hg
    exact ⟨m :: zs, rfl, by intro z h; rcases List.mem_cons.1 h with rfl | h; exact hw; exact hz z h⟩
end
end Go.AL
