/- The abstract layer, part 6: conversions, slicing, composite values, look-ups. -/
import Derived.Test.YtpeaphpibnikcaaA5
namespace Go.AL
open Go.RowKit

section
variable {G : Nat → Option (List AV)} {B : Nat} {w0 w w' : World} {m m' : Im} {H H' : Heap} {P : Program}

theorem snd_un {o : UnOp} {x v : AV} {c : Value} (hx : Rel m x c) (hp : unF o x = some v) : ∃ cv, (Op.unary o c).run P w = .ok cv w ∧ Rel m v cv := by
  unfold unF at hp
  split at hp
  · cases hx
    split at hp
    · cases hp; exact ⟨_, by simp [Op.unary] <;> rfl, .bool _⟩
    · cases hp
  · cases hx
    split at hp
    · cases hp; exact ⟨_, by simp [Op.unary, Op.intArith] <;> rfl, .int _ _⟩
    · cases hp; exact ⟨_, by simp [Op.unary, Op.intBits] <;> rfl, .int _ _⟩
    · cases hp
  · cases hp

theorem snd_cvi {s d : TypeId} {k k' kn : IntKind} {n : Int} {v : AV} {c : Value} (h1 : P.underlying s = some (.int k')) (h2 : P.underlying d = some (.int k)) (hx : Rel m (.int kn n) c)
    (hp : pureF (.cvi k) [.int kn n] = some v) : ∃ cv, (convert s d c).run P w = .ok cv w ∧ Rel m v cv := by
  cases hp; cases hx
  exact ⟨_, by simp [convert, run_underlying h1, run_underlying h2, Conv.intToInt] <;> rfl, .int _ _⟩

theorem snd_cvs {s d : TypeId} {l : List UInt8} {v : AV} {c : Value} (h1 : P.underlying s = some .string) (h2 : P.underlying d = some .string) (hx : Rel m (.str l) c)
    (hp : pureF .cvs [.str l] = some v) : ∃ cv, (convert s d c).run P w = .ok cv w ∧ Rel m v cv := by
  cases hp
  cases hx with
  | str b => exact ⟨_, by simp [convert, run_underlying h1, run_underlying h2] <;> rfl, .str _⟩

theorem snd_cvc {s d : TypeId} {k kn : IntKind} {n : Int} {v : AV} {c : Value} (h1 : P.underlying s = some (.int k)) (h2 : P.underlying d = some .string) (hx : Rel m (.int kn n) c)
    (hp : pureF .cvc [.int kn n] = some v) : ∃ cv, (convert s d c).run P w = .ok cv w ∧ Rel m v cv := by
  cases hp; cases hx
  exact ⟨_, by simp [convert, run_underlying h1, run_underlying h2, Conv.intToString] <;> rfl, .str _⟩

/-- The bytes of cells. -/
theorem bytes_cells {F : Value → ByteArray → Sem (ForInStep ByteArray)} (hF : ∀ n s, F (.int .u8 n) s = pure (ForInStep.yield (s.push (UInt8.ofNat n.toNat)))) :
    ∀ {xs : List AV} {bs : List UInt8} {cs : List Value}, bytesOf xs = some bs → RelL m xs cs → ∀ acc : ByteArray,
    (forIn cs acc F).run P w = .ok ⟨acc.data ++ bs.toArray⟩ w
  | [], bs, cs, h, hr, acc => by
    simp [bytesOf] at h; subst h; rw [hr.unnil]; simp
  | x :: xs, bs, cs, h, hr, acc => by
    obtain ⟨y, ys, rfl, h1, h2⟩ := hr.uncons
    unfold bytesOf at h
    split at h
    · rename_i e; cases e
    · rename_i n r e
      cases e
      cases hb : bytesOf xs with
      | none => rw [hb] at h; cases h
      | some bs' =>
        rw [hb] at h; simp at h; subst h
        cases h1
        simp only [List.forIn_cons, Sem.run_bind]
        rw [hF, Sem.run_pure, Result.andThen_ok]
        simp only []
        rw [bytes_cells hF hb h2]
        congr 1
        simp [ByteArray.push]
    · cases h

theorem run_bytesToString {a : Addr} {n cap : Nat} {f : Nat → Value} {xs : List AV} {bs : List UInt8} (hf : ∀ j, j < n → w.cell? (a.add j) = some (f j)) (hl : xs.length = n)
    (hr : ∀ (i : Nat) (x : AV), xs[i]? = some x → Rel m x (f i)) (hb : bytesOf xs = some bs) :
    (Conv.bytesToString (.slice (some a) n cap)).run P w = .ok (.string ⟨bs.toArray⟩) w := by
  have h := run_loadCells_known (P := P) n a f w 0 #[] (fun j hj => by simpa using hf j hj)
  simp only [Nat.zero_add, Array.empty_append] at h
  simp only [Conv.bytesToString, Sem.run_bind, loadCells, h, Result.andThen_ok]
  rw [← Array.forIn_toList]
  rw [bytes_cells (m := m) (fun n s => rfl) hb ⟨by simp [hl], fun i x y hx hy => ?_⟩]
  · simp
  · rw [Array.toList_ofFn, List.getElem?_ofFn] at hy
    split at hy
    · have e := Option.some.inj hy; subst e; exact hr i x hx
    · cases hy

theorem snd_cvb {s d e : TypeId} {xs : List AV} {t : Tok} {v : AV} {c : Value} (hsat : Sat G B w0 m H w) (h1 : P.underlying s = some (.slice e)) (h2 : P.underlying d = some .string) (h3 : P.underlying e = some (.int .u8))
    (hx : Rel m (.sl xs t) c) (hp : pureF .cvb [.sl xs t] = some v) : ∃ cv, (convert s d c).run P w = .ok cv w ∧ Rel m v cv := by
  simp only [pureF] at hp
  cases hb : bytesOf xs with
  | none => rw [hb] at hp; cases hp
  | some bs =>
    rw [hb] at hp; cases hp
    refine ⟨.string ⟨bs.toArray⟩, ?_, by simpa using Rel.str (m := m) ⟨bs.toArray⟩⟩
    have hcv : ∀ c, (match c with | .slice .. => True | _ => False) → (convert s d c).run P w = (Conv.bytesToString c).run P w := by
      intro c hc
      split at hc
      · simp [convert, run_underlying h1, run_underlying h2, run_underlying h3]
      · cases hc
    have b1 : ∀ (i : Nat) (x : AV), xs[i]? = some x → x.cells.length = 1 ∧ x.cells = [x] := by
      intro i x hx
      have : ∀ (l : List AV) (bs : List UInt8), bytesOf l = some bs → ∀ x ∈ l, x.cells.length = 1 ∧ x.cells = [x] := by
        intro l
        induction l with
        | nil => intro bs _ x hx; cases hx
        | cons y l ih =>
          intro bs hb x hx
          unfold bytesOf at hb
          split at hb
          · rename_i e; cases e
          · rename_i n r e; cases e
            cases hb' : bytesOf l with
            | none => rw [hb'] at hb; cases hb
            | some q =>
              rcases List.mem_cons.1 hx with rfl | hx
              · exact ⟨rfl, rfl⟩
              · exact ih q hb' x hx
          · cases hb
      exact this xs bs hb x (List.mem_of_getElem? hx)
    cases hx with
    | slnil =>
      simp [bytesOf] at hb; subst hb
      rw [hcv _ trivial]; simp [Conv.bytesToString]; rfl
    | sl _ _ a len cap sz f ht hl hlc hcm hs hz hc ho hr hk =>
      rw [hcv _ trivial]
      refine run_bytesToString (m := m) (f := fun i => f i 0) (xs := xs) (fun j hj => ?_) hl.symm (fun i x hx => ?_) hb
      · have hj' : j < xs.length := by omega
        have hsz : sz = 1 := by rw [← hz j xs[j] (List.getElem?_eq_getElem hj')]; exact (b1 j _ (List.getElem?_eq_getElem hj')).1
        subst hsz
        rw [addr_add _ _ (hs (by intro h; subst h; simp at hj'))]
        have := hc j 0 hj' (by omega)
        simpa using hsat.cell _ _ _ this
      · exact hr i x 0 x hx (by rw [(b1 i x hx).2]; rfl)

theorem runes_cells {F : Value → ByteArray → Sem (ForInStep ByteArray)} (hF : ∀ n s, F (.int .i32 n) s = pure (ForInStep.yield (s ++ Utf8.encode n))) :
    ∀ {xs : List AV} {bs : List Int} {cs : List Value}, runesOf xs = some bs → RelL m xs cs → ∀ acc : ByteArray,
    (forIn cs acc F).run P w = .ok ⟨acc.data ++ (encL bs).toArray⟩ w
  | [], bs, cs, h, hr, acc => by
    simp [runesOf] at h; subst h; rw [hr.unnil]; simp [encL]
  | x :: xs, bs, cs, h, hr, acc => by
    obtain ⟨y, ys, rfl, h1, h2⟩ := hr.uncons
    unfold runesOf at h
    split at h
    · rename_i e; cases e
    · rename_i n r e
      cases e
      cases hb : runesOf xs with
      | none => rw [hb] at h; cases h
      | some bs' =>
        rw [hb] at h; simp at h; subst h
        cases h1
        simp only [List.forIn_cons, Sem.run_bind]
        rw [hF, Sem.run_pure, Result.andThen_ok]
        simp only []
        rw [runes_cells hF hb h2]
        congr 1
        simp only [encL, List.flatMap_cons]
        congr 1
        rw [← Array.toList_inj]
        simp
    · cases h

theorem snd_cvr {s d e : TypeId} {xs : List AV} {t : Tok} {v : AV} {c : Value} (hsat : Sat G B w0 m H w) (h1 : P.underlying s = some (.slice e)) (h2 : P.underlying d = some .string) (h3 : P.underlying e = some (.int .i32))
    (hx : Rel m (.sl xs t) c) (hp : pureF .cvr [.sl xs t] = some v) : ∃ cv, (convert s d c).run P w = .ok cv w ∧ Rel m v cv := by
  simp only [pureF] at hp
  cases hb : runesOf xs with
  | none => rw [hb] at hp; cases hp
  | some bs =>
    rw [hb] at hp; cases hp
    refine ⟨.string ⟨(encL bs).toArray⟩, ?_, by simpa using Rel.str (m := m) ⟨(encL bs).toArray⟩⟩
    have hcv : ∀ c, (match c with | .slice .. => True | _ => False) → (convert s d c).run P w = (Conv.runesToString c).run P w := by
      intro c hc
      split at hc
      · simp [convert, run_underlying h1, run_underlying h2, run_underlying h3]
      · cases hc
    have b1 : ∀ (l : List AV) (bs : List Int), runesOf l = some bs → ∀ x ∈ l, x.cells.length = 1 ∧ x.cells = [x] := by
      intro l
      induction l with
      | nil => intro bs _ x hx; cases hx
      | cons y l ih =>
        intro bs hb x hx
        unfold runesOf at hb
        split at hb
        · rename_i e; cases e
        · rename_i n r e; cases e
          cases hb' : runesOf l with
          | none => rw [hb'] at hb; cases hb
          | some q =>
            rcases List.mem_cons.1 hx with rfl | hx
            · exact ⟨rfl, rfl⟩
            · exact ih q hb' x hx
        · cases hb
    cases hx with
    | slnil =>
      simp [runesOf] at hb; subst hb
      rw [hcv _ trivial]; simp [Conv.runesToString, encL]; rfl
    | sl _ _ a len cap sz f ht hl hlc hcm hs hz hc ho hr hk =>
      rw [hcv _ trivial]
      have hcell : ∀ j, j < len → w.cell? (a.add j) = some (f j 0) := by
        intro j hj
        have hj' : j < xs.length := by omega
        have hsz : sz = 1 := by rw [← hz j xs[j] (List.getElem?_eq_getElem hj')]; exact (b1 xs bs hb _ (List.getElem_mem hj')).1
        subst hsz
        rw [addr_add _ _ (hs (by intro h; subst h; simp at hj'))]
        have := hc j 0 hj' (by omega)
        simpa using hsat.cell _ _ _ this
      have h := run_loadCells_known (P := P) len a (fun i => f i 0) w 0 #[] (fun j hj => by simpa using hcell j hj)
      simp only [Nat.zero_add, Array.empty_append] at h
      simp only [Conv.runesToString, Sem.run_bind, loadCells, h, Result.andThen_ok]
      rw [← Array.forIn_toList]
      rw [runes_cells (m := m) (fun n s => rfl) hb ⟨by simp [hl], fun i x y hx hy => ?_⟩]
      · simp
      · rw [Array.toList_ofFn, List.getElem?_ofFn] at hy
        split at hy
        · have e := Option.some.inj hy; subst e
          exact hr i x 0 x hx (by rw [(b1 xs bs hb x (List.mem_of_getElem? hx)).2]; rfl)
        · cases hy

theorem snd_mkif {t : TypeId} {d : TypeDesc} {x v : AV} {c : Value} (h1 : P.underlying t = some d) (h2 : ∀ ms, d ≠ .interface ms) (hx : Rel m x c) (hp : pureF (.mkif t) [x] = some v) :
    ∃ cv, (Instr.makeInterface t c).run P w = .ok cv w ∧ Rel m v cv := by
  simp only [pureF] at hp
  split at hp
  · cases hp
  · rename_i hne
    cases hp
    refine ⟨.iface t c, ?_, .iface t _ c hx hne⟩
    simp only [Instr.makeInterface, Sem.run_bind, run_underlying h1, Result.andThen_ok]
    cases d <;> first | (exact absurd rfl (h2 _)) | rfl

theorem snd_ext {i : Nat} {vs : List AV} {v : AV} {c : Value} (hx : Rel m (.tup vs) c) (hp : pureF (.ext i) [.tup vs] = some v) : ∃ cv, (Instr.extract c i).run P w = .ok cv w ∧ Rel m v cv := by
  simp only [pureF] at hp
  cases hx with
  | tup _ va hl hr =>
    have hlt : i < va.size := by rw [← hl]; exact (List.getElem?_eq_some_iff.1 hp).1
    have e : va[i]? = some va[i] := Array.getElem?_eq_getElem hlt
    exact ⟨va[i], by simp [Instr.extract, e], hr i v _ hp e⟩

theorem snd_tas {x v : AV} {c : Value} {xt t : TypeId} {ok : Bool} {z : AV} {d : TypeDesc} (h1 : P.underlying t = some d) (h2 : ∀ ms, d ≠ .interface ms) (hz : ok = true → zero? P t = some z)
    (hx : Rel m x c) (hp : pureF (.tas (some t) z ok) [x] = some v) : ∃ cv, (Instr.typeAssert c xt t ok).run P w = .ok cv w ∧ Rel m v cv := by
  have tup2 : ∀ {a : AV} {ca : Value} (b : Bool), Rel m a ca → Rel m (.tup [a, .bool b]) (.tuple #[ca, .bool b]) := by
    intro a ca b h
    refine .tup _ _ rfl (fun i x y hx hy => ?_)
    match i with
    | 0 => simp at hx hy; subst hx hy; exact h
    | 1 => simp at hx hy; subst hx hy; exact .bool b
    | n + 2 => simp at hx
  simp only [pureF] at hp
  split at hp
  · rename_i t' u y e1
    have e := Option.some.inj e1; subst e
    cases hx with
    | iface _ _ cv h hn =>
      split at hp
      · rename_i hut; subst hut
        cases hp
        cases ok with
        | true => exact ⟨.tuple #[cv, .bool true], by simp only [Instr.typeAssert, Sem.run_bind, run_underlying h1, Result.andThen_ok]; cases d <;> first | (exact absurd rfl (h2 _)) | simp, tup2 true h⟩
        | false => exact ⟨cv, by simp only [Instr.typeAssert, Sem.run_bind, run_underlying h1, Result.andThen_ok]; cases d <;> first | (exact absurd rfl (h2 _)) | simp, h⟩
      · rename_i hut
        split at hp
        · rename_i hok; subst hok
          cases hp
          obtain ⟨cz, hcz, hrz⟩ := zero?_run (hz rfl) w
          exact ⟨.tuple #[cz, .bool false], by simp only [Instr.typeAssert, Sem.run_bind, run_underlying h1, Result.andThen_ok]; cases d <;> first | (exact absurd rfl (h2 _)) | simp [hut, hcz], tup2 false (hrz m)⟩
        · cases hp
  · rename_i t' e1
    cases hx
    split at hp
    · rename_i hok; subst hok
      cases hp
      obtain ⟨cz, hcz, hrz⟩ := zero?_run (hz rfl) w
      exact ⟨.tuple #[cz, .bool false], by simp only [Instr.typeAssert, Sem.run_bind, run_underlying h1, Result.andThen_ok]; cases d <;> first | (exact absurd rfl (h2 _)) | simp [hcz], tup2 false (hrz m)⟩
    · cases hp
  · rename_i e; cases e
  · rename_i e; cases e
  · cases hp

theorem snd_len {t ty : TypeId} {kd : Nat} {d : TypeDesc} {x v : AV} {c : Value} (h1 : P.underlying t = some d) (h2 : (kd = 0 ∧ d = .string) ∨ (kd = 1 ∧ ∃ e, d = .slice e) ∨ (kd = 2 ∧ ∃ k e, d = .map k e))
    (hx : Rel m x c) (hp : pureF (.len kd) [x] = some v) : ∃ cv, (Builtin.len_ #[t] ty #[c]).run P w = .ok cv w ∧ Rel m v cv := by
  simp only [pureF] at hp
  split at hp
  · cases hp
    obtain ⟨_, rfl⟩ : 0 = 0 ∧ d = .string := by rcases h2 with h | ⟨h, _⟩ | ⟨h, _⟩ <;> first | exact h | cases h
    cases hx with
    | str s => exact ⟨_, by simp [Builtin.len_, run_underlying h1] <;> rfl, by have := Rel.int (m := m) .i64 (s.size : Int); simpa [goInt] using this⟩
  · cases hp
    obtain ⟨_, e, rfl⟩ : 1 = 1 ∧ ∃ e, d = .slice e := by rcases h2 with ⟨h, _⟩ | h | ⟨h, _⟩ <;> first | exact h | cases h
    cases hx with
    | slnil => exact ⟨_, by simp [Builtin.len_, run_underlying h1] <;> rfl, .int _ _⟩
    | sl _ _ a len cap sz f ht hl => subst hl; exact ⟨_, by simp [Builtin.len_, run_underlying h1] <;> rfl, .int _ _⟩
  · cases hp
    obtain ⟨_, e, rfl⟩ : 1 = 1 ∧ ∃ e, d = .slice e := by rcases h2 with ⟨h, _⟩ | h | ⟨h, _⟩ <;> first | exact h | cases h
    cases hx <;> exact ⟨_, by simp [Builtin.len_, run_underlying h1] <;> rfl, .int _ _⟩
  · cases hp
    obtain ⟨_, k, e, rfl⟩ : 2 = 2 ∧ ∃ k e, d = .map k e := by rcases h2 with ⟨h, _⟩ | ⟨h, _⟩ | h <;> first | exact h | cases h
    cases hx; exact ⟨_, by simp [Builtin.len_, run_underlying h1] <;> rfl, .int _ _⟩
  · cases hp

theorem snd_min : ∀ {xs : List AV} {x v : AV} {c : Value} {cs : List Value}, Rel m x c → RelL m xs cs → minF x xs = some v → ∃ cv, (cs.foldlM Builtin.min2 c : Sem Value).run P w = .ok cv w ∧ Rel m v cv
  | [], x, v, c, cs, hx, hr, h => by
    rw [hr.unnil]; simp [minF] at h; subst h; exact ⟨c, by simp, hx⟩
  | y :: xs, x, v, c, cs, hx, hr, h => by
    obtain ⟨d, ds, rfl, hy, hr'⟩ := hr.uncons
    unfold minF at h
    split at h
    · rename_i e; cases e
    · rename_i k a k' b r e
      cases e
      cases hx; cases hy
      obtain ⟨cv, h1, h2⟩ := snd_min (.int k (if b < a then b else a)) hr' h
      exact ⟨cv, by simp [List.foldlM_cons, Builtin.min2, h1], h2⟩
    · cases h

theorem snd_max : ∀ {xs : List AV} {x v : AV} {c : Value} {cs : List Value}, Rel m x c → RelL m xs cs → maxF x xs = some v → ∃ cv, (cs.foldlM Builtin.max2 c : Sem Value).run P w = .ok cv w ∧ Rel m v cv
  | [], x, v, c, cs, hx, hr, h => by
    rw [hr.unnil]; simp [maxF] at h; subst h; exact ⟨c, by simp, hx⟩
  | y :: xs, x, v, c, cs, hx, hr, h => by
    obtain ⟨d, ds, rfl, hy, hr'⟩ := hr.uncons
    unfold maxF at h
    split at h
    · rename_i e; cases e
    · rename_i k a k' b r e
      cases e
      cases hx; cases hy
      obtain ⟨cv, h1, h2⟩ := snd_max (.int k (if b > a then b else a)) hr' h
      exact ⟨cv, by simp [List.foldlM_cons, Builtin.max2, h1], h2⟩
    · cases h

theorem setAll_get (o : Nat) : ∀ (l : List Value) (k : Nat) (ca : Array Value) (i : Nat),
    ((l.zipIdx k).foldl (fun (cs : Array Value) (p : Value × Nat) => cs.setIfInBounds (o + p.2) p.1) ca)[i]? = if i < ca.size then (if o + k ≤ i ∧ i < o + k + l.length then l[i - (o + k)]? else ca[i]?) else none
  | [], k, ca, i => by
    simp only [List.zipIdx_nil, List.foldl_nil, List.length_nil]
    have hf : ¬ (o + k ≤ i ∧ i < o + k + 0) := by omega
    simp only [hf, if_false]
    split
    · rfl
    · exact Array.getElem?_eq_none (by omega)
  | c :: l, k, ca, i => by
    simp only [List.zipIdx_cons, List.foldl_cons]
    rw [setAll_get o l (k + 1)]
    simp only [Array.size_setIfInBounds]
    by_cases hi : i < ca.size
    · simp only [hi, if_true]
      by_cases h1 : o + (k + 1) ≤ i ∧ i < o + (k + 1) + l.length
      · rw [if_pos h1, if_pos (by simp; omega)]
        rw [show i - (o + k) = (i - (o + (k + 1))) + 1 by omega]
        simp
      · rw [if_neg h1]
        by_cases h2 : i = o + k
        · subst h2
          rw [if_pos (by simp)]
          simp [hi]
        · rw [if_neg (by simp; omega)]
          rw [Array.getElem?_setIfInBounds_ne (by omega)]
    · simp [hi]

theorem splice_get (vs : List AV) (o : Nat) (xs : List AV) (h : o + xs.length ≤ vs.length) (i : Nat) :
    (splice vs o xs)[i]? = if i < vs.length then (if o ≤ i ∧ i < o + xs.length then xs[i - o]? else vs[i]?) else none := by
  unfold splice
  have hlt : (vs.take o).length = o := by simp; omega
  rcases Nat.lt_or_ge i o with h1 | h1
  · rw [List.append_assoc, List.getElem?_append_left (by omega), if_pos (by omega), if_neg (by omega), List.getElem?_take, if_pos h1]
  · rcases Nat.lt_or_ge i (o + xs.length) with h2 | h2
    · rw [List.append_assoc, List.getElem?_append_right (by omega), hlt, List.getElem?_append_left (by omega), if_pos (by omega), if_pos ⟨h1, h2⟩]
    · rw [List.getElem?_append_right (by simp [hlt]; omega), List.getElem?_drop]
      simp only [List.length_append, hlt]
      have hf : ¬ (o ≤ i ∧ i < o + xs.length) := by omega
      rw [show o + xs.length + (i - (o + xs.length)) = i by omega]
      simp only [hf, if_false]
      split
      · rfl
      · exact List.getElem?_eq_none (by omega)

theorem splice_length (vs : List AV) (o : Nat) (xs : List AV) (h : o + xs.length ≤ vs.length) : (splice vs o xs).length = vs.length := by
  unfold splice; simp; omega

theorem rel_splice {z : List AV} {ca : Array Value} {x : AV} {c : Value} {o : Nat} (hz : Rel m (.agg z) (.agg ca)) (hx : Rel m x c) (h0 : 0 < x.cells.length) (hle : o + x.cells.length ≤ z.length) :
    Rel m (.agg (splice z o x.cells)) (.agg (c.cells.zipIdx.foldl (fun cs (c, j) => cs.setIfInBounds (o + j) c) ca)) := by
  obtain ⟨g1, g2, g3⟩ := hx.cells_of h0
  have hget : ∀ i, (c.cells.zipIdx.foldl (fun (cs : Array Value) (p : Value × Nat) => cs.setIfInBounds (o + p.2) p.1) ca)[i]? = if i < ca.size then (if o ≤ i ∧ i < o + c.cells.size then c.cells[i - o]? else ca[i]?) else none := by
    intro i
    rw [← Array.foldl_toList, Array.toList_zipIdx]
    have := setAll_get o c.cells.toList 0 ca i
    simpa using this
  cases hz with
  | agg _ _ hl ho hr =>
    have hsize : (c.cells.zipIdx.foldl (fun (cs : Array Value) (p : Value × Nat) => cs.setIfInBounds (o + p.2) p.1) ca).size = ca.size := by
      have a1 := hget ca.size
      have a2 : ∀ i, i < ca.size → i < (c.cells.zipIdx.foldl (fun (cs : Array Value) (p : Value × Nat) => cs.setIfInBounds (o + p.2) p.1) ca).size := by
        intro i hi
        have := hget i
        rw [if_pos hi] at this
        rcases Nat.lt_or_ge i (c.cells.zipIdx.foldl (fun (cs : Array Value) (p : Value × Nat) => cs.setIfInBounds (o + p.2) p.1) ca).size with h | h
        · exact h
        · rw [Array.getElem?_eq_none h] at this
          split at this
          · rw [Array.getElem?_eq_getElem (by omega)] at this; cases this
          · rw [Array.getElem?_eq_getElem hi] at this; cases this
      rw [if_neg (by omega)] at a1
      have a3 := Array.getElem?_eq_none_iff.1 a1
      rcases Nat.eq_zero_or_pos ca.size with h | h
      · omega
      · have := a2 (ca.size - 1) (by omega); omega
    refine .agg _ _ (by rw [splice_length _ _ _ hle]; exact hl.trans hsize.symm) (fun i y hy => ?_) (fun i x' y hx' hy => ?_)
    · rw [hget] at hy
      split at hy
      · split at hy
        · exact g3 _ _ hy
        · exact ho _ _ hy
      · cases hy
    · rw [hget] at hy
      have hiz : i < z.length := by
        have := (List.getElem?_eq_some_iff.1 hx').1
        rw [splice_length _ _ _ hle] at this; exact this
      rw [splice_get _ _ _ hle, if_pos hiz] at hx'
      split at hy
      · split at hy
        · rw [if_pos (by omega)] at hx'; exact g2 _ _ _ hx' hy
        · rw [if_neg (by omega)] at hx'; exact hr _ _ _ hx' hy
      · cases hy

/-- What 'build' does with the cells of a literal. -/
theorem snd_fill : ∀ {ps : List (Nat × Value)} {pl : List (Nat × Nat)} {z xs cs : List AV} {ca : Array Value} {place : Nat → Option (Nat × Nat)},
    Rel m (.agg z) (.agg ca) → ps.length = pl.length → (∀ (i : Nat) (p : Nat × Value) (q : Nat × Nat), ps[i]? = some p → pl[i]? = some q → place p.1 = some q) → RelL m xs (ps.map Prod.snd) → fillL z pl xs = some cs →
    ∃ cb, Instr.fill place ca ps = some cb ∧ Rel m (.agg cs) (.agg cb)
  | [], pl, z, xs, cs, ca, place, hz, hl, hp, hr, h => by
    have : pl = [] := by cases pl with | nil => rfl | cons _ _ => simp at hl
    subst this
    have : xs = [] := by have := hr.1; simpa using this
    subst this
    simp [fillL] at h; subst h
    exact ⟨ca, by simp [Instr.fill], hz⟩
  | (i, c) :: ps, pl, z, xs, cs, ca, place, hz, hl, hp, hr, h => by
    cases pl with
    | nil => simp at hl
    | cons q pl =>
      cases xs with
      | nil => have := hr.1; simp at this
      | cons x xs =>
        obtain ⟨d, ds, e, hx, hr'⟩ := hr.uncons
        simp only [List.map_cons, List.cons.injEq] at e
        obtain ⟨rfl, rfl⟩ := e
        obtain ⟨o, s⟩ := q
        unfold fillL at h
        split at h
        · rename_i hc
          obtain ⟨h1, h2, h3⟩ := hc
          have hpl := hp 0 _ _ rfl rfl
          simp only at hpl
          obtain ⟨g1, g2, g3⟩ := hx.cells_of (by omega)
          have hstep := rel_splice hz hx (o := o) (by omega) (by omega)
          have hsz : ca.size = z.length := by cases hz; omega
          obtain ⟨cb, hcb, hrb⟩ := snd_fill (place := place) hstep (by simpa using hl) (fun i p q hpi hqi => hp (i + 1) p q (by simpa using hpi) (by simpa using hqi)) hr' h
          refine ⟨cb, ?_, hrb⟩
          unfold Instr.fill
          rw [hpl]
          simp only []
          rw [if_neg (by simp; omega)]
          exact hcb
        · cases h

end
end Go.AL
