/- strings.Builder, abstractly: WriteString and String by their contracts over the program's own text. -/
import Derived.Test.YtijioomcpecdhaaDoorS8
import Derived.Test.YtijioomcpecdhaaDoorS3
set_option linter.unusedSimpArgs false
set_option linter.unusedVariables false
set_option maxRecDepth 100000
set_option maxHeartbeats 4000000
namespace Go.AL.Fun
open Go Go.AL
/-- A builder at b that holds bs: its objects. -/
def Bld (b : Nat) (bs : List UInt8) (A : Heap) : Prop :=
  ∃ p, (p = .pointer none ∨ p = .pointer (some ⟨b, 0, none⟩)) ∧ ((bs = [] ∧ A = [(b, .raw 71 [p, .slice none 0 0])]) ∨
    (bs ≠ [] ∧ ∃ g cap cur, A = [(b, .raw 71 [p, .slice (some ⟨g, 0, none⟩) bs.length cap]), (g, .raw 5 cur)] ∧ bs.length ≤ cap ∧ cap ≤ maxLen ∧ cur.length = cap ∧ cur.take bs.length = Lib.byteCells bs))
theorem Bld.fresh (b : Nat) : Bld b [] [(b, .raw 71 [.pointer none, .slice none 0 0])] := ⟨_, .inl rfl, .inl ⟨rfl, rfl⟩⟩
def c54 (xs : List AV) (H : Heap) (K : Kv) : Prop := ∃ (b : Nat) (bs s : List UInt8) (A R : Heap), xs = [.ptr b 0, .str s] ∧ Bld b bs A ∧ H.Perm (A ++ R) ∧ s ≠ [] ∧ bs.length + s.length ≤ 1099511627776 ∧
  ∀ A' H', Bld b (bs ++ s) A' → H'.Perm (A' ++ R) → H'.keys.Nodup → K.ap (.tup [.int .i64 s.length, .nili]) H'
def c55 (xs : List AV) (H : Heap) (K : Kv) : Prop := ∃ (b : Nat) (bs : List UInt8) (A R : Heap), xs = [.ptr b 0] ∧ Bld b bs A ∧ H.Perm (A ++ R) ∧ (R.keys.Nodup → K.ap (.str bs) R)
end Go.AL.Fun
namespace Go.Proofs.YtijioomcpecdhaaDoor.lib
open Go.AL Go.AL.Fun Go.RowKit Go.Proofs

def wsLayRen : Go.Shelf.Ren := ⟨fun x => match x with | 166 => 54 | 240 => 82 | 276 => 106 | n => n, fun x => match x with | 0 => 0 | 3 => 3 | 4 => 4 | 5 => 5 | 9 => 9 | 20 => 20 | 37 => 29 | 70 => 69 | 72 => 71 | 75 => 73 | 80 => 76 | 164 => 127 | n => n, fun n => n⟩
theorem wsLay : Lays.n166 Tryd.prog wsLayRen where
  mixed := by kernel_rfl
  f166 := Tryd.func54.trans (congrArg some (by kernel_rfl))
  f240 := Tryd.func82.trans (congrArg some (by kernel_rfl))
  f276 := Tryd.func106.trans (congrArg some (by kernel_rfl))
  t0 := Tryd.underlying0
  a0 := Tryd.isAgg0
  z0 := Tryd.sizeOf0
  v0 := Tryd.zeroValue0
  t3 := Tryd.underlying3
  a3 := Tryd.isAgg3
  z3 := Tryd.sizeOf3
  v3 := Tryd.zeroValue3
  t4 := Tryd.underlying4
  a4 := Tryd.isAgg4
  z4 := Tryd.sizeOf4
  v4 := Tryd.zeroValue4
  t9 := Tryd.underlying9
  a9 := Tryd.isAgg9
  z9 := Tryd.sizeOf9
  v9 := Tryd.zeroValue9
  t20 := Tryd.underlying20
  a20 := Tryd.isAgg20
  z20 := Tryd.sizeOf20
  v20 := Tryd.zeroValue20
  t37 := Tryd.underlying29
  a37 := Tryd.isAgg29
  z37 := Tryd.sizeOf29
  v37 := Tryd.zeroValue29
  t70 := Tryd.underlying69
  a70 := Tryd.isAgg69
  z70 := Tryd.sizeOf69
  v70 := Tryd.zeroValue69
  t72 := Tryd.underlying71
  a72 := Tryd.isAgg71
  z72 := Tryd.sizeOf71
  v72 := Tryd.zeroValue71
  t75 := Tryd.underlying73
  a75 := Tryd.isAgg73
  z75 := Tryd.sizeOf73
  v75 := Tryd.zeroValue73
  t164 := Tryd.underlying127
  a164 := Tryd.isAgg127
  z164 := Tryd.sizeOf127
  v164 := Tryd.zeroValue127
def stLayRen : Go.Shelf.Ren := ⟨fun x => match x with | 169 => 55 | n => n, fun x => match x with | 0 => 0 | 3 => 3 | 5 => 5 | 9 => 9 | 37 => 29 | 70 => 69 | 72 => 71 | 127 => 97 | n => n, fun n => n⟩
theorem stLay : Lays.n169 Tryd.prog stLayRen where
  mixed := by kernel_rfl
  f169 := Tryd.func55.trans (congrArg some (by kernel_rfl))
  t0 := Tryd.underlying0
  a0 := Tryd.isAgg0
  z0 := Tryd.sizeOf0
  v0 := Tryd.zeroValue0
  t3 := Tryd.underlying3
  a3 := Tryd.isAgg3
  z3 := Tryd.sizeOf3
  v3 := Tryd.zeroValue3
  t9 := Tryd.underlying9
  a9 := Tryd.isAgg9
  z9 := Tryd.sizeOf9
  v9 := Tryd.zeroValue9
  t37 := Tryd.underlying29
  a37 := Tryd.isAgg29
  z37 := Tryd.sizeOf29
  v37 := Tryd.zeroValue29
  t70 := Tryd.underlying69
  a70 := Tryd.isAgg69
  z70 := Tryd.sizeOf69
  v70 := Tryd.zeroValue69
  t72 := Tryd.underlying71
  a72 := Tryd.isAgg71
  z72 := Tryd.sizeOf71
  v72 := Tryd.zeroValue71
  t127 := Tryd.underlying97
  a127 := Tryd.isAgg97
  z127 := Tryd.sizeOf97
  v127 := Tryd.zeroValue97
theorem bX72 {ρ : Go.Shelf.Ren} (h : ρ.t 72 = 71) : Builder.X72 Tryd.prog ρ where
  sizeBuilder := by rw [h]; kernel_rfl
  liesBuilder := by rw [h]; kernel_rfl
theorem bX {ρ : Go.Shelf.Ren} (h : ρ.t 72 = 71) (h5 : ρ.t 5 = 5) : Builder.Extra Tryd.prog ρ where
  toX72 := bX72 h
  t5 := by rw [h5]; exact Tryd.underlying5
  a5 := by rw [h5]; exact Tryd.isAgg5
  z5 := by rw [h5]; exact Tryd.sizeOf5
  v5 := by rw [h5]; exact Tryd.zeroValue5
  infoByte := by rw [h5]; kernel_rfl
  cellsByte := by rw [h5]; kernel_rfl
  sizeByte := by rw [h5]; kernel_rfl
  neB5 := by rw [h, h5]; decide
section
variable {G : Nat → Option (List AV)} {B : Nat} {w0 w w' : World} {m : Im} {H R A : Heap}

theorem bat_of {ρ : Go.Shelf.Ren} (h72 : ρ.t 72 = 71) (h5 : ρ.t 5 = 5) {b : Nat} {bs : List UInt8} (hb : Bld b bs A) (hs : Sat G B w0 m H w) (hp : H.Perm (A ++ R)) :
    ∃ p v, BAt ρ B b p v (Lib.byteCells bs) w ∧ (∀ o, m.cell b o = none) ∧ b ∉ Heap.keys R ∧ R.keys.Nodup ∧ ((bs = [] ∧ v = .slice none 0 0) ∨ (bs ≠ [] ∧ ∃ g n cap, v = .slice (some ⟨g, 0, none⟩) n cap ∧ g ≠ b ∧ g ∉ Heap.keys R ∧ ∀ o, m.cell g o = none)) := by
  have hs2 := hs.perm hp
  obtain ⟨p, hp2, ⟨rfl, rfl⟩ | ⟨hne, g, cap, cur, rfl, h1, h2, h3, h4⟩⟩ := hb
  · obtain ⟨q1, q2, q3, q4⟩ := hs2.obj b _ List.mem_cons_self
    have hn := hs2.nodup
    simp only [List.cons_append, List.nil_append, List.map_cons, List.nodup_cons] at hn
    exact ⟨p, .slice none 0 0, ⟨q1, by rw [h72]; exact q3, ⟨rfl, .inl ⟨rfl, rfl⟩⟩, by simp [Value.ownBlock], hp2⟩, q4, hn.1, hn.2, .inl ⟨rfl, rfl⟩⟩
  · obtain ⟨q1, q2, q3, q4⟩ := hs2.obj b _ List.mem_cons_self
    obtain ⟨r1, r2, r3, r4⟩ := hs2.obj g _ (List.mem_cons_of_mem _ List.mem_cons_self)
    have hn := hs2.nodup
    simp only [List.cons_append, List.nil_append, List.map_cons, List.nodup_cons, List.mem_cons, not_or] at hn
    refine ⟨p, .slice (some ⟨g, 0, none⟩) bs.length cap, ⟨q1, by rw [h72]; exact q3, ⟨by rw [Nat.mul_one], .inr ⟨g, cap, cur.toArray, by rw [Lib.byteCells_length], r1, by rw [h5]; exact r3, by rw [Lib.byteCells_length]; exact h1, h2, by simpa using h3, by rw [Lib.byteCells_length, Nat.mul_one]; exact h4⟩⟩, by simp [Value.ownBlock]; exact fun e => hn.1.1 e.symm, hp2⟩, q4, hn.1.2, hn.2.2, .inr ⟨hne, g, _, cap, rfl, fun e => hn.1.1 e.symm, hn.2.1, r4⟩⟩

theorem sat_some (hs : Sat G B w0 m H w) (hp : H.Perm (A ++ R)) {A' : Heap} (hB : Below B w w') (X : List Nat) (hX : ∀ k, k ∉ X → k < w.heap.size → w'.heap[k]? = w.heap[k]?) (hXm : ∀ k, k ∈ X → ∀ o, m.cell k o = none) (hXs : ∀ k n, k ∈ X → m.size k = some n → ∃ cs e fr, w'.heap[k]? = some (.cells cs e fr) ∧ cs.size = n)
    (hXR : ∀ k, k ∈ X → k ∉ Heap.keys R) (hA : ∀ id o, (id, o) ∈ A' → B ≤ id ∧ id < w'.heap.size ∧ o.ok m w' id) (hnd : (A' ++ R).keys.Nodup) : Sat G B w0 m (A' ++ R) w' := by
  have hs2 := hs.perm hp
  refine ⟨hs.below.trans hB, Nat.le_trans hs.base hB.size, fun b o v h => ?_, fun b n h => ?_, hnd, fun id o hm => ?_, hs.glob⟩
  · have hn : b ∉ X := fun hx => by have := hXm b hx o; rw [this] at h; cases h
    have h2 := hs.cell b o v h
    rw [World.cell?_of_block (w := w) (a := ⟨b, o, none⟩) (hX b hn (hs.cell_lt h))]
    exact h2
  · by_cases hx : b ∈ X
    · exact hXs b n hx h
    · obtain ⟨cs, e, fr, h1, h2⟩ := hs.size b n h
      exact ⟨cs, e, fr, by rw [hX b hx (hs.size_lt h)]; exact h1, h2⟩
  · rcases List.mem_append.1 hm with hm | hm
    · exact hA id o hm
    · obtain ⟨q1, q2, q3⟩ := hs2.obj id o (List.mem_append.2 (.inr hm))
      have hx : id ∉ X := fun h => hXR id h (List.mem_map.2 ⟨_, hm, rfl⟩)
      exact ⟨q1, Nat.lt_of_lt_of_le q2 hB.size, AObj.ok_of_block (.refl m) (hX id hx q2) (fun _ => rfl) q3⟩

theorem rel_ptr {m : Im} {b o : Nat} {v : Value} (h : Rel m (.ptr b o) v) : v = .pointer (some ⟨b, o, none⟩) := by cases h; rfl
theorem h54 : ∀ xs H K, c54 xs H ⟨K⟩ → ACalls G Tryd.prog 54 xs H K := by
  rintro xs H K ⟨b, bs, s, A, R, rfl, hb, hp, h0, hlen, k⟩
  refine ⟨⟨Tryd.f54, Tryd.func54, by kernel_rfl, by kernel_rfl⟩, fun B w0 m w cargs hs hr => ?_⟩
  obtain ⟨v1, r1, e1, h1, hr⟩ := hr.uncons
  obtain ⟨v2, r2, e2, h2, hr⟩ := hr.uncons
  have e3 := hr.unnil
  subst e2 e3
  obtain rfl : cargs = #[v1, v2] := by cases cargs; simp_all
  obtain rfl := rel_ptr h1
  obtain ⟨s1, rfl, rfl⟩ := rel_str h2
  obtain ⟨p, v, hat, hmb, hbR, hnR, hv⟩ := bat_of (ρ := wsLayRen) rfl rfl hb hs hp
  have hsz : s1.data.toList.length = s1.size := by simp
  have hs0 : s1.size ≠ 0 := by rw [← hsz]; intro e; exact h0 (List.length_eq_zero_iff.1 e)
  have hbl := Lib.byteCells_length bs
  refine (writeString wsLay (bX rfl rfl) s1 hat hs0 (by omega) hs.base).mono ?_
  rintro e w' ⟨rfl, v', hat', hB, hG⟩
  have hbw : w'.heap[b]? = some (.cells #[.pointer (some ⟨b, 0, none⟩), v'] 71 (0, 0)) := hat'.at_
  have hbold : w.heap[b]? = some (.cells #[p, v] 71 (0, 0)) := hat.at_
  have hown := hat'.own
  have hcells : Lib.byteCells bs ++ Lib.strCells s1 = Lib.byteCells (bs ++ s1.data.toList) := by rw [Lib.strCells_eq, ← Lib.byteCells_append]
  have hne : bs ++ s1.data.toList ≠ [] := by simp [h0]
  rw [hcells, Lib.byteCells_length] at hown
  obtain ⟨g, cap, cur, rfl, hBg, hg, hnc, hcm, hcs, htake⟩ : ∃ g cap cur, v' = .slice (some ⟨g, 0, none⟩) (bs ++ s1.data.toList).length cap ∧ B ≤ g ∧ w'.heap[g]? = some (.cells cur 5 (0, 0)) ∧ (bs ++ s1.data.toList).length ≤ cap ∧ cap ≤ maxLen ∧ cur.size = cap * 1 ∧ cur.toList.take ((bs ++ s1.data.toList).length * 1) = Lib.byteCells (bs ++ s1.data.toList) := by
    rcases hown.2 with ⟨_, hz⟩ | ⟨g, cap, cur, hv, r⟩
    · exact absurd (List.length_eq_zero_iff.1 hz) hne
    · exact ⟨g, cap, cur, hv, r⟩
  have hgb : g ≠ b := fun e => hat'.ne (by rw [e]; rfl)
  have hblt : b < w'.heap.size := (Array.getElem?_eq_some_iff.1 hbw).1
  have hglt : g < w'.heap.size := (Array.getElem?_eq_some_iff.1 hg).1
  have hbld : Bld b (bs ++ s1.data.toList) [(b, .raw 71 [.pointer (some ⟨b, 0, none⟩), .slice (some ⟨g, 0, none⟩) (bs ++ s1.data.toList).length cap]), (g, .raw 5 cur.toList)] :=
    ⟨_, .inr rfl, .inr ⟨hne, g, cap, cur.toList, rfl, hnc, hcm, by simpa using hcs, by rw [Nat.mul_one] at htake; exact htake⟩⟩
  have hsame : ∀ k n, m.size k = some n → ∀ cs : Array Value, ∀ e fr, w.heap[k]? = some (.cells cs e fr) → cs.size = n := fun k n h cs e fr hk => by
    obtain ⟨cs0, e0, fr0, q1, q2⟩ := hs.size k n h
    rw [hk] at q1; cases q1; exact q2
  have fin : ∀ X : List Nat, b ∈ X → (∀ o, m.cell g o = none) → g ∉ Heap.keys R → (∀ k, k ∉ X → k < w.heap.size → w'.heap[k]? = w.heap[k]?) → (∀ k, k ∈ X → ∀ o, m.cell k o = none) →
      (∀ k n, k ∈ X → m.size k = some n → ∃ cs e fr, w'.heap[k]? = some (.cells cs e fr) ∧ cs.size = n) → (∀ k, k ∈ X → k ∉ Heap.keys R) →
      ∃ v cv m' H', Go.Ending.returned (.tuple #[.int .i64 s1.size, .nilIface]) = Go.Ending.returned cv ∧ m.le m' ∧ Sat G B w0 m' H' w' ∧ Rel m' v cv ∧ K v H' := by
    intro X hbX hmg hgR x1 x2 x3 x4
    have hnd : Heap.keys ([(b, AObj.raw 71 [.pointer (some ⟨b, 0, none⟩), .slice (some ⟨g, 0, none⟩) (bs ++ s1.data.toList).length cap]), (g, .raw 5 cur.toList)] ++ R) |>.Nodup := by
      simp only [List.cons_append, List.nil_append, Heap.keys, List.map_cons, List.nodup_cons, List.mem_cons, not_or]
      exact ⟨⟨Ne.symm hgb, hbR⟩, hgR, hnR⟩
    refine ⟨.tup [.int .i64 s1.data.toList.length, .nili], _, m, _, rfl, .refl m, sat_some hs hp hB X x1 x2 x3 x4 (fun id o ho => ?_) hnd, ?_, k _ _ hbld (.refl _) hnd⟩
    · rcases List.mem_cons.1 ho with e | ho
      · cases e; exact ⟨hat.hB, hblt, hbw, hmb⟩
      · rcases List.mem_cons.1 ho with e | ho
        · cases e; exact ⟨hBg, hglt, by rw [hg], hmg⟩
        · cases ho
    · rw [hsz]
      refine .tup _ _ rfl fun i x y hx hy => ?_
      match i, hx, hy with
      | 0, hx, hy => cases hx; cases hy; exact .int _ _
      | 1, hx, hy => cases hx; cases hy; exact .nili
      | i + 2, hx, hy => simp at hx
  rcases hG with ⟨g0, cap0, n, n', cur0, cur1, rfl, e2, a1, a2, a3, a4, a5⟩ | ⟨n', cap', e2, a1, a2⟩
  · cases e2
    rcases hv with ⟨_, hv⟩ | ⟨_, g9, n9, cap9, hv, hg9, hgR, hmg⟩
    · cases hv
    · cases hv
      refine fin [b, g] (by simp) hmg hgR (fun k hk _ => ?_) (fun k hk => ?_) (fun k n hk hn => ?_) (fun k hk => ?_)
      · simp only [List.mem_cons, List.not_mem_nil, or_false, not_or] at hk
        exact a5 k hk.1 hk.2
      · simp only [List.mem_cons, List.not_mem_nil, or_false] at hk
        rcases hk with rfl | rfl
        · exact hmb
        · exact hmg
      · simp only [List.mem_cons, List.not_mem_nil, or_false] at hk
        rcases hk with rfl | rfl
        · exact ⟨_, _, _, hbw, (hsame _ _ hn _ _ _ hbold : (2 : Nat) = n)⟩
        · exact ⟨_, _, _, a2, by rw [a3]; exact hsame _ _ hn _ _ _ a1⟩
      · simp only [List.mem_cons, List.not_mem_nil, or_false] at hk
        rcases hk with rfl | rfl
        · exact hbR
        · exact hgR
  · cases e2
    have hmg : ∀ o, m.cell w.heap.size o = none := fun o => by
      cases hc : m.cell w.heap.size o with
      | none => rfl
      | some v => exact absurd (hs.cell_lt hc) (Nat.lt_irrefl _)
    have hgR : w.heap.size ∉ Heap.keys R := fun h => (hs.perm hp).fresh (by
      simp only [Heap.keys, List.map_append, List.mem_append] at h ⊢
      exact .inr h)
    refine fin [b] (by simp) hmg hgR (fun k hk hlt => ?_) (fun k hk => ?_) (fun k n hk hn => ?_) (fun k hk => ?_)
    · simp only [List.mem_cons, List.not_mem_nil, or_false] at hk
      exact a2 k hk hlt
    · simp only [List.mem_cons, List.not_mem_nil, or_false] at hk
      subst hk; exact hmb
    · simp only [List.mem_cons, List.not_mem_nil, or_false] at hk
      subst hk; exact ⟨_, _, _, hbw, (hsame _ _ hn _ _ _ hbold : (2 : Nat) = n)⟩
    · simp only [List.mem_cons, List.not_mem_nil, or_false] at hk
      subst hk; exact hbR
theorem h55 : ∀ xs H K, c55 xs H ⟨K⟩ → ACalls G Tryd.prog 55 xs H K := by
  rintro xs H K ⟨b, bs, A, R, rfl, hb, hp, k⟩
  refine ⟨⟨Tryd.f55, Tryd.func55, by kernel_rfl, by kernel_rfl⟩, fun B w0 m w cargs hs hr => ?_⟩
  obtain ⟨v1, r1, e1, h1, hr⟩ := hr.uncons
  have e3 := hr.unnil
  subst e3
  obtain rfl : cargs = #[v1] := by cases cargs; simp_all
  obtain rfl := rel_ptr h1
  obtain ⟨p, v, hat, hmb, hbR, hnR, hv⟩ := bat_of (ρ := stLayRen) rfl rfl hb hs hp
  have hrel : ∀ l : List UInt8, Rel m (.str l) (.string ⟨l.toArray⟩) := fun l => by
    have := Rel.str (m := m) ⟨l.toArray⟩
    simpa using this
  rcases hv with ⟨rfl, rfl⟩ | ⟨hne, g, n, cap, rfl, hgb, hgR, hmg⟩
  · refine (string_none stLay (bX rfl rfl) B b p w hat.at_).mono ?_
    rintro e w' ⟨rfl, hB, hsz, hk⟩
    have hS := sat_some (A' := []) hs hp hB [] (fun k _ _ => hk k) (fun k hk => by cases hk) (fun k n hk => by cases hk) (fun k hk => by cases hk) (fun id o ho => by cases ho) hnR
    exact ⟨.str [], _, m, R, rfl, .refl m, hS, hrel [], k hnR⟩
  · refine (string_some stLay (bX rfl rfl) bs hat hne).mono ?_
    rintro e w' ⟨rfl, hB, g', cur, fr, hg', q1, q2, hsz, hk⟩
    obtain rfl : g = g' := by simpa [Value.ownBlock] using hg'
    have hS := sat_some (A' := []) hs hp hB [g] (fun k hk2 _ => hk k (by simpa using hk2)) (fun k hk => by simp only [List.mem_cons, List.not_mem_nil, or_false] at hk; subst hk; exact hmg)
      (fun k n hk hn => by
        simp only [List.mem_cons, List.not_mem_nil, or_false] at hk
        subst hk
        obtain ⟨cs0, e0, fr0, z1, z2⟩ := hs.size _ _ hn
        rw [q1] at z1; cases z1
        exact ⟨_, _, _, q2, z2⟩) (fun k hk => by simp only [List.mem_cons, List.not_mem_nil, or_false] at hk; subst hk; exact hgR) (fun id o ho => by cases ho) hnR
    exact ⟨.str bs, _, m, R, rfl, .refl m, hS, hrel bs, k hnR⟩
end
end Go.Proofs.YtijioomcpecdhaaDoor.lib
