/- strings.Builder, walked, with what stays told: WriteString and String. -/
import Derived.Test.YtijioomcpecdhaaDoorB3
import Derived.Shelf.Strings.Builder1
set_option linter.unusedSimpArgs false
set_option linter.unusedVariables false
set_option maxRecDepth 100000
set_option maxHeartbeats 4000000
namespace Go.Proofs.YtijioomcpecdhaaDoor.lib
open Go.Shelf Go.RowKit Go.Proofs

section
variable {P : Program} {ρ : Ren}

/-- What appending some bytes to a row that is owned does, block b left aside. -/
def Grew (w : World) (b : Nat) (e : TypeId) (v : Value) (v' : Value) (w' : World) : Prop :=
  (∃ g cap n n' cur cur', v = .slice (some ⟨g, 0, none⟩) n cap ∧ v' = .slice (some ⟨g, 0, none⟩) n' cap ∧ w.heap[g]? = some (.cells cur e (0, 0)) ∧ w'.heap[g]? = some (.cells cur' e (0, 0)) ∧ cur'.size = cur.size ∧
    w'.heap.size = w.heap.size ∧ ∀ k, k ≠ b → k ≠ g → w'.heap[k]? = w.heap[k]?) ∨
  (∃ n' cap', v' = .slice (some ⟨w.heap.size, 0, none⟩) n' cap' ∧ w.heap.size < w'.heap.size ∧ ∀ k, k ≠ b → k < w.heap.size → w'.heap[k]? = w.heap[k]?)
theorem Grew.pre {w w1 w' : World} {b : Nat} {e : TypeId} {v v' : Value} (h : Grew w1 b e v v' w') (hne : v.ownBlock ≠ some b) (h1 : w1.heap.size = w.heap.size) (h2 : ∀ k, k ≠ b → w1.heap[k]? = w.heap[k]?) : Grew w b e v v' w' := by
  rcases h with ⟨g, cap, n, n', cur, cur', rfl, rfl, a1, a2, a3, a4, a5⟩ | ⟨n', cap', rfl, a1, a2⟩
  · have hg : g ≠ b := fun e => hne (by rw [e]; rfl)
    exact .inl ⟨g, cap, n, n', cur, cur', rfl, rfl, by rw [← h2 g hg]; exact a1, a2, a3, by omega, fun k q1 q2 => by rw [a5 k q1 q2, h2 k q1]⟩
  · exact .inr ⟨n', cap', by rw [h1], by omega, fun k q1 q2 => by rw [a2 k q1 (by omega), h2 k q1]⟩
theorem Grew.post {w w2 w' : World} {b : Nat} {e : TypeId} {v v' : Value} (h : Grew w b e v v' w2) (hne : v.ownBlock ≠ some b) (h1 : w'.heap.size = w2.heap.size) (h2 : ∀ k, k ≠ b → w'.heap[k]? = w2.heap[k]?) : Grew w b e v v' w' := by
  rcases h with ⟨g, cap, n, n', cur, cur', rfl, rfl, a1, a2, a3, a4, a5⟩ | ⟨n', cap', rfl, a1, a2⟩
  · have hg : g ≠ b := fun e => hne (by rw [e]; rfl)
    exact .inl ⟨g, cap, n, n', cur, cur', rfl, rfl, a1, by rw [h2 g hg]; exact a2, a3, by omega, fun k q1 q2 => by rw [h2 k q1, a5 k q1 q2]⟩
  · exact .inr ⟨n', cap', rfl, by omega, fun k q1 q2 => by rw [h2 k q1, a2 k q1 q2]⟩

theorem app_str (w : World) (base : Nat) (t u ty e : TypeId) (i : TypeInfo) (ht : P.underlying t = some (.slice e)) (hu : P.underlying u = some .string) (hi : P.info? e = some i) (hz : i.zero = some (.int .u8 0))
    (hsize : i.size = 1) (hby : i.bytes = 1) (v : Value) (n : Nat) (xs : List Value) (hown : w.ownsRow base e 1 v n xs) (s : ByteArray) (h0 : s.size ≠ 0)
    (h63 : n + s.size ≤ maxLen) (hbytes : n + s.size ≤ 140737488355328) (hbase : base ≤ w.heap.size) :
    ∃ v' w', (Builtin.append_ #[t, u] ty #[v, .string s]).run P w = .ok v' w' ∧ w'.ownsRow base e 1 v' (n + s.size) (xs ++ Lib.strCells s) ∧ w.grownBy w' v.ownBlock ∧ ∀ b, Grew w b e v v' w' := by
  obtain ⟨v', w', hr, h2, h3, h4⟩ := Lib.run_append_own_string (P := P) w base t u ty e i ht hu hi hz hsize hby v n xs hown s h63 hbytes hbase
  refine ⟨v', w', hr, h2, h3, fun b => ?_⟩
  have hsmall : n + s.size ≤ 9223372036854775807 := by simp only [maxLen] at h63; omega
  have hxl : xs.length = n := by simpa using hown.1
  rcases hown.2 with ⟨rfl, rfl⟩ | ⟨g, cap, cur, rfl, hbg, hg, hnc, hcm, hcs, htake⟩
  · have hq := run_append_nil_string (P := P) w t u ty e i (.int .u8 0) ht hu hi hz s (by omega) (by omega) (by rw [hby]; omega)
    rw [hq] at hr
    cases hr
    exact .inr ⟨_, _, rfl, by simp, fun k _ hk => heap_alloc_old w.drew _ hk⟩
  · by_cases hroom : n + s.size ≤ cap
    · have hcs' : cur.size = cap := by simpa using hcs
      have hq := Lib.run_append_room_string (P := P) w t u ty e i ht hu hi hsize g n cap cur hg s hroom (by omega)
      rw [hq] at hr
      cases hr
      refine .inl ⟨g, cap, _, _, cur, _, rfl, rfl, hg, setRow_heap w g cur _ e _ hg, ?_, by simp [World.setRow], fun k _ hk => setRow_other w g k _ hk⟩
      have hs : (Lib.strCells s).length = s.size := Lib.strCells_length s
      simp only [List.size_toArray, List.length_append, List.length_take, List.length_drop, Array.length_toList, hs]
      omega
    · have holds : ∀ j u, xs[j]? = some u → w.cell? ((⟨g, 0, none⟩ : Addr).add j) = some u := hown.cells (g := g) rfl
      have hq := Lib.run_append_grow_string (P := P) w t u ty e i (.int .u8 0) ht hu hi hz ⟨g, 0, none⟩ n cap xs (by rw [hsize]; simpa using hxl) holds s (by omega) (by omega) (by rw [hby]; exact growslice_fits (by omega) (by omega))
      rw [hq] at hr
      cases hr
      exact .inr ⟨_, _, rfl, by simp, fun k _ hk => heap_alloc_old w.drew _ hk⟩

/-- The same, for the walk. -/
theorem wp_app {ops : Array Oper} {rest : List Oper} {o : Oper} {a : Act} {w : World} {Q : Exit → Act → World → Prop} (hgd : o.guard = none) (sl x : Operand) (t u : TypeId)
    (ho : o.op = .call { callee := .builtin .append, args := #[sl, x], argTypes := #[t, u] })
    (base : Nat) (e : TypeId) (i : TypeInfo) (ht : P.underlying t = some (.slice e)) (hu : P.underlying u = some .string) (hi : P.info? e = some i) (hz : i.zero = some (.int .u8 0))
    (hsize : i.size = 1) (hby : i.bytes = 1)
    (v : Value) (n : Nat) (xs : List Value) (hs : a.eval sl = v) (hown : w.ownsRow base e 1 v n xs) (s : ByteArray) (hx : a.eval x = .string s) (h0 : s.size ≠ 0)
    (h63 : n + s.size ≤ maxLen) (hbytes : n + s.size ≤ 140737488355328) (hbase : base ≤ w.heap.size)
    (h : ∀ v' w', w'.ownsRow base e 1 v' (n + s.size) (xs ++ Lib.strCells s) → w.grownBy w' v.ownBlock → (∀ b, Grew w b e v v' w') → wpList P ops Q rest (a.put o.dst v') w') : wpList P ops Q (o :: rest) a w := by
  refine wpList_plain hgd fun K hK => ?_
  obtain ⟨v', w', hr, h2, h3, h4⟩ := app_str (P := P) w base t u o.type e i ht hu hi hz hsize hby v n xs hown s h0 h63 hbytes hbase
  unfold Oper.wp execOp
  simp only [ho, resolve, invoke, builtin, Sem.run_bind, Sem.run_pure, Result.andThen_ok, List.map_toArray, List.map_cons, List.map_nil, hs, hx, hr]
  exact hK _ _ (h v' w' h2 h3 h4)

/-- A builder that holds bytes: its own block b, the value v in its second cell. -/
structure BAt (ρ : Ren) (B b : Nat) (p v : Value) (bs : List Value) (w : World) : Prop where
  hB : B ≤ b
  at_ : w.heap[b]? = some (.cells #[p, v] (ρ.t 72) (0, 0))
  own : w.ownsRow B (ρ.t 5) 1 v bs.length bs
  ne : v.ownBlock ≠ some b
  hp : p = .pointer none ∨ p = .pointer (some ⟨b, 0, none⟩)

/-- copyCheck: the builder holds its own address then. -/
theorem check (L : Lays.n240 P ρ) (X : Builder.X72 P ρ) {B b : Nat} {p v : Value} {bs : List Value} {w : World} (h : BAt ρ B b p v bs w) (hBw : B ≤ w.heap.size) :
    Calls P (ρ.f 240) #[.pointer (some ⟨b, 0, none⟩)] w fun e w' => e = .returned (.tuple #[]) ∧ BAt ρ B b (.pointer (some ⟨b, 0, none⟩)) v bs w' ∧ Below B w w' ∧ w'.heap.size = w.heap.size ∧ ∀ k, k ≠ b → w'.heap[k]? = w.heap[k]? := by
  have hc0 : w.cell? ⟨b, 0, none⟩ = some p := by rw [Lib.cell_of_heap h.at_]; rfl
  rcases h.hp with rfl | rfl
  · refine (Any.Builder_copyCheck_fresh L X b w hc0 (by simp [World.shape?, h.at_]) (Lib.frozen_of_heap h.at_ 0)).mono ?_
    rintro e w' ⟨rfl, rfl⟩
    have hk : ∀ k, k ≠ b → (w.setCell ⟨b, 0, none⟩ (.pointer (some ⟨b, 0, none⟩))).heap[k]? = w.heap[k]? := fun k hk => by simp [World.setCell, Array.getElem?_modify, Ne.symm hk]
    have hu := Lib.BuilderAt.used (T := ρ.t 72) (e := ρ.t 5) ⟨h.hB, v, h.at_, h.own, h.ne⟩ (.pointer (some ⟨b, 0, none⟩))
    obtain ⟨q1, v', q2, q3, q4⟩ := hu
    have hv : (w.setCell ⟨b, 0, none⟩ (.pointer (some ⟨b, 0, none⟩))).heap[b]? = some (.cells #[.pointer (some ⟨b, 0, none⟩), v] (ρ.t 72) (0, 0)) := by
      simp [World.setCell, Array.getElem?_modify, h.at_]
    rw [hv] at q2
    cases q2
    exact ⟨rfl, ⟨h.hB, hv, q3, h.ne, .inr rfl⟩, (Below.refl B w).setCell (p := ⟨b, 0, none⟩) h.hB _, by simp [World.setCell], hk⟩
  · refine (Any.Builder_copyCheck_used L X b w hc0).mono ?_
    rintro e w' ⟨rfl, rfl⟩
    exact ⟨rfl, h, Below.refl B _, rfl, fun _ _ => rfl⟩

/-- WriteString of some bytes. -/
theorem writeString (L : Lays.n166 P ρ) (X : Builder.Extra P ρ) {B b : Nat} {p v : Value} {bs : List Value} (s : ByteArray) {w : World} (h : BAt ρ B b p v bs w) (h0 : s.size ≠ 0) (hlen : bs.length + s.size ≤ 140737488355328) (hBw : B ≤ w.heap.size) :
    Calls P (ρ.f 166) #[.pointer (some ⟨b, 0, none⟩), .string s] w fun e w' => e = .returned (.tuple #[.int .i64 s.size, .nilIface]) ∧
      ∃ v', BAt ρ B b (.pointer (some ⟨b, 0, none⟩)) v' (bs ++ Lib.strCells s) w' ∧ Below B w w' ∧ Grew w b (ρ.t 5) v v' w' := by
  obtain ⟨i0, hi, hz0, hz1, hz2⟩ := info_parts X.infoByte
  have mixed := L.mixed
  have t72 := L.t72; have a72 := L.a72; have z72 := L.z72; have v72 := L.v72; have u72 := run_underlying L.t72
  have t70 := L.t70; have a70 := L.a70; have z70 := L.z70; have v70 := L.v70; have u70 := run_underlying L.t70
  have t37 := L.t37; have a37 := L.a37; have z37 := L.z37; have v37 := L.v37; have u37 := run_underlying L.t37
  have t3 := L.t3; have a3 := L.a3; have z3 := L.z3; have v3 := L.v3; have u3 := run_underlying L.t3
  have t9 := L.t9; have a9 := L.a9; have z9 := L.z9; have v9 := L.v9; have u9 := run_underlying L.t9
  have t4 := L.t4; have a4 := L.a4; have z4 := L.z4; have v4 := L.v4; have u4 := run_underlying L.t4
  have t164 := L.t164; have a164 := L.a164; have z164 := L.z164; have v164 := L.v164; have u164 := run_underlying L.t164
  have t5 := X.t5; have a5 := X.a5; have z5 := X.z5; have v5 := X.v5; have u5 := run_underlying X.t5
  have e240 : ∀ args w, (callFunc (ρ.f 240) args).run P w = .ok (.enter (ρ.f 240) args) w := enters_of L.f240 (by kernel_rfl) rfl
  go_enter L.f166, Body.n166_ntmps ρ
  go_wp2_with (go_at_fn (ρ.f 240); refine (check { L with } X.toX72 h hBw).mono ?_)
  rintro e w1 ⟨rfl, h1, hb1, hs1, hk1⟩
  obtain ⟨hB, hbk, hown, hne, _⟩ := h1
  have c0 : w1.cell? ⟨b, 0, none⟩ = some (.pointer (some ⟨b, 0, none⟩)) := by rw [Lib.cell_of_heap hbk]; rfl
  have c1 : w1.cell? ⟨b, 1, none⟩ = some v := by rw [Lib.cell_of_heap hbk]; rfl
  go_wp2_with (at_builtin; refine wp_app rfl _ _ (ρ.t 37) (ρ.t 9) rfl B (ρ.t 5) i0 L.t37 L.t9 hi hz0 hz1 hz2 _ _ _ rfl hown s rfl h0 ?c3 ?c4 ?c5 ?_)
  case c3 => unfold maxLen; omega
  case c4 => omega
  case c5 => have := hb1.size; omega
  intro v' w2 hown' hgrow hG
  have hlt : b < w1.heap.size := by
    rcases Nat.lt_or_ge b w1.heap.size with h' | h'
    · exact h'
    · simp [Array.getElem?_eq_none h'] at hbk
  have hb2 : w2.heap[b]? = some (.cells #[.pointer (some ⟨b, 0, none⟩), v] (ρ.t 72) (0, 0)) := by
    rw [hgrow.block b hlt (fun e => hne e.symm)]
    exact hbk
  have d0 : w2.cell? ⟨b, 0, none⟩ = some (.pointer (some ⟨b, 0, none⟩)) := by rw [Lib.cell_of_heap hb2]; rfl
  have d1 : w2.cell? ⟨b, 1, none⟩ = some v := by rw [Lib.cell_of_heap hb2]; rfl
  have f1 : w2.frozen? ⟨b, 1, none⟩ = false := Lib.frozen_of_heap hb2 1
  obtain ⟨ao, n', cap, rfl⟩ : ∃ ao n' cap, v' = .slice ao n' cap := by
    rcases hown'.2 with ⟨hv, _⟩ | ⟨g, cap, cur, hv, _⟩
    · exact ⟨_, _, _, hv⟩
    · exact ⟨_, _, _, hv⟩
  go_wp2
  go_ret2
  have hput := Lib.BuilderAt.put (T := (ρ.t 72)) (e := (ρ.t 5)) hB hb2 (bs' := bs ++ Lib.strCells s) (by simpa [Lib.strCells_length] using hown') X.neB5
  have hk3 : ∀ k, k ≠ b → (w2.setCell ⟨b, 1, none⟩ (.slice ao n' cap)).heap[k]? = w2.heap[k]? := fun k hk => by simp [World.setCell, Array.getElem?_modify, Ne.symm hk]
  refine ⟨rfl, .slice ao n' cap, ?_, ?_, ?_⟩
  · obtain ⟨q1, v9, q2, q3, q4⟩ := hput
    have hv : (w2.setCell ⟨b, 1, none⟩ (.slice ao n' cap)).heap[b]? = some (.cells #[.pointer (some ⟨b, 0, none⟩), .slice ao n' cap] (ρ.t 72) (0, 0)) := by
      simp [World.setCell, Array.getElem?_modify, hb2]
    rw [hv] at q2
    cases q2
    exact ⟨hB, hv, by simpa [Lib.strCells_length] using q3, q4, .inr rfl⟩
  · exact (hb1.grown hgrow (by have := hb1.size; omega) (fun k hk => (hown.lt k hk).1)).setCell (p := ⟨b, 1, none⟩) hB _
  · exact ((hG b).pre hne hs1 hk1).post hne (by simp [World.setCell]) hk3

theorem freeze_at {W : World} {g n : Nat} {cur : Array Value} {e : TypeId} (hg : W.heap[g]? = some (.cells cur e (0, 0))) (hn : n ≠ 0) : ∃ fr, (W.freeze ⟨g, 0, none⟩ n).heap[g]? = some (.cells cur e fr) := by
  unfold World.freeze
  rw [if_neg hn]
  simp only [Array.getElem?_modify, hg]
  exact ⟨_, rfl⟩
theorem freeze_ne {W : World} {g n k : Nat} (hk : k ≠ g) : (W.freeze ⟨g, 0, none⟩ n).heap[k]? = W.heap[k]? := by
  unfold World.freeze
  split
  · rfl
  · simp only [Array.getElem?_modify]
    rw [if_neg (Ne.symm hk)]
theorem freeze_size {W : World} {g n : Nat} : (W.freeze ⟨g, 0, none⟩ n).heap.size = W.heap.size := by
  unfold World.freeze
  split
  · rfl
  · simp

/-- String of a builder that holds some bytes. -/
theorem string_some (L : Lays.n169 P ρ) (X : Builder.Extra P ρ) {B b : Nat} {p v : Value} (l : List UInt8) {w : World} (h : BAt ρ B b p v (Lib.byteCells l) w) (h0 : l ≠ []) :
    Calls P (ρ.f 169) #[.pointer (some ⟨b, 0, none⟩)] w fun e w' => e = .returned (.string ⟨l.toArray⟩) ∧ Below B w w' ∧ ∃ g cur fr, v.ownBlock = some g ∧ w.heap[g]? = some (.cells cur (ρ.t 5) (0, 0)) ∧ w'.heap[g]? = some (.cells cur (ρ.t 5) fr) ∧
      w'.heap.size = w.heap.size ∧ ∀ k, k ≠ g → w'.heap[k]? = w.heap[k]? := by
  obtain ⟨hB, hbk, hown, hne, _⟩ := h
  have hl0 : l.length ≠ 0 := by simpa using h0
  rw [Lib.byteCells_length] at hown
  obtain ⟨g, cap, cur, rfl, hbg, hg, hnc, hcm, hcs, htake⟩ : ∃ g cap cur, v = .slice (some ⟨g, 0, none⟩) l.length cap ∧ B ≤ g ∧ w.heap[g]? = some (.cells cur (ρ.t 5) (0, 0)) ∧ l.length ≤ cap ∧ cap ≤ maxLen ∧ cur.size = cap * 1 ∧ cur.toList.take (l.length * 1) = Lib.byteCells l := by
    rcases hown.2 with ⟨_, hz⟩ | ⟨g, cap, cur, hv, r⟩
    · exact absurd hz hl0
    · exact ⟨g, cap, cur, hv, r⟩
  have c1 : w.drew.cell? ⟨b, 1, none⟩ = some (.slice (some ⟨g, 0, none⟩) l.length cap) := by
    have : w.drew.heap[b]? = some (.cells #[p, .slice (some ⟨g, 0, none⟩) l.length cap] (ρ.t 72) (0, 0)) := hbk
    rw [Lib.cell_of_heap this]; rfl
  have hg' : w.drew.heap[g]? = some (.cells cur (ρ.t 5) (0, 0)) := hg
  have hSD : (Builtin.unsafeSliceData_ #[(ρ.t 37)] (ρ.t 127) #[.slice (some ⟨g, 0, none⟩) l.length cap]).run P w.drew = .ok (.pointer (some ⟨g, 0, none⟩)) w.drew :=
    Lib.run_unsafeSliceData_row _ _ _ _ _ _ (by omega)
  have hUS : (Builtin.unsafeString_ #[(ρ.t 127), (ρ.t 3)] (ρ.t 9) #[.pointer (some ⟨g, 0, none⟩), .int .i64 l.length]).run P w.drew = .ok (.string ⟨l.toArray⟩) (w.drew.freeze ⟨g, 0, none⟩ l.length) := by
    refine Lib.run_unsafeString_row w.drew (ρ.t 127) (ρ.t 3) (ρ.t 9) (ρ.t 5) L.t127 X.cellsByte g cur.size (by simp [World.shape?, hg']) l h0 (by omega) (by unfold maxLen at hcm; omega) ?_
    intro j x hx
    exact hown.cells (g := g) rfl j (.int .u8 x.toNat) (by simp [Lib.byteCells, hx])
  have mixed := L.mixed
  have t72 := L.t72; have a72 := L.a72; have z72 := L.z72; have v72 := L.v72; have u72 := run_underlying L.t72
  have t70 := L.t70; have a70 := L.a70; have z70 := L.z70; have v70 := L.v70; have u70 := run_underlying L.t70
  have t37 := L.t37; have a37 := L.a37; have z37 := L.z37; have v37 := L.v37; have u37 := run_underlying L.t37
  have t127 := L.t127; have a127 := L.a127; have z127 := L.z127; have v127 := L.v127; have u127 := run_underlying L.t127
  have t3 := L.t3; have a3 := L.a3; have z3 := L.z3; have v3 := L.v3; have u3 := run_underlying L.t3
  have t9 := L.t9; have a9 := L.a9; have z9 := L.z9; have v9 := L.v9; have u9 := run_underlying L.t9
  have t5 := X.t5; have a5 := X.a5; have z5 := X.z5; have v5 := X.v5; have u5 := run_underlying X.t5
  have hk : ∀ k, k ≠ g → (w.drew.freeze ⟨g, 0, none⟩ l.length).heap[k]? = w.heap[k]? := fun k hk => freeze_ne hk
  have hs : (w.drew.freeze ⟨g, 0, none⟩ l.length).heap.size = w.heap.size := freeze_size
  have hgz := freeze_at (n := l.length) hg' hl0
  obtain ⟨fr, hfr⟩ := hgz
  go_enter L.f169, Body.n169_ntmps ρ
  go_wp2
  go_region_o
  all_goals (go_wp2; go_ret; exact ⟨rfl, Lib.below_freeze (Below.drew (Below.refl B w)) (p := ⟨g, 0, none⟩) hbg _, g, cur, fr, rfl, hg, hfr, hs, hk⟩)

/-- String of a builder that was never written. -/
theorem string_none (L : Lays.n169 P ρ) (X : Builder.Extra P ρ) (B b : Nat) (p : Value) (w : World) (hbk : w.heap[b]? = some (.cells #[p, .slice none 0 0] (ρ.t 72) (0, 0))) :
    Calls P (ρ.f 169) #[.pointer (some ⟨b, 0, none⟩)] w fun e w' => e = .returned (.string ⟨#[]⟩) ∧ Below B w w' ∧ w'.heap.size = w.heap.size ∧ ∀ k : Nat, w'.heap[k]? = w.heap[k]? := by
  have hUS := Any.unsafeString_none L X
  have c1 : w.drew.cell? ⟨b, 1, none⟩ = some (.slice none 0 0) := by
    have : w.drew.heap[b]? = some (.cells #[p, .slice none 0 0] (ρ.t 72) (0, 0)) := hbk
    rw [Lib.cell_of_heap this]; rfl
  have hSD : (Builtin.unsafeSliceData_ #[(ρ.t 37)] (ρ.t 127) #[.slice none 0 0]).run P w.drew = .ok (.pointer none) w.drew := rfl
  have mixed := L.mixed
  have t72 := L.t72; have a72 := L.a72; have z72 := L.z72; have v72 := L.v72; have u72 := run_underlying L.t72
  have t70 := L.t70; have a70 := L.a70; have z70 := L.z70; have v70 := L.v70; have u70 := run_underlying L.t70
  have t37 := L.t37; have a37 := L.a37; have z37 := L.z37; have v37 := L.v37; have u37 := run_underlying L.t37
  have t127 := L.t127; have a127 := L.a127; have z127 := L.z127; have v127 := L.v127; have u127 := run_underlying L.t127
  have t3 := L.t3; have a3 := L.a3; have z3 := L.z3; have v3 := L.v3; have u3 := run_underlying L.t3
  have t9 := L.t9; have a9 := L.a9; have z9 := L.z9; have v9 := L.v9; have u9 := run_underlying L.t9
  have t5 := X.t5; have a5 := X.a5; have z5 := X.z5; have v5 := X.v5; have u5 := run_underlying X.t5
  go_enter L.f169, Body.n169_ntmps ρ
  go_wp2
  go_region_o
  all_goals (go_wp2; go_ret; exact ⟨rfl, Below.drew (Below.refl B w), rfl, fun _ => rfl⟩)
end
end Go.Proofs.YtijioomcpecdhaaDoor.lib
