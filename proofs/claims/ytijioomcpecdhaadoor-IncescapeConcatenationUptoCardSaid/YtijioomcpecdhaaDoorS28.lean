/- strings.Builder, walked, whatever it holds, with what stays told: Grow, WriteByte, WriteString, String. Printed by gs28.py. -/
import Derived.Test.YtijioomcpecdhaaDoorS8
import Derived.Shelf.Strings.Builder2Cap
set_option linter.unusedSimpArgs false
set_option linter.unusedVariables false
set_option maxRecDepth 100000
set_option maxHeartbeats 4000000
namespace Go.Proofs.YtijioomcpecdhaaDoor.lib
open Go.Shelf Go.RowKit Go.Proofs

section
variable {P : Program} {ρ : Ren}

/-- What a writing does, block b left aside. -/
def Gr (w : World) (b : Nat) (e : TypeId) (v : Value) (v' : Value) (w' : World) : Prop :=
  w.heap.size ≤ w'.heap.size ∧ ((∃ g cap n n' cur cur', v = .slice (some ⟨g, 0, none⟩) n cap ∧ v' = .slice (some ⟨g, 0, none⟩) n' cap ∧ w.heap[g]? = some (.cells cur e (0, 0)) ∧ w'.heap[g]? = some (.cells cur' e (0, 0)) ∧ cur'.size = cur.size ∧
    ∀ k, k ≠ b → k ≠ g → k < w.heap.size → w'.heap[k]? = w.heap[k]?) ∨
  (∃ g' n' cap', v' = .slice (some ⟨g', 0, none⟩) n' cap' ∧ 1 ≤ cap' ∧ w.heap.size ≤ g' ∧ ∀ k, k ≠ b → k < w.heap.size → w'.heap[k]? = w.heap[k]?))
theorem Gr.pre {w w1 w' : World} {b : Nat} {e : TypeId} {v v' : Value} (h : Gr w1 b e v v' w') (hne : v.ownBlock ≠ some b) (hs : w.heap.size ≤ w1.heap.size) (h2 : ∀ k, k ≠ b → k < w.heap.size → w1.heap[k]? = w.heap[k]?) (hv : ∀ g, v.ownBlock = some g → g < w.heap.size) : Gr w b e v v' w' := by
  obtain ⟨h0, h⟩ := h
  refine ⟨by omega, ?_⟩
  rcases h with ⟨g, cap, n, n', cur, cur', rfl, rfl, a1, a2, a3, a5⟩ | ⟨g', n', cap', rfl, a0, a1, a2⟩
  · have hg : g ≠ b := fun e => hne (by rw [e]; rfl)
    exact .inl ⟨g, cap, n, n', cur, cur', rfl, rfl, by rw [← h2 g hg (hv g rfl)]; exact a1, a2, a3, fun k q1 q2 q3 => by rw [a5 k q1 q2 (by omega), h2 k q1 q3]⟩
  · exact .inr ⟨g', n', cap', rfl, a0, by omega, fun k q1 q2 => by rw [a2 k q1 (by omega), h2 k q1 q2]⟩
theorem Gr.post {w w2 w' : World} {b : Nat} {e : TypeId} {v v' : Value} (h : Gr w b e v v' w2) (hne : v.ownBlock ≠ some b) (h1 : w'.heap.size = w2.heap.size) (h2 : ∀ k, k ≠ b → w'.heap[k]? = w2.heap[k]?) : Gr w b e v v' w' := by
  obtain ⟨h0, h⟩ := h
  refine ⟨by omega, ?_⟩
  rcases h with ⟨g, cap, n, n', cur, cur', rfl, rfl, a1, a2, a3, a5⟩ | ⟨g', n', cap', rfl, a0, a1, a2⟩
  · have hg : g ≠ b := fun e => hne (by rw [e]; rfl)
    exact .inl ⟨g, cap, n, n', cur, cur', rfl, rfl, a1, by rw [h2 g hg]; exact a2, a3, fun k q1 q2 q3 => by rw [h2 k q1, a5 k q1 q2 q3]⟩
  · exact .inr ⟨g', n', cap', rfl, a0, a1, fun k q1 q2 => by rw [h2 k q1, a2 k q1 q2]⟩

theorem app_strG (w : World) (base : Nat) (t u ty e : TypeId) (i : TypeInfo) (ht : P.underlying t = some (.slice e)) (hu : P.underlying u = some .string) (hi : P.info? e = some i) (hz : i.zero = some (.int .u8 0))
    (hsize : i.size = 1) (hby : i.bytes = 1) (v : Value) (n : Nat) (xs : List Value) (hown : w.ownsRow base e 1 v n xs) (s : ByteArray) (h0 : v = .slice none 0 0 → s.size ≠ 0)
    (h63 : n + s.size ≤ maxLen) (hbytes : n + s.size ≤ 140737488355328) (hbase : base ≤ w.heap.size) :
    ∃ v' w', (Builtin.append_ #[t, u] ty #[v, .string s]).run P w = .ok v' w' ∧ w'.ownsRow base e 1 v' (n + s.size) (xs ++ Lib.strCells s) ∧ w.grownBy w' v.ownBlock ∧ ∀ b, Gr w b e v v' w' := by
  obtain ⟨v', w', hr, h2, h3, h4⟩ := Lib.run_append_own_string (P := P) w base t u ty e i ht hu hi hz hsize hby v n xs hown s h63 hbytes hbase
  refine ⟨v', w', hr, h2, h3, fun b => ⟨h3.size, ?_⟩⟩
  have hsmall : n + s.size ≤ 9223372036854775807 := by simp only [maxLen] at h63; omega
  have hxl : xs.length = n := by simpa using hown.1
  rcases hown.2 with ⟨rfl, rfl⟩ | ⟨g, cap, cur, rfl, hbg, hg, hnc, hcm, hcs, htake⟩
  · have hs0 := h0 rfl
    have hq := run_append_nil_string (P := P) w t u ty e i (.int .u8 0) ht hu hi hz s (by omega) (by omega) (by rw [hby]; omega)
    have hge := grownCap_ge w s.size 0 e
    rw [hq] at hr
    cases hr
    exact .inr ⟨_, _, _, rfl, by omega, Nat.le_refl _, fun k _ hk => heap_alloc_old w.drew _ hk⟩
  · by_cases hroom : n + s.size ≤ cap
    · have hcs' : cur.size = cap := by simpa using hcs
      have hq := Lib.run_append_room_string (P := P) w t u ty e i ht hu hi hsize g n cap cur hg s hroom (by omega)
      rw [hq] at hr
      cases hr
      refine .inl ⟨g, cap, _, _, cur, _, rfl, rfl, hg, setRow_heap w g cur _ e _ hg, ?_, fun k _ hk _ => setRow_other w g k _ hk⟩
      have hs : (Lib.strCells s).length = s.size := Lib.strCells_length s
      simp only [List.size_toArray, List.length_append, List.length_take, List.length_drop, Array.length_toList, hs]
      omega
    · have holds : ∀ j u, xs[j]? = some u → w.cell? ((⟨g, 0, none⟩ : Addr).add j) = some u := hown.cells (g := g) rfl
      have hq := Lib.run_append_grow_string (P := P) w t u ty e i (.int .u8 0) ht hu hi hz ⟨g, 0, none⟩ n cap xs (by rw [hsize]; simpa using hxl) holds s (by omega) (by omega) (by rw [hby]; exact growslice_fits (by omega) (by omega))
      have hge := grownCap_ge w (n + s.size) cap e
      rw [hq] at hr
      cases hr
      exact .inr ⟨_, _, _, rfl, by omega, Nat.le_refl _, fun k _ hk => heap_alloc_old w.drew _ hk⟩
theorem app_one (w : World) (base : Nat) (t ty e : TypeId) (i : TypeInfo) (ht : P.underlying t = some (.slice e)) (hi : P.info? e = some i) (hz : i.zero = some (.int .u8 0))
    (hsize : i.size = 1) (hby : i.bytes = 1) (v : Value) (n : Nat) (xs : List Value) (hown : w.ownsRow base e 1 v n xs) (a : Addr) (u : Value) (hu : w.cell? a = some u) (h1 : u.oneCell' = true)
    (h63 : n + 1 ≤ maxLen) (hbytes : n + 1 ≤ 140737488355328) (hbase : base ≤ w.heap.size) :
    ∃ v' w', (Builtin.append_ #[t, t] ty #[v, .slice (some a) 1 1]).run P w = .ok v' w' ∧ w'.ownsRow base e 1 v' (n + 1) (xs ++ [u]) ∧ w.grownBy w' v.ownBlock ∧ ∀ b, Gr w b e v v' w' := by
  have hnews : ∀ (j : Nat) (u' : Value), [u][j]? = some u' → w.cell? (a.add j) = some u' := by
    intro j u' hj
    match j, hj with
    | 0, hj => simp at hj; subst hj; simpa [Addr.add] using hu
  have h1' : ∀ x ∈ [u], x.oneCell' = true := by intro x hx; rw [List.mem_singleton] at hx; subst hx; exact h1
  obtain ⟨v', w', hr, h2, h3, h4⟩ := run_append_own (P := P) w base t ty e i (.int .u8 0) 1 1 ht hi hz hsize hby rfl (by decide) v n xs hown a 1 1 [u] rfl hnews h1' h63 (by omega) hbase
  refine ⟨v', w', hr, h2, h3, fun b => ⟨h3.size, ?_⟩⟩
  have hsmall : n + 1 ≤ 9223372036854775807 := by simp only [maxLen] at h63; omega
  have hxl : xs.length = n := by simpa using hown.1
  rcases hown.2 with ⟨rfl, rfl⟩ | ⟨g, cap, cur, rfl, hbg, hg, hnc, hcm, hcs, htake⟩
  · have hq := run_append_nil (P := P) w t ty e i (.int .u8 0) ht hi hz a 1 1 [u] (by rw [hsize]; rfl) hnews (by decide) (by decide) (by rw [hby]; decide)
    have hge := grownCap_ge w 1 0 e
    rw [hq] at hr
    cases hr
    exact .inr ⟨_, _, _, rfl, by omega, Nat.le_refl _, fun k _ hk => heap_alloc_old w.drew _ hk⟩
  · by_cases hroom : n + 1 ≤ cap
    · have hcs' : cur.size = cap := by simpa using hcs
      have hq := run_append_room (P := P) w t ty e i ht hi g n cap cur hg a 1 1 [u] (by rw [hsize]; rfl) hnews h1' hroom (by rw [hsize]; simp; omega)
      rw [hq] at hr
      cases hr
      refine .inl ⟨g, cap, _, _, cur, _, rfl, rfl, hg, setRow_heap w g cur _ e _ hg, ?_, fun k _ hk _ => setRow_other w g k _ hk⟩
      simp only [hsize, Nat.mul_one, List.size_toArray, List.length_append, List.length_take, List.length_drop, Array.length_toList, List.length_singleton]
      omega
    · have holds : ∀ j u, xs[j]? = some u → w.cell? ((⟨g, 0, none⟩ : Addr).add j) = some u := hown.cells (g := g) rfl
      have hq := run_append_grow (P := P) w t ty e i (.int .u8 0) ht hi hz ⟨g, 0, none⟩ n cap xs (by rw [hsize]; simpa using hxl) holds a 1 1 [u] (by rw [hsize]; rfl) hnews (by omega) (by omega) (by rw [hby]; exact growslice_fits (by omega) (by omega))
      have hge := grownCap_ge w (n + 1) cap e
      rw [hq] at hr
      cases hr
      exact .inr ⟨_, _, _, rfl, by omega, Nat.le_refl _, fun k _ hk => heap_alloc_old w.drew _ hk⟩
theorem wp_appG {ops : Array Oper} {rest : List Oper} {o : Oper} {a : Act} {w : World} {Q : Exit → Act → World → Prop} (hgd : o.guard = none) (sl x : Operand) (t u : TypeId)
    (ho : o.op = .call { callee := .builtin .append, args := #[sl, x], argTypes := #[t, u] })
    (base : Nat) (e : TypeId) (i : TypeInfo) (ht : P.underlying t = some (.slice e)) (hu : P.underlying u = some .string) (hi : P.info? e = some i) (hz : i.zero = some (.int .u8 0))
    (hsize : i.size = 1) (hby : i.bytes = 1)
    (v : Value) (n : Nat) (xs : List Value) (hs : a.eval sl = v) (hown : w.ownsRow base e 1 v n xs) (s : ByteArray) (hx : a.eval x = .string s) (h0 : v = .slice none 0 0 → s.size ≠ 0)
    (h63 : n + s.size ≤ maxLen) (hbytes : n + s.size ≤ 140737488355328) (hbase : base ≤ w.heap.size)
    (h : ∀ v' w', w'.ownsRow base e 1 v' (n + s.size) (xs ++ Lib.strCells s) → w.grownBy w' v.ownBlock → (∀ b, Gr w b e v v' w') → wpList P ops Q rest (a.put o.dst v') w') : wpList P ops Q (o :: rest) a w := by
  refine wpList_plain hgd fun K hK => ?_
  obtain ⟨v', w', hr, h2, h3, h4⟩ := app_strG (P := P) w base t u o.type e i ht hu hi hz hsize hby v n xs hown s h0 h63 hbytes hbase
  unfold Oper.wp execOp
  simp only [ho, resolve, invoke, builtin, Sem.run_bind, Sem.run_pure, Result.andThen_ok, List.map_toArray, List.map_cons, List.map_nil, hs, hx, hr]
  exact hK _ _ (h v' w' h2 h3 h4)
theorem wp_app1 {ops : Array Oper} {rest : List Oper} {o : Oper} {a : Act} {w : World} {Q : Exit → Act → World → Prop} (hgd : o.guard = none) (sl x : Operand) (t : TypeId)
    (ho : o.op = .call { callee := .builtin .append, args := #[sl, x], argTypes := #[t, t] })
    (base : Nat) (e : TypeId) (i : TypeInfo) (ht : P.underlying t = some (.slice e)) (hi : P.info? e = some i) (hz : i.zero = some (.int .u8 0))
    (hsize : i.size = 1) (hby : i.bytes = 1)
    (v : Value) (n : Nat) (xs : List Value) (hs : a.eval sl = v) (hown : w.ownsRow base e 1 v n xs) (ad : Addr) (u : Value) (hx : a.eval x = .slice (some ad) 1 1) (hu : w.cell? ad = some u) (h1 : u.oneCell' = true)
    (h63 : n + 1 ≤ maxLen) (hbytes : n + 1 ≤ 140737488355328) (hbase : base ≤ w.heap.size)
    (h : ∀ v' w', w'.ownsRow base e 1 v' (n + 1) (xs ++ [u]) → w.grownBy w' v.ownBlock → (∀ b, Gr w b e v v' w') → wpList P ops Q rest (a.put o.dst v') w') : wpList P ops Q (o :: rest) a w := by
  refine wpList_plain hgd fun K hK => ?_
  obtain ⟨v', w', hr, h2, h3, h4⟩ := app_one (P := P) w base t o.type e i ht hi hz hsize hby v n xs hown ad u hu h1 h63 hbytes hbase
  unfold Oper.wp execOp
  simp only [ho, resolve, invoke, builtin, Sem.run_bind, Sem.run_pure, Result.andThen_ok, List.map_toArray, List.map_cons, List.map_nil, hs, hx, hr]
  exact hK _ _ (h v' w' h2 h3 h4)

theorem BAt.lt {B b : Nat} {p v : Value} {bs : List Value} {w : World} (h : BAt ρ B b p v bs w) : ∀ g, v.ownBlock = some g → g < w.heap.size := fun g hg => (h.own.lt g hg).2
/-- String of a builder that has room but no byte. -/
theorem string_room (L : Lays.n169 P ρ) (X : Builder.Extra P ρ) (B b g cap : Nat) (p : Value) (w : World) (hc0 : cap ≠ 0) (hbk : w.heap[b]? = some (.cells #[p, .slice (some ⟨g, 0, none⟩) 0 cap] (ρ.t 72) (0, 0))) :
    Calls P (ρ.f 169) #[.pointer (some ⟨b, 0, none⟩)] w fun e w' => e = .returned (.string ⟨#[]⟩) ∧ Below B w w' ∧ w'.heap.size = w.heap.size ∧ ∀ k : Nat, w'.heap[k]? = w.heap[k]? := by
  have hUS := Any.unsafeString_none L X
  have c1 : w.drew.cell? ⟨b, 1, none⟩ = some (.slice (some ⟨g, 0, none⟩) 0 cap) := by
    have : w.drew.heap[b]? = some (.cells #[p, .slice (some ⟨g, 0, none⟩) 0 cap] (ρ.t 72) (0, 0)) := hbk
    rw [Lib.cell_of_heap this]; rfl
  have hSD : (Builtin.unsafeSliceData_ #[(ρ.t 37)] (ρ.t 127) #[.slice (some ⟨g, 0, none⟩) 0 cap]).run P w.drew = .ok (.pointer (some ⟨g, 0, none⟩)) w.drew :=
    Lib.run_unsafeSliceData_row _ _ _ _ _ _ hc0
  clear hc0
  have mixed := L.mixed
  have t72 := L.t72; have a72 := L.a72; have z72 := L.z72; have v72 := L.v72; have u72 := run_underlying L.t72
  have t70 := L.t70; have a70 := L.a70; have z70 := L.z70; have v70 := L.v70; have u70 := run_underlying L.t70
  have t37 := L.t37; have a37 := L.a37; have z37 := L.z37; have v37 := L.v37; have u37 := run_underlying L.t37
  have t127 := L.t127; have a127 := L.a127; have z127 := L.z127; have v127 := L.v127; have u127 := run_underlying L.t127
  have t3 := L.t3; have a3 := L.a3; have z3 := L.z3; have v3 := L.v3; have u3 := run_underlying L.t3
  have t9 := L.t9; have a9 := L.a9; have z9 := L.z9; have v9 := L.v9; have u9 := run_underlying L.t9
  have t5 := X.t5; have a5 := X.a5; have z5 := X.z5; have v5 := X.v5; have u5 := run_underlying X.t5
  go_enter L.f169, Body.n169_ntmps ρ
  go_wp2
  go_region_o
  all_goals (go_wp2; go_ret; exact ⟨rfl, Below.drew (Below.refl B w), rfl, fun _ => rfl⟩)
/-- WriteString. -/
theorem writeStringG (L : Lays.n166 P ρ) (X : Builder.Extra P ρ) {B b : Nat} {p v : Value} {bs : List Value} (s : ByteArray) {w : World} (h : BAt ρ B b p v bs w) (h0 : v = .slice none 0 0 → s.size ≠ 0) (hlen : bs.length + s.size ≤ 140737488355328) (hBw : B ≤ w.heap.size) :
    Calls P (ρ.f 166) #[.pointer (some ⟨b, 0, none⟩), .string s] w fun e w' => e = .returned (.tuple #[.int .i64 s.size, .nilIface]) ∧
      ∃ v', BAt ρ B b (.pointer (some ⟨b, 0, none⟩)) v' (bs ++ Lib.strCells s) w' ∧ Below B w w' ∧ Gr w b (ρ.t 5) v v' w' := by
  have hlt0 := h.lt
  obtain ⟨i0, hi, hz0, hz1, hz2⟩ := info_parts X.infoByte
  have mixed := L.mixed
  have t72 := L.t72; have a72 := L.a72; have z72 := L.z72; have v72 := L.v72; have u72 := run_underlying L.t72
  have t70 := L.t70; have a70 := L.a70; have z70 := L.z70; have v70 := L.v70; have u70 := run_underlying L.t70
  have t37 := L.t37; have a37 := L.a37; have z37 := L.z37; have v37 := L.v37; have u37 := run_underlying L.t37
  have t3 := L.t3; have a3 := L.a3; have z3 := L.z3; have v3 := L.v3; have u3 := run_underlying L.t3
  have t9 := L.t9; have a9 := L.a9; have z9 := L.z9; have v9 := L.v9; have u9 := run_underlying L.t9
  have t4 := L.t4; have a4 := L.a4; have z4 := L.z4; have v4 := L.v4; have u4 := run_underlying L.t4
  have t164 := L.t164; have a164 := L.a164; have z164 := L.z164; have v164 := L.v164; have u164 := run_underlying L.t164
  have t5 := X.t5; have a5 := X.a5; have z5 := X.z5; have v5 := X.v5; have u5 := run_underlying X.t5
  have e240 : ∀ args w, (callFunc (ρ.f 240) args).run P w = .ok (.enter (ρ.f 240) args) w := enters_of L.f240 (by kernel_rfl) rfl
  go_enter L.f166, Body.n166_ntmps ρ
  go_wp2_with (go_at_fn (ρ.f 240); refine (check { L with } X.toX72 h hBw).mono ?_)
  rintro e w1 ⟨rfl, h1, hb1, hs1, hk1⟩
  obtain ⟨hB, hbk, hown, hne, _⟩ := h1
  have c0 : w1.cell? ⟨b, 0, none⟩ = some (.pointer (some ⟨b, 0, none⟩)) := by rw [Lib.cell_of_heap hbk]; rfl
  have c1 : w1.cell? ⟨b, 1, none⟩ = some v := by rw [Lib.cell_of_heap hbk]; rfl
  go_wp2_with (at_builtin; refine wp_appG rfl _ _ (ρ.t 37) (ρ.t 9) rfl B (ρ.t 5) i0 L.t37 L.t9 hi hz0 hz1 hz2 _ _ _ rfl hown s rfl h0 ?c3 ?c4 ?c5 ?_)
  case c3 => unfold maxLen; omega
  case c4 => omega
  case c5 => have := hb1.size; omega
  intro v' w2 hown' hgrow hG
  have hlt : b < w1.heap.size := by
    rcases Nat.lt_or_ge b w1.heap.size with h' | h'
    · exact h'
    · simp [Array.getElem?_eq_none h'] at hbk
  have hb2 : w2.heap[b]? = some (.cells #[.pointer (some ⟨b, 0, none⟩), v] (ρ.t 72) (0, 0)) := by
    rw [hgrow.block b hlt (fun e => hne e.symm)]
    exact hbk
  have d0 : w2.cell? ⟨b, 0, none⟩ = some (.pointer (some ⟨b, 0, none⟩)) := by rw [Lib.cell_of_heap hb2]; rfl
  have d1 : w2.cell? ⟨b, 1, none⟩ = some v := by rw [Lib.cell_of_heap hb2]; rfl
  have f1 : w2.frozen? ⟨b, 1, none⟩ = false := Lib.frozen_of_heap hb2 1
  obtain ⟨ao, n', cap, rfl⟩ : ∃ ao n' cap, v' = .slice ao n' cap := by
    rcases hown'.2 with ⟨hv, _⟩ | ⟨g, cap, cur, hv, _⟩
    · exact ⟨_, _, _, hv⟩
    · exact ⟨_, _, _, hv⟩
  go_wp2
  go_ret2
  have hput := Lib.BuilderAt.put (T := (ρ.t 72)) (e := (ρ.t 5)) hB hb2 (bs' := bs ++ Lib.strCells s) (by simpa [Lib.strCells_length] using hown') X.neB5
  have hk3 : ∀ k, k ≠ b → (w2.setCell ⟨b, 1, none⟩ (.slice ao n' cap)).heap[k]? = w2.heap[k]? := fun k hk => by simp [World.setCell, Array.getElem?_modify, Ne.symm hk]
  refine ⟨rfl, .slice ao n' cap, ?_, ?_, ?_⟩
  · obtain ⟨q1, v9, q2, q3, q4⟩ := hput
    have hv : (w2.setCell ⟨b, 1, none⟩ (.slice ao n' cap)).heap[b]? = some (.cells #[.pointer (some ⟨b, 0, none⟩), .slice ao n' cap] (ρ.t 72) (0, 0)) := by
      simp [World.setCell, Array.getElem?_modify, hb2]
    rw [hv] at q2
    cases q2
    exact ⟨hB, hv, by simpa [Lib.strCells_length] using q3, q4, .inr rfl⟩
  · exact (hb1.grown hgrow (by have := hb1.size; omega) (fun k hk => (hown.lt k hk).1)).setCell (p := ⟨b, 1, none⟩) hB _
  · exact ((hG b).pre hne (by omega) (fun k q1 _ => hk1 k q1) hlt0).post hne (by simp [World.setCell]) hk3
/-- WriteByte. -/
theorem writeByteG (L : Lays.n167 P ρ) (X : Builder.Extra P ρ) {B b : Nat} {p v : Value} {bs : List Value} (c : Int) {w : World} (h : BAt ρ B b p v bs w) (hlen : bs.length + 1 ≤ 140737488355328) (hBw : B ≤ w.heap.size) :
    Calls P (ρ.f 167) #[.pointer (some ⟨b, 0, none⟩), .int .u8 c] w fun e w' => e = .returned .nilIface ∧
      ∃ v', BAt ρ B b (.pointer (some ⟨b, 0, none⟩)) v' (bs ++ [.int .u8 c]) w' ∧ Below B w w' ∧ Gr w b (ρ.t 5) v v' w' := by
  have hlt0 := h.lt
  obtain ⟨i0, hi, hz0, hz1, hz2⟩ := info_parts X.infoByte
  have mixed := L.mixed
  have t72 := L.t72; have a72 := L.a72; have z72 := L.z72; have v72 := L.v72; have u72 := run_underlying L.t72
  have t70 := L.t70; have a70 := L.a70; have z70 := L.z70; have v70 := L.v70; have u70 := run_underlying L.t70
  have t37 := L.t37; have a37 := L.a37; have z37 := L.z37; have v37 := L.v37; have u37 := run_underlying L.t37
  have t9 := L.t9; have a9 := L.a9; have z9 := L.z9; have v9 := L.v9; have u9 := run_underlying L.t9
  have t4 := L.t4; have a4 := L.a4; have z4 := L.z4; have v4 := L.v4; have u4 := run_underlying L.t4
  have t164 := L.t164; have a164 := L.a164; have z164 := L.z164; have v164 := L.v164; have u164 := run_underlying L.t164
  have t5 := L.t5; have a5 := L.a5; have z5 := L.z5; have v5 := L.v5; have u5 := run_underlying L.t5
  have e240 : ∀ args w, (callFunc (ρ.f 240) args).run P w = .ok (.enter (ρ.f 240) args) w := enters_of L.f240 (by kernel_rfl) rfl
  go_enter L.f167, Body.n167_ntmps ρ
  go_wp2_with (go_at_fn (ρ.f 240); refine (check { L with } X.toX72 h hBw).mono ?_)
  rintro e w1 ⟨rfl, h1, hb1, hs1, hk1⟩
  obtain ⟨hB, hbk, hown, hne, _⟩ := h1
  have c0 : w1.cell? ⟨b, 0, none⟩ = some (.pointer (some ⟨b, 0, none⟩)) := by rw [Lib.cell_of_heap hbk]; rfl
  have c1 : w1.cell? ⟨b, 1, none⟩ = some v := by rw [Lib.cell_of_heap hbk]; rfl
  go_wp2_with (at_builtin; refine wp_app1 rfl _ _ (ρ.t 37) rfl B (ρ.t 5) i0 L.t37 hi hz0 hz1 hz2 _ _ _ rfl (hown.alloc _) ⟨w.heap.size, 0, none⟩ (.int .u8 c) rfl ?c0 rfl ?c3 ?c4 ?c5 ?_)
  case c0 => rw [← hs1]; simp
  case c3 => unfold maxLen; omega
  case c4 => omega
  case c5 => have := hb1.size; simp; omega
  intro v' w2 hown' hgrow hG
  have hlt : b < w1.heap.size := by
    rcases Nat.lt_or_ge b w1.heap.size with h' | h'
    · exact h'
    · simp [Array.getElem?_eq_none h'] at hbk
  have hb2 : w2.heap[b]? = some (.cells #[.pointer (some ⟨b, 0, none⟩), v] (ρ.t 72) (0, 0)) := by
    rw [hgrow.block b (by simp; omega) (fun e => hne e.symm), Lib.alloc_old w1 _ b hlt]
    exact hbk
  have d0 : w2.cell? ⟨b, 0, none⟩ = some (.pointer (some ⟨b, 0, none⟩)) := by rw [Lib.cell_of_heap hb2]; rfl
  have d1 : w2.cell? ⟨b, 1, none⟩ = some v := by rw [Lib.cell_of_heap hb2]; rfl
  have f1 : w2.frozen? ⟨b, 1, none⟩ = false := Lib.frozen_of_heap hb2 1
  obtain ⟨g, cap, rfl⟩ : ∃ g cap, v' = .slice (some ⟨g, 0, none⟩) (bs.length + 1) cap := by
    rcases hown'.2 with ⟨_, h0⟩ | ⟨g, cap, cur, hv, _⟩
    · omega
    · exact ⟨g, cap, hv⟩
  go_wp2
  go_ret
  have hput := Lib.BuilderAt.put (T := (ρ.t 72)) (e := (ρ.t 5)) hB hb2 (bs' := bs ++ [.int .u8 c]) (by simpa using hown') X.neB5
  have hk3 : ∀ k, k ≠ b → (w2.setCell ⟨b, 1, none⟩ (.slice (some ⟨g, 0, none⟩) (bs.length + 1) cap)).heap[k]? = w2.heap[k]? := fun k hk => by simp [World.setCell, Array.getElem?_modify, Ne.symm hk]
  refine ⟨rfl, .slice (some ⟨g, 0, none⟩) (bs.length + 1) cap, ?_, ?_, ?_⟩
  · obtain ⟨q1, v9, q2, q3, q4⟩ := hput
    have hv : (w2.setCell ⟨b, 1, none⟩ (.slice (some ⟨g, 0, none⟩) (bs.length + 1) cap)).heap[b]? = some (.cells #[.pointer (some ⟨b, 0, none⟩), .slice (some ⟨g, 0, none⟩) (bs.length + 1) cap] (ρ.t 72) (0, 0)) := by
      simp [World.setCell, Array.getElem?_modify, hb2]
    rw [hv] at q2
    cases q2
    exact ⟨hB, hv, by simpa using q3, q4, .inr rfl⟩
  · exact ((hb1.alloc (by have := hb1.size; omega) _).grown hgrow (by have := hb1.size; simp; omega) (fun k hk => (hown.lt k hk).1)).setCell (p := ⟨b, 1, none⟩) hB _
  · refine ((hG b).pre hne (by simp; omega) (fun k q1 q2 => ?_) hlt0).post hne (by simp [World.setCell]) hk3
    rw [Lib.alloc_old w1 _ k (by omega)]; exact hk1 k q1

theorem alloc_new (w : World) (o : Obj) : (w.alloc o).heap[w.heap.size]? = some o := by
  show (w.heap.push o)[w.heap.size]? = some o
  rw [Array.getElem?_push_size]
/-- grow, of a builder without a buffer. -/
theorem grow_nil (L : Lays.n241 P ρ) (X : Builder.Extra P ρ) (B b n : Nat) (w : World) (hB : B ≤ b) (hbk : w.heap[b]? = some (.cells #[.pointer (some ⟨b, 0, none⟩), .slice none 0 0] (ρ.t 72) (0, 0))) (hn : n ≤ 281474976710656) :
    Calls P (ρ.f 241) #[.pointer (some ⟨b, 0, none⟩), .int .i64 n] w fun e w' => e = .returned (.tuple #[]) ∧ ∃ (cs : Array Value), w'.heap[b]? = some (.cells #[.pointer (some ⟨b, 0, none⟩), .slice (some ⟨w.heap.size, 0, none⟩) 0 cs.size] (ρ.t 72) (0, 0)) ∧ n ≤ cs.size ∧ cs.size ≤ maxLen ∧
      w'.heap[w.heap.size]? = some (.cells cs (ρ.t 5) (0, 0)) ∧ w.heap.size ≤ w'.heap.size ∧ Below B w w' ∧ ∀ k, k ≠ b → k < w.heap.size → w'.heap[k]? = w.heap[k]? := by
  obtain ⟨cs, hrun, hle, hmax⟩ := Lib.run_makeNoZero (P := P) w.drew #[(ρ.t 3)] (ρ.t 37) (ρ.t 5) L.t37 n hn
  have hw : IntKind.i64.wrap (IntKind.i64.wrap 0 + (n : Int)) = n := by
    rw [IntKind.wrap_i64, IntKind.wrap_i64]
    omega
  have hcall : (callFunc (ρ.f 277) #[.int .i64 (IntKind.i64.wrap (IntKind.i64.wrap 0 + (n : Int)))]).run P w.drew = .ok (.value (.slice (some ⟨w.drew.heap.size, 0, none⟩) n cs.size)) (w.drew.drew.drew.alloc (.cells cs (ρ.t 5))) := by
    rw [hw, run_callFunc_extern L.f277 (by kernel_rfl) (by kernel_rfl) (by kernel_rfl) (e := Extern.BytealgMakeNoZero.makeNoZero #[(ρ.t 3)] #[(ρ.t 37)]) (by kernel_rfl), hrun]
    rfl
  have hlt : b < w.heap.size := by
    rcases Nat.lt_or_ge b w.heap.size with h' | h'
    · exact h'
    · simp [Array.getElem?_eq_none h'] at hbk
  have c1 : w.drew.cell? ⟨b, 1, none⟩ = some (.slice none 0 0) := by
    have : w.drew.heap[b]? = _ := hbk
    rw [Lib.cell_of_heap this]; rfl
  have hA : (w.alloc (.cells cs (ρ.t 5))).heap[b]? = some (.cells #[.pointer (some ⟨b, 0, none⟩), .slice none 0 0] (ρ.t 72) (0, 0)) := (Lib.alloc_old w _ b hlt).trans hbk
  have c2 : (w.alloc (.cells cs (ρ.t 5))).cell? ⟨b, 1, none⟩ = some (.slice none 0 0) := by rw [Lib.cell_of_heap hA]; rfl
  have f2 : (w.alloc (.cells cs (ρ.t 5))).frozen? ⟨b, 1, none⟩ = false := Lib.frozen_of_heap hA 1
  have hcopy : ∀ W : World, (Builtin.copy_ #[(ρ.t 37), (ρ.t 37)] (ρ.t 3) #[.slice (some ⟨w.heap.size, 0, none⟩) 0 cs.size, .slice none 0 0]).run P W = .ok (goInt 0) W :=
    fun W => run_copy_none W (ρ.t 37) (ρ.t 37) (ρ.t 3) (ρ.t 5) _ _ 0 cs.size 0 0 L.t37 X.sizeByte rfl
  clear hw hlt
  have mixed := L.mixed
  have t72 := L.t72; have a72 := L.a72; have z72 := L.z72; have v72 := L.v72; have u72 := run_underlying L.t72
  have t70 := L.t70; have a70 := L.a70; have z70 := L.z70; have v70 := L.v70; have u70 := run_underlying L.t70
  have t37 := L.t37; have a37 := L.a37; have z37 := L.z37; have v37 := L.v37; have u37 := run_underlying L.t37
  have t3 := L.t3; have a3 := L.a3; have z3 := L.z3; have v3 := L.v3; have u3 := run_underlying L.t3
  have t5 := X.t5; have a5 := X.a5; have z5 := X.z5; have v5 := X.v5; have u5 := run_underlying X.t5
  go_enter L.f241, Body.n241_ntmps ρ
  go_wp2
  have hW : ((w.alloc (.cells cs (ρ.t 5))).setCell ⟨b, 1, none⟩ (.slice (some ⟨w.heap.size, 0, none⟩) 0 cs.size)).heap[b]? = some (.cells #[.pointer (some ⟨b, 0, none⟩), .slice (some ⟨w.heap.size, 0, none⟩) 0 cs.size] (ρ.t 72) (0, 0)) := by
    simp [World.setCell, Array.getElem?_modify, hA]
  have hN : ((w.alloc (.cells cs (ρ.t 5))).setCell ⟨b, 1, none⟩ (.slice (some ⟨w.heap.size, 0, none⟩) 0 cs.size)).heap[w.heap.size]? = some (.cells cs (ρ.t 5) (0, 0)) := by
    have hlt : b < w.heap.size := by
      rcases Nat.lt_or_ge b w.heap.size with h' | h'
      · exact h'
      · simp [Array.getElem?_eq_none h'] at hbk
    have hne : b ≠ w.heap.size := by omega
    show ((w.alloc (.cells cs (ρ.t 5))).heap.modify b _)[w.heap.size]? = _
    rw [Array.getElem?_modify, if_neg hne]
    exact alloc_new w _
  have hO : ∀ k, k ≠ b → k < w.heap.size → ((w.alloc (.cells cs (ρ.t 5))).setCell ⟨b, 1, none⟩ (.slice (some ⟨w.heap.size, 0, none⟩) 0 cs.size)).heap[k]? = w.heap[k]? := fun k h1 h2 => by
    have := Lib.alloc_old w (.cells cs (ρ.t 5)) k h2
    simp [World.setCell, Array.getElem?_modify, Ne.symm h1, this]
  have hS : w.heap.size ≤ ((w.alloc (.cells cs (ρ.t 5))).setCell ⟨b, 1, none⟩ (.slice (some ⟨w.heap.size, 0, none⟩) 0 cs.size)).heap.size := by simp [World.setCell]
  have hm := hmax (by unfold maxLen; omega)
  have hlt : b < w.heap.size := by
    rcases Nat.lt_or_ge b w.heap.size with h' | h'
    · exact h'
    · simp [Array.getElem?_eq_none h'] at hbk
  have hBB : Below B w (((w.alloc (.cells cs (ρ.t 5))).setCell ⟨b, 1, none⟩ (.slice (some ⟨w.heap.size, 0, none⟩) 0 cs.size)).drew.drew.drew) := ((((Below.refl B w).alloc (by omega) _).setCell (p := ⟨b, 1, none⟩) hB _).drew.drew.drew)
  clear hlt
  go_region_o
  all_goals (go_wp2; go_end0; exact ⟨rfl, cs, hW, hle, hm, hN, hS, hBB, hO⟩)
/-- Grow, of a builder that was never written. -/
theorem growG (L : Lays.n165 P ρ) (X : Builder.Extra P ρ) (B b n : Nat) (w : World) (hB : B ≤ b) (hbk : w.heap[b]? = some (.cells #[.pointer none, .slice none 0 0] (ρ.t 72) (0, 0))) (hBw : B ≤ w.heap.size) (h1 : 1 ≤ n) (hn : n ≤ 281474976710656) :
    Calls P (ρ.f 165) #[.pointer (some ⟨b, 0, none⟩), .int .i64 n] w fun e w' => e = .returned (.tuple #[]) ∧ ∃ v', BAt ρ B b (.pointer (some ⟨b, 0, none⟩)) v' [] w' ∧ Below B w w' ∧ Gr w b (ρ.t 5) (.slice none 0 0) v' w' ∧ ∃ g cap, v' = .slice (some ⟨g, 0, none⟩) 0 cap ∧ n ≤ cap := by
  have hbk1 : (w.setCell ⟨b, 0, none⟩ (.pointer (some ⟨b, 0, none⟩))).heap[b]? = some (.cells #[.pointer (some ⟨b, 0, none⟩), .slice none 0 0] (ρ.t 72) (0, 0)) := by
    simp [World.setCell, Array.getElem?_modify, hbk]
  have c1 : (w.setCell ⟨b, 0, none⟩ (.pointer (some ⟨b, 0, none⟩))).cell? ⟨b, 1, none⟩ = some (.slice none 0 0) := by rw [Lib.cell_of_heap hbk1]; rfl
  have hb1 : Below B w (w.setCell ⟨b, 0, none⟩ (.pointer (some ⟨b, 0, none⟩))) := (Below.refl B w).setCell (p := ⟨b, 0, none⟩) hB _
  have mixed := L.mixed
  have t72 := L.t72; have a72 := L.a72; have z72 := L.z72; have v72 := L.v72; have u72 := run_underlying L.t72
  have t70 := L.t70; have a70 := L.a70; have z70 := L.z70; have v70 := L.v70; have u70 := run_underlying L.t70
  have t37 := L.t37; have a37 := L.a37; have z37 := L.z37; have v37 := L.v37; have u37 := run_underlying L.t37
  have t3 := L.t3; have a3 := L.a3; have z3 := L.z3; have v3 := L.v3; have u3 := run_underlying L.t3
  have t9 := L.t9; have a9 := L.a9; have z9 := L.z9; have v9 := L.v9; have u9 := run_underlying L.t9
  have t4 := L.t4; have a4 := L.a4; have z4 := L.z4; have v4 := L.v4; have u4 := run_underlying L.t4
  have t164 := L.t164; have a164 := L.a164; have z164 := L.z164; have v164 := L.v164; have u164 := run_underlying L.t164
  have t5 := X.t5; have a5 := X.a5; have z5 := X.z5; have v5 := X.v5; have u5 := run_underlying X.t5
  have e240 : ∀ args w, (callFunc (ρ.f 240) args).run P w = .ok (.enter (ρ.f 240) args) w := enters_of L.f240 (by kernel_rfl) rfl
  have e241 : ∀ args w, (callFunc (ρ.f 241) args).run P w = .ok (.enter (ρ.f 241) args) w := enters_of L.f241 (by kernel_rfl) rfl
  go_enter L.f165, Body.n165_ntmps ρ
  have c1' : (w.setCell ⟨b, 0, none⟩ (.pointer (some ⟨b, 0, none⟩))).drew.cell? ⟨b, 1, none⟩ = some (.slice none 0 0) := c1
  go_wp2_with (go_at_fn (ρ.f 240); refine (Any.Builder_copyCheck_fresh { L with } X.toX72 b w (by rw [Lib.cell_of_heap hbk]; rfl) (by simp [World.shape?, hbk]) (Lib.frozen_of_heap hbk 0)).mono ?_; rintro e w' ⟨rfl, rfl⟩)
  go_region_o
  all_goals go_wp2_with (go_at_fn (ρ.f 241); refine (grow_nil { L with } X B b n (w.setCell ⟨b, 0, none⟩ (.pointer (some ⟨b, 0, none⟩))).drew hB hbk1 hn).mono ?_; rintro e w' ⟨rfl, cs, q1, q2, q3, q4, q5, q9, q6⟩)
  have hs1 : (w.setCell ⟨b, 0, none⟩ (.pointer (some ⟨b, 0, none⟩))).heap.size = w.heap.size := by simp [World.setCell]
  have hk1 : ∀ k, k ≠ b → (w.setCell ⟨b, 0, none⟩ (.pointer (some ⟨b, 0, none⟩))).heap[k]? = w.heap[k]? := fun k hk => by simp [World.setCell, Array.getElem?_modify, Ne.symm hk]
  go_end0
  have z1 : (w.setCell ⟨b, 0, none⟩ (.pointer (some ⟨b, 0, none⟩))).drew.heap.size = w.heap.size := hs1
  have hlt : b < w.heap.size := by
    rcases Nat.lt_or_ge b w.heap.size with h' | h'
    · exact h'
    · simp [Array.getElem?_eq_none h'] at hbk
  have q6' : ∀ k, k ≠ b → k < w.heap.size → w'.heap[k]? = w.heap[k]? := fun k r1 r2 => (q6 k r1 (by omega)).trans (hk1 k r1)
  refine ⟨rfl, _, ⟨hB, q1, ⟨rfl, .inr ⟨_, _, cs, rfl, ?_, q4, Nat.zero_le _, q3, by simp, rfl⟩⟩, ?_, .inr rfl⟩, hb1.drew.trans q9, ⟨?_, .inr ⟨_, _, _, rfl, ?_, ?_, q6'⟩⟩, _, _, rfl, q2⟩
  · omega
  · simp [Value.ownBlock]; omega
  · omega
  · omega
  · omega
end
end Go.Proofs.YtijioomcpecdhaaDoor.lib
