/- Definitions of a template: Reachable's search, walked. -/
import Derived.Test.YthphaolkihageaaMG
set_option linter.unusedSimpArgs false
set_option linter.unusedVariables false
set_option maxRecDepth 100000
set_option maxHeartbeats 4000000
namespace Go.AL.Fun
open Go Go.AL

def m12 (xs : List AV) (H : Heap) (K : Kv) : Prop := ∃ (u : Nat) (l : List (List UInt8)) (s : List UInt8), xs = [.msl u 0 l.length 1, .str s] ∧ l.length ≤ 1000000 ∧ lookH u H = some (.cells (strsAV l)) ∧ K.ap (.bool (decide (s ∈ l))) H
theorem m12_ok {P : Program} (h : ∀ xs H K, c12 xs H ⟨K⟩ → ACalls (fun _ => none) P 12 xs H K) : ∀ xs H K, m12 xs H ⟨K⟩ → ACalls (fun _ => none) P 12 xs H K := by
  rintro xs H K ⟨u, l, s, rfl, hl1, hl, k⟩
  have hp := h [.sl (strsAV l) .no, .str s] [] (fun v _ => v = .bool (decide (s ∈ l))) (x_c12 (by omega) _ _ rfl)
  refine ⟨hp.1, fun B w0 m w cargs hs hr => ?_⟩
  obtain ⟨c, r2, e2, g2, hr⟩ := hr.uncons
  obtain ⟨d, r3, e3, g4, hr⟩ := hr.uncons
  have e4 := hr.unnil
  subst e3 e4
  obtain rfl : cargs = #[c, d] := by cases cargs; simp_all
  have g3 : Rel (im0 w) (.sl (strsAV l) .no) c := Rel.thaw hs g2 (by rw [strs_flat]; exact lookH_mem hl) (strs_all l) (strs_len l) (by decide)
  refine (hp.pureH hs (((RelL.nil _).cons (g4.mono hs.le_im0)).cons g3)).mono ?_
  rintro e w' ⟨cv, m1, rfl, hr1, hs'⟩
  refine ⟨_, cv, m, H, rfl, .refl m, hs', ?_, k⟩
  cases hr1
  exact .bool _
def q12 (xs : List AV) (H : Heap) (K : Kv) : Prop := c12 xs H K ∨ m12 xs H K
theorem x_q12 {ns : List (List UInt8)} {id : Nat} {s : List UInt8} {H : Heap} {K : Kv} (h1 : ns.length ≤ 1000000) (h2 : ns ≠ [] → lookH id H = some (.cells (strsAV ns))) (k : K.ap (.bool (decide (s ∈ ns))) H) : q12 [nmV ns id, .str s] H K := by
  by_cases h0 : ns = []
  · subst h0
    exact .inl (x_c12 (l := []) (t := .nil) (by decide) _ _ k)
  · have ev : nmV ns id = .msl id 0 ns.length 1 := if_neg h0
    rw [ev]
    exact .inr ⟨id, ns, s, rfl, h1, h2 h0, k⟩
theorem nmV_cells (ns : List (List UInt8)) (id : Nat) : (nmV ns id).cells = [nmV ns id] := by unfold nmV; split <;> rfl
/-- A call, searched. -/
def c20 (F : Nat) (xs : List AV) (H : Heap) (K : Kv) : Prop := ∃ (n : Nd) (lb nb vb : Nat) (l : List Nd) (tl : Tok) (ns : List (List UInt8)) (id : Nat) (R : Heap), xs = [.agg n.cs, .ptr lb 0, .ptr nb 0, .ptr vb 0] ∧ VX lb nb vb l tl ns id R H ∧
  Nd.cnts l ≤ 900000 ∧ ns.length + unf l ns ≤ 900000 ∧ unf l ns < F ∧ ∀ id' H', VX lb nb vb l tl (visitR l F ns n) id' R H' → K.ap (.bool true) H'
/-- Calls, searched. -/
def e21 (F N : Nat) (xs : List AV) (H : Heap) (K : Kv) : Prop := ∃ (b : List Nd) (tb : Tok) (lb nb vb : Nat) (l : List Nd) (tl : Tok) (ns : List (List UInt8)) (id : Nat) (R : Heap), xs = [.sl (Nd.avs b) tb, vF lb nb vb] ∧ VX lb nb vb l tl ns id R H ∧
  Nd.cnts b < N ∧ Nd.cnts b ≤ 900000 ∧ Nd.cnts l ≤ 900000 ∧ ns.length + unf l ns ≤ 900000 ∧ unf l ns < F ∧ ∀ id' H', VX lb nb vb l tl ((callsR b).foldl (visitR l F) ns) id' R H' → K.ap (.bool true) H'
theorem c20_of (P : Program) {F : Nat} {xs : List AV} {H : Heap} {K : Kv} (h : c20 (F + 1) xs H K) : @xF ⟨fun _ => none, P, [(6, c6), (12, q12), (21, e21 F 900001)]⟩ f20 xs H ⟨fun v H' => ∃ H0, Hle H0 H' ∧ K.ap v H0⟩ := by
  obtain ⟨⟨k, p, s, q, hp, he, b, e⟩, lb, nb, vb, l, tl, ns, id, R, rfl, vx, hl, hb, hf, h⟩ := h
  have ll := cnts_len l
  have hv : visitR l (F + 1) ns (.mk k p s q hp he b e) = (match findD l s with | none => ns | some d => if d.n ∈ ns then ns else (callsR d.b).foldl (visitR l F) (ns ++ [d.n])) := by rw [visitR]; rfl
  rw [hv] at h
  simp only [Nd.cs]
  simp (implicitDefEqProofs := false) only [sB, simprocAttr, f20]
  refine i_new fun z hz => ?_
  have e1 := key_ne vx.ll hz
  have e2 := key_ne vx.nm hz
  have e3 := key_ne vx.v hz
  simp (implicitDefEqProofs := false) only [sB, simprocAttr, e1, vx.ll]
  refine x_c6 (by omega) ?_
  cases hfd : findD l s with
  | none =>
    rw [hfd] at h
    simp (implicitDefEqProofs := false) only [sB, simprocAttr, resD, zeroN]
    refine i_new fun y hy => ?_
    simp (implicitDefEqProofs := false) only [sB, simprocAttr]
    exact ⟨_, .of_sub (.cons _ (.cons _ (.refl _))), h id H vx⟩
  | some d =>
    rw [hfd] at h
    obtain ⟨hd1, hd2, hd3, hd4⟩ := find_mem hfd
    have hc := cnts_mem hd1
    obtain ⟨k', p', s', q', hp', he', b', e'⟩ := d
    simp only [Nd.n, Nd.b] at h hd3
    simp only [Nd.cnt] at hc
    subst hd3
    simp (implicitDefEqProofs := false) only [sB, simprocAttr, resD, Nd.cs]
    refine i_new fun y hy => ?_
    have y1 : ¬ nb = y := fun e => hy (by subst e; exact List.mem_cons_of_mem _ (List.mem_map.2 ⟨_, lookH_mem vx.nm, rfl⟩))
    simp (implicitDefEqProofs := false) only [sB, simprocAttr, e2, y1, vx.nm, nmV_cells]
    have vx2 := (vx.push (.cells [.int .i64 k, .int .i64 p, .str s', .str q, .bool hp, .bool he, .sl (Nd.avs b) (tokc b), .sl (Nd.avs e) (tokc e)]) hz).push (.cells [.int .i64 k', .int .i64 p', .str s', .str q', .bool hp', .bool he', .sl (Nd.avs b') (tokc b'), .sl (Nd.avs e') (tokc e')]) hy
    refine x_q12 (by omega) (fun h0 => vx2.names h0) ?_
    by_cases c : s' ∈ ns
    · simp only [c, if_true] at h
      simp (implicitDefEqProofs := false) only [sB, simprocAttr, c]
      exact ⟨_, .of_sub (.cons _ (.cons _ (.refl _))), h id H vx⟩
    · simp only [c, if_false] at h
      simp (implicitDefEqProofs := false) only [sB, simprocAttr, c, e2, y1, vx.nm, nmV_cells]
      refine i_sl ⟨⟨strs_all [s'], rfl, rfl⟩, i_new fun w hw => ?_⟩
      simp (implicitDefEqProofs := false) only [sB, simprocAttr]
      refine (vx2.push (.spare 1) hw).add (by omega) fun id' H' k1 v3 => ?_
      have yn : ¬ y = nb := fun e => y1 e.symm
      have vn := v3.ne.2.2
      have k2 : lookH y H' = some (.cells [.int .i64 k', .int .i64 p', .str s', .str q', .bool hp', .bool he', .sl (Nd.avs b') (tokc b'), .sl (Nd.avs e') (tokc e')]) := by
        rw [← look_other yn]; exact v3.r (by simp)
      have k3 : lookH vb H' = some (.cells [vF lb nb vb]) := by rw [← look_other vn]; exact v3.v
      have lt := unf_lt (l := l) hd4 c
      simp (implicitDefEqProofs := false) only [sB, simprocAttr, k1, k2, k3, yn, vn, nmV_cells, vF]
      refine ⟨b', _, lb, nb, vb, l, tl, ns ++ [s'], id', _, rfl, v3, by omega, by omega, hl, by simp only [List.length_append, List.length_cons, List.length_nil]; omega, by omega, fun id2 H2 v4 => ?_⟩
      simp (implicitDefEqProofs := false) only [sB, simprocAttr]
      obtain ⟨H3, q1, v5⟩ := v4.pop
      obtain ⟨H4, q2, v6⟩ := v5.pop
      obtain ⟨H5, q3, v7⟩ := v6.pop
      exact ⟨H5, (q3.trans q2).trans q1, h _ _ v7⟩
theorem c20_go {F : Nat} {n : Nd} {lb nb vb : Nat} {l : List Nd} {tl : Tok} {ns : List (List UInt8)} {id : Nat} {R H : Heap} {K : Kv} (vx : VX lb nb vb l tl ns id R H) (h1 : Nd.cnts l ≤ 900000) (h2 : ns.length + unf l ns ≤ 900000) (h3 : unf l ns < F)
    (k : ∀ id' H', VX lb nb vb l tl (visitR l F ns n) id' R H' → K.ap (.bool true) H') : c20 F [.agg n.cs, .ptr lb 0, .ptr nb 0, .ptr vb 0] H K := ⟨n, lb, nb, vb, l, tl, ns, id, R, rfl, vx, h1, h2, h3, k⟩
theorem e21_go {F N : Nat} {b : List Nd} {tb : Tok} {lb nb vb : Nat} {l : List Nd} {tl : Tok} {ns : List (List UInt8)} {id : Nat} {R H : Heap} {K : Kv} (vx : VX lb nb vb l tl ns id R H) (hb : Nd.cnts b < N) (hb2 : Nd.cnts b ≤ 900000) (h1 : Nd.cnts l ≤ 900000) (h2 : ns.length + unf l ns ≤ 900000) (h3 : unf l ns < F)
    (k : ∀ id' H', VX lb nb vb l tl ((callsR b).foldl (visitR l F) ns) id' R H' → K.ap (.bool true) H') : e21 F N [.sl (Nd.avs b) tb, .fn (.func 20) [] [.ptr lb 0, .ptr nb 0, .ptr vb 0]] H K := ⟨b, tb, lb, nb, vb, l, tl, ns, id, R, rfl, vx, hb, hb2, h1, h2, h3, k⟩
theorem e21_of (P : Program) {F N : Nat} {xs : List AV} {H : Heap} {K : Kv} (h : e21 F (N + 1) xs H K) : @xF ⟨fun _ => none, P, [(20, c20 F), (21, e21 F N)]⟩ f21 xs H ⟨fun v H' => ∃ H0, Hle H0 H' ∧ K.ap v H0⟩ := by
  obtain ⟨b, tb, lb, nb, vb, l, tl, ns, id, R, rfl, vx, hN, hb, hl, hs, hf, h⟩ := h
  have ll := cnts_len b
  unfold vF
  simp (implicitDefEqProofs := false) only [sB, simprocAttr, f21, nds_len]
  refine i_loopJ (fun σ H1 => ∃ (i id : Nat), VX lb nb vb l tl ((callsR (b.take i)).foldl (visitR l F) ns) id R H1 ∧ i ≤ b.length ∧ σ = [(1, .fn (.func 20) [] [.ptr lb 0, .ptr nb 0, .ptr vb 0]), (7, .sl (Nd.avs b) tb), (8, .int .i64 b.length), (9, .int .i64 i)])
    (fun σ _ => match σ.get 9 with | .int _ n => b.length - n.toNat | _ => 0)
    (fun e σ H1 => e = .exit 0 ∧ ∃ id, VX lb nb vb l tl ((callsR b).foldl (visitR l F) ns) id R H1)
    ⟨_, .refl _, 0, id, vx, by omega, rfl⟩ ?_ ?_
  · rintro e σ H1 ⟨rfl, id, v1⟩
    simp (implicitDefEqProofs := false) only [sB, simprocAttr]
    exact ⟨_, .refl _, h _ _ v1⟩
  · rintro Q hQ σ H1 ⟨i, id, v1, hi, rfl⟩
    by_cases c : i < b.length
    · have c' : (i : Int) < (b.length : Int) := by omega
      have i0 : (0 : Int) ≤ (i : Int) := by omega
      have r9 := w_i64 ((i : Int) + 1) (by omega) (by omega)
      have hx : (Nd.avs b)[i]? = some (.agg (b[i]).cs) := by rw [nds_get, List.getElem?_eq_getElem c]; rfl
      have n3 := cnts_get c
      have g0 := fold_gr l F (callsR (b.take i)) ns
      have nt : (callsR (b.take (i + 1))).foldl (visitR l F) ns = (callsN b[i]).foldl (visitR l F) ((callsR (b.take i)).foldl (visitR l F) ns) := by rw [take_one c, calls_app, calls_one, List.foldl_append]
      generalize (callsR (b.take i)).foldl (visitR l F) ns = ms at v1 g0 nt
      generalize b[i] = d at hx n3 nt
      obtain ⟨k, p, s, q, hp, he, b', e'⟩ := d
      rw [callsN, List.foldl_append, List.foldl_append] at nt
      simp only [Nd.cnt] at n3
      simp only [Nd.cs] at hx
      simp (implicitDefEqProofs := false) only [sB, simprocAttr, c', i0, hx]
      refine i_new fun z hz => ?_
      have v2 := v1.push (.cells [.int .i64 k, .int .i64 p, .str s, .str q, .bool hp, .bool he, .sl (Nd.avs b') (tokc b'), .sl (Nd.avs e') (tokc e')]) hz
      by_cases c1 : k = 4
      · subst c1
        rw [if_pos rfl] at nt
        simp only [List.foldl_cons, List.foldl_nil] at nt
        simp (implicitDefEqProofs := false) only [sB, simprocAttr]
        refine c20_go (n := Nd.mk 4 p s q hp he b' e') v2 hl (by have := g0.2.1; omega) (by have := g0.1; omega) fun id1 H2 v3 => ?_
        have g1 := g0.trans (visit_gr l F ms (Nd.mk 4 p s q hp he b' e'))
        have k1 := v3.r List.mem_cons_self
        simp (implicitDefEqProofs := false) only [sB, simprocAttr, k1]
        refine e21_go v3 (by omega) (by omega) hl (by have := g1.2.1; omega) (by have := g1.1; omega) fun id2 H3 v4 => ?_
        have g2 := g1.trans (fold_gr l F (callsR b') _)
        have k2 := v4.r List.mem_cons_self
        simp (implicitDefEqProofs := false) only [sB, simprocAttr, k2]
        refine e21_go v4 (by omega) (by omega) hl (by have := g2.2.1; omega) (by have := g2.1; omega) fun id3 H4 v5 => ?_
        simp (implicitDefEqProofs := false) only [sB, simprocAttr, r9]
        rw [← nt] at v5
        obtain ⟨H5, q1, v6⟩ := v5.pop
        exact ⟨H5, q1, ⟨i + 1, id3, v6, by omega, by simp⟩, by omega⟩
      · rw [if_neg c1] at nt
        simp only [List.foldl_nil] at nt
        simp (implicitDefEqProofs := false) only [sB, simprocAttr, c1]
        refine e21_go v2 (by omega) (by omega) hl (by have := g0.2.1; omega) (by have := g0.1; omega) fun id2 H3 v4 => ?_
        have g2 := g0.trans (fold_gr l F (callsR b') _)
        have k2 := v4.r List.mem_cons_self
        simp (implicitDefEqProofs := false) only [sB, simprocAttr, k2]
        refine e21_go v4 (by omega) (by omega) hl (by have := g2.2.1; omega) (by have := g2.1; omega) fun id3 H4 v5 => ?_
        simp (implicitDefEqProofs := false) only [sB, simprocAttr, r9]
        rw [← nt] at v5
        obtain ⟨H5, q1, v6⟩ := v5.pop
        exact ⟨H5, q1, ⟨i + 1, id3, v6, by omega, by simp⟩, by omega⟩
    · have c' : ¬ (i : Int) < (b.length : Int) := by omega
      have e : b.take i = b := List.take_of_length_le (by omega)
      rw [e] at v1
      simp (implicitDefEqProofs := false) only [sB, simprocAttr, c']
      exact hQ _ _ _ ⟨rfl, id, v1⟩
end Go.AL.Fun
