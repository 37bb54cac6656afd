/- Definitions of a template: lists of strings; names, calls, nodes compared. -/
import Derived.Test.YthphaolkihageaaMB
set_option linter.unusedSimpArgs false
set_option linter.unusedVariables false
set_option maxRecDepth 100000
set_option maxHeartbeats 4000000
namespace Go.AL.Fun
open Go Go.AL

def c23 (xs : List AV) (H : Heap) (K : Kv) : Prop := ∃ (l : List (List UInt8)) (t : Tok) (v : List UInt8), xs = [.sl (strsAV l) t, .str v] ∧ l.length ≤ 1099511627776 ∧ ∀ r : Int, decide (0 ≤ r) = decide (v ∈ l) → K.ap (.int .i64 r) H
theorem x_c23 {l : List (List UInt8)} {t : Tok} {v : List UInt8} (h1 : l.length ≤ 1099511627776) (H : Heap) (K : Kv) (h : ∀ r : Int, decide (0 ≤ r) = decide (v ∈ l) → K.ap (.int .i64 r) H) : c23 [.sl (strsAV l) t, .str v] H K := ⟨_, _, _, rfl, h1, h⟩
theorem c23_of (P : Program) {xs : List AV} {H : Heap} {K : Kv} (h : c23 xs H K) : @xF (t0 P) f23 xs H ⟨fun v H' => ∃ H0, Hle H0 H' ∧ K.ap v H0⟩ := by
  obtain ⟨l, t, v, rfl, hl, h⟩ := h
  simp (implicitDefEqProofs := false) only [sB, simprocAttr, f23, strs_len]
  refine i_loopJ (fun σ H1 => ∃ (i : Nat), H1 = H ∧ i ≤ l.length ∧ v ∉ l.take i ∧ σ = [(0, .sl (strsAV l) t), (1, .str v), (7, .int .i64 l.length), (8, .int .i64 i)])
    (fun σ _ => match σ.get 8 with | .int _ n => l.length - n.toNat | _ => 0)
    (fun e σ H1 => H1 = H ∧ ((e = .exit 0 ∧ v ∉ l) ∨ (e = .ret ∧ ∃ i : Nat, σ.get 4 = .int .i64 i ∧ v ∈ l)))
    ⟨_, .refl _, 0, rfl, by omega, by simp, rfl⟩ ?_ ?_
  · rintro e σ H1 ⟨rfl, ⟨rfl, ha⟩ | ⟨rfl, i, q4, ha⟩⟩
    · simp (implicitDefEqProofs := false) only [sB, simprocAttr]
      exact ⟨_, .refl _, h _ (by rw [decide_eq_false ha]; rfl)⟩
    · simp (implicitDefEqProofs := false) only [sB, simprocAttr, q4]
      exact ⟨_, .refl _, h _ (by rw [decide_eq_true ha]; simp)⟩
  · rintro Q hQ σ H1 ⟨i, rfl, hi, hall, rfl⟩
    simp (implicitDefEqProofs := false) only [sB, simprocAttr, strs_len]
    refine i_if (fun c => ?_) (fun c => ?_)
    · have c' : i < l.length := by simpa using c
      have hx : l[i]? = some l[i] := List.getElem?_eq_getElem c'
      have r9 := w_i64 ((i : Int) + 1) (by omega) (by omega)
      have i0 : (0 : Int) ≤ (i : Int) := by omega
      by_cases eq : l[i] = v
      · have mem : v ∈ l := eq ▸ List.getElem_mem c'
        have eq' : v = l[i] := eq.symm
        simp (implicitDefEqProofs := false) only [sB, simprocAttr, i0, strs_get, hx, Option.map_some, eq]
        exact hQ _ _ _ ⟨rfl, .inr ⟨rfl, i, rfl, mem⟩⟩
      · have eq' : ¬ v = l[i] := fun h => eq h.symm
        simp (implicitDefEqProofs := false) only [sB, simprocAttr, i0, strs_get, hx, Option.map_some, eq, eq', r9]
        refine ⟨_, .refl _, ⟨i + 1, rfl, by omega, ?_, by simp⟩, by omega⟩
        rw [List.take_add_one, hx]
        intro hm
        rcases List.mem_append.1 hm with hm | hm
        · exact hall hm
        · simp at hm; exact eq' hm
    · have : i = l.length := by have : ¬ (i : Int) < l.length := by simpa using c
                                omega
      subst this
      rw [List.take_length] at hall
      simp (implicitDefEqProofs := false) only [sB, simprocAttr]
      exact hQ _ _ _ ⟨rfl, .inl ⟨rfl, hall⟩⟩
def c12 (xs : List AV) (H : Heap) (K : Kv) : Prop := ∃ (l : List (List UInt8)) (t : Tok) (v : List UInt8), xs = [.sl (strsAV l) t, .str v] ∧ l.length ≤ 1099511627776 ∧ K.ap (.bool (decide (v ∈ l))) H
theorem x_c12 {l : List (List UInt8)} {t : Tok} {v : List UInt8} (h1 : l.length ≤ 1099511627776) (H : Heap) (K : Kv) (h : K.ap (.bool (decide (v ∈ l))) H) : c12 [.sl (strsAV l) t, .str v] H K := ⟨_, _, _, rfl, h1, h⟩
theorem c12_of (P : Program) {xs : List AV} {H : Heap} {K : Kv} (h : c12 xs H K) : @xF ⟨fun _ => none, P, [(23, c23)]⟩ f12 xs H K := by
  obtain ⟨l, t, v, rfl, hl, h⟩ := h
  simp (implicitDefEqProofs := false) only [sB, simprocAttr, f12]
  refine x_c23 hl _ _ fun r hr => ?_
  simp (implicitDefEqProofs := false) only [sB, simprocAttr, hr]
  exact h
/-- Two lists of strings compared. -/
def c18 (xs : List AV) (H : Heap) (K : Kv) : Prop := ∃ (l : List (List UInt8)) (t : Tok) (m : List (List UInt8)) (u : Tok), xs = [.sl (strsAV l) t, .sl (strsAV m) u] ∧ l.length ≤ 1099511627776 ∧ K.ap (.bool (decide (l = m))) H
theorem x_c18 {l m : List (List UInt8)} {t u : Tok} (h1 : l.length ≤ 1099511627776) (H : Heap) (K : Kv) (h : K.ap (.bool (decide (l = m))) H) : c18 [.sl (strsAV l) t, .sl (strsAV m) u] H K := ⟨_, _, _, _, rfl, h1, h⟩
theorem c18_of (P : Program) {xs : List AV} {H : Heap} {K : Kv} (h : c18 xs H K) : @xF (t0 P) f18 xs H ⟨fun v H' => ∃ H0, Hle H0 H' ∧ K.ap v H0⟩ := by
  obtain ⟨l, t, m, u, rfl, hl, h⟩ := h
  by_cases ln : (l.length : Int) = m.length
  · simp (implicitDefEqProofs := false) only [sB, simprocAttr, f18, strs_len, ln]
    refine i_loopJ (fun σ H1 => ∃ (i : Nat), H1 = H ∧ i ≤ l.length ∧ l.take i = m.take i ∧ σ = [(0, .sl (strsAV l) t), (1, .sl (strsAV m) u), (12, .int .i64 m.length), (13, .int .i64 i)])
      (fun σ _ => match σ.get 13 with | .int _ n => l.length - n.toNat | _ => 0)
      (fun e σ H1 => H1 = H ∧ ((e = .exit 0 ∧ l = m) ∨ (e = .ret ∧ σ.get 4 = .bool false ∧ l ≠ m)))
      ⟨_, .refl _, 0, rfl, by omega, by simp, rfl⟩ ?_ ?_
    · rintro e σ H1 ⟨rfl, ⟨rfl, ha⟩ | ⟨rfl, q4, ha⟩⟩
      · rw [decide_eq_true ha] at h
        simp (implicitDefEqProofs := false) only [sB, simprocAttr]
        exact ⟨_, .refl _, h⟩
      · rw [decide_eq_false ha] at h
        simp (implicitDefEqProofs := false) only [sB, simprocAttr, q4]
        exact ⟨_, .refl _, h⟩
    · rintro Q hQ σ H1 ⟨i, rfl, hi, hall, rfl⟩
      simp (implicitDefEqProofs := false) only [sB, simprocAttr, strs_len]
      refine i_if (fun c => ?_) (fun c => ?_)
      · have cm : i < m.length := by simpa using c
        have c' : i < l.length := by omega
        have hx : l[i]? = some l[i] := List.getElem?_eq_getElem c'
        have hy : m[i]? = some m[i] := List.getElem?_eq_getElem cm
        have r9 := w_i64 ((i : Int) + 1) (by omega) (by omega)
        have i0 : (0 : Int) ≤ (i : Int) := by omega
        by_cases eq : l[i] = m[i]
        · simp (implicitDefEqProofs := false) only [sB, simprocAttr, i0, strs_get, hx, hy, Option.map_some, eq, r9]
          exact ⟨_, .refl _, ⟨i + 1, rfl, by omega, by rw [List.take_add_one, List.take_add_one, hx, hy, hall, eq], by simp⟩, by omega⟩
        · simp (implicitDefEqProofs := false) only [sB, simprocAttr, i0, strs_get, hx, hy, Option.map_some, eq]
          exact hQ _ _ _ ⟨rfl, .inr ⟨rfl, rfl, fun h => eq (by subst h; rfl)⟩⟩
      · have e1 : i = l.length := by have : ¬ (i : Int) < m.length := by simpa using c
                                     omega
        have e2 : l = m := by
          rw [List.take_of_length_le (by omega), List.take_of_length_le (by omega)] at hall; exact hall
        simp (implicitDefEqProofs := false) only [sB, simprocAttr]
        exact hQ _ _ _ ⟨rfl, .inl ⟨rfl, e2⟩⟩
  · rw [decide_eq_false (fun e => ln (by rw [e]))] at h
    simp (implicitDefEqProofs := false) only [sB, simprocAttr, f18, strs_len, ln]
    exact ⟨H, .refl _, h⟩

/-- Names. -/
theorem app_str {t : Th} {H H2 A : Heap} {K : Kv} {l : List (List UInt8)} {tk : Tok} (x : List UInt8) (tok : Tok) (hp : H2.Perm (A ++ (tokH tk ++ H))) (hn : H2.keys.Nodup) (hg : GC 1 (strsAV l) tk) (hl : l.length ≤ 1099511627776)
    (hK : ∀ tk' H', GC 1 (strsAV (l ++ [x])) tk' → Hle (tokH tk' ++ H) H' → (tokH tk' ++ H).keys.Nodup → K.ap (.sl (strsAV (l ++ [x])) tk') H') : xE (t := t) (.app 1 16) [.sl (strsAV l) tk, .sl [.str x] tok] H2 (K := K) := by
  have e1 : [AV.str x] = strsAV [x] := rfl
  rw [e1]
  refine i_appC (by decide) (A := A) (R := H) (tk := tk) (xs := strsAV l) (ys := strsAV [x]) hp hn hg (src_sl_of _ _ (strs_all _)) (strs_all _) ?_ ?_ fun tk' H' g1 g2 g3 => ?_
  · simp only [strs_len, List.length_cons, List.length_nil, maxLen_eq]; omega
  · simp only [strs_len, List.length_cons, List.length_nil]; omega
  · have es : strsAV l ++ strsAV [x] = strsAV (l ++ [x]) := by simp [strsAV]
    rw [es] at g1 ⊢
    exact hK tk' H' g1 (hle_sub g2 (List.sublist_append_right _ _)) (nodup_sub g2 (List.sublist_append_right _ _) g3)
theorem take_one {l : List Nd} {i : Nat} (h : i < l.length) : l.take (i + 1) = l.take i ++ [l[i]] := by rw [List.take_add_one, List.getElem?_eq_getElem h]; rfl
theorem names_app (a b : List Nd) : namesR (a ++ b) = namesR a ++ namesR b := by unfold namesR; rw [List.filter_append, List.map_append]
theorem names_take {l : List Nd} {i : Nat} (h : i < l.length) : ((l[i]).k = 6 → namesR (l.take (i + 1)) = namesR (l.take i) ++ [(l[i]).n]) ∧ ((l[i]).k ≠ 6 → namesR (l.take (i + 1)) = namesR (l.take i)) := by
  rw [take_one h, names_app]
  exact ⟨fun c => by simp [namesR, dfn, c], fun c => by simp [namesR, dfn, c]⟩
theorem names_len (l : List Nd) : (namesR l).length ≤ l.length := by unfold namesR; rw [List.length_map]; exact List.length_filter_le _ _
def c10 (xs : List AV) (H : Heap) (K : Kv) : Prop := ∃ (l : List Nd) (t : Tok), xs = [.sl (Nd.avs l) t] ∧ H.keys.Nodup ∧ l.length ≤ 1099511627776 ∧ K.ap (.sl (strsAV (namesR l)) (tokc (namesR l))) H
theorem x_c10 {l : List Nd} {t : Tok} {H : Heap} {K : Kv} (hn : H.keys.Nodup) (h1 : l.length ≤ 1099511627776) (k : K.ap (.sl (strsAV (namesR l)) (tokc (namesR l))) H) : c10 [.sl (Nd.avs l) t] H K := ⟨l, t, rfl, hn, h1, k⟩
theorem c10_of (P : Program) {xs : List AV} {H : Heap} {K : Kv} (h : c10 xs H K) : @xF (t0 P) f10 xs H ⟨fun v H' => ∃ H0, Hle H0 H' ∧ ∃ v', AVle v v' ∧ K.ap v' H0⟩ := by
  obtain ⟨l, t, rfl, hn, hl, h⟩ := h
  simp (implicitDefEqProofs := false) only [sB, simprocAttr, f10, nds_len]
  refine i_loopJ (fun σ H1 => ∃ (i : Nat) (tk : Tok), H1.Perm (tokH tk ++ H) ∧ H1.keys.Nodup ∧ GC 1 (strsAV (namesR (l.take i))) tk ∧ i ≤ l.length ∧ σ = [(3, .sl (strsAV (namesR (l.take i))) tk), (6, .sl (Nd.avs l) t), (7, .int .i64 l.length), (8, .int .i64 i)])
    (fun σ _ => match σ.get 8 with | .int _ n => l.length - n.toNat | _ => 0)
    (fun e σ H1 => e = .exit 0 ∧ ∃ tk, H1.Perm (tokH tk ++ H) ∧ GC 1 (strsAV (namesR l)) tk ∧ σ.get 3 = .sl (strsAV (namesR l)) tk)
    ⟨_, .refl _, 0, .nil, .refl _, hn, rfl, by omega, rfl⟩ ?_ ?_
  · rintro e σ H1 ⟨rfl, tk, hp, hg, q3⟩
    simp (implicitDefEqProofs := false) only [sB, simprocAttr, q3]
    refine ⟨H, hle_tok hp, _, AVle.tok hg, ?_⟩
    rw [strs_tok]; exact h
  · rintro Q hQ σ H1 ⟨i, tk, hp, hn1, hg, hi, rfl⟩
    by_cases c : i < l.length
    · have c' : (i : Int) < (l.length : Int) := by omega
      have i0 : (0 : Int) ≤ (i : Int) := by omega
      have r9 := w_i64 ((i : Int) + 1) (by omega) (by omega)
      have hx : (Nd.avs l)[i]? = some (.agg (l[i]).cs) := by rw [nds_get, List.getElem?_eq_getElem c]; rfl
      have nt := names_take c
      have nl : (namesR (l.take i)).length ≤ 1099511627776 := by
        have := names_len (l.take i)
        rw [List.length_take] at this; omega
      generalize l[i] = d at hx nt
      obtain ⟨k, p, s, q, hp', he, b, e⟩ := d
      simp only [Nd.cs] at hx
      simp only [Nd.k, Nd.n] at nt
      simp (implicitDefEqProofs := false) only [sB, simprocAttr, c', i0, hx]
      refine i_new fun z hz => ?_
      have hn2 := List.nodup_cons.2 ⟨hz, hn1⟩
      by_cases c1 : k = 6
      · simp (implicitDefEqProofs := false) only [sB, simprocAttr, c1]
        refine i_sl ⟨⟨strs_all [s], rfl, rfl⟩, i_new fun y hy => ?_⟩
        simp (implicitDefEqProofs := false) only [sB, simprocAttr]
        replace nt := nt.1 c1
        refine app_str s _ (A := [(y, .spare 1), (z, _)]) (((hp.cons _).cons _)) (List.nodup_cons.2 ⟨hy, hn2⟩) hg nl fun tk' H' g1 g2 g3 => ?_
        rw [← nt] at g1 ⊢
        simp (implicitDefEqProofs := false) only [sB, simprocAttr, r9]
        exact ⟨_, g2, ⟨i + 1, tk', .refl _, g3, g1, by omega, by simp⟩, by omega⟩
      · simp (implicitDefEqProofs := false) only [sB, simprocAttr, c1, r9]
        replace nt := nt.2 c1
        refine ⟨_, .tail _ _, ⟨i + 1, tk, hp, hn1, by rw [nt]; exact hg, by omega, by rw [nt]; simp⟩, by omega⟩
    · have c' : ¬ (i : Int) < (l.length : Int) := by omega
      simp (implicitDefEqProofs := false) only [sB, simprocAttr, c']
      have e : l.take i = l := List.take_of_length_le (by omega)
      rw [e] at hg ⊢
      exact hQ _ _ _ ⟨rfl, tk, hp, hg, rfl⟩
end Go.AL.Fun
