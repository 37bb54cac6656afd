/- Definitions of a template: calls of the reference; nodes compared. -/
import Derived.Test.YthphaolkihageaaMC
set_option linter.unusedSimpArgs false
set_option linter.unusedVariables false
set_option maxRecDepth 100000
set_option maxHeartbeats 4000000
namespace Go.AL.Fun
open Go Go.AL

theorem calls_app (a b : List Nd) : callsR (a ++ b) = callsR a ++ callsR b := by
  induction a with
  | nil => simp [callsR]
  | cons x a ih => rw [List.cons_append, callsR, callsR, ih, List.append_assoc]
theorem calls_one (x : Nd) : callsR [x] = callsN x := by simp [callsR]
mutual
theorem callsN_len : ∀ n : Nd, (callsN n).length ≤ n.cnt
  | .mk k p s q hp he b e => by
    have h1 := callsR_len b
    have h2 := callsR_len e
    rw [callsN, Nd.cnt]
    split <;> simp only [List.length_append, List.length_cons, List.length_nil] <;> omega
theorem callsR_len : ∀ l : List Nd, (callsR l).length ≤ Nd.cnts l
  | [] => by simp [callsR]
  | n :: l => by
    have h1 := callsN_len n
    have h2 := callsR_len l
    rw [callsR, Nd.cnts, List.length_append]; omega
end
theorem nds_app (a b : List Nd) : Nd.avs (a ++ b) = Nd.avs a ++ Nd.avs b := by simp [nds_map]
theorem app_ns {t : Th} {H H2 A : Heap} {K : Kv} {l ys : List Nd} {tk : Tok} (tok : Tok) (hp : H2.Perm (A ++ (tokH tk ++ H))) (hn : H2.keys.Nodup) (hg : GC 8 (Nd.avs l) tk) (hl : l.length + ys.length ≤ 1099511627776)
    (hK : ∀ tk' H', GC 8 (Nd.avs (l ++ ys)) tk' → H'.Perm (A ++ (tokH tk' ++ H)) → H'.keys.Nodup → K.ap (.sl (Nd.avs (l ++ ys)) tk') H') : xE (t := t) (.app 8 104) [.sl (Nd.avs l) tk, .sl (Nd.avs ys) tok] H2 (K := K) := by
  refine i_appC (by decide) (A := A) (R := H) (tk := tk) (xs := Nd.avs l) (ys := Nd.avs ys) hp hn hg (src_sl_of _ _ (nds_all _)) (nds_all _) ?_ ?_ fun tk' H' g1 g2 g3 => ?_
  · simp only [nds_len, maxLen_eq]; omega
  · simp only [nds_len]; omega
  · rw [← nds_app] at g1 ⊢
    exact hK tk' H' g1 g2 g3
theorem cnts_get {l : List Nd} {i : Nat} (h : i < l.length) : (l[i]).cnt ≤ Nd.cnts l := cnts_mem (List.getElem_mem h)
theorem cnts_take (l : List Nd) (i : Nat) : Nd.cnts (l.take i) ≤ Nd.cnts l := by
  have := cnts_append (l.take i) (l.drop i)
  rw [List.take_append_drop] at this; omega
def c14 (N : Nat) (xs : List AV) (H : Heap) (K : Kv) : Prop := ∃ (l : List Nd) (t : Tok), xs = [.sl (Nd.avs l) t] ∧ H.keys.Nodup ∧ Nd.cnts l < N ∧ Nd.cnts l ≤ 1000000 ∧ K.ap (.sl (Nd.avs (callsR l)) (tokc (callsR l))) H
theorem x_c14 {N : Nat} {l : List Nd} {t : Tok} {H : Heap} {K : Kv} (hn : H.keys.Nodup) (h1 : Nd.cnts l < N) (h2 : Nd.cnts l ≤ 1000000) (k : K.ap (.sl (Nd.avs (callsR l)) (tokc (callsR l))) H) : c14 N [.sl (Nd.avs l) t] H K := ⟨l, t, rfl, hn, h1, h2, k⟩
theorem c14_of (P : Program) {N : Nat} {xs : List AV} {H : Heap} {K : Kv} (h : c14 (N + 1) xs H K) : @xF ⟨fun _ => none, P, [(14, c14 N)]⟩ f14 xs H ⟨fun v H' => ∃ H0, Hle H0 H' ∧ ∃ v', AVle v v' ∧ K.ap v' H0⟩ := by
  obtain ⟨l, t, rfl, hn, hN, hl, h⟩ := h
  have ll := cnts_len l
  simp (implicitDefEqProofs := false) only [sB, simprocAttr, f14]
  refine i_loopJ (fun σ H1 => ∃ (i : Nat) (tk : Tok), H1.Perm (tokH tk ++ H) ∧ H1.keys.Nodup ∧ GC 8 (Nd.avs (callsR (l.take i))) tk ∧ i ≤ l.length ∧ σ = [(0, .sl (Nd.avs l) t), (3, .sl (Nd.avs (callsR (l.take i))) tk), (4, .int .i64 i)])
    (fun σ _ => match σ.get 4 with | .int _ n => l.length - n.toNat | _ => 0)
    (fun e σ H1 => e = .exit 0 ∧ ∃ tk, H1.Perm (tokH tk ++ H) ∧ GC 8 (Nd.avs (callsR l)) tk ∧ σ.get 3 = .sl (Nd.avs (callsR l)) tk)
    ⟨_, .refl _, 0, .nil, .refl _, hn, rfl, by omega, rfl⟩ ?_ ?_
  · rintro e σ H1 ⟨rfl, tk, hp, hg, q3⟩
    simp (implicitDefEqProofs := false) only [sB, simprocAttr, q3]
    refine ⟨H, hle_tok hp, _, AVle.tok hg, ?_⟩
    rw [nds_tok]; exact h
  · rintro Q hQ σ H1 ⟨i, tk, hp, hn1, hg, hi, rfl⟩
    by_cases c : i < l.length
    · have c' : (i : Int) < (l.length : Int) := by omega
      have i0 : (0 : Int) ≤ (i : Int) := by omega
      have r9 := w_i64 ((i : Int) + 1) (by omega) (by omega)
      have hx : (Nd.avs l)[i]? = some (.agg (l[i]).cs) := by rw [nds_get, List.getElem?_eq_getElem c]; rfl
      have nt : callsR (l.take (i + 1)) = callsR (l.take i) ++ callsN l[i] := by rw [take_one c, calls_app, calls_one]
      have n1 := callsR_len (l.take i)
      have n2 := cnts_take l i
      have n3 := cnts_get c
      generalize l[i] = d at hx nt n3
      obtain ⟨k, p, s, q, hp', he, b, e⟩ := d
      rw [callsN] at nt
      have n4 := callsR_len b
      have n5 := callsR_len e
      simp only [Nd.cnt] at n3
      simp only [Nd.cs] at hx
      by_cases c1 : k = 4
      · rw [if_pos c1] at nt
        simp (implicitDefEqProofs := false) only [sB, simprocAttr, nds_len, c', i0, hx, c1]
        refine i_bslN (by decide) [.agg (Nd.mk k p s q hp' he b e).cs] (by simp [Nd.cs, flat, AV.cells, fillL, splice, c1]) (nds_all [_]) rfl fun z hz => ?_
        simp (implicitDefEqProofs := false) only [sB, simprocAttr]
        refine app_ns (l := callsR (l.take i)) (ys := [Nd.mk k p s q hp' he b e]) (tk := tk) (A := [(z, .spare 8)]) _ (hp.cons _) (List.nodup_cons.2 ⟨hz, hn1⟩) hg (by simp only [List.length_cons, List.length_nil]; omega) fun tk1 H2 g1 g2 g3 => ?_
        simp (implicitDefEqProofs := false) only [sB, simprocAttr, i0, hx]
        refine x_c14 g3 (by omega) (by omega) ?_
        simp (implicitDefEqProofs := false) only [sB, simprocAttr]
        refine app_ns (A := [(z, .spare 8)]) _ g2 g3 g1 (by simp only [List.length_append, List.length_cons, List.length_nil]; omega) fun tk2 H3 g4 g5 g6 => ?_
        simp (implicitDefEqProofs := false) only [sB, simprocAttr, i0, hx]
        refine x_c14 g6 (by omega) (by omega) ?_
        simp (implicitDefEqProofs := false) only [sB, simprocAttr]
        have g4' : GC 8 (Nd.avs (callsR (l.take i) ++ Nd.mk k p s q hp' he b e :: callsR b)) tk2 := by simpa using g4
        refine app_ns (A := [(z, .spare 8)]) _ g5 g6 g4' (by simp only [List.length_append, List.length_cons, List.length_nil]; omega) fun tk3 H4 g7 g8 g9 => ?_
        have nt2 : callsR (l.take i) ++ Nd.mk k p s q hp' he b e :: callsR b ++ callsR e = callsR (l.take (i + 1)) := by rw [nt]; simp
        rw [nt2] at g7 ⊢
        simp (implicitDefEqProofs := false) only [sB, simprocAttr, r9]
        exact ⟨_, hle_sub g8 (List.sublist_cons_self _ _), ⟨i + 1, tk3, .refl _, nodup_sub g8 (List.sublist_cons_self _ _) g9, g7, by omega, by simp⟩, by omega⟩
      · rw [if_neg c1, List.nil_append] at nt
        simp (implicitDefEqProofs := false) only [sB, simprocAttr, nds_len, c', i0, hx, c1]
        refine x_c14 hn1 (by omega) (by omega) ?_
        simp (implicitDefEqProofs := false) only [sB, simprocAttr]
        refine app_ns (A := []) _ hp hn1 hg (by omega) fun tk2 H3 g4 g5 g6 => ?_
        simp (implicitDefEqProofs := false) only [sB, simprocAttr, i0, hx]
        refine x_c14 g6 (by omega) (by omega) ?_
        simp (implicitDefEqProofs := false) only [sB, simprocAttr]
        refine app_ns (A := []) _ g5 g6 g4 (by simp only [List.length_append]; omega) fun tk3 H4 g7 g8 g9 => ?_
        have nt2 : callsR (l.take i) ++ callsR b ++ callsR e = callsR (l.take (i + 1)) := by rw [nt]; simp
        rw [nt2] at g7 ⊢
        simp (implicitDefEqProofs := false) only [sB, simprocAttr, r9]
        exact ⟨_, .refl _, ⟨i + 1, tk3, g8, g9, g7, by omega, by simp⟩, by omega⟩
    · have c' : ¬ (i : Int) < (l.length : Int) := by omega
      simp (implicitDefEqProofs := false) only [sB, simprocAttr, nds_len, c']
      have e : l.take i = l := List.take_of_length_le (by omega)
      rw [e] at hg ⊢
      exact hQ _ _ _ ⟨rfl, tk, hp, hg, rfl⟩
/-- Equal lists of nodes. -/
def c9 (N : Nat) (xs : List AV) (H : Heap) (K : Kv) : Prop := ∃ (l : List Nd) (t u : Tok) (o : Bool), xs = [.sl (Nd.avs l) t, .sl (Nd.avs l) u, .bool o] ∧ Nd.cnts l < N ∧ Nd.cnts l ≤ 1000000 ∧ K.ap (.bool true) H
theorem x_c9 {N : Nat} {l : List Nd} {t u : Tok} {o : Bool} {H : Heap} {K : Kv} (h1 : Nd.cnts l < N) (h2 : Nd.cnts l ≤ 1000000) (k : K.ap (.bool true) H) : c9 N [.sl (Nd.avs l) t, .sl (Nd.avs l) u, .bool o] H K := ⟨l, t, u, o, rfl, h1, h2, k⟩
theorem c9_of (P : Program) {N : Nat} {xs : List AV} {H : Heap} {K : Kv} (h : c9 (N + 1) xs H K) : @xF ⟨fun _ => none, P, [(9, c9 N)]⟩ f9 xs H ⟨fun v H' => ∃ H0, Hle H0 H' ∧ K.ap v H0⟩ := by
  obtain ⟨l, t, u, o, rfl, hN, hl, h⟩ := h
  have ll := cnts_len l
  simp (implicitDefEqProofs := false) only [sB, simprocAttr, f9, nds_len]
  refine i_loopJ (fun σ H1 => ∃ (i : Nat), H1 = H ∧ i ≤ l.length ∧ σ = [(0, .sl (Nd.avs l) t), (1, .sl (Nd.avs l) u), (2, .bool o), (7, .int .i64 i)])
    (fun σ _ => match σ.get 7 with | .int _ n => l.length - n.toNat | _ => 0)
    (fun e σ H1 => e = .exit 0 ∧ H1 = H)
    ⟨_, .refl _, 0, rfl, by omega, rfl⟩ ?_ ?_
  · rintro e σ H1 ⟨rfl, rfl⟩
    simp (implicitDefEqProofs := false) only [sB, simprocAttr]
    exact ⟨_, .refl _, h⟩
  · rintro Q hQ σ H1 ⟨i, rfl, hi, rfl⟩
    by_cases c : i < l.length
    · have c' : (i : Int) < (l.length : Int) := by omega
      have i0 : (0 : Int) ≤ (i : Int) := by omega
      have r9 := w_i64 ((i : Int) + 1) (by omega) (by omega)
      have hx : (Nd.avs l)[i]? = some (.agg (l[i]).cs) := by rw [nds_get, List.getElem?_eq_getElem c]; rfl
      have n3 := cnts_get c
      generalize l[i] = d at hx n3
      obtain ⟨k, p, s, q, hp', he, b, e⟩ := d
      simp only [Nd.cnt] at n3
      simp only [Nd.cs] at hx
      simp (implicitDefEqProofs := false) only [sB, simprocAttr, nds_len, c', i0, hx]
      refine i_new fun x hx0 => ?_
      simp (implicitDefEqProofs := false) only [sB, simprocAttr, i0, hx]
      refine i_new fun y hy0 => ?_
      have e1 : ¬ x = y := fun e => by subst e; simp [Heap.keys] at hy0
      cases o with
      | true =>
        simp (implicitDefEqProofs := false) only [sB, simprocAttr, e1]
        refine x_c9 (by omega) (by omega) ?_
        simp (implicitDefEqProofs := false) only [sB, simprocAttr, e1]
        refine x_c9 (by omega) (by omega) ?_
        simp (implicitDefEqProofs := false) only [sB, simprocAttr, r9]
        exact ⟨_, .of_sub (.cons _ (.cons _ (.refl _))), ⟨i + 1, rfl, by omega, by simp⟩, by omega⟩
      | false =>
        simp (implicitDefEqProofs := false) only [sB, simprocAttr, e1]
        refine x_c9 (by omega) (by omega) ?_
        simp (implicitDefEqProofs := false) only [sB, simprocAttr, e1]
        refine x_c9 (by omega) (by omega) ?_
        simp (implicitDefEqProofs := false) only [sB, simprocAttr, r9]
        exact ⟨_, .of_sub (.cons _ (.cons _ (.refl _))), ⟨i + 1, rfl, by omega, by simp⟩, by omega⟩
    · have c' : ¬ (i : Int) < (l.length : Int) := by omega
      simp (implicitDefEqProofs := false) only [sB, simprocAttr, nds_len, c']
      exact hQ _ _ _ ⟨rfl, rfl⟩
end Go.AL.Fun
