/- Equal values: the program's. -/
import Derived.Test.YtpeaphpibnikcaaDoorT18
set_option linter.unusedSimpArgs false
set_option linter.unusedVariables false
set_option maxRecDepth 100000
set_option maxHeartbeats 4000000
namespace Go.AL.Fun
open Go Go.AL Go.Proofs

def c23 (N : Nat) (xs : List AV) (H : Heap) (K : Kv) : Prop := ∃ (k : Int) (s : List UInt8) (n : Int) (b : Bool) (it : Tok) (is : List Val) (ft : Tok) (fs : List Fld) (k2 : Int) (s2 : List UInt8) (n2 : Int) (b2 : Bool) (it2 : Tok) (is2 : List Val) (ft2 : Tok) (fs2 : List Fld),
  xs = [.agg [.int .i64 k, .str s, .int .i64 n, .bool b, .sl (Val.avs is) it, .sl (Val.fvs fs) ft], .agg [.int .i64 k2, .str s2, .int .i64 n2, .bool b2, .sl (Val.avs is2) it2, .sl (Val.fvs fs2) ft2]] ∧ (Val.mk k s n b it is ft fs).wt ≤ N ∧ N ≤ 1099511627776 ∧ K.ap (.bool ((Val.mk k s n b it is ft fs).eqV (Val.mk k2 s2 n2 b2 it2 is2 ft2 fs2))) H
theorem x_c23 {N : Nat} {k : Int} {s : List UInt8} {n : Int} {b : Bool} {it : Tok} {is : List Val} {ft : Tok} {fs : List Fld} {k2 : Int} {s2 : List UInt8} {n2 : Int} {b2 : Bool} {it2 : Tok} {is2 : List Val} {ft2 : Tok} {fs2 : List Fld} (h1 : (Val.mk k s n b it is ft fs).wt ≤ N) (h2 : N ≤ 1099511627776) (H : Heap) (K : Kv)
    (h : K.ap (.bool ((Val.mk k s n b it is ft fs).eqV (Val.mk k2 s2 n2 b2 it2 is2 ft2 fs2))) H) : c23 N [.agg [.int .i64 k, .str s, .int .i64 n, .bool b, .sl (Val.avs is) it, .sl (Val.fvs fs) ft], .agg [.int .i64 k2, .str s2, .int .i64 n2, .bool b2, .sl (Val.avs is2) it2, .sl (Val.fvs fs2) ft2]] H K :=
  ⟨_, _, _, _, _, _, _, _, _, _, _, _, _, _, _, _, rfl, h1, h2, h⟩
def c43 (N : Nat) (xs : List AV) (H : Heap) (K : Kv) : Prop := ∃ (ky ky2 : List UInt8) (k : Int) (s : List UInt8) (n : Int) (b : Bool) (it : Tok) (is : List Val) (ft : Tok) (fs : List Fld) (k2 : Int) (s2 : List UInt8) (n2 : Int) (b2 : Bool) (it2 : Tok) (is2 : List Val) (ft2 : Tok) (fs2 : List Fld),
  xs = [.agg (.str ky :: [.int .i64 k, .str s, .int .i64 n, .bool b, .sl (Val.avs is) it, .sl (Val.fvs fs) ft]), .agg (.str ky2 :: [.int .i64 k2, .str s2, .int .i64 n2, .bool b2, .sl (Val.avs is2) it2, .sl (Val.fvs fs2) ft2])] ∧ (Val.mk k s n b it is ft fs).wt ≤ N ∧ N ≤ 1099511627776 ∧ K.ap (.bool (decide (ky = ky2) && (Val.mk k s n b it is ft fs).eqV (Val.mk k2 s2 n2 b2 it2 is2 ft2 fs2))) H
theorem c43_of (P : Program) {G : Nat → Option (List AV)} {N : Nat} {xs : List AV} {H : Heap} {K : Kv} (h : c43 N xs H K) : @xF ⟨G, P, [(23, c23 N)]⟩ f43 xs H ⟨fun v H' => ∃ H0, Hle H0 H' ∧ K.ap v H0⟩ := by
  obtain ⟨ky, ky2, k, s, n, b, it, is, ft, fs, k2, s2, n2, b2, it2, is2, ft2, fs2, rfl, hw, hN, h⟩ := h
  simp (implicitDefEqProofs := false) only [sB, simprocAttr, f43]
  refine i_new fun p hp => ?_
  simp (implicitDefEqProofs := false) only [sB, simprocAttr]
  refine i_new fun q hq => ?_
  simp (implicitDefEqProofs := false) only [sB, simprocAttr] at hq
  have hpq : ¬ p = q := fun e => hq.1 e.symm
  by_cases hk : ky = ky2
  · rw [decide_eq_true hk, Bool.true_and] at h
    simp (implicitDefEqProofs := false) only [sB, simprocAttr, hq, hpq, hk]
    refine x_c23 hw hN _ _ ?_
    simp (implicitDefEqProofs := false) only [sB, simprocAttr]
    exact ⟨_, hle2, h⟩
  · rw [decide_eq_false hk, Bool.false_and] at h
    simp (implicitDefEqProofs := false) only [sB, simprocAttr, hq, hpq, hk]
    exact ⟨_, hle2, h⟩
def c41 (N : Nat) (xs : List AV) (H : Heap) (K : Kv) : Prop := ∃ (l l2 : List Val) (t t2 : Tok), xs = [.sl (Val.avs l) t, .sl (Val.avs l2) t2, .fn (.func 23) [] []] ∧ Val.wts l ≤ N ∧ N ≤ 1099511627776 ∧ K.ap (.bool (Val.eqVs l l2)) H
theorem x_c41 {N : Nat} {l l2 : List Val} {t t2 : Tok} (h1 : Val.wts l ≤ N) (h2 : N ≤ 1099511627776) (H : Heap) (K : Kv) (h : K.ap (.bool (Val.eqVs l l2)) H) : c41 N [.sl (Val.avs l) t, .sl (Val.avs l2) t2, .fn (.func 23) [] []] H K := ⟨_, _, _, _, rfl, h1, h2, h⟩
theorem c41_of (P : Program) {G : Nat → Option (List AV)} {N : Nat} {xs : List AV} {H : Heap} {K : Kv} (h : c41 N xs H K) : @xF ⟨G, P, [(23, c23 N)]⟩ f41 xs H ⟨fun v H' => ∃ H0, Hle H0 H' ∧ K.ap v H0⟩ := by
  obtain ⟨l, l2, t, t2, rfl, hw, hN, h⟩ := h
  have wi := Val.wts_len l
  by_cases hl : ¬ (l.length : Int) = (l2.length : Int)
  · rw [eqVs_len l l2 (by omega)] at h
    simp (implicitDefEqProofs := false) only [sB, simprocAttr, f41, Val.avs_len, hl]
    exact ⟨_, .refl _, h⟩
  have hl := Decidable.not_not.1 hl
  simp (implicitDefEqProofs := false) only [sB, simprocAttr, f41, Val.avs_len, hl, beq_self_eq_true, bne_self_eq_false]
  refine i_loopJ (fun σ H1 => ∃ (i : Nat), H1 = H ∧ i ≤ l.length ∧ Val.eqVs l l2 = Val.eqVs (l.drop i) (l2.drop i) ∧ σ = [(1, .sl (Val.avs l2) t2), (2, .fn (.func 23) [] []), (15, .sl (Val.avs l) t), (16, .int .i64 l2.length), (17, .int .i64 i)])
    (fun σ _ => match σ.get 17 with | .int _ n => l.length - n.toNat | _ => 0)
    (fun e σ H1 => Hle H H1 ∧ ((e = .exit 0 ∧ Val.eqVs l l2 = true) ∨ (e = .ret ∧ Val.eqVs l l2 = false ∧ σ.get 6 = .bool false)))
    ⟨_, .refl _, 0, rfl, by omega, rfl, rfl⟩ ?_ ?_
  · rintro e σ H1 ⟨hle, ⟨rfl, ev⟩ | ⟨rfl, ev, q6⟩⟩
    · rw [ev] at h
      simp (implicitDefEqProofs := false) only [sB, simprocAttr]
      exact ⟨_, hle, h⟩
    · rw [ev] at h
      simp (implicitDefEqProofs := false) only [sB, simprocAttr, q6]
      exact ⟨_, hle, h⟩
  · rintro Q hQ σ H1 ⟨i, rfl, hi, hch, rfl⟩
    by_cases c : (i : Int) < (l2.length : Int)
    · have c' : i < l.length := by omega
      have c2 : i < l2.length := by omega
      have wl := Val.wts_le _ (List.getElem_mem c')
      have hx : (Val.avs l)[i]? = some (.agg (l[i]).cs) := by rw [Val.avs_map, List.getElem?_map, List.getElem?_eq_getElem c']; rfl
      have hy : (Val.avs l2)[i]? = some (.agg (l2[i]).cs) := by rw [Val.avs_map, List.getElem?_map, List.getElem?_eq_getElem c2]; rfl
      have r9 := w_i64 ((i : Int) + 1) (by omega) (by omega)
      have i0 : (0 : Int) ≤ (i : Int) := by omega
      have i1 : (i : Int) < (l.length : Int) := by omega
      rw [eqVs_drop c' c2] at hch
      generalize l[i] = v at wl hx hch
      generalize l2[i] = v2 at hy hch
      obtain ⟨k, s, n, b, it, is, ft, fs⟩ := v
      obtain ⟨k2, s2, n2, b2, it2, is2, ft2, fs2⟩ := v2
      simp only [Val.cs] at hx hy wl hch
      simp (implicitDefEqProofs := false) only [sB, simprocAttr, c, i0, i1, hx, Val.avs_len]
      refine i_new fun p hp => ?_
      simp (implicitDefEqProofs := false) only [sB, simprocAttr, c, i0, i1, hy, Val.avs_len]
      refine i_new fun q hq => ?_
      simp (implicitDefEqProofs := false) only [sB, simprocAttr] at hq
      have hpq : ¬ p = q := fun e => hq.1 e.symm
      simp (implicitDefEqProofs := false) only [sB, simprocAttr, hpq]
      refine x_c23 (by omega) hN _ _ ?_
      cases ev2 : Val.eqV (Val.mk k s n b it is ft fs) (Val.mk k2 s2 n2 b2 it2 is2 ft2 fs2) with
      | true =>
        rw [ev2, Bool.true_and] at hch
        simp (implicitDefEqProofs := false) only [sB, simprocAttr, r9]
        exact ⟨_, hle2, ⟨i + 1, rfl, by omega, hch, by simp⟩, by omega⟩
      | false =>
        rw [ev2, Bool.false_and] at hch
        simp (implicitDefEqProofs := false) only [sB, simprocAttr]
        exact hQ _ _ _ ⟨hle2, .inr ⟨rfl, hch, rfl⟩⟩
    · have e1 : i = l.length := by omega
      rw [e1, List.drop_length, List.drop_eq_nil_of_le (show l2.length ≤ l.length by omega)] at hch
      simp (implicitDefEqProofs := false) only [sB, simprocAttr, c]
      exact hQ _ _ _ ⟨.refl _, .inl ⟨rfl, by rw [hch]; simp [Val.eqVs, Val.eqFs]⟩⟩
def c42 (N : Nat) (xs : List AV) (H : Heap) (K : Kv) : Prop := ∃ (l l2 : List Fld) (t t2 : Tok), xs = [.sl (Val.fvs l) t, .sl (Val.fvs l2) t2, .fn (.func 43) [] []] ∧ Val.wtf l ≤ N ∧ N ≤ 1099511627776 ∧ K.ap (.bool (Val.eqFs l l2)) H
theorem x_c42 {N : Nat} {l l2 : List Fld} {t t2 : Tok} (h1 : Val.wtf l ≤ N) (h2 : N ≤ 1099511627776) (H : Heap) (K : Kv) (h : K.ap (.bool (Val.eqFs l l2)) H) : c42 N [.sl (Val.fvs l) t, .sl (Val.fvs l2) t2, .fn (.func 43) [] []] H K := ⟨_, _, _, _, rfl, h1, h2, h⟩
theorem c42_of (P : Program) {G : Nat → Option (List AV)} {N : Nat} {xs : List AV} {H : Heap} {K : Kv} (h : c42 N xs H K) : @xF ⟨G, P, [(43, c43 N)]⟩ f42 xs H ⟨fun v H' => ∃ H0, Hle H0 H' ∧ K.ap v H0⟩ := by
  obtain ⟨l, l2, t, t2, rfl, hw, hN, h⟩ := h
  have wi := Val.wtf_len l
  by_cases hl : ¬ (l.length : Int) = (l2.length : Int)
  · rw [eqFs_len l l2 (by omega)] at h
    simp (implicitDefEqProofs := false) only [sB, simprocAttr, f42, Val.fvs_len, hl]
    exact ⟨_, .refl _, h⟩
  have hl := Decidable.not_not.1 hl
  simp (implicitDefEqProofs := false) only [sB, simprocAttr, f42, Val.fvs_len, hl, beq_self_eq_true, bne_self_eq_false]
  refine i_loopJ (fun σ H1 => ∃ (i : Nat), H1 = H ∧ i ≤ l.length ∧ Val.eqFs l l2 = Val.eqFs (l.drop i) (l2.drop i) ∧ σ = [(1, .sl (Val.fvs l2) t2), (2, .fn (.func 43) [] []), (15, .sl (Val.fvs l) t), (16, .int .i64 l2.length), (17, .int .i64 i)])
    (fun σ _ => match σ.get 17 with | .int _ n => l.length - n.toNat | _ => 0)
    (fun e σ H1 => Hle H H1 ∧ ((e = .exit 0 ∧ Val.eqFs l l2 = true) ∨ (e = .ret ∧ Val.eqFs l l2 = false ∧ σ.get 6 = .bool false)))
    ⟨_, .refl _, 0, rfl, by omega, rfl, rfl⟩ ?_ ?_
  · rintro e σ H1 ⟨hle, ⟨rfl, ev⟩ | ⟨rfl, ev, q6⟩⟩
    · rw [ev] at h
      simp (implicitDefEqProofs := false) only [sB, simprocAttr]
      exact ⟨_, hle, h⟩
    · rw [ev] at h
      simp (implicitDefEqProofs := false) only [sB, simprocAttr, q6]
      exact ⟨_, hle, h⟩
  · rintro Q hQ σ H1 ⟨i, rfl, hi, hch, rfl⟩
    by_cases c : (i : Int) < (l2.length : Int)
    · have c' : i < l.length := by omega
      have c2 : i < l2.length := by omega
      have wl := Val.wtf_le _ (List.getElem_mem c')
      have hx : (Val.fvs l)[i]? = some (.agg (.str (l[i]).1 :: (l[i]).2.cs)) := by rw [Val.fvs_map, List.getElem?_map, List.getElem?_eq_getElem c']; rfl
      have hy : (Val.fvs l2)[i]? = some (.agg (.str (l2[i]).1 :: (l2[i]).2.cs)) := by rw [Val.fvs_map, List.getElem?_map, List.getElem?_eq_getElem c2]; rfl
      have r9 := w_i64 ((i : Int) + 1) (by omega) (by omega)
      have i0 : (0 : Int) ≤ (i : Int) := by omega
      have i1 : (i : Int) < (l.length : Int) := by omega
      rw [eqFs_drop c' c2, eqF_eq] at hch
      generalize l[i] = v at wl hx hch
      generalize l2[i] = v2 at hy hch
      obtain ⟨ky, k, s, n, b, it, is, ft, fs⟩ := v
      obtain ⟨ky2, k2, s2, n2, b2, it2, is2, ft2, fs2⟩ := v2
      simp only [Val.cs] at hx hy wl hch
      simp (implicitDefEqProofs := false) only [sB, simprocAttr, c, i0, i1, hx, Val.fvs_len]
      refine i_new fun p hp => ?_
      simp (implicitDefEqProofs := false) only [sB, simprocAttr, c, i0, i1, hy, Val.fvs_len]
      refine i_new fun q hq => ?_
      simp (implicitDefEqProofs := false) only [sB, simprocAttr] at hq
      have hpq : ¬ p = q := fun e => hq.1 e.symm
      simp (implicitDefEqProofs := false) only [sB, simprocAttr, hpq]
      refine ⟨ky, ky2, k, s, n, b, it, is, ft, fs, k2, s2, n2, b2, it2, is2, ft2, fs2, rfl, by omega, hN, ?_⟩
      cases ev2 : (decide (ky = ky2) && Val.eqV (Val.mk k s n b it is ft fs) (Val.mk k2 s2 n2 b2 it2 is2 ft2 fs2)) with
      | true =>
        rw [ev2, Bool.true_and] at hch
        simp (implicitDefEqProofs := false) only [sB, simprocAttr, r9]
        exact ⟨_, hle2, ⟨i + 1, rfl, by omega, hch, by simp⟩, by omega⟩
      | false =>
        rw [ev2, Bool.false_and] at hch
        simp (implicitDefEqProofs := false) only [sB, simprocAttr]
        exact hQ _ _ _ ⟨hle2, .inr ⟨rfl, hch, rfl⟩⟩
    · have e1 : i = l.length := by omega
      rw [e1, List.drop_length, List.drop_eq_nil_of_le (show l2.length ≤ l.length by omega)] at hch
      simp (implicitDefEqProofs := false) only [sB, simprocAttr, c]
      exact hQ _ _ _ ⟨.refl _, .inl ⟨rfl, by rw [hch]; simp [Val.eqVs, Val.eqFs]⟩⟩
theorem c23_of (P : Program) {G : Nat → Option (List AV)} {N : Nat} {xs : List AV} {H : Heap} {K : Kv} (h : c23 (N + 1) xs H K) : @xF ⟨G, P, [(41, c41 N), (42, c42 N)]⟩ f23 xs H ⟨fun v H' => ∃ H0, Hle H0 H' ∧ K.ap v H0⟩ := by
  obtain ⟨k, s, n, b, it, is, ft, fs, k2, s2, n2, b2, it2, is2, ft2, fs2, rfl, hw, hN, h⟩ := h
  simp only [Val.wt] at hw
  simp (implicitDefEqProofs := false) only [sB, simprocAttr, f23]
  refine i_new fun p hp => ?_
  simp (implicitDefEqProofs := false) only [sB, simprocAttr]
  refine i_new fun q hq => ?_
  simp (implicitDefEqProofs := false) only [sB, simprocAttr] at hq
  have hpq : ¬ p = q := fun e => hq.1 e.symm
  by_cases hk : ¬ k = k2
  · have e : (Val.mk k s n b it is ft fs).eqV (Val.mk k2 s2 n2 b2 it2 is2 ft2 fs2) = false := by simp only [Val.eqV]; simp [hk]
    rw [e] at h
    simp (implicitDefEqProofs := false) only [sB, simprocAttr, hq, hpq, hk]
    exact ⟨_, hle2, h⟩
  have hk := Decidable.not_not.1 hk
  subst hk
  by_cases hs : ¬ s = s2
  · have e : (Val.mk k s n b it is ft fs).eqV (Val.mk k s2 n2 b2 it2 is2 ft2 fs2) = false := by simp only [Val.eqV]; simp [hs]
    rw [e] at h
    simp (implicitDefEqProofs := false) only [sB, simprocAttr, hq, hpq, hs]
    exact ⟨_, hle2, h⟩
  have hs := Decidable.not_not.1 hs
  subst hs
  by_cases hn : ¬ n = n2
  · have e : (Val.mk k s n b it is ft fs).eqV (Val.mk k s n2 b2 it2 is2 ft2 fs2) = false := by simp only [Val.eqV]; simp [hn]
    rw [e] at h
    simp (implicitDefEqProofs := false) only [sB, simprocAttr, hq, hpq, hn]
    exact ⟨_, hle2, h⟩
  have hn := Decidable.not_not.1 hn
  subst hn
  by_cases hb : ¬ b = b2
  · have e : (Val.mk k s n b it is ft fs).eqV (Val.mk k s n b2 it2 is2 ft2 fs2) = false := by simp only [Val.eqV]; simp [hb]
    rw [e] at h
    simp (implicitDefEqProofs := false) only [sB, simprocAttr, hq, hpq, hb, beq_eq_false_iff_ne, ne_eq, bne_iff_ne]
    exact ⟨_, hle2, h⟩
  have hb := Decidable.not_not.1 hb
  subst hb
  have e : (Val.mk k s n b it is ft fs).eqV (.mk k s n b it2 is2 ft2 fs2) = (Val.eqVs is is2 && Val.eqFs fs fs2) := by simp [Val.eqV]
  rw [e] at h
  simp (implicitDefEqProofs := false) only [sB, simprocAttr, hq, hpq, beq_self_eq_true, bne_self_eq_false]
  refine x_c41 (by omega) (by omega) _ _ ?_
  cases e1 : Val.eqVs is is2 with
  | true =>
    rw [e1, Bool.true_and] at h
    simp (implicitDefEqProofs := false) only [sB, simprocAttr, hq, hpq]
    refine x_c42 (by omega) (by omega) _ _ ?_
    simp (implicitDefEqProofs := false) only [sB, simprocAttr]
    exact ⟨_, hle2, h⟩
  | false =>
    rw [e1, Bool.false_and] at h
    simp (implicitDefEqProofs := false) only [sB, simprocAttr]
    exact ⟨_, hle2, h⟩
theorem eqV_refl_aux : True := trivial
mutual
theorem Val.eqV_refl : ∀ v : Val, v.eqV v = true
  | .mk k s n b _ is _ fs => by
    simp only [Val.eqV]
    rw [Val.eqVs_refl is, Val.eqFs_refl fs]
    simp
theorem Val.eqVs_refl : ∀ l : List Val, Val.eqVs l l = true
  | [] => by simp [Val.eqVs]
  | v :: l => by simp only [Val.eqVs]; rw [v.eqV_refl, Val.eqVs_refl l]; rfl
theorem Val.eqFs_refl : ∀ l : List Fld, Val.eqFs l l = true
  | [] => by simp [Val.eqFs]
  | f :: l => by simp only [Val.eqFs]; rw [Val.eqF_refl f, Val.eqFs_refl l]; rfl
theorem Val.eqF_refl : ∀ f : Fld, Val.eqF f f = true
  | (k, v) => by rw [Val.eqF]; simp [v.eqV_refl]
end
end Go.AL.Fun
