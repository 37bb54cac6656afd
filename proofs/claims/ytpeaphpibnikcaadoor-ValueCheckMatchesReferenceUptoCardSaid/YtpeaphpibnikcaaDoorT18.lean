/- Equal values: the program's and the reference's. -/
import Derived.Test.YtpeaphpibnikcaaDoorT15
set_option linter.unusedSimpArgs false
set_option linter.unusedVariables false
set_option maxRecDepth 100000
set_option maxHeartbeats 4000000
namespace Go.AL.Fun
open Go Go.AL Go.Proofs

mutual
def Val.eqV : Val → Val → Bool
  | .mk k s n b _ is _ fs, .mk k2 s2 n2 b2 _ is2 _ fs2 => decide (k = k2) && decide (s = s2) && decide (n = n2) && decide (b = b2) && Val.eqVs is is2 && Val.eqFs fs fs2
def Val.eqVs : List Val → List Val → Bool
  | [], l => l.isEmpty
  | v :: l, l2 => match l2 with
    | [] => false
    | v2 :: l2 => v.eqV v2 && Val.eqVs l l2
def Val.eqFs : List Fld → List Fld → Bool
  | [], l => l.isEmpty
  | f :: l, l2 => match l2 with
    | [] => false
    | f2 :: l2 => Val.eqF f f2 && Val.eqFs l l2
def Val.eqF : Fld → Fld → Bool
  | (k, v), f2 => decide (k = f2.1) && v.eqV f2.2
end
theorem eqVs_len : ∀ (l l2 : List Val), l.length ≠ l2.length → Val.eqVs l l2 = false
  | [], [], h => absurd rfl h
  | [], _ :: _, _ => by simp [Val.eqVs]
  | _ :: _, [], _ => by simp [Val.eqVs]
  | v :: l, v2 :: l2, h => by
    simp only [Val.eqVs]
    rw [eqVs_len l l2 (by simpa using h), Bool.and_false]
theorem eqFs_len : ∀ (l l2 : List Fld), l.length ≠ l2.length → Val.eqFs l l2 = false
  | [], [], h => absurd rfl h
  | [], _ :: _, _ => by simp [Val.eqFs]
  | _ :: _, [], _ => by simp [Val.eqFs]
  | v :: l, v2 :: l2, h => by
    simp only [Val.eqFs]
    rw [eqFs_len l l2 (by simpa using h), Bool.and_false]
theorem eqVs_drop {l l2 : List Val} {i : Nat} (h : i < l.length) (h2 : i < l2.length) : Val.eqVs (l.drop i) (l2.drop i) = ((l[i]).eqV (l2[i]) && Val.eqVs (l.drop (i + 1)) (l2.drop (i + 1))) := by
  rw [List.drop_eq_getElem_cons h, List.drop_eq_getElem_cons h2]; simp only [Val.eqVs]
theorem eqFs_drop {l l2 : List Fld} {i : Nat} (h : i < l.length) (h2 : i < l2.length) : Val.eqFs (l.drop i) (l2.drop i) = (Val.eqF (l[i]) (l2[i]) && Val.eqFs (l.drop (i + 1)) (l2.drop (i + 1))) := by
  rw [List.drop_eq_getElem_cons h, List.drop_eq_getElem_cons h2]; simp only [Val.eqFs]
theorem eqF_eq (f f2 : Fld) : Val.eqF f f2 = (decide (f.1 = f2.1) && f.2.eqV f2.2) := by obtain ⟨k, v⟩ := f; rw [Val.eqF]
def c13g (N : Nat) (xs : List AV) (H : Heap) (K : Kv) : Prop := ∃ (k : Int) (s : List UInt8) (n : Int) (b : Bool) (it : Tok) (is : List Val) (ft : Tok) (fs : List Fld) (k2 : Int) (s2 : List UInt8) (n2 : Int) (b2 : Bool) (it2 : Tok) (is2 : List Val) (ft2 : Tok) (fs2 : List Fld),
  xs = [.agg [.int .i64 k, .str s, .int .i64 n, .bool b, .sl (Val.avs is) it, .sl (Val.fvs fs) ft], .agg [.int .i64 k2, .str s2, .int .i64 n2, .bool b2, .sl (Val.avs is2) it2, .sl (Val.fvs fs2) ft2]] ∧ (Val.mk k s n b it is ft fs).wt ≤ N ∧ N ≤ 1099511627776 ∧ K.ap (.bool ((Val.mk k s n b it is ft fs).eqV (Val.mk k2 s2 n2 b2 it2 is2 ft2 fs2))) H
theorem x_c13g {N : Nat} {k : Int} {s : List UInt8} {n : Int} {b : Bool} {it : Tok} {is : List Val} {ft : Tok} {fs : List Fld} {k2 : Int} {s2 : List UInt8} {n2 : Int} {b2 : Bool} {it2 : Tok} {is2 : List Val} {ft2 : Tok} {fs2 : List Fld} (h1 : (Val.mk k s n b it is ft fs).wt ≤ N) (h2 : N ≤ 1099511627776) (H : Heap) (K : Kv)
    (h : K.ap (.bool ((Val.mk k s n b it is ft fs).eqV (Val.mk k2 s2 n2 b2 it2 is2 ft2 fs2))) H) : c13g N [.agg [.int .i64 k, .str s, .int .i64 n, .bool b, .sl (Val.avs is) it, .sl (Val.fvs fs) ft], .agg [.int .i64 k2, .str s2, .int .i64 n2, .bool b2, .sl (Val.avs is2) it2, .sl (Val.fvs fs2) ft2]] H K :=
  ⟨_, _, _, _, _, _, _, _, _, _, _, _, _, _, _, _, rfl, h1, h2, h⟩
theorem c13g_of (P : Program) {G : Nat → Option (List AV)} {N : Nat} {xs : List AV} {H : Heap} {K : Kv} (h : c13g (N + 1) xs H K) : @xF ⟨G, P, [(13, c13g N)]⟩ f13 xs H ⟨fun v H' => ∃ H0, Hle H0 H' ∧ K.ap v H0⟩ := by
  obtain ⟨k, s, n, b, it, is, ft, fs, k2, s2, n2, b2, it2, is2, ft2, fs2, rfl, hw, hN, h⟩ := h
  simp only [Val.wt] at hw
  have wi := Val.wts_len is
  have wf := Val.wtf_len fs
  simp (implicitDefEqProofs := false) only [sB, simprocAttr, f13]
  refine i_new fun p hp => ?_
  simp (implicitDefEqProofs := false) only [sB, simprocAttr]
  refine i_new fun q hq => ?_
  simp (implicitDefEqProofs := false) only [sB, simprocAttr] at hq
  have hpq : ¬ p = q := fun e => hq.1 e.symm
  by_cases hk : ¬ k = k2
  · have e : (Val.mk k s n b it is ft fs).eqV (Val.mk k2 s2 n2 b2 it2 is2 ft2 fs2) = false := by simp only [Val.eqV]; simp [hk]
    rw [e] at h
    simp (implicitDefEqProofs := false) only [sB, simprocAttr, hq, hpq, Val.avs_len, Val.fvs_len, hk]
    exact ⟨_, hle2, h⟩
  have hk := Decidable.not_not.1 hk
  subst hk
  by_cases hs : ¬ s = s2
  · have e : (Val.mk k s n b it is ft fs).eqV (Val.mk k s2 n2 b2 it2 is2 ft2 fs2) = false := by simp only [Val.eqV]; simp [hs]
    rw [e] at h
    simp (implicitDefEqProofs := false) only [sB, simprocAttr, hq, hpq, Val.avs_len, Val.fvs_len, hs]
    exact ⟨_, hle2, h⟩
  have hs := Decidable.not_not.1 hs
  subst hs
  by_cases hn : ¬ n = n2
  · have e : (Val.mk k s n b it is ft fs).eqV (Val.mk k s n2 b2 it2 is2 ft2 fs2) = false := by simp only [Val.eqV]; simp [hn]
    rw [e] at h
    simp (implicitDefEqProofs := false) only [sB, simprocAttr, hq, hpq, Val.avs_len, Val.fvs_len, hn]
    exact ⟨_, hle2, h⟩
  have hn := Decidable.not_not.1 hn
  subst hn
  by_cases hb : ¬ b = b2
  · have e : (Val.mk k s n b it is ft fs).eqV (Val.mk k s n b2 it2 is2 ft2 fs2) = false := by simp only [Val.eqV]; simp [hb]
    rw [e] at h
    simp (implicitDefEqProofs := false) only [sB, simprocAttr, hq, hpq, Val.avs_len, Val.fvs_len, hb, beq_eq_false_iff_ne, ne_eq, bne_iff_ne]
    exact ⟨_, hle2, h⟩
  have hb := Decidable.not_not.1 hb
  subst hb
  by_cases hl : ¬ (is.length : Int) = (is2.length : Int)
  · have e : (Val.mk k s n b it is ft fs).eqV (Val.mk k s n b it2 is2 ft2 fs2) = false := by simp only [Val.eqV]; rw [eqVs_len is is2 (by omega)]; simp
    rw [e] at h
    simp (implicitDefEqProofs := false) only [sB, simprocAttr, hq, hpq, Val.avs_len, Val.fvs_len, hl, beq_self_eq_true, bne_self_eq_false]
    exact ⟨_, hle2, h⟩
  have hl := Decidable.not_not.1 hl
  by_cases hm : ¬ (fs.length : Int) = (fs2.length : Int)
  · have e : (Val.mk k s n b it is ft fs).eqV (Val.mk k s n b it2 is2 ft2 fs2) = false := by simp only [Val.eqV]; rw [eqFs_len fs fs2 (by omega)]; simp
    rw [e] at h
    simp (implicitDefEqProofs := false) only [sB, simprocAttr, hq, hpq, Val.avs_len, Val.fvs_len, hl, hm, beq_self_eq_true, bne_self_eq_false]
    exact ⟨_, hle2, h⟩
  have hm := Decidable.not_not.1 hm
  have e : (Val.mk k s n b it is ft fs).eqV (.mk k s n b it2 is2 ft2 fs2) = (Val.eqVs is is2 && Val.eqFs fs fs2) := by simp [Val.eqV]
  rw [e] at h
  simp (implicitDefEqProofs := false) only [sB, simprocAttr, hq, hpq, Val.avs_len, Val.fvs_len, hl, hm, beq_self_eq_true, bne_self_eq_false]
  refine i_loopJ (fun σ H1 => ∃ (i : Nat), H1 = (q, .cells [.int .i64 k, .str s, .int .i64 n, .bool b, .sl (Val.avs is2) it2, .sl (Val.fvs fs2) ft2]) :: (p, .cells [.int .i64 k, .str s, .int .i64 n, .bool b, .sl (Val.avs is) it, .sl (Val.fvs fs) ft]) :: H ∧ i ≤ is.length ∧ Val.eqVs is is2 = Val.eqVs (is.drop i) (is2.drop i) ∧ σ = [(2, .ptr p 0), (3, .ptr q 0), (5, .int .i64 i)])
    (fun σ _ => match σ.get 5 with | .int _ n => is.length - n.toNat | _ => 0)
    (fun e σ H1 => (e = .exit 0 ∧ Val.eqVs is is2 = true ∧ H1 = (q, .cells [.int .i64 k, .str s, .int .i64 n, .bool b, .sl (Val.avs is2) it2, .sl (Val.fvs fs2) ft2]) :: (p, .cells [.int .i64 k, .str s, .int .i64 n, .bool b, .sl (Val.avs is) it, .sl (Val.fvs fs) ft]) :: H ∧ σ.get 2 = .ptr p 0 ∧ σ.get 3 = .ptr q 0) ∨ (e = .ret ∧ Val.eqVs is is2 = false ∧ Hle H H1 ∧ σ.get 4 = .bool false))
    ⟨_, .refl _, 0, rfl, by omega, rfl, rfl⟩ ?_ ?_
  · rintro e σ H1 (⟨rfl, ev, rfl, q2, q3⟩ | ⟨rfl, ev, hle, q4⟩)
    · rw [ev, Bool.true_and] at h
      simp (implicitDefEqProofs := false) only [sB, simprocAttr, q2, q3, hq, hpq, Val.avs_len, Val.fvs_len]
      refine i_loopJ (fun σ H1 => ∃ (i : Nat), H1 = (q, .cells [.int .i64 k, .str s, .int .i64 n, .bool b, .sl (Val.avs is2) it2, .sl (Val.fvs fs2) ft2]) :: (p, .cells [.int .i64 k, .str s, .int .i64 n, .bool b, .sl (Val.avs is) it, .sl (Val.fvs fs) ft]) :: H ∧ i ≤ fs.length ∧ Val.eqFs fs fs2 = Val.eqFs (fs.drop i) (fs2.drop i) ∧ σ = [(2, .ptr p 0), (3, .ptr q 0), (6, .int .i64 i)])
        (fun σ _ => match σ.get 6 with | .int _ n => fs.length - n.toNat | _ => 0)
        (fun e σ H1 => (e = .exit 2 ∧ Val.eqFs fs fs2 = true ∧ Hle H H1) ∨ (e = .ret ∧ Val.eqFs fs fs2 = false ∧ Hle H H1 ∧ σ.get 4 = .bool false))
        ⟨_, .refl _, 0, rfl, by omega, rfl, rfl⟩ ?_ ?_
      · rintro e σ H1 (⟨rfl, ef, hle⟩ | ⟨rfl, ef, hle, q4⟩)
        · rw [ef] at h
          simp (implicitDefEqProofs := false) only [sB, simprocAttr]
          exact ⟨_, hle, h⟩
        · rw [ef] at h
          simp (implicitDefEqProofs := false) only [sB, simprocAttr, q4]
          exact ⟨_, hle, h⟩
      · rintro Q hQ σ H1 ⟨i, rfl, hi, hch, rfl⟩
        simp (implicitDefEqProofs := false) only [sB, simprocAttr, hq, hpq, Val.fvs_len]
        refine i_if (fun c => ?_) (fun c => ?_)
        · have c' : i < fs.length := by simpa using c
          have c2 : i < fs2.length := by omega
          have wl := Val.wtf_le _ (List.getElem_mem c')
          have hx : (Val.fvs fs)[i]? = some (.agg (.str (fs[i]).1 :: (fs[i]).2.cs)) := by rw [Val.fvs_map, List.getElem?_map, List.getElem?_eq_getElem c']; rfl
          have hy : (Val.fvs fs2)[i]? = some (.agg (.str (fs2[i]).1 :: (fs2[i]).2.cs)) := by rw [Val.fvs_map, List.getElem?_map, List.getElem?_eq_getElem c2]; rfl
          have r9 := w_i64 ((i : Int) + 1) (by omega) (by omega)
          have i0 : (0 : Int) ≤ (i : Int) := by omega
          have i1 : (i : Int) < (fs.length : Int) := by omega
          have i2 : (i : Int) < (fs2.length : Int) := by omega
          rw [eqFs_drop c' c2, eqF_eq] at hch
          generalize fs[i] = v at wl hx hch
          generalize fs2[i] = v2 at hy hch
          obtain ⟨key, k', s', n', b', it', is', ft', fs'⟩ := v
          obtain ⟨key2, k3, s3, n3, b3, it3, is3, ft3, fs3⟩ := v2
          simp only [Val.cs] at hx hy wl hch
          by_cases ek : key = key2
          · rw [decide_eq_true ek, Bool.true_and] at hch
            simp (implicitDefEqProofs := false) only [sB, simprocAttr, i0, i1, i2, hx, hy, hq, hpq, ek, Val.fvs_len, beq_self_eq_true, bne_self_eq_false]
            refine x_c13g (by omega) (by omega) _ _ ?_
            cases ev2 : Val.eqV (.mk k' s' n' b' it' is' ft' fs') (.mk k3 s3 n3 b3 it3 is3 ft3 fs3) with
            | true =>
              rw [ev2, Bool.true_and] at hch
              simp (implicitDefEqProofs := false) only [sB, simprocAttr, r9]
              exact ⟨_, .refl _, ⟨i + 1, rfl, by omega, hch, by simp⟩, by omega⟩
            | false =>
              rw [ev2, Bool.false_and] at hch
              simp (implicitDefEqProofs := false) only [sB, simprocAttr]
              exact hQ _ _ _ (.inr ⟨rfl, hch, hle2, rfl⟩)
          · rw [decide_eq_false ek, Bool.false_and, Bool.false_and] at hch
            simp (implicitDefEqProofs := false) only [sB, simprocAttr, i0, i1, i2, hx, hy, hq, hpq, ek, Val.fvs_len]
            exact hQ _ _ _ (.inr ⟨rfl, hch, hle2, rfl⟩)
        · have e1 : i = fs.length := by have : ¬ (i : Int) < fs.length := by simpa using c
                                        omega
          rw [e1, List.drop_length, List.drop_eq_nil_of_le (show fs2.length ≤ fs.length by omega)] at hch
          simp (implicitDefEqProofs := false) only [sB, simprocAttr]
          exact hQ _ _ _ (.inl ⟨rfl, by rw [hch]; simp [Val.eqVs, Val.eqFs], hle2⟩)
    · rw [ev, Bool.false_and] at h
      simp (implicitDefEqProofs := false) only [sB, simprocAttr, q4]
      exact ⟨_, hle, h⟩
  · rintro Q hQ σ H1 ⟨i, rfl, hi, hch, rfl⟩
    simp (implicitDefEqProofs := false) only [sB, simprocAttr, hq, hpq, Val.avs_len]
    refine i_if (fun c => ?_) (fun c => ?_)
    · have c' : i < is.length := by simpa using c
      have c2 : i < is2.length := by omega
      have wl := Val.wts_le _ (List.getElem_mem c')
      have hx : (Val.avs is)[i]? = some (.agg (is[i]).cs) := by rw [Val.avs_map, List.getElem?_map, List.getElem?_eq_getElem c']; rfl
      have hy : (Val.avs is2)[i]? = some (.agg (is2[i]).cs) := by rw [Val.avs_map, List.getElem?_map, List.getElem?_eq_getElem c2]; rfl
      have r9 := w_i64 ((i : Int) + 1) (by omega) (by omega)
      have i0 : (0 : Int) ≤ (i : Int) := by omega
      have i1 : (i : Int) < (is.length : Int) := by omega
      have i2 : (i : Int) < (is2.length : Int) := by omega
      rw [eqVs_drop c' c2] at hch
      generalize is[i] = v at wl hx hch
      generalize is2[i] = v2 at hy hch
      obtain ⟨k', s', n', b', it', is', ft', fs'⟩ := v
      obtain ⟨k3, s3, n3, b3, it3, is3, ft3, fs3⟩ := v2
      simp only [Val.cs] at hx hy
      simp (implicitDefEqProofs := false) only [sB, simprocAttr, i0, i1, i2, hx, hy, hq, hpq, Val.avs_len]
      refine x_c13g (by omega) (by omega) _ _ ?_
      cases ev2 : Val.eqV (.mk k' s' n' b' it' is' ft' fs') (.mk k3 s3 n3 b3 it3 is3 ft3 fs3) with
      | true =>
        rw [ev2, Bool.true_and] at hch
        simp (implicitDefEqProofs := false) only [sB, simprocAttr, r9]
        exact ⟨_, .refl _, ⟨i + 1, rfl, by omega, hch, by simp⟩, by omega⟩
      | false =>
        rw [ev2, Bool.false_and] at hch
        simp (implicitDefEqProofs := false) only [sB, simprocAttr]
        exact hQ _ _ _ (.inr ⟨rfl, hch, hle2, rfl⟩)
    · have e1 : i = is.length := by have : ¬ (i : Int) < is.length := by simpa using c
                                    omega
      rw [e1, List.drop_length, List.drop_eq_nil_of_le (show is2.length ≤ is.length by omega)] at hch
      simp (implicitDefEqProofs := false) only [sB, simprocAttr]
      exact hQ _ _ _ (.inl ⟨rfl, by rw [hch]; simp [Val.eqVs, Val.eqFs], rfl, rfl, rfl⟩)
end Go.AL.Fun
