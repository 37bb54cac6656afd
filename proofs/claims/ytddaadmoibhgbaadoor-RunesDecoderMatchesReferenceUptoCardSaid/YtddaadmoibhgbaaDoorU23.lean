/- RunesDecoderMatchesReference, walked. -/
import Derived.Test.YtddaadmoibhgbaaDoorU22
set_option linter.unusedSimpArgs false
set_option linter.unusedVariables false
set_option maxRecDepth 100000
set_option maxHeartbeats 4000000
namespace Go.AL.Fun
open Go Go.AL Go.Proofs

def bbAV (l : List (List UInt8 × Tok)) : List AV := l.map fun p => .sl (bytesAV p.1) p.2
def bbSum (l : List (List UInt8 × Tok)) : Nat := (l.map fun p => p.1.length).sum
theorem bb_get (l : List (List UInt8 × Tok)) (i : Nat) : (bbAV l)[i]? = (l[i]?).map fun p => .sl (bytesAV p.1) p.2 := by simp [bbAV]
theorem bb_len (l : List (List UInt8 × Tok)) : (bbAV l).length = l.length := by simp [bbAV]
theorem bb_take {l : List (List UInt8 × Tok)} {i : Nat} {x : List UInt8 × Tok} (h : l[i]? = some x) : bbSum (l.take (i + 1)) = bbSum (l.take i) + x.1.length := by
  rw [List.take_add_one, h]; simp [bbSum]
theorem bb_le (l : List (List UInt8 × Tok)) (i : Nat) : bbSum (l.take i) ≤ bbSum l := by
  have : bbSum l = bbSum (l.take i) + bbSum (l.drop i) := by
    conv => lhs; rw [← List.take_append_drop i l]
    simp only [bbSum, List.map_append, List.sum_append]
  omega
def boAV (l : List Bool) : List AV := l.map AV.bool
theorem bo_len (l : List Bool) : (boAV l).length = l.length := by simp [boAV]
theorem bo_get (l : List Bool) (i : Nat) : (boAV l)[i]? = (l[i]?).map AV.bool := by simp [boAV]
theorem law3 (P : Program) (l : List (List UInt8 × Tok)) (cs : List Bool) (t t2 : Tok) (hl : l.length ≤ 1048576) (hb : bbSum l ≤ 1048576) (hc : cs.length ≤ 1048576) (K : Kv) (hK : ∀ H, K.ap (.bool true) H) :
    @xF ⟨Gu, P, tC⟩ f3 [.sl (bbAV l) t, .sl (boAV cs) t2] [] K := by
  have hn : (Heap.keys []).Nodup := List.nodup_nil
  have alive : ∀ (H : Heap) (K' : Kv), H.keys.Nodup → K'.ap (.bool true) H → c12 [] H K' := fun H K' h k => ⟨rfl, h, k⟩
  simp (implicitDefEqProofs := false) only [sB, simprocAttr, f3]
  refine i_new fun a ha => ?_
  have hn1 : (Heap.keys [(a, AObj.spare 1)]).Nodup := List.nodup_cons.2 ⟨ha, hn⟩
  simp (implicitDefEqProofs := false) only [sB, simprocAttr]
  refine .inr ⟨_, rfl, ?_⟩
  simp (implicitDefEqProofs := false) only [sB, simprocAttr]
  refine .inr ⟨rfl, ?_⟩
  simp (implicitDefEqProofs := false) only [sB, simprocAttr]
  refine .inr ⟨rfl, ?_⟩
  simp (implicitDefEqProofs := false) only [sB, simprocAttr, bb_len]
  generalize hH0 : ([(a, AObj.spare 1)] : Heap) = H0 at hn1 ⊢
  refine i_loopJ (fun σ H1 => ∃ (i : Nat), H1 = H0 ∧ i ≤ l.length ∧ σ = [(0, .sl (bbAV l) t), (1, .sl (boAV cs) t2), (6, .int .i64 (bbSum (l.take i))), (30, .sl (bbAV l) t), (31, .int .i64 l.length), (32, .int .i64 i)])
    (fun σ _ => match σ.get 32 with | .int _ n => l.length - n.toNat | _ => 0)
    (fun e σ H1 => e = .exit 0 ∧ H1 = H0 ∧ σ.get 0 = .sl (bbAV l) t ∧ σ.get 1 = .sl (boAV cs) t2 ∧ σ.get 6 = .int .i64 (bbSum l))
    ⟨_, .refl _, 0, rfl, by omega, rfl⟩ ?_ ?_
  · rintro e σ H1 ⟨rfl, hH1, q0, q1, q6⟩
    obtain rfl : H0 = H1 := hH1.symm
    by_cases c1 : (2000 : Int) < bbSum l
    · simp (implicitDefEqProofs := false) only [sB, simprocAttr, q0, q1, q6, c1]
      refine alive _ _ hn1 ?_
      simp (implicitDefEqProofs := false) only [sB, simprocAttr]
      exact hK _
    by_cases c2 : (200 : Int) < l.length
    · simp (implicitDefEqProofs := false) only [sB, simprocAttr, q0, q1, q6, c1, bb_len, c2]
      refine alive _ _ hn1 ?_
      simp (implicitDefEqProofs := false) only [sB, simprocAttr]
      exact hK _
    simp (implicitDefEqProofs := false) only [sB, simprocAttr, q0, q1, q6, c1, bb_len, c2]
    refine x_c13 fun pp hpp => ?_
    have hn2 := List.nodup_cons.2 ⟨hpp, hn1⟩
    simp (implicitDefEqProofs := false) only [sB, simprocAttr]
    refine i_new fun pq hpq => ?_
    have hn3 := List.nodup_cons.2 ⟨hpq, hn2⟩
    simp (implicitDefEqProofs := false) only [sB, simprocAttr, bb_len]
    refine i_loopJ (fun σ H1 => ∃ (i : Nat) (h : List UInt8) (tk : Tok), H1.Perm ((pp, dO h tk) :: (pq, rO h) :: H0) ∧ H1.keys.Nodup ∧ (h = [] ∨ (fst h).2 = true) ∧ i ≤ l.length ∧ σ = [(1, .sl (boAV cs) t2), (9, .ptr pp 0), (10, .ptr pq 0), (54, .sl (bbAV l) t), (55, .int .i64 l.length), (56, .int .i64 i)])
      (fun σ _ => match σ.get 56 with | .int _ n => l.length - n.toNat | _ => 0)
      (fun e σ H1 => e = .exit 2 ∧ H1.keys.Nodup)
      ⟨_, .refl _, 0, [], .nil, .swap _ _ _, hn3, .inl rfl, by omega, rfl⟩ ?_ ?_
    · rintro e σ H1 ⟨rfl, hn4⟩
      simp (implicitDefEqProofs := false) only [sB, simprocAttr]
      refine alive _ _ hn4 ?_
      simp (implicitDefEqProofs := false) only [sB, simprocAttr]
      exact hK _
    · rintro Q hQ σ H1 ⟨i, h, tk, hp, hn4, hh, hi, rfl⟩
      simp (implicitDefEqProofs := false) only [sB, simprocAttr]
      refine i_if (fun c => ?_) (fun c => ?_)
      · have hlt : i < l.length := by simpa using c
        have hx : l[i]? = some l[i] := List.getElem?_eq_getElem hlt
        have h3 : h.length ≤ 3 := by rcases hh with rfl | hh; exact Nat.zero_le _; exact (fst_more hh).1
        have hpl : l[i].1.length ≤ bbSum l := by
          have e1 := bb_take hx
          have e2 := bb_le l (i + 1)
          omega
        obtain ⟨⟨p, tp⟩, hlp⟩ : ∃ q, l[i] = q := ⟨_, rfl⟩
        rw [hlp] at hpl hx
        simp only at hpl
        have i0 : (0 : Int) ≤ (i : Int) := by omega
        have r9 := w_i64 ((i : Int) + 1) (by omega) (by omega)
        obtain ⟨w1, w2, w3, w4⟩ := wr_dec [] _ (h ++ p) (Nat.le_refl _)
        have hL : (h ++ p).length = h.length + p.length := List.length_append
        simp (implicitDefEqProofs := false) only [sB, simprocAttr, i0, bb_get, hx]
        refine .inl (x_c9 (R := (pq, rO h) :: H0) hp hn4 (.sl _ _) (by omega) fun tk3 H2 g1 g2 => ?_)
        simp (implicitDefEqProofs := false) only [sB, simprocAttr]
        refine x_c15 (R := (pp, dO (wrP (h ++ p)).2 tk3) :: H0) (g1.trans (.swap _ _ _)) g2 (by omega) fun H3 g3 g4 => ?_
        simp (implicitDefEqProofs := false) only [sB, simprocAttr]
        refine x_c14 (l := (wrP (h ++ p)).1) (m := (wrP (h ++ p)).1) (.sl _ _) (.sl _ _) (by omega) ?_
        generalize wrP (h ++ p) = w at *
        obtain ⟨wa, wb⟩ := w
        simp only at *
        have lq : lookH pq H3 = some (.cells [.str wb]) := look_head g3 g4
        have lp : lookH pp H3 = some (dO wb tk3) := look_head (g3.trans (.swap _ _ _)) g4
        have d4 : (decP wb).length ≤ wb.length := (round_trip _ wb (Nat.le_refl _)).2.2.1
        simp (implicitDefEqProofs := false) only [sB, simprocAttr, lq]
        refine .inl (x_c11 lp ?_)
        by_cases ci : i < cs.length
        · have hci : cs[i]? = some cs[i] := List.getElem?_eq_getElem ci
          have ci' : (i : Int) < (cs.length : Int) := by omega
          cases hcb : cs[i] with
          | false =>
            rw [hcb] at hci
            simp (implicitDefEqProofs := false) only [sB, simprocAttr, lq, i0, bo_len, bo_get, ci', hci, r9]
            exact ⟨_, .refl _, ⟨i + 1, wb, tk3, g3.trans (.swap _ _ _), g4, w2, by omega, by simp⟩, by omega⟩
          | true =>
            rw [hcb] at hci
            simp (implicitDefEqProofs := false) only [sB, simprocAttr, lq, i0, bo_len, bo_get, ci', hci, r9]
            refine .inl (x_c10 (R := (pq, rO wb) :: H0) (g3.trans (.swap _ _ _)) g4 (by omega) fun id H4 g5 g6 => ?_)
            simp (implicitDefEqProofs := false) only [sB, simprocAttr]
            refine x_c16 (R := (id, .cells (i32AV (decP wb))) :: (pp, dO [] .nil) :: H0) (g5.trans (((List.Perm.swap _ _ _).cons _).trans (.swap _ _ _))) g6 (by omega) fun H5 g7 g8 => ?_
            have lid : lookH id H5 = some (.cells (i32AV (decP wb))) := look_head (g7.trans (.swap _ _ _)) g8
            have lp5 : lookH pp H5 = some (dO [] .nil) := look_head (g7.trans (((List.Perm.swap _ _ _).cons _).trans (.swap _ _ _))) g8
            simp (implicitDefEqProofs := false) only [sB, simprocAttr]
            refine x_c14 (l := decP wb) (m := decP wb) (.msl id _ lid) (.sl _ _) (by omega) ?_
            simp (implicitDefEqProofs := false) only [sB, simprocAttr]
            refine .inl (x_c11 lp5 ?_)
            have e : ((([] : List UInt8).length : Nat) : Int) = 0 := rfl
            simp (implicitDefEqProofs := false) only [sB, simprocAttr, e, r9]
            have hs : List.Sublist ((pq, rO []) :: (pp, dO [] .nil) :: H0) ((pq, rO []) :: (id, .cells (i32AV (decP wb))) :: (pp, dO [] .nil) :: H0) := .cons_cons _ (.cons _ (.refl _))
            exact ⟨_, hle_sub g7 hs, ⟨i + 1, [], .nil, .swap _ _ _, nodup_sub g7 hs g8, .inl rfl, by omega, by simp⟩, by omega⟩
        · have ci' : ¬ (i : Int) < (cs.length : Int) := by omega
          simp (implicitDefEqProofs := false) only [sB, simprocAttr, lq, i0, bo_len, ci', r9]
          exact ⟨_, .refl _, ⟨i + 1, wb, tk3, g3.trans (.swap _ _ _), g4, w2, by omega, by simp⟩, by omega⟩
      · simp (implicitDefEqProofs := false) only [sB, simprocAttr]
        exact hQ _ _ _ ⟨rfl, hn4⟩
  · rintro Q hQ σ H1 ⟨i, rfl, hi, rfl⟩
    simp (implicitDefEqProofs := false) only [sB, simprocAttr]
    refine i_if (fun c => ?_) (fun c => ?_)
    · have hlt : i < l.length := by simpa using c
      have hx : l[i]? = some l[i] := List.getElem?_eq_getElem hlt
      have e1 := bb_take hx
      have e2 := bb_le l (i + 1)
      have e3 := w_i64 ((bbSum (l.take i) : Int) + l[i].1.length) (by omega) (by omega)
      have e4 := w_i64 ((i : Int) + 1) (by omega) (by omega)
      simp (implicitDefEqProofs := false) only [sB, simprocAttr, bb_get, hx, by_len, e3, e4]
      exact ⟨by omega, _, .refl _, ⟨i + 1, rfl, by omega, by rw [e1]; simp, by simp⟩, by omega⟩
    · have hlt : i = l.length := by have : ¬ (i : Int) < l.length := by simpa using c
                                    omega
      subst hlt
      rw [List.take_length]
      simp (implicitDefEqProofs := false) only [sB, simprocAttr]
      exact hQ _ _ _ ⟨rfl, rfl, rfl, rfl, rfl⟩
end Go.AL.Fun
