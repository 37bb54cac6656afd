/- Laws of the writer, walked: 4, 6. -/
import Derived.Test.YthiphpcbeeakpaaW4
set_option linter.unusedSimpArgs false
set_option maxRecDepth 100000
namespace Go.AL.Fun
open Go Go.AL

theorem write_nil (b x : List UInt8) (c : Nat) : WS.write ⟨[], b, c, 0⟩ x = ((⟨[], b, c, 0⟩ : WS), 0, 10) := rfl
theorem write_neg {n : Int} (l : List Int) (b x : List UInt8) (c : Nat) (h : n < 0) : WS.write ⟨n :: l, b, c, 0⟩ x = ((⟨l, b, c + 1, 9⟩ : WS), 0, 9) := by simp [WS.write, h]
theorem write_pos {n : Int} (l : List Int) (b x : List UInt8) (c : Nat) (h : ¬ n < 0) : WS.write ⟨n :: l, b, c, 0⟩ x = ((⟨l, b ++ x.take n.toNat, c + 1, 0⟩ : WS), min (n.toNat : Int) x.length, 0) := by simp [WS.write, h]
theorem write_err {e : Int} (l : List Int) (b x : List UInt8) (c : Nat) (h : e ≠ 0) : WS.write ⟨l, b, c, e⟩ x = ((⟨l, b, c, e⟩ : WS), 0, e) := by simp [WS.write, h]

theorem law4 (P : Program) (l : List Int) (t : Tok) (ht : t = .nil → l = []) (h1 : l.length ≤ 1048576) (K : Kv) (hK : ∀ H, K.ap (.bool true) H) : @xF (tY P) f4 [.sl (intsAV l) t] [] K := by
  by_cases c0 : (1000 : Int) < l.length
  · simp (implicitDefEqProofs := false) only [sB0, sB1, sB2, sB3, sB4, sB5, sB6, sB7, sB8, sB9, sB10, sB11, sB12, sB13, sB14, sB15, sB16, sB17, sB18, sB19, noOb, AV.cells, AV.kindN, AV.undef, fillL, splice, isU8, lookH, setH, renH, othK, Heap.keys, foundA, if_true, if_false, ↓reduceIte, Nat.reduceEqDiff, Nat.reduceLeDiff, Nat.reduceAdd, Nat.reduceMul, Nat.reduceSub, Nat.reduceLT, Nat.reduceBNe, Nat.reduceBEq, Int.reduceToNat, Int.reduceLT, Int.reduceLE, Int.reduceAdd, Int.reduceSub, Int.reduceMul, Int.reduceEq, Int.reduceNeg, true_and, and_true, false_and, and_false, ne_eq, not_true_eq_false, not_false_eq_true, true_or, or_true, false_or, or_false, eq_self, reduceCtorEq, exists_eq_left, exists_eq_left', UInt8.reduceOfNat, UInt8.reduceToNat, not_or, Int.reduceMod, Int.reduceTMod, Int.reduceTDiv, Nat.reduceMod, bytesOf, gt_iff_lt, ge_iff_le, and_self, f4, ints_len, c0]
    rw [x_c16 _ _ (by simp [Heap.keys])]
    simp (implicitDefEqProofs := false) only [sB0, sB1, sB2, sB3, sB4, sB5, sB6, sB7, sB8, sB9, sB10, sB11, sB12, sB13, sB14, sB15, sB16, sB17, sB18, sB19, noOb, AV.cells, AV.kindN, AV.undef, fillL, splice, isU8, lookH, setH, renH, othK, Heap.keys, foundA, if_true, if_false, ↓reduceIte, Nat.reduceEqDiff, Nat.reduceLeDiff, Nat.reduceAdd, Nat.reduceMul, Nat.reduceSub, Nat.reduceLT, Nat.reduceBNe, Nat.reduceBEq, Int.reduceToNat, Int.reduceLT, Int.reduceLE, Int.reduceAdd, Int.reduceSub, Int.reduceMul, Int.reduceEq, Int.reduceNeg, true_and, and_true, false_and, and_false, ne_eq, not_true_eq_false, not_false_eq_true, true_or, or_true, false_or, or_false, eq_self, reduceCtorEq, exists_eq_left, exists_eq_left', UInt8.reduceOfNat, UInt8.reduceToNat, not_or, Int.reduceMod, Int.reduceTMod, Int.reduceTDiv, Nat.reduceMod, bytesOf, gt_iff_lt, ge_iff_le, and_self]
    exact hK _
  · simp (implicitDefEqProofs := false) only [sB0, sB1, sB2, sB3, sB4, sB5, sB6, sB7, sB8, sB9, sB10, sB11, sB12, sB13, sB14, sB15, sB16, sB17, sB18, sB19, noOb, AV.cells, AV.kindN, AV.undef, fillL, splice, isU8, lookH, setH, renH, othK, Heap.keys, foundA, if_true, if_false, ↓reduceIte, Nat.reduceEqDiff, Nat.reduceLeDiff, Nat.reduceAdd, Nat.reduceMul, Nat.reduceSub, Nat.reduceLT, Nat.reduceBNe, Nat.reduceBEq, Int.reduceToNat, Int.reduceLT, Int.reduceLE, Int.reduceAdd, Int.reduceSub, Int.reduceMul, Int.reduceEq, Int.reduceNeg, true_and, and_true, false_and, and_false, ne_eq, not_true_eq_false, not_false_eq_true, true_or, or_true, false_or, or_false, eq_self, reduceCtorEq, exists_eq_left, exists_eq_left', UInt8.reduceOfNat, UInt8.reduceToNat, not_or, Int.reduceMod, Int.reduceTMod, Int.reduceTDiv, Nat.reduceMod, bytesOf, gt_iff_lt, ge_iff_le, and_self, f4, ints_len, c0]
    refine ⟨l, _, rfl, .inl ⟨t, rfl, ht⟩, by omega, by simp [Heap.keys], fun p t1 H1 g1 p1 n1 => ?_⟩
    simp (implicitDefEqProofs := false) only [sB0, sB1, sB2, sB3, sB4, sB5, sB6, sB7, sB8, sB9, sB10, sB11, sB12, sB13, sB14, sB15, sB16, sB17, sB18, sB19, noOb, AV.cells, AV.kindN, AV.undef, fillL, splice, isU8, lookH, setH, renH, othK, Heap.keys, foundA, if_true, if_false, ↓reduceIte, Nat.reduceEqDiff, Nat.reduceLeDiff, Nat.reduceAdd, Nat.reduceMul, Nat.reduceSub, Nat.reduceLT, Nat.reduceBNe, Nat.reduceBEq, Int.reduceToNat, Int.reduceLT, Int.reduceLE, Int.reduceAdd, Int.reduceSub, Int.reduceMul, Int.reduceEq, Int.reduceNeg, true_and, and_true, false_and, and_false, ne_eq, not_true_eq_false, not_false_eq_true, true_or, or_true, false_or, or_false, eq_self, reduceCtorEq, exists_eq_left, exists_eq_left', UInt8.reduceOfNat, UInt8.reduceToNat, not_or, Int.reduceMod, Int.reduceTMod, Int.reduceTDiv, Nat.reduceMod, bytesOf, gt_iff_lt, ge_iff_le, and_self]
    refine i_loopJ (fun σ H1 => ∃ (t2 : Tok) (R : Heap) (i : Nat), H1.Perm (wH p ⟨l.drop i, [], i, 0⟩ t1 t2 R) ∧ H1.keys.Nodup ∧ GT (bytesAV []) t2 ∧ i ≤ l.length ∧
        σ = [(3, .ptr p 0), (18, .sl (intsAV l) t), (19, .int .i64 l.length), (20, .int .i64 i)])
      (fun σ _ => match σ.get 20 with | .int _ n => l.length - n.toNat | _ => 0)
      (fun e σ H1 => (e = .exit 0 ∧ ∃ (t2 : Tok) (R : Heap), H1.Perm (wH p ⟨[], [], l.length, 0⟩ t1 t2 R) ∧ H1.keys.Nodup ∧ GT (bytesAV []) t2 ∧ σ.get 3 = .ptr p 0) ∨ (e = .ret ∧ σ.get 2 = .bool true)) ⟨H1, .refl _, .nil, _, 0, p1, n1, rfl, by omega, ?_⟩ ?_ ?_
    · simp (implicitDefEqProofs := false) only [sB0, sB1, sB2, sB3, sB4, sB5, sB6, sB7, sB8, sB9, sB10, sB11, sB12, sB13, sB14, sB15, sB16, sB17, sB18, sB19, noOb, AV.cells, AV.kindN, AV.undef, fillL, splice, isU8, lookH, setH, renH, othK, Heap.keys, foundA, if_true, if_false, ↓reduceIte, Nat.reduceEqDiff, Nat.reduceLeDiff, Nat.reduceAdd, Nat.reduceMul, Nat.reduceSub, Nat.reduceLT, Nat.reduceBNe, Nat.reduceBEq, Int.reduceToNat, Int.reduceLT, Int.reduceLE, Int.reduceAdd, Int.reduceSub, Int.reduceMul, Int.reduceEq, Int.reduceNeg, true_and, and_true, false_and, and_false, ne_eq, not_true_eq_false, not_false_eq_true, true_or, or_true, false_or, or_false, eq_self, reduceCtorEq, exists_eq_left, exists_eq_left', UInt8.reduceOfNat, UInt8.reduceToNat, not_or, Int.reduceMod, Int.reduceTMod, Int.reduceTDiv, Nat.reduceMod, bytesOf, gt_iff_lt, ge_iff_le, and_self, ints_len]
    · rintro e σ H2 (⟨rfl, t2, R, p2, n2, g2, q3⟩ | ⟨rfl, q2⟩)
      · simp (implicitDefEqProofs := false) only [sB0, sB1, sB2, sB3, sB4, sB5, sB6, sB7, sB8, sB9, sB10, sB11, sB12, sB13, sB14, sB15, sB16, sB17, sB18, sB19, noOb, AV.cells, AV.kindN, AV.undef, fillL, splice, isU8, lookH, setH, renH, othK, Heap.keys, foundA, if_true, if_false, ↓reduceIte, Nat.reduceEqDiff, Nat.reduceLeDiff, Nat.reduceAdd, Nat.reduceMul, Nat.reduceSub, Nat.reduceLT, Nat.reduceBNe, Nat.reduceBEq, Int.reduceToNat, Int.reduceLT, Int.reduceLE, Int.reduceAdd, Int.reduceSub, Int.reduceMul, Int.reduceEq, Int.reduceNeg, true_and, and_true, false_and, and_false, ne_eq, not_true_eq_false, not_false_eq_true, true_or, or_true, false_or, or_false, eq_self, reduceCtorEq, exists_eq_left, exists_eq_left', UInt8.reduceOfNat, UInt8.reduceToNat, not_or, Int.reduceMod, Int.reduceTMod, Int.reduceTDiv, Nat.reduceMod, bytesOf, gt_iff_lt, ge_iff_le, and_self, q3, x_c16 _ _ n2]
        refine ⟨p, _, t1, t2, [], _, R, rfl, p2, n2, g2, by simp; omega, by simp, fun t2' H3 g3 p3 n3 => ?_⟩
        rw [write_nil] at g3 p3 ⊢
        simp (implicitDefEqProofs := false) only [sB0, sB1, sB2, sB3, sB4, sB5, sB6, sB7, sB8, sB9, sB10, sB11, sB12, sB13, sB14, sB15, sB16, sB17, sB18, sB19, noOb, AV.cells, AV.kindN, AV.undef, fillL, splice, isU8, lookH, setH, renH, othK, Heap.keys, foundA, if_true, if_false, ↓reduceIte, Nat.reduceEqDiff, Nat.reduceLeDiff, Nat.reduceAdd, Nat.reduceMul, Nat.reduceSub, Nat.reduceLT, Nat.reduceBNe, Nat.reduceBEq, Int.reduceToNat, Int.reduceLT, Int.reduceLE, Int.reduceAdd, Int.reduceSub, Int.reduceMul, Int.reduceEq, Int.reduceNeg, true_and, and_true, false_and, and_false, ne_eq, not_true_eq_false, not_false_eq_true, true_or, or_true, false_or, or_false, eq_self, reduceCtorEq, exists_eq_left, exists_eq_left', UInt8.reduceOfNat, UInt8.reduceToNat, not_or, Int.reduceMod, Int.reduceTMod, Int.reduceTDiv, Nat.reduceMod, bytesOf, gt_iff_lt, ge_iff_le, and_self, q3, x_c16 _ _ n3]
        refine ⟨p, _, t1, t2', R, rfl, p3, n3, g3, by simp, fun t4 H4 g4 p4 n4 => ?_⟩
        simp (implicitDefEqProofs := false) only [sB0, sB1, sB2, sB3, sB4, sB5, sB6, sB7, sB8, sB9, sB10, sB11, sB12, sB13, sB14, sB15, sB16, sB17, sB18, sB19, noOb, AV.cells, AV.kindN, AV.undef, fillL, splice, isU8, lookH, setH, renH, othK, Heap.keys, foundA, if_true, if_false, ↓reduceIte, Nat.reduceEqDiff, Nat.reduceLeDiff, Nat.reduceAdd, Nat.reduceMul, Nat.reduceSub, Nat.reduceLT, Nat.reduceBNe, Nat.reduceBEq, Int.reduceToNat, Int.reduceLT, Int.reduceLE, Int.reduceAdd, Int.reduceSub, Int.reduceMul, Int.reduceEq, Int.reduceNeg, true_and, and_true, false_and, and_false, ne_eq, not_true_eq_false, not_false_eq_true, true_or, or_true, false_or, or_false, eq_self, reduceCtorEq, exists_eq_left, exists_eq_left', UInt8.reduceOfNat, UInt8.reduceToNat, not_or, Int.reduceMod, Int.reduceTMod, Int.reduceTDiv, Nat.reduceMod, bytesOf, gt_iff_lt, ge_iff_le, and_self]
        exact hK _
      · simp (implicitDefEqProofs := false) only [sB0, sB1, sB2, sB3, sB4, sB5, sB6, sB7, sB8, sB9, sB10, sB11, sB12, sB13, sB14, sB15, sB16, sB17, sB18, sB19, noOb, AV.cells, AV.kindN, AV.undef, fillL, splice, isU8, lookH, setH, renH, othK, Heap.keys, foundA, if_true, if_false, ↓reduceIte, Nat.reduceEqDiff, Nat.reduceLeDiff, Nat.reduceAdd, Nat.reduceMul, Nat.reduceSub, Nat.reduceLT, Nat.reduceBNe, Nat.reduceBEq, Int.reduceToNat, Int.reduceLT, Int.reduceLE, Int.reduceAdd, Int.reduceSub, Int.reduceMul, Int.reduceEq, Int.reduceNeg, true_and, and_true, false_and, and_false, ne_eq, not_true_eq_false, not_false_eq_true, true_or, or_true, false_or, or_false, eq_self, reduceCtorEq, exists_eq_left, exists_eq_left', UInt8.reduceOfNat, UInt8.reduceToNat, not_or, Int.reduceMod, Int.reduceTMod, Int.reduceTDiv, Nat.reduceMod, bytesOf, gt_iff_lt, ge_iff_le, and_self, q2]
        exact hK _
    · rintro Q hQ σ H2 ⟨t2, R, i, p2, n2, g2, hi, rfl⟩
      simp (implicitDefEqProofs := false) only [sB0, sB1, sB2, sB3, sB4, sB5, sB6, sB7, sB8, sB9, sB10, sB11, sB12, sB13, sB14, sB15, sB16, sB17, sB18, sB19, noOb, AV.cells, AV.kindN, AV.undef, fillL, splice, isU8, lookH, setH, renH, othK, Heap.keys, foundA, if_true, if_false, ↓reduceIte, Nat.reduceEqDiff, Nat.reduceLeDiff, Nat.reduceAdd, Nat.reduceMul, Nat.reduceSub, Nat.reduceLT, Nat.reduceBNe, Nat.reduceBEq, Int.reduceToNat, Int.reduceLT, Int.reduceLE, Int.reduceAdd, Int.reduceSub, Int.reduceMul, Int.reduceEq, Int.reduceNeg, true_and, and_true, false_and, and_false, ne_eq, not_true_eq_false, not_false_eq_true, true_or, or_true, false_or, or_false, eq_self, reduceCtorEq, exists_eq_left, exists_eq_left', UInt8.reduceOfNat, UInt8.reduceToNat, not_or, Int.reduceMod, Int.reduceTMod, Int.reduceTDiv, Nat.reduceMod, bytesOf, gt_iff_lt, ge_iff_le, and_self]
      refine i_if (fun c => ?_) (fun c => ?_)
      · have c' : i < l.length := by simpa using c
        have hx : l[i]? = some l[i] := List.getElem?_eq_getElem c'
        simp (implicitDefEqProofs := false) only [sB0, sB1, sB2, sB3, sB4, sB5, sB6, sB7, sB8, sB9, sB10, sB11, sB12, sB13, sB14, sB15, sB16, sB17, sB18, sB19, noOb, AV.cells, AV.kindN, AV.undef, fillL, splice, isU8, lookH, setH, renH, othK, Heap.keys, foundA, if_true, if_false, ↓reduceIte, Nat.reduceEqDiff, Nat.reduceLeDiff, Nat.reduceAdd, Nat.reduceMul, Nat.reduceSub, Nat.reduceLT, Nat.reduceBNe, Nat.reduceBEq, Int.reduceToNat, Int.reduceLT, Int.reduceLE, Int.reduceAdd, Int.reduceSub, Int.reduceMul, Int.reduceEq, Int.reduceNeg, true_and, and_true, false_and, and_false, ne_eq, not_true_eq_false, not_false_eq_true, true_or, or_true, false_or, or_false, eq_self, reduceCtorEq, exists_eq_left, exists_eq_left', UInt8.reduceOfNat, UInt8.reduceToNat, not_or, Int.reduceMod, Int.reduceTMod, Int.reduceTDiv, Nat.reduceMod, bytesOf, gt_iff_lt, ge_iff_le, and_self, ints_get, hx]
        refine ⟨by omega, p, _, t1, t2, [], _, R, rfl, p2, n2, g2, by simp; omega, by simp, fun t2' H3 g3 p3 n3 => ?_⟩
        have r9 := w_i64 ((i : Int) + 1) (by omega) (by omega)
        rw [List.drop_eq_getElem_cons c'] at g3 p3 ⊢
        by_cases c2 : l[i] < 0
        · rw [write_neg _ _ _ _ c2] at g3 p3 ⊢
          have c3 : ¬ 0 ≤ l[i] := by omega
          simp (implicitDefEqProofs := false) only [sB0, sB1, sB2, sB3, sB4, sB5, sB6, sB7, sB8, sB9, sB10, sB11, sB12, sB13, sB14, sB15, sB16, sB17, sB18, sB19, noOb, AV.cells, AV.kindN, AV.undef, fillL, splice, isU8, lookH, setH, renH, othK, Heap.keys, foundA, if_true, if_false, ↓reduceIte, Nat.reduceEqDiff, Nat.reduceLeDiff, Nat.reduceAdd, Nat.reduceMul, Nat.reduceSub, Nat.reduceLT, Nat.reduceBNe, Nat.reduceBEq, Int.reduceToNat, Int.reduceLT, Int.reduceLE, Int.reduceAdd, Int.reduceSub, Int.reduceMul, Int.reduceEq, Int.reduceNeg, true_and, and_true, false_and, and_false, ne_eq, not_true_eq_false, not_false_eq_true, true_or, or_true, false_or, or_false, eq_self, reduceCtorEq, exists_eq_left, exists_eq_left', UInt8.reduceOfNat, UInt8.reduceToNat, not_or, Int.reduceMod, Int.reduceTMod, Int.reduceTDiv, Nat.reduceMod, bytesOf, gt_iff_lt, ge_iff_le, and_self]
          refine ⟨p, _, t1, t2', R, rfl, p3, n3, ?_⟩
          simp (implicitDefEqProofs := false) only [sB0, sB1, sB2, sB3, sB4, sB5, sB6, sB7, sB8, sB9, sB10, sB11, sB12, sB13, sB14, sB15, sB16, sB17, sB18, sB19, noOb, AV.cells, AV.kindN, AV.undef, fillL, splice, isU8, lookH, setH, renH, othK, Heap.keys, foundA, if_true, if_false, ↓reduceIte, Nat.reduceEqDiff, Nat.reduceLeDiff, Nat.reduceAdd, Nat.reduceMul, Nat.reduceSub, Nat.reduceLT, Nat.reduceBNe, Nat.reduceBEq, Int.reduceToNat, Int.reduceLT, Int.reduceLE, Int.reduceAdd, Int.reduceSub, Int.reduceMul, Int.reduceEq, Int.reduceNeg, true_and, and_true, false_and, and_false, ne_eq, not_true_eq_false, not_false_eq_true, true_or, or_true, false_or, or_false, eq_self, reduceCtorEq, exists_eq_left, exists_eq_left', UInt8.reduceOfNat, UInt8.reduceToNat, not_or, Int.reduceMod, Int.reduceTMod, Int.reduceTDiv, Nat.reduceMod, bytesOf, gt_iff_lt, ge_iff_le, and_self, r9, c2, c3, x_c16 _ _ n3, Int.natCast_add]
          refine ⟨p, _, t1, t2', R, rfl, p3, n3, g3, by simp, fun t4 H4 g4 p4 n4 => ?_⟩
          simp (implicitDefEqProofs := false) only [sB0, sB1, sB2, sB3, sB4, sB5, sB6, sB7, sB8, sB9, sB10, sB11, sB12, sB13, sB14, sB15, sB16, sB17, sB18, sB19, noOb, AV.cells, AV.kindN, AV.undef, fillL, splice, isU8, lookH, setH, renH, othK, Heap.keys, foundA, if_true, if_false, ↓reduceIte, Nat.reduceEqDiff, Nat.reduceLeDiff, Nat.reduceAdd, Nat.reduceMul, Nat.reduceSub, Nat.reduceLT, Nat.reduceBNe, Nat.reduceBEq, Int.reduceToNat, Int.reduceLT, Int.reduceLE, Int.reduceAdd, Int.reduceSub, Int.reduceMul, Int.reduceEq, Int.reduceNeg, true_and, and_true, false_and, and_false, ne_eq, not_true_eq_false, not_false_eq_true, true_or, or_true, false_or, or_false, eq_self, reduceCtorEq, exists_eq_left, exists_eq_left', UInt8.reduceOfNat, UInt8.reduceToNat, not_or, Int.reduceMod, Int.reduceTMod, Int.reduceTDiv, Nat.reduceMod, bytesOf, gt_iff_lt, ge_iff_le, and_self]
          exact hQ _ _ _ (.inr ⟨rfl, rfl⟩)
        · rw [write_pos _ _ _ _ c2] at g3 p3 ⊢
          have c3 : 0 ≤ l[i] := by omega
          have c4 : min (l[i].toNat : Int) 0 = 0 := by omega
          simp (implicitDefEqProofs := false) only [sB0, sB1, sB2, sB3, sB4, sB5, sB6, sB7, sB8, sB9, sB10, sB11, sB12, sB13, sB14, sB15, sB16, sB17, sB18, sB19, noOb, AV.cells, AV.kindN, AV.undef, fillL, splice, isU8, lookH, setH, renH, othK, Heap.keys, foundA, if_true, if_false, ↓reduceIte, Nat.reduceEqDiff, Nat.reduceLeDiff, Nat.reduceAdd, Nat.reduceMul, Nat.reduceSub, Nat.reduceLT, Nat.reduceBNe, Nat.reduceBEq, Int.reduceToNat, Int.reduceLT, Int.reduceLE, Int.reduceAdd, Int.reduceSub, Int.reduceMul, Int.reduceEq, Int.reduceNeg, true_and, and_true, false_and, and_false, ne_eq, not_true_eq_false, not_false_eq_true, true_or, or_true, false_or, or_false, eq_self, reduceCtorEq, exists_eq_left, exists_eq_left', UInt8.reduceOfNat, UInt8.reduceToNat, not_or, Int.reduceMod, Int.reduceTMod, Int.reduceTDiv, Nat.reduceMod, bytesOf, gt_iff_lt, ge_iff_le, and_self, c4]
          refine ⟨p, _, t1, t2', R, rfl, p3, n3, ?_⟩
          simp (implicitDefEqProofs := false) only [sB0, sB1, sB2, sB3, sB4, sB5, sB6, sB7, sB8, sB9, sB10, sB11, sB12, sB13, sB14, sB15, sB16, sB17, sB18, sB19, noOb, AV.cells, AV.kindN, AV.undef, fillL, splice, isU8, lookH, setH, renH, othK, Heap.keys, foundA, if_true, if_false, ↓reduceIte, Nat.reduceEqDiff, Nat.reduceLeDiff, Nat.reduceAdd, Nat.reduceMul, Nat.reduceSub, Nat.reduceLT, Nat.reduceBNe, Nat.reduceBEq, Int.reduceToNat, Int.reduceLT, Int.reduceLE, Int.reduceAdd, Int.reduceSub, Int.reduceMul, Int.reduceEq, Int.reduceNeg, true_and, and_true, false_and, and_false, ne_eq, not_true_eq_false, not_false_eq_true, true_or, or_true, false_or, or_false, eq_self, reduceCtorEq, exists_eq_left, exists_eq_left', UInt8.reduceOfNat, UInt8.reduceToNat, not_or, Int.reduceMod, Int.reduceTMod, Int.reduceTDiv, Nat.reduceMod, bytesOf, gt_iff_lt, ge_iff_le, and_self, r9, c2, c3, c4, x_c16 _ _ n3, Int.natCast_add]
          simp only [List.take_nil, List.append_nil] at p3 g3
          refine ⟨H3, .refl _, ⟨t2', R, i + 1, p3, n3, g3, by omega, by simp⟩, by omega⟩
      · have : i = l.length := by have : ¬ (i : Int) < l.length := by simpa using c
                                  omega
        subst this
        rw [List.drop_length] at p2
        simp (implicitDefEqProofs := false) only [sB0, sB1, sB2, sB3, sB4, sB5, sB6, sB7, sB8, sB9, sB10, sB11, sB12, sB13, sB14, sB15, sB16, sB17, sB18, sB19, noOb, AV.cells, AV.kindN, AV.undef, fillL, splice, isU8, lookH, setH, renH, othK, Heap.keys, foundA, if_true, if_false, ↓reduceIte, Nat.reduceEqDiff, Nat.reduceLeDiff, Nat.reduceAdd, Nat.reduceMul, Nat.reduceSub, Nat.reduceLT, Nat.reduceBNe, Nat.reduceBEq, Int.reduceToNat, Int.reduceLT, Int.reduceLE, Int.reduceAdd, Int.reduceSub, Int.reduceMul, Int.reduceEq, Int.reduceNeg, true_and, and_true, false_and, and_false, ne_eq, not_true_eq_false, not_false_eq_true, true_or, or_true, false_or, or_false, eq_self, reduceCtorEq, exists_eq_left, exists_eq_left', UInt8.reduceOfNat, UInt8.reduceToNat, not_or, Int.reduceMod, Int.reduceTMod, Int.reduceTDiv, Nat.reduceMod, bytesOf, gt_iff_lt, ge_iff_le, and_self]
        exact hQ _ _ _ (.inl ⟨rfl, t2, R, p2, n2, g2, rfl⟩)

theorem write_ok {s : WS} {x : List UInt8} (h : (s.write x).2.2 = 0) : ∃ n rest, s.left = n :: rest ∧ (s.write x).1.left = rest ∧ (s.write x).1.calls = s.calls + 1 ∧ (s.write x).2.1 ≤ n := by
  obtain ⟨left, b, calls, err⟩ := s
  by_cases c : err = 0
  · subst c
    cases left with
    | nil => rw [write_nil] at h; cases h
    | cons n l =>
      by_cases c2 : n < 0
      · rw [write_neg _ _ _ _ c2] at h; cases h
      · rw [write_pos _ _ _ _ c2]; exact ⟨n, l, rfl, rfl, rfl, by show min (n.toNat : Int) x.length ≤ n; omega⟩
  · rw [write_err _ _ _ _ c] at h; exact absurd h c
theorem write_bad {s : WS} {x : List UInt8} (h : (s.write x).2.2 ≠ 0) : (s.write x).2.1 = 0 := by
  obtain ⟨left, b, calls, err⟩ := s
  by_cases c : err = 0
  · subst c
    cases left with
    | nil => rfl
    | cons n l =>
      by_cases c2 : n < 0
      · rw [write_neg _ _ _ _ c2]
      · rw [write_pos _ _ _ _ c2] at h; exact absurd rfl h
  · rw [write_err _ _ _ _ c]
theorem write_left {s : WS} {x : List UInt8} {l : List Int} (h : s.left = l.drop s.calls) : (s.write x).1.left = l.drop (s.write x).1.calls := by
  obtain ⟨left, b, calls, err⟩ := s
  simp only at h
  by_cases c : err = 0
  · subst c
    cases left with
    | nil => rw [write_nil]; exact h
    | cons n l' =>
      have : l' = l.drop (calls + 1) := by rw [← List.drop_drop, ← h]; rfl
      by_cases c2 : n < 0
      · rw [write_neg _ _ _ _ c2]; exact this
      · rw [write_pos _ _ _ _ c2]; exact this
  · rw [write_err _ _ _ _ c]; exact h

theorem law6 (P : Program) (l : List Int) (ps : List (List UInt8 × Tok)) (t tp : Tok) (ht : t = .nil → l = []) (h1 : l.length ≤ 1048576) (h2 : ps.length ≤ 1048576) (h3 : bbSum ps ≤ 1048576) (K : Kv) (hK : ∀ H, K.ap (.bool true) H) :
    @xF (tY P) f6 [.sl (intsAV l) t, .sl (bbAV ps) tp] [] K := by
  simp (implicitDefEqProofs := false) only [sB0, sB1, sB2, sB3, sB4, sB5, sB6, sB7, sB8, sB9, sB10, sB11, sB12, sB13, sB14, sB15, sB16, sB17, sB18, sB19, noOb, AV.cells, AV.kindN, AV.undef, fillL, splice, isU8, lookH, setH, renH, othK, Heap.keys, foundA, if_true, if_false, ↓reduceIte, Nat.reduceEqDiff, Nat.reduceLeDiff, Nat.reduceAdd, Nat.reduceMul, Nat.reduceSub, Nat.reduceLT, Nat.reduceBNe, Nat.reduceBEq, Int.reduceToNat, Int.reduceLT, Int.reduceLE, Int.reduceAdd, Int.reduceSub, Int.reduceMul, Int.reduceEq, Int.reduceNeg, true_and, and_true, false_and, and_false, ne_eq, not_true_eq_false, not_false_eq_true, true_or, or_true, false_or, or_false, eq_self, reduceCtorEq, exists_eq_left, exists_eq_left', UInt8.reduceOfNat, UInt8.reduceToNat, not_or, Int.reduceMod, Int.reduceTMod, Int.reduceTDiv, Nat.reduceMod, bytesOf, gt_iff_lt, ge_iff_le, and_self, f6]
  refine ⟨l, _, rfl, .inl ⟨t, rfl, ht⟩, by omega, by simp [Heap.keys], fun p t1 H1 g1 p1 n1 => ?_⟩
  simp (implicitDefEqProofs := false) only [sB0, sB1, sB2, sB3, sB4, sB5, sB6, sB7, sB8, sB9, sB10, sB11, sB12, sB13, sB14, sB15, sB16, sB17, sB18, sB19, noOb, AV.cells, AV.kindN, AV.undef, fillL, splice, isU8, lookH, setH, renH, othK, Heap.keys, foundA, if_true, if_false, ↓reduceIte, Nat.reduceEqDiff, Nat.reduceLeDiff, Nat.reduceAdd, Nat.reduceMul, Nat.reduceSub, Nat.reduceLT, Nat.reduceBNe, Nat.reduceBEq, Int.reduceToNat, Int.reduceLT, Int.reduceLE, Int.reduceAdd, Int.reduceSub, Int.reduceMul, Int.reduceEq, Int.reduceNeg, true_and, and_true, false_and, and_false, ne_eq, not_true_eq_false, not_false_eq_true, true_or, or_true, false_or, or_false, eq_self, reduceCtorEq, exists_eq_left, exists_eq_left', UInt8.reduceOfNat, UInt8.reduceToNat, not_or, Int.reduceMod, Int.reduceTMod, Int.reduceTDiv, Nat.reduceMod, bytesOf, gt_iff_lt, ge_iff_le, and_self, bb_len]
  refine i_loopJ (fun σ H1 => ∃ (s : WS) (t2 : Tok) (R : Heap) (i : Nat), H1.Perm (wH p s t1 t2 R) ∧ H1.keys.Nodup ∧ GT (bytesAV s.b) t2 ∧ s.calls + s.left.length = l.length ∧ s.left = l.drop s.calls ∧ s.b.length ≤ bbSum (ps.take i) ∧ i ≤ ps.length ∧
      σ = [(0, .sl (intsAV l) t), (5, .ptr p 0), (6, .int .i64 s.b.length), (16, .sl (bbAV ps) tp), (17, .int .i64 ps.length), (18, .int .i64 i)])
    (fun σ _ => match σ.get 18 with | .int _ n => ps.length - n.toNat | _ => 0)
    (fun e σ H1 => e = .exit 0 ∧ ∃ (s : WS) (t2 : Tok) (R : Heap), H1.Perm (wH p s t1 t2 R) ∧ H1.keys.Nodup ∧ GT (bytesAV s.b) t2 ∧ s.b.length ≤ bbSum ps ∧ σ.get 5 = .ptr p 0 ∧ σ.get 6 = .int .i64 s.b.length)
    ⟨H1, .refl _, ⟨l, [], 0, 0⟩, .nil, _, 0, p1, n1, rfl, by simp, rfl, by simp, by omega, ?_⟩ ?_ ?_
  · simp only [List.length_nil]; rfl
  · rintro e σ H2 ⟨rfl, s, t2, R, p2, n2, g2, e1, q5, q6⟩
    simp (implicitDefEqProofs := false) only [sB0, sB1, sB2, sB3, sB4, sB5, sB6, sB7, sB8, sB9, sB10, sB11, sB12, sB13, sB14, sB15, sB16, sB17, sB18, sB19, noOb, AV.cells, AV.kindN, AV.undef, fillL, splice, isU8, lookH, setH, renH, othK, Heap.keys, foundA, if_true, if_false, ↓reduceIte, Nat.reduceEqDiff, Nat.reduceLeDiff, Nat.reduceAdd, Nat.reduceMul, Nat.reduceSub, Nat.reduceLT, Nat.reduceBNe, Nat.reduceBEq, Int.reduceToNat, Int.reduceLT, Int.reduceLE, Int.reduceAdd, Int.reduceSub, Int.reduceMul, Int.reduceEq, Int.reduceNeg, true_and, and_true, false_and, and_false, ne_eq, not_true_eq_false, not_false_eq_true, true_or, or_true, false_or, or_false, eq_self, reduceCtorEq, exists_eq_left, exists_eq_left', UInt8.reduceOfNat, UInt8.reduceToNat, not_or, Int.reduceMod, Int.reduceTMod, Int.reduceTDiv, Nat.reduceMod, bytesOf, gt_iff_lt, ge_iff_le, and_self, q5, q6, x_c16 _ _ n2]
    refine ⟨p, s, t1, t2, R, rfl, p2, n2, g2, by omega, fun t3 H3 g3 p3 n3 => ?_⟩
    simp (implicitDefEqProofs := false) only [sB0, sB1, sB2, sB3, sB4, sB5, sB6, sB7, sB8, sB9, sB10, sB11, sB12, sB13, sB14, sB15, sB16, sB17, sB18, sB19, noOb, AV.cells, AV.kindN, AV.undef, fillL, splice, isU8, lookH, setH, renH, othK, Heap.keys, foundA, if_true, if_false, ↓reduceIte, Nat.reduceEqDiff, Nat.reduceLeDiff, Nat.reduceAdd, Nat.reduceMul, Nat.reduceSub, Nat.reduceLT, Nat.reduceBNe, Nat.reduceBEq, Int.reduceToNat, Int.reduceLT, Int.reduceLE, Int.reduceAdd, Int.reduceSub, Int.reduceMul, Int.reduceEq, Int.reduceNeg, true_and, and_true, false_and, and_false, ne_eq, not_true_eq_false, not_false_eq_true, true_or, or_true, false_or, or_false, eq_self, reduceCtorEq, exists_eq_left, exists_eq_left', UInt8.reduceOfNat, UInt8.reduceToNat, not_or, Int.reduceMod, Int.reduceTMod, Int.reduceTDiv, Nat.reduceMod, bytesOf, gt_iff_lt, ge_iff_le, and_self, q5, q6]
    exact hK _
  · rintro Q hQ σ H2 ⟨s, t2, R, i, p2, n2, g2, e1, e2, e3, hi, rfl⟩
    have e0 := bb_le ps i
    simp (implicitDefEqProofs := false) only [sB0, sB1, sB2, sB3, sB4, sB5, sB6, sB7, sB8, sB9, sB10, sB11, sB12, sB13, sB14, sB15, sB16, sB17, sB18, sB19, noOb, AV.cells, AV.kindN, AV.undef, fillL, splice, isU8, lookH, setH, renH, othK, Heap.keys, foundA, if_true, if_false, ↓reduceIte, Nat.reduceEqDiff, Nat.reduceLeDiff, Nat.reduceAdd, Nat.reduceMul, Nat.reduceSub, Nat.reduceLT, Nat.reduceBNe, Nat.reduceBEq, Int.reduceToNat, Int.reduceLT, Int.reduceLE, Int.reduceAdd, Int.reduceSub, Int.reduceMul, Int.reduceEq, Int.reduceNeg, true_and, and_true, false_and, and_false, ne_eq, not_true_eq_false, not_false_eq_true, true_or, or_true, false_or, or_false, eq_self, reduceCtorEq, exists_eq_left, exists_eq_left', UInt8.reduceOfNat, UInt8.reduceToNat, not_or, Int.reduceMod, Int.reduceTMod, Int.reduceTDiv, Nat.reduceMod, bytesOf, gt_iff_lt, ge_iff_le, and_self]
    refine i_if (fun c => ?_) (fun c => ?_)
    · have c' : i < ps.length := by simpa using c
      have hx : ps[i]? = some ps[i] := List.getElem?_eq_getElem c'
      have e4 := bb_take hx
      have e5 := bb_le ps (i + 1)
      simp (implicitDefEqProofs := false) only [sB0, sB1, sB2, sB3, sB4, sB5, sB6, sB7, sB8, sB9, sB10, sB11, sB12, sB13, sB14, sB15, sB16, sB17, sB18, sB19, noOb, AV.cells, AV.kindN, AV.undef, fillL, splice, isU8, lookH, setH, renH, othK, Heap.keys, foundA, if_true, if_false, ↓reduceIte, Nat.reduceEqDiff, Nat.reduceLeDiff, Nat.reduceAdd, Nat.reduceMul, Nat.reduceSub, Nat.reduceLT, Nat.reduceBNe, Nat.reduceBEq, Int.reduceToNat, Int.reduceLT, Int.reduceLE, Int.reduceAdd, Int.reduceSub, Int.reduceMul, Int.reduceEq, Int.reduceNeg, true_and, and_true, false_and, and_false, ne_eq, not_true_eq_false, not_false_eq_true, true_or, or_true, false_or, or_false, eq_self, reduceCtorEq, exists_eq_left, exists_eq_left', UInt8.reduceOfNat, UInt8.reduceToNat, not_or, Int.reduceMod, Int.reduceTMod, Int.reduceTDiv, Nat.reduceMod, bytesOf, gt_iff_lt, ge_iff_le, and_self, bb_get, hx]
      refine ⟨by omega, p, s, t1, t2, R, rfl, p2, n2, ?_⟩
      simp (implicitDefEqProofs := false) only [sB0, sB1, sB2, sB3, sB4, sB5, sB6, sB7, sB8, sB9, sB10, sB11, sB12, sB13, sB14, sB15, sB16, sB17, sB18, sB19, noOb, AV.cells, AV.kindN, AV.undef, fillL, splice, isU8, lookH, setH, renH, othK, Heap.keys, foundA, if_true, if_false, ↓reduceIte, Nat.reduceEqDiff, Nat.reduceLeDiff, Nat.reduceAdd, Nat.reduceMul, Nat.reduceSub, Nat.reduceLT, Nat.reduceBNe, Nat.reduceBEq, Int.reduceToNat, Int.reduceLT, Int.reduceLE, Int.reduceAdd, Int.reduceSub, Int.reduceMul, Int.reduceEq, Int.reduceNeg, true_and, and_true, false_and, and_false, ne_eq, not_true_eq_false, not_false_eq_true, true_or, or_true, false_or, or_false, eq_self, reduceCtorEq, exists_eq_left, exists_eq_left', UInt8.reduceOfNat, UInt8.reduceToNat, not_or, Int.reduceMod, Int.reduceTMod, Int.reduceTDiv, Nat.reduceMod, bytesOf, gt_iff_lt, ge_iff_le, and_self]
      refine ⟨p, s, t1, t2, ps[i].1, ps[i].2, R, rfl, p2, n2, g2, by omega, by omega, fun t2' H3 g3 p3 n3 => ?_⟩
      obtain ⟨r, r1, r2, r3, r4⟩ := write_fact s ps[i].1
      have f2 := write_left (x := ps[i].1) e2
      rw [r1]
      simp (implicitDefEqProofs := false) only [sB0, sB1, sB2, sB3, sB4, sB5, sB6, sB7, sB8, sB9, sB10, sB11, sB12, sB13, sB14, sB15, sB16, sB17, sB18, sB19, noOb, AV.cells, AV.kindN, AV.undef, fillL, splice, isU8, lookH, setH, renH, othK, Heap.keys, foundA, if_true, if_false, ↓reduceIte, Nat.reduceEqDiff, Nat.reduceLeDiff, Nat.reduceAdd, Nat.reduceMul, Nat.reduceSub, Nat.reduceLT, Nat.reduceBNe, Nat.reduceBEq, Int.reduceToNat, Int.reduceLT, Int.reduceLE, Int.reduceAdd, Int.reduceSub, Int.reduceMul, Int.reduceEq, Int.reduceNeg, true_and, and_true, false_and, and_false, ne_eq, not_true_eq_false, not_false_eq_true, true_or, or_true, false_or, or_false, eq_self, reduceCtorEq, exists_eq_left, exists_eq_left', UInt8.reduceOfNat, UInt8.reduceToNat, not_or, Int.reduceMod, Int.reduceTMod, Int.reduceTDiv, Nat.reduceMod, bytesOf, gt_iff_lt, ge_iff_le, and_self]
      refine ⟨p, _, t1, t2', R, rfl, p3, n3, ?_⟩
      simp (implicitDefEqProofs := false) only [sB0, sB1, sB2, sB3, sB4, sB5, sB6, sB7, sB8, sB9, sB10, sB11, sB12, sB13, sB14, sB15, sB16, sB17, sB18, sB19, noOb, AV.cells, AV.kindN, AV.undef, fillL, splice, isU8, lookH, setH, renH, othK, Heap.keys, foundA, if_true, if_false, ↓reduceIte, Nat.reduceEqDiff, Nat.reduceLeDiff, Nat.reduceAdd, Nat.reduceMul, Nat.reduceSub, Nat.reduceLT, Nat.reduceBNe, Nat.reduceBEq, Int.reduceToNat, Int.reduceLT, Int.reduceLE, Int.reduceAdd, Int.reduceSub, Int.reduceMul, Int.reduceEq, Int.reduceNeg, true_and, and_true, false_and, and_false, ne_eq, not_true_eq_false, not_false_eq_true, true_or, or_true, false_or, or_false, eq_self, reduceCtorEq, exists_eq_left, exists_eq_left', UInt8.reduceOfNat, UInt8.reduceToNat, not_or, Int.reduceMod, Int.reduceTMod, Int.reduceTDiv, Nat.reduceMod, bytesOf, gt_iff_lt, ge_iff_le, and_self]
      refine ⟨p, _, t1, t2', R, rfl, p3, n3, ?_⟩
      have r5 := w_i64 (((s.write ps[i].1).1.calls : Int) + (s.write ps[i].1).1.left.length) (by omega) (by omega)
      have r6 : (((s.write ps[i].1).1.calls : Int) + (s.write ps[i].1).1.left.length) = l.length := by omega
      have r7 : ¬ (r : Int) < 0 := by omega
      have r8 : ¬ ((ps[i].1.length : Nat) : Int) < (r : Int) := by omega
      have r9 := w_i64 ((i : Int) + 1) (by omega) (by omega)
      have b1 : (s.write ps[i].1).1.b.length = s.b.length + r := by rw [r3, List.length_append, List.length_take]; omega
      have b2 := w_i64 ((s.b.length : Int) + r) (by omega) (by omega)
      have b3 := w_i64 ((s.calls : Int) + 1) (by omega) (by omega)
      rw [r6] at r5
      by_cases c2 : (s.write ps[i].1).2.2 = 0
      · obtain ⟨n, rest, m1, m2, m3, m4⟩ := write_ok c2
        have m5 : s.calls < l.length := by rw [m1] at e1; simp at e1; omega
        have m6 : l[s.calls]? = some n := by
          have := congrArg (·[0]?) e2
          rw [m1] at this
          simpa using this.symm
        rw [r1] at m4
        simp (implicitDefEqProofs := false) only [sB0, sB1, sB2, sB3, sB4, sB5, sB6, sB7, sB8, sB9, sB10, sB11, sB12, sB13, sB14, sB15, sB16, sB17, sB18, sB19, noOb, AV.cells, AV.kindN, AV.undef, fillL, splice, isU8, lookH, setH, renH, othK, Heap.keys, foundA, if_true, if_false, ↓reduceIte, Nat.reduceEqDiff, Nat.reduceLeDiff, Nat.reduceAdd, Nat.reduceMul, Nat.reduceSub, Nat.reduceLT, Nat.reduceBNe, Nat.reduceBEq, Int.reduceToNat, Int.reduceLT, Int.reduceLE, Int.reduceAdd, Int.reduceSub, Int.reduceMul, Int.reduceEq, Int.reduceNeg, true_and, and_true, false_and, and_false, ne_eq, not_true_eq_false, not_false_eq_true, true_or, or_true, false_or, or_false, eq_self, reduceCtorEq, exists_eq_left, exists_eq_left', UInt8.reduceOfNat, UInt8.reduceToNat, not_or, Int.reduceMod, Int.reduceTMod, Int.reduceTDiv, Nat.reduceMod, bytesOf, gt_iff_lt, ge_iff_le, and_self, ints_len, r5, r6, r7, r8, c2, b3]
        refine ⟨p, _, t1, t2', R, rfl, p3, n3, ?_⟩
        have m7 : ¬ (l.length : Int) ≤ s.calls := by omega
        have m8 : ¬ n < (r : Int) := by omega
        simp (implicitDefEqProofs := false) only [sB0, sB1, sB2, sB3, sB4, sB5, sB6, sB7, sB8, sB9, sB10, sB11, sB12, sB13, sB14, sB15, sB16, sB17, sB18, sB19, noOb, AV.cells, AV.kindN, AV.undef, fillL, splice, isU8, lookH, setH, renH, othK, Heap.keys, foundA, if_true, if_false, ↓reduceIte, Nat.reduceEqDiff, Nat.reduceLeDiff, Nat.reduceAdd, Nat.reduceMul, Nat.reduceSub, Nat.reduceLT, Nat.reduceBNe, Nat.reduceBEq, Int.reduceToNat, Int.reduceLT, Int.reduceLE, Int.reduceAdd, Int.reduceSub, Int.reduceMul, Int.reduceEq, Int.reduceNeg, true_and, and_true, false_and, and_false, ne_eq, not_true_eq_false, not_false_eq_true, true_or, or_true, false_or, or_false, eq_self, reduceCtorEq, exists_eq_left, exists_eq_left', UInt8.reduceOfNat, UInt8.reduceToNat, not_or, Int.reduceMod, Int.reduceTMod, Int.reduceTDiv, Nat.reduceMod, bytesOf, gt_iff_lt, ge_iff_le, and_self, m3, Int.natCast_add, m7, ints_len, ints_get, m6, m8, b2, b3, r9]
        refine ⟨by omega, H3, .refl _, ⟨_, t2', R, i + 1, p3, n3, g3, by omega, f2, by omega, by omega, ?_⟩, by omega⟩
        rw [b1]; simp
      · have m1 := write_bad c2
        rw [r1] at m1
        have m2 : r = 0 := by omega
        subst m2
        have m3 : ¬ ((ps[i].1.length : Nat) : Int) < 0 := by omega
        have m4 := w_i64 (s.b.length : Int) (by omega) (by omega)
        simp (implicitDefEqProofs := false) only [sB0, sB1, sB2, sB3, sB4, sB5, sB6, sB7, sB8, sB9, sB10, sB11, sB12, sB13, sB14, sB15, sB16, sB17, sB18, sB19, noOb, AV.cells, AV.kindN, AV.undef, fillL, splice, isU8, lookH, setH, renH, othK, Heap.keys, foundA, if_true, if_false, ↓reduceIte, Nat.reduceEqDiff, Nat.reduceLeDiff, Nat.reduceAdd, Nat.reduceMul, Nat.reduceSub, Nat.reduceLT, Nat.reduceBNe, Nat.reduceBEq, Int.reduceToNat, Int.reduceLT, Int.reduceLE, Int.reduceAdd, Int.reduceSub, Int.reduceMul, Int.reduceEq, Int.reduceNeg, true_and, and_true, false_and, and_false, ne_eq, not_true_eq_false, not_false_eq_true, true_or, or_true, false_or, or_false, eq_self, reduceCtorEq, exists_eq_left, exists_eq_left', UInt8.reduceOfNat, UInt8.reduceToNat, not_or, Int.reduceMod, Int.reduceTMod, Int.reduceTDiv, Nat.reduceMod, bytesOf, gt_iff_lt, ge_iff_le, and_self, ints_len, r5, r6, m3, m4, c2, r9]
        refine ⟨H3, .refl _, ⟨_, t2', R, i + 1, p3, n3, g3, by omega, f2, by omega, by omega, ?_⟩, by omega⟩
        rw [b1]; simp
    · have : i = ps.length := by have : ¬ (i : Int) < ps.length := by simpa using c
                                 omega
      subst this
      simp (implicitDefEqProofs := false) only [sB0, sB1, sB2, sB3, sB4, sB5, sB6, sB7, sB8, sB9, sB10, sB11, sB12, sB13, sB14, sB15, sB16, sB17, sB18, sB19, noOb, AV.cells, AV.kindN, AV.undef, fillL, splice, isU8, lookH, setH, renH, othK, Heap.keys, foundA, if_true, if_false, ↓reduceIte, Nat.reduceEqDiff, Nat.reduceLeDiff, Nat.reduceAdd, Nat.reduceMul, Nat.reduceSub, Nat.reduceLT, Nat.reduceBNe, Nat.reduceBEq, Int.reduceToNat, Int.reduceLT, Int.reduceLE, Int.reduceAdd, Int.reduceSub, Int.reduceMul, Int.reduceEq, Int.reduceNeg, true_and, and_true, false_and, and_false, ne_eq, not_true_eq_false, not_false_eq_true, true_or, or_true, false_or, or_false, eq_self, reduceCtorEq, exists_eq_left, exists_eq_left', UInt8.reduceOfNat, UInt8.reduceToNat, not_or, Int.reduceMod, Int.reduceTMod, Int.reduceTDiv, Nat.reduceMod, bytesOf, gt_iff_lt, ge_iff_le, and_self]
      exact hQ _ _ _ ⟨rfl, s, t2, R, p2, n2, g2, by omega, rfl, rfl⟩
end Go.AL.Fun
