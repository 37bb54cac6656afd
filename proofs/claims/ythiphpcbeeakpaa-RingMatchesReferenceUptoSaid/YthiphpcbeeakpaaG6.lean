/- The ring's laws 12, 10. -/
import Derived.Test.YthiphpcbeeakpaaG5
set_option linter.unusedSimpArgs false
set_option linter.unusedVariables false
set_option maxRecDepth 100000
namespace Go.AL.Fun
open Go Go.AL

@[reducible] def tR (P : Program) : Th := ⟨fun _ => none, P, (31, p31) :: (23, p23) :: (24, p24) :: (25, p25) :: (26, p26) :: (27, p27) :: (28, p28) :: (tD P).T⟩
section
variable {P : Program} (hm : P.follows .mixedOrders = true) (h26 : compF P 26 f26.body.hints = some f26) (h28 : compF P 28 f28.body.hints = some f28) (h27 : compF P 27 f27.body.hints = some f27)
  (h31 : compF P 31 f31.body.hints = some f31) (h23 : compF P 23 f23.body.hints = some f23) (h24 : compF P 24 f24.body.hints = some f24) (h25 : compF P 25 f25.body.hints = some f25) (h30 : compF P 30 f30.body.hints = some f30)
include hm h26 h28 h27 h31 h23 h24 h25 h30
theorem tR_ok : TOk (fun _ => none) P (plainT (tR P).T) :=
  .consX (fun xs H K h => okF hm .nilX h31 _ _ _ (p31_of P h)) <| .consX (fun xs H K h => okF hm (tB_ok hm h26 h28 h27) h23 _ _ _ (p23_of P h)) <| .consX (fun xs H K h => okF hm .nilX h24 _ _ _ (p24_of P h)) <|
  .consX (fun xs H K h => okF hm .nilX h25 _ _ _ (p25_of P h)) <| .consX (fun xs H K h => okF hm .nilX h26 _ _ _ (p26_of P h)) <| .consX (fun xs H K h => okF hm (tA_ok hm h26 h28) h27 _ _ _ (p27_of P h)) <|
  .consX (fun xs H K h => okF hm .nilX h28 _ _ _ (p28_of P h)) (tD_ok hm h26 h28 h27 h31 h23 h24 h25 h30)
end
theorem by_take0 (bs : List UInt8) (n : Nat) : (List.drop 0 (bytesAV bs)).take n = bytesAV (bs.take n) := by rw [List.drop_zero, by_take]

theorem law12 (P : Program) (bs : List UInt8) (n m : Int) (tok : Tok) (hbs : bs.length ≤ 1048576) (h1 : 0 ≤ n) (h2 : n < 256) (h3 : 0 ≤ m) (h4 : m < 256) (K : Kv) (hK : ∀ H, K.ap (.bool true) H) :
    @xF (tR P) f12 [.sl (bytesAV bs) tok, .int .u8 n, .int .u8 m] [] K := by
  simp (implicitDefEqProofs := false) only [sB0, sB1, sB2, sB3, sB4, sB5, sB6, sB7, sB8, sB9, sB10, sB11, sB12, sB13, sB14, sB15, sB16, sB17, sB18, sB19, noOb, AV.cells, AV.kindN, AV.undef, fillL, splice, isU8, lookH, setH, renH, othK, Heap.keys, foundA, if_true, if_false, ↓reduceIte, Nat.reduceEqDiff, Nat.reduceLeDiff, Nat.reduceAdd, Nat.reduceMul, Nat.reduceSub, Nat.reduceLT, Nat.reduceBNe, Nat.reduceBEq, Int.reduceToNat, Int.reduceLT, Int.reduceLE, Int.reduceAdd, Int.reduceSub, Int.reduceMul, Int.reduceEq, Int.reduceNeg, true_and, and_true, false_and, and_false, ne_eq, not_true_eq_false, not_false_eq_true, true_or, or_true, false_or, or_false, eq_self, reduceCtorEq, exists_eq_left, exists_eq_left', UInt8.reduceOfNat, UInt8.reduceToNat, not_or, Int.reduceMod, Int.reduceTMod, Int.reduceTDiv, Nat.reduceMod, bytesOf, gt_iff_lt, ge_iff_le, and_self, f12]
  refine ⟨65536, rfl, by simp [Heap.keys], fun h => by omega, fun _ _ r H1 p1 => ?_⟩
  by_cases c1 : (65536 : Int) < bs.length
  · simp (implicitDefEqProofs := false) only [sB0, sB1, sB2, sB3, sB4, sB5, sB6, sB7, sB8, sB9, sB10, sB11, sB12, sB13, sB14, sB15, sB16, sB17, sB18, sB19, noOb, AV.cells, AV.kindN, AV.undef, fillL, splice, isU8, lookH, setH, renH, othK, Heap.keys, foundA, if_true, if_false, ↓reduceIte, Nat.reduceEqDiff, Nat.reduceLeDiff, Nat.reduceAdd, Nat.reduceMul, Nat.reduceSub, Nat.reduceLT, Nat.reduceBNe, Nat.reduceBEq, Int.reduceToNat, Int.reduceLT, Int.reduceLE, Int.reduceAdd, Int.reduceSub, Int.reduceMul, Int.reduceEq, Int.reduceNeg, true_and, and_true, false_and, and_false, ne_eq, not_true_eq_false, not_false_eq_true, true_or, or_true, false_or, or_false, eq_self, reduceCtorEq, exists_eq_left, exists_eq_left', UInt8.reduceOfNat, UInt8.reduceToNat, not_or, Int.reduceMod, Int.reduceTMod, Int.reduceTDiv, Nat.reduceMod, bytesOf, gt_iff_lt, ge_iff_le, and_self, c1, x_c30]
    exact hK _
  · simp (implicitDefEqProofs := false) only [sB0, sB1, sB2, sB3, sB4, sB5, sB6, sB7, sB8, sB9, sB10, sB11, sB12, sB13, sB14, sB15, sB16, sB17, sB18, sB19, noOb, AV.cells, AV.kindN, AV.undef, fillL, splice, isU8, lookH, setH, renH, othK, Heap.keys, foundA, if_true, if_false, ↓reduceIte, Nat.reduceEqDiff, Nat.reduceLeDiff, Nat.reduceAdd, Nat.reduceMul, Nat.reduceSub, Nat.reduceLT, Nat.reduceBNe, Nat.reduceBEq, Int.reduceToNat, Int.reduceLT, Int.reduceLE, Int.reduceAdd, Int.reduceSub, Int.reduceMul, Int.reduceEq, Int.reduceNeg, true_and, and_true, false_and, and_false, ne_eq, not_true_eq_false, not_false_eq_true, true_or, or_true, false_or, or_false, eq_self, reduceCtorEq, exists_eq_left, exists_eq_left', UInt8.reduceOfNat, UInt8.reduceToNat, not_or, Int.reduceMod, Int.reduceTMod, Int.reduceTDiv, Nat.reduceMod, bytesOf, gt_iff_lt, ge_iff_le, and_self, c1, x_c30]
    refine ⟨r, _, [], _, bs, _, rfl, p1, .inl ⟨_, rfl⟩, hbs, fun H2 p2 => ?_⟩
    have e0 : bs.take (min ((65536 : Int).toNat - ([] : List UInt8).length) bs.length) = bs := by rw [List.take_of_length_le]; simp; omega
    rw [e0, List.nil_append] at p2
    obtain ⟨x, hx⟩ : ∃ x : Nat, (x : Int) = if m < n then m else n := ⟨(if m < n then m else n).toNat, by split <;> omega⟩
    obtain ⟨y, hy⟩ : ∃ y : Nat, (y : Int) = if n < m then m else n := ⟨(if n < m then m else n).toNat, by split <;> omega⟩
    have hxy : x ≤ y := by rw [← Int.ofNat_le, hx, hy]; split <;> split <;> omega
    have hy2 : y < 256 := by rw [← Int.ofNat_lt, hy]; split <;> omega
    simp (implicitDefEqProofs := false) only [sB0, sB1, sB2, sB3, sB4, sB5, sB6, sB7, sB8, sB9, sB10, sB11, sB12, sB13, sB14, sB15, sB16, sB17, sB18, sB19, noOb, AV.cells, AV.kindN, AV.undef, fillL, splice, isU8, lookH, setH, renH, othK, Heap.keys, foundA, if_true, if_false, ↓reduceIte, Nat.reduceEqDiff, Nat.reduceLeDiff, Nat.reduceAdd, Nat.reduceMul, Nat.reduceSub, Nat.reduceLT, Nat.reduceBNe, Nat.reduceBEq, Int.reduceToNat, Int.reduceLT, Int.reduceLE, Int.reduceAdd, Int.reduceSub, Int.reduceMul, Int.reduceEq, Int.reduceNeg, true_and, and_true, false_and, and_false, ne_eq, not_true_eq_false, not_false_eq_true, true_or, or_true, false_or, or_false, eq_self, reduceCtorEq, exists_eq_left, exists_eq_left', UInt8.reduceOfNat, UInt8.reduceToNat, not_or, Int.reduceMod, Int.reduceTMod, Int.reduceTDiv, Nat.reduceMod, bytesOf, gt_iff_lt, ge_iff_le, and_self, ← hx, ← hy, w_i64 (x : Int) (by omega) (by omega), w_i64 (y : Int) (by omega) (by omega)]
    refine ⟨r, _, _, _, _, rfl, p2, by omega, by omega, fun p H3 p3 => ?_⟩
    simp (implicitDefEqProofs := false) only [sB0, sB1, sB2, sB3, sB4, sB5, sB6, sB7, sB8, sB9, sB10, sB11, sB12, sB13, sB14, sB15, sB16, sB17, sB18, sB19, noOb, AV.cells, AV.kindN, AV.undef, fillL, splice, isU8, lookH, setH, renH, othK, Heap.keys, foundA, if_true, if_false, ↓reduceIte, Nat.reduceEqDiff, Nat.reduceLeDiff, Nat.reduceAdd, Nat.reduceMul, Nat.reduceSub, Nat.reduceLT, Nat.reduceBNe, Nat.reduceBEq, Int.reduceToNat, Int.reduceLT, Int.reduceLE, Int.reduceAdd, Int.reduceSub, Int.reduceMul, Int.reduceEq, Int.reduceNeg, true_and, and_true, false_and, and_false, ne_eq, not_true_eq_false, not_false_eq_true, true_or, or_true, false_or, or_false, eq_self, reduceCtorEq, exists_eq_left, exists_eq_left', UInt8.reduceOfNat, UInt8.reduceToNat, not_or, Int.reduceMod, Int.reduceTMod, Int.reduceTDiv, Nat.reduceMod, bytesOf, gt_iff_lt, ge_iff_le, and_self]
    refine ⟨r, _, _, _, _, rfl, p3, by omega, by omega, fun q H4 p4 => ?_⟩
    have l1 : lookH p H4 = some (.cells (bytesAV (bs.take x))) := p4.look (by simp)
    have l2 : lookH q H4 = some (.cells (bytesAV (bs.take y))) := p4.look (by simp)
    obtain ⟨u, hu⟩ : ∃ u : Nat, u = min x bs.length := ⟨_, rfl⟩
    obtain ⟨v, hv⟩ : ∃ v : Nat, v = min y bs.length := ⟨_, rfl⟩
    have f1 : (if (bs.length : Int) < x then (bs.length : Int) else x) = (u : Int) := by split <;> omega
    have f2 : (if x ≤ bs.length then x else bs.length) = u := by split <;> omega
    have f3 : (if y ≤ bs.length then y else bs.length) = v := by split <;> omega
    have f4 : (u : Int) ≤ (v : Int) := by omega
    have f5 : (u : Int) ≤ y := by omega
    have f6 : (0 : Int) ≤ (u : Int) := by omega
    have f7 : u ≤ bs.length := by omega
    have f8 : v ≤ bs.length := by omega
    have f9 : u ≤ v := by omega
    have fa : List.take u (bs.take x) = bs.take x := by rw [List.take_of_length_le]; simp; omega
    have fb : List.take u (bs.take y) = bs.take x := by rw [List.take_take, show min u y = u by omega, hu, ← List.take_take, List.take_length]
    have fc : u ≤ x := by omega
    have fd : u ≤ y := by omega
    simp (implicitDefEqProofs := false) only [sB0, sB1, sB2, sB3, sB4, sB5, sB6, sB7, sB8, sB9, sB10, sB11, sB12, sB13, sB14, sB15, sB16, sB17, sB18, sB19, noOb, AV.cells, AV.kindN, AV.undef, fillL, splice, isU8, lookH, setH, renH, othK, Heap.keys, foundA, if_true, if_false, ↓reduceIte, Nat.reduceEqDiff, Nat.reduceLeDiff, Nat.reduceAdd, Nat.reduceMul, Nat.reduceSub, Nat.reduceLT, Nat.reduceBNe, Nat.reduceBEq, Int.reduceToNat, Int.reduceLT, Int.reduceLE, Int.reduceAdd, Int.reduceSub, Int.reduceMul, Int.reduceEq, Int.reduceNeg, true_and, and_true, false_and, and_false, ne_eq, not_true_eq_false, not_false_eq_true, true_or, or_true, false_or, or_false, eq_self, reduceCtorEq, exists_eq_left, exists_eq_left', UInt8.reduceOfNat, UInt8.reduceToNat, not_or, Int.reduceMod, Int.reduceTMod, Int.reduceTDiv, Nat.reduceMod, bytesOf, gt_iff_lt, ge_iff_le, and_self, x_c30, l1, l2, ← hx, ← hy, w_i64 (x : Int) (by omega) (by omega), f1, f2, f3, f4, f5, f6, f7, f8, f9, fa, fb, fc, fd]
    refine ⟨r, _, _, _, rfl, p4, ?_⟩
    simp (implicitDefEqProofs := false) only [sB0, sB1, sB2, sB3, sB4, sB5, sB6, sB7, sB8, sB9, sB10, sB11, sB12, sB13, sB14, sB15, sB16, sB17, sB18, sB19, noOb, AV.cells, AV.kindN, AV.undef, fillL, splice, isU8, lookH, setH, renH, othK, Heap.keys, foundA, if_true, if_false, ↓reduceIte, Nat.reduceEqDiff, Nat.reduceLeDiff, Nat.reduceAdd, Nat.reduceMul, Nat.reduceSub, Nat.reduceLT, Nat.reduceBNe, Nat.reduceBEq, Int.reduceToNat, Int.reduceLT, Int.reduceLE, Int.reduceAdd, Int.reduceSub, Int.reduceMul, Int.reduceEq, Int.reduceNeg, true_and, and_true, false_and, and_false, ne_eq, not_true_eq_false, not_false_eq_true, true_or, or_true, false_or, or_false, eq_self, reduceCtorEq, exists_eq_left, exists_eq_left', UInt8.reduceOfNat, UInt8.reduceToNat, not_or, Int.reduceMod, Int.reduceTMod, Int.reduceTDiv, Nat.reduceMod, bytesOf, gt_iff_lt, ge_iff_le, and_self]
    refine ⟨r, _, _, _, _, rfl, p4, by omega, by omega, fun w H5 p5 => ?_⟩
    have l3 : lookH w H5 = some (.cells (bytesAV (bs.take bs.length))) := p5.look (by simp)
    rw [List.take_length] at l3
    simp (implicitDefEqProofs := false) only [sB0, sB1, sB2, sB3, sB4, sB5, sB6, sB7, sB8, sB9, sB10, sB11, sB12, sB13, sB14, sB15, sB16, sB17, sB18, sB19, noOb, AV.cells, AV.kindN, AV.undef, fillL, splice, isU8, lookH, setH, renH, othK, Heap.keys, foundA, if_true, if_false, ↓reduceIte, Nat.reduceEqDiff, Nat.reduceLeDiff, Nat.reduceAdd, Nat.reduceMul, Nat.reduceSub, Nat.reduceLT, Nat.reduceBNe, Nat.reduceBEq, Int.reduceToNat, Int.reduceLT, Int.reduceLE, Int.reduceAdd, Int.reduceSub, Int.reduceMul, Int.reduceEq, Int.reduceNeg, true_and, and_true, false_and, and_false, ne_eq, not_true_eq_false, not_false_eq_true, true_or, or_true, false_or, or_false, eq_self, reduceCtorEq, exists_eq_left, exists_eq_left', UInt8.reduceOfNat, UInt8.reduceToNat, not_or, Int.reduceMod, Int.reduceTMod, Int.reduceTDiv, Nat.reduceMod, bytesOf, gt_iff_lt, ge_iff_le, and_self, l3]
    exact hK _

/-- Cells behind a ring, let grow. -/
theorem IsRing.grow {r cap : Nat} {c : List UInt8} {X R0 H : Heap} {tg : Tok} (h : IsRing r cap c (X ++ (tokH tg ++ R0)) H) : ∃ A, H.Perm (A ++ (tokH tg ++ R0)) ∧ H.keys.Nodup ∧ ∀ t' H', H'.Perm (A ++ (tokH t' ++ R0)) → H'.keys.Nodup → IsRing r cap c (X ++ (tokH t' ++ R0)) H' := by
  obtain ⟨a, st, buf, hp, hn, h2⟩ := h
  exact ⟨(r, _) :: (a, _) :: X, hp, hn, fun t' H' k1 k2 => ⟨a, st, buf, k1, k2, h2⟩⟩
end Go.AL.Fun
