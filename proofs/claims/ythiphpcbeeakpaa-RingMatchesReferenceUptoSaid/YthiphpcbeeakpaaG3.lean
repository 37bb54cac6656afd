/- The contract of Consume. -/
import Derived.Test.YthiphpcbeeakpaaG2
set_option linter.unusedSimpArgs false
set_option maxRecDepth 100000
namespace Go.AL.Fun
open Go Go.AL

theorem consume_no (P : Program) {r a st n : Nat} {buf : List UInt8} {H : Heap} (hr : lookH r H = some (.cells [.msl a 0 buf.length 1, .int .i64 st, .int .i64 n])) (k : Int) (h : k < 0 ∨ (n : Int) < k)
    (K : Kv) (hK : K.ap (.int .i64 3) H) : @xF (t0 P) f25 [.ptr r 0, .int .i64 k] H K := by
  by_cases c : k < 0
  · simp (implicitDefEqProofs := false) only [sB0, sB1, sB2, sB3, sB4, sB5, sB6, sB7, sB8, sB9, sB10, sB11, sB12, sB13, sB14, sB15, sB16, sB17, sB18, sB19, noOb, AV.cells, AV.kindN, AV.undef, fillL, splice, isU8, lookH, setH, renH, othK, Heap.keys, foundA, if_true, if_false, ↓reduceIte, Nat.reduceEqDiff, Nat.reduceLeDiff, Nat.reduceAdd, Nat.reduceMul, Nat.reduceSub, Nat.reduceLT, Nat.reduceBNe, Nat.reduceBEq, Int.reduceToNat, Int.reduceLT, Int.reduceLE, Int.reduceAdd, Int.reduceSub, Int.reduceMul, Int.reduceEq, Int.reduceNeg, true_and, and_true, false_and, and_false, ne_eq, not_true_eq_false, not_false_eq_true, true_or, or_true, false_or, or_false, eq_self, reduceCtorEq, exists_eq_left, exists_eq_left', UInt8.reduceOfNat, UInt8.reduceToNat, not_or, Int.reduceMod, Int.reduceTMod, Int.reduceTDiv, Nat.reduceMod, bytesOf, gt_iff_lt, ge_iff_le, and_self, f25, hr, c]
    exact hK
  · have c2 : (n : Int) < k := by omega
    simp (implicitDefEqProofs := false) only [sB0, sB1, sB2, sB3, sB4, sB5, sB6, sB7, sB8, sB9, sB10, sB11, sB12, sB13, sB14, sB15, sB16, sB17, sB18, sB19, noOb, AV.cells, AV.kindN, AV.undef, fillL, splice, isU8, lookH, setH, renH, othK, Heap.keys, foundA, if_true, if_false, ↓reduceIte, Nat.reduceEqDiff, Nat.reduceLeDiff, Nat.reduceAdd, Nat.reduceMul, Nat.reduceSub, Nat.reduceLT, Nat.reduceBNe, Nat.reduceBEq, Int.reduceToNat, Int.reduceLT, Int.reduceLE, Int.reduceAdd, Int.reduceSub, Int.reduceMul, Int.reduceEq, Int.reduceNeg, true_and, and_true, false_and, and_false, ne_eq, not_true_eq_false, not_false_eq_true, true_or, or_true, false_or, or_false, eq_self, reduceCtorEq, exists_eq_left, exists_eq_left', UInt8.reduceOfNat, UInt8.reduceToNat, not_or, Int.reduceMod, Int.reduceTMod, Int.reduceTDiv, Nat.reduceMod, bytesOf, gt_iff_lt, ge_iff_le, and_self, f25, hr, c, c2]
    exact hK
theorem consume_spec (P : Program) {r a st n : Nat} {buf : List UInt8} {H : Heap} (hr : lookH r H = some (.cells [.msl a 0 buf.length 1, .int .i64 st, .int .i64 n])) (hst : st < buf.length) (hn : n ≤ buf.length) (hlen : buf.length ≤ 65536) (k : Nat) (h : k ≤ n)
    (K : Kv) (hK : ∀ st', st' < buf.length → st' = (st + k) % buf.length → K.ap (.int .i64 0) (setH r (.cells [.msl a 0 buf.length 1, .int .i64 st', .int .i64 (n - k : Nat)]) H)) : @xF (t0 P) f25 [.ptr r 0, .int .i64 k] H K := by
  have c : ¬ (k : Int) < 0 := by omega
  have c2 : ¬ (n : Int) < k := by omega
  have e1 := w_i64 ((st : Int) + k) (by omega) (by omega)
  have e2 := w_i64 ((n : Int) - k) (by omega) (by omega)
  have e4 : ((st : Int) + k).tmod buf.length = ((st + k) % buf.length : Nat) := by
    rw [← Int.natCast_add, ← Int.ofNat_tmod]
  have e5 : ¬ (buf.length : Int) = 0 := by omega
  have e6 : (n : Int) - k = ((n - k : Nat) : Int) := by omega
  simp (implicitDefEqProofs := false) only [sB0, sB1, sB2, sB3, sB4, sB5, sB6, sB7, sB8, sB9, sB10, sB11, sB12, sB13, sB14, sB15, sB16, sB17, sB18, sB19, noOb, AV.cells, AV.kindN, AV.undef, fillL, splice, isU8, lookH, setH, renH, othK, Heap.keys, foundA, if_true, if_false, ↓reduceIte, Nat.reduceEqDiff, Nat.reduceLeDiff, Nat.reduceAdd, Nat.reduceMul, Nat.reduceSub, Nat.reduceLT, Nat.reduceBNe, Nat.reduceBEq, Int.reduceToNat, Int.reduceLT, Int.reduceLE, Int.reduceAdd, Int.reduceSub, Int.reduceMul, Int.reduceEq, Int.reduceNeg, true_and, and_true, false_and, and_false, ne_eq, not_true_eq_false, not_false_eq_true, true_or, or_true, false_or, or_false, eq_self, reduceCtorEq, exists_eq_left, exists_eq_left', UInt8.reduceOfNat, UInt8.reduceToNat, not_or, Int.reduceMod, Int.reduceTMod, Int.reduceTDiv, Nat.reduceMod, bytesOf, gt_iff_lt, ge_iff_le, and_self, f25, hr, c, c2, e1, e2, e4, e5]
  rw [e6]
  exact hK _ (Nat.mod_lt _ (by omega)) rfl
end Go.AL.Fun
