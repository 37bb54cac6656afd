/- Put of bytes that lie in cells of their own. -/
import Derived.Test.YthiphpcbeeakpaaG3
import Derived.Test.YthiphpcbeeakpaaA27
set_option linter.unusedSimpArgs false
set_option linter.unusedVariables false
set_option maxRecDepth 100000
namespace Go.AL.Fun
open Go Go.AL

theorem put_spec_m (P : Program) {r a o st n : Nat} {buf : List UInt8} {H : Heap} (hr : lookH r H = some (.cells [.msl a 0 buf.length 1, .int .i64 st, .int .i64 n])) (ha : lookH a H = some (.cells (bytesAV buf)))
    (hra : ¬ r = a) (hst : st < buf.length) (hn : n ≤ buf.length) (hlen : buf.length ≤ 65536) (bs : List UInt8) (ho : lookH o H = some (.cells (bytesAV bs))) (hoa : ¬ o = a) (hor : ¬ o = r) (hbs : bs.length ≤ 1048576) (m : Nat) (hm : m = if buf.length - n < bs.length then buf.length - n else bs.length)
    (K : Kv) (hK : ∀ buf', buf'.length = buf.length → (rot buf' st).take (n + m) = (rot buf st).take n ++ bs.take m →
      K.ap (.int .i64 m) (setH r (.cells [.msl a 0 buf.length 1, .int .i64 st, .int .i64 (n + m : Nat)]) (setH a (.cells (bytesAV buf')) H))) : @xF (tB P) f23 [.ptr r 0, .msl o 0 bs.length 1] H K := by
  have e1 := w_i64 ((buf.length : Int) - n) (by omega) (by omega)
  have e2 := w_i64 ((st : Int) + n) (by omega) (by omega)
  have hmm : (if (buf.length : Int) - n < bs.length then (buf.length : Int) - n else (bs.length : Int)) = (m : Int) := by
    rw [hm]; split <;> split <;> omega
  have e3 := w_i64 ((n : Int) + m) (by omega) (by omega)
  have har : ¬ a = r := fun e => hra e.symm
  have e4 : ((st : Int) + n).tmod buf.length = ((st + n) % buf.length : Nat) := by
    rw [← Int.natCast_add, ← Int.ofNat_tmod]
  have e5 : ¬ (buf.length : Int) = 0 := by omega
  have hmb : m ≤ bs.length := by rw [hm]; split <;> omega
  have e6 : (if m ≤ bs.length then m else bs.length) = m := if_pos hmb
  generalize he : (st + n) % buf.length = e at e4
  have hel : e < buf.length := by rw [← he]; exact Nat.mod_lt _ (by omega)
  have e7 : (if e ≤ buf.length then e else buf.length) = e := if_pos (by omega)
  have hev : (st + n < buf.length ∧ e = st + n) ∨ (buf.length ≤ st + n ∧ e = st + n - buf.length) := by
    rcases Nat.lt_or_ge (st + n) buf.length with h | h
    · exact .inl ⟨h, by rw [← he, Nat.mod_eq_of_lt h]⟩
    · refine .inr ⟨h, ?_⟩
      rw [← he, Nat.mod_eq_sub_mod h, Nat.mod_eq_of_lt (by omega)]
  have hmn : n + m ≤ buf.length := by rw [hm]; split <;> omega
  have e8 : (st : Int) + n - 0 = st + n := by omega
  have e9 : ((n : Int) + m) = ((n + m : Nat) : Int) := by omega
  have e10 : (if m ≤ m then m else m) = m := if_pos (Nat.le_refl _)
  have e11 : List.take (m - (buf.length - e)) (List.drop (buf.length - e) bs) = List.drop (buf.length - e) (List.take m bs) := by rw [List.drop_take]
  by_cases d : m ≤ buf.length - e
  · have d2 : (if buf.length - e ≤ m then buf.length - e else m) = m := by split <;> omega
    have d3 : List.drop m (List.take m bs) = [] := List.drop_eq_nil_of_le (by simp; omega)
    have d4 : m - m = 0 := by omega
    simp (implicitDefEqProofs := false) only [sB0, sB1, sB2, sB3, sB4, sB5, sB6, sB7, sB8, sB9, sB10, sB11, sB12, sB13, sB14, sB15, sB16, sB17, sB18, sB19, noOb, AV.cells, AV.kindN, AV.undef, fillL, splice, isU8, lookH, setH, renH, othK, Heap.keys, foundA, if_true, if_false, ↓reduceIte, Nat.reduceEqDiff, Nat.reduceLeDiff, Nat.reduceAdd, Nat.reduceMul, Nat.reduceSub, Nat.reduceLT, Nat.reduceBNe, Nat.reduceBEq, Int.reduceToNat, Int.reduceLT, Int.reduceLE, Int.reduceAdd, Int.reduceSub, Int.reduceMul, Int.reduceEq, Int.reduceNeg, true_and, and_true, false_and, and_false, ne_eq, not_true_eq_false, not_false_eq_true, true_or, or_true, false_or, or_false, eq_self, reduceCtorEq, exists_eq_left, exists_eq_left', UInt8.reduceOfNat, UInt8.reduceToNat, not_or, Int.reduceMod, Int.reduceTMod, Int.reduceTDiv, Nat.reduceMod, bytesOf, gt_iff_lt, ge_iff_le, and_self, f23, f26, f27, f28, hr, ha, hra, har, ho, hoa, hor, e10, e11, e1, e2, e3, e4, hmm, e5, e6, e7, d, d2, d3, d4, List.take_nil]
    repeat refine And.intro (by omega) ?_
    rw [e9]
    obtain ⟨g1, g2⟩ := put_fit hst hn hel hev hmn hmb d
    exact hK _ g1 g2
  · have d2 : (if buf.length - e ≤ m then buf.length - e else m) = buf.length - e := by split <;> omega
    have d3 : ¬ m ≤ buf.length - e := d
    have d4 : (if buf.length ≤ m - (buf.length - e) then buf.length else m - (buf.length - e)) = m - (buf.length - e) := by split <;> omega
    have d5 : e + (buf.length - e) = buf.length := by omega
    simp (implicitDefEqProofs := false) only [sB0, sB1, sB2, sB3, sB4, sB5, sB6, sB7, sB8, sB9, sB10, sB11, sB12, sB13, sB14, sB15, sB16, sB17, sB18, sB19, noOb, AV.cells, AV.kindN, AV.undef, fillL, splice, isU8, lookH, setH, renH, othK, Heap.keys, foundA, if_true, if_false, ↓reduceIte, Nat.reduceEqDiff, Nat.reduceLeDiff, Nat.reduceAdd, Nat.reduceMul, Nat.reduceSub, Nat.reduceLT, Nat.reduceBNe, Nat.reduceBEq, Int.reduceToNat, Int.reduceLT, Int.reduceLE, Int.reduceAdd, Int.reduceSub, Int.reduceMul, Int.reduceEq, Int.reduceNeg, true_and, and_true, false_and, and_false, ne_eq, not_true_eq_false, not_false_eq_true, true_or, or_true, false_or, or_false, eq_self, reduceCtorEq, exists_eq_left, exists_eq_left', UInt8.reduceOfNat, UInt8.reduceToNat, not_or, Int.reduceMod, Int.reduceTMod, Int.reduceTDiv, Nat.reduceMod, bytesOf, gt_iff_lt, ge_iff_le, and_self, f23, f26, f27, f28, hr, ha, hra, har, ho, hoa, hor, e10, e11, e1, e2, e3, e4, hmm, e5, e6, e7, d, d2, d4, d5, Nat.sub_self, List.drop_length]
    repeat refine And.intro (by omega) ?_
    rw [e9]
    obtain ⟨g1, g2⟩ := put_wrap hst hn hel hev hmn hmb d _ rfl
    exact hK _ g1 g2
end Go.AL.Fun
