/- The contracts of the ring buffer. -/
import Derived.Test.YthiphpcbeeakpaaG1
set_option linter.unusedSimpArgs false
set_option linter.unusedVariables false
set_option maxRecDepth 100000
namespace Go.AL.Fun
open Go Go.AL

/-- The bytes of a buffer from a place on, around its end. -/
def rot (buf : List UInt8) (st : Nat) : List UInt8 := buf.drop st ++ buf.take st

theorem rot_get {buf : List UInt8} {st : Nat} (h : st ≤ buf.length) (i : Nat) : (rot buf st)[i]? = if st + i < buf.length then buf[st + i]? else if i < buf.length then buf[st + i - buf.length]? else none := by
  simp only [rot, List.getElem?_append, List.length_drop, List.getElem?_drop, List.getElem?_take]
  by_cases h1 : i < buf.length - st
  · rw [if_pos h1, if_pos (by omega)]
  · by_cases h2 : i < buf.length
    · rw [if_neg h1, if_pos (show i - (buf.length - st) < st by omega), if_neg (show ¬ st + i < buf.length by omega), if_pos h2]; congr 1; omega
    · rw [if_neg h1, if_neg (show ¬ i - (buf.length - st) < st by omega), if_neg (show ¬ st + i < buf.length by omega), if_neg h2]

theorem peek_spec (P : Program) {r a st n : Nat} {buf : List UInt8} {H : Heap} (hr : lookH r H = some (.cells [.msl a 0 buf.length 1, .int .i64 st, .int .i64 n])) (ha : lookH a H = some (.cells (bytesAV buf)))
    (hst : st < buf.length) (hn : n ≤ buf.length) (hlen : buf.length ≤ 65536) (k : Int) (h1 : -9223372036854775808 ≤ k) (h2 : k < 9223372036854775808) (m : Nat) (hm : (m : Int) = if 0 < k then (if (n : Int) < k then (n : Int) else k) else 0)
    (hra : r ∈ H.keys) (haa : a ∈ H.keys) (K : Kv) (hK : ∀ p, p ∉ H.keys → K.ap (.msl p 0 m 1) ((p, .cells (bytesAV ((rot buf st).take m))) :: H)) : @xF (t0 P) f24 [.ptr r 0, .int .i64 k] H K := by
  have hmm : (if (if (n : Int) < k then (n : Int) else k) > 0 then (if (n : Int) < k then (n : Int) else k) else 0) = (m : Int) := by
    rw [hm]; repeat' split
    all_goals omega
  have hmn : m ≤ n := by rw [← Int.ofNat_le, hm]; split <;> (try split) <;> omega
  simp (implicitDefEqProofs := false) only [sB0, sB1, sB2, sB3, sB4, sB5, sB6, sB7, sB8, sB9, sB10, sB11, sB12, sB13, sB14, sB15, sB16, sB17, sB18, sB19, noOb, AV.cells, AV.kindN, AV.undef, fillL, splice, isU8, lookH, setH, renH, othK, Heap.keys, foundA, if_true, if_false, ↓reduceIte, Nat.reduceEqDiff, Nat.reduceLeDiff, Nat.reduceAdd, Nat.reduceMul, Nat.reduceSub, Nat.reduceLT, Nat.reduceBNe, Nat.reduceBEq, Int.reduceToNat, Int.reduceLT, Int.reduceLE, Int.reduceAdd, Int.reduceSub, Int.reduceMul, Int.reduceEq, Int.reduceNeg, true_and, and_true, false_and, and_false, ne_eq, not_true_eq_false, not_false_eq_true, true_or, or_true, false_or, or_false, eq_self, reduceCtorEq, exists_eq_left, exists_eq_left', UInt8.reduceOfNat, UInt8.reduceToNat, not_or, Int.reduceMod, Int.reduceTMod, Int.reduceTDiv, Nat.reduceMod, bytesOf, gt_iff_lt, ge_iff_le, and_self, f24, hr, ha, gt_iff_lt]
  simp only [gt_iff_lt] at hmm
  simp (implicitDefEqProofs := false) only [sB0, sB1, sB2, sB3, sB4, sB5, sB6, sB7, sB8, sB9, sB10, sB11, sB12, sB13, sB14, sB15, sB16, sB17, sB18, sB19, noOb, AV.cells, AV.kindN, AV.undef, fillL, splice, isU8, lookH, setH, renH, othK, Heap.keys, foundA, if_true, if_false, ↓reduceIte, Nat.reduceEqDiff, Nat.reduceLeDiff, Nat.reduceAdd, Nat.reduceMul, Nat.reduceSub, Nat.reduceLT, Nat.reduceBNe, Nat.reduceBEq, Int.reduceToNat, Int.reduceLT, Int.reduceLE, Int.reduceAdd, Int.reduceSub, Int.reduceMul, Int.reduceEq, Int.reduceNeg, true_and, and_true, false_and, and_false, ne_eq, not_true_eq_false, not_false_eq_true, true_or, or_true, false_or, or_false, eq_self, reduceCtorEq, exists_eq_left, exists_eq_left', UInt8.reduceOfNat, UInt8.reduceToNat, not_or, Int.reduceMod, Int.reduceTMod, Int.reduceTDiv, Nat.reduceMod, bytesOf, gt_iff_lt, ge_iff_le, and_self, f24, hr, ha, hmm]
  refine ⟨by omega, i_new fun p hp => ?_⟩
  have hpr : ¬ r = p := fun e => hp (e ▸ hra)
  have hpa : ¬ a = p := fun e => hp (e ▸ haa)
  have e1 : (st : Int) ≤ buf.length := by omega
  have e2 : (0 : Int) ≤ st := by omega
  simp (implicitDefEqProofs := false) only [sB0, sB1, sB2, sB3, sB4, sB5, sB6, sB7, sB8, sB9, sB10, sB11, sB12, sB13, sB14, sB15, sB16, sB17, sB18, sB19, noOb, AV.cells, AV.kindN, AV.undef, fillL, splice, isU8, lookH, setH, renH, othK, Heap.keys, foundA, if_true, if_false, ↓reduceIte, Nat.reduceEqDiff, Nat.reduceLeDiff, Nat.reduceAdd, Nat.reduceMul, Nat.reduceSub, Nat.reduceLT, Nat.reduceBNe, Nat.reduceBEq, Int.reduceToNat, Int.reduceLT, Int.reduceLE, Int.reduceAdd, Int.reduceSub, Int.reduceMul, Int.reduceEq, Int.reduceNeg, true_and, and_true, false_and, and_false, ne_eq, not_true_eq_false, not_false_eq_true, true_or, or_true, false_or, or_false, eq_self, reduceCtorEq, exists_eq_left, exists_eq_left', UInt8.reduceOfNat, UInt8.reduceToNat, not_or, Int.reduceMod, Int.reduceTMod, Int.reduceTDiv, Nat.reduceMod, bytesOf, gt_iff_lt, ge_iff_le, and_self, f24, hr, ha, hmm, hpr, hpa, e1, e2]
  have hL : (rot buf st).length = buf.length := by simp [rot]; omega
  by_cases d : buf.length - st ≤ m
  · have d1 : (if m ≤ buf.length - st then m else buf.length - st) = buf.length - st := by split <;> omega
    have d2 : (if m - (buf.length - st) ≤ buf.length then m - (buf.length - st) else buf.length) = m - (buf.length - st) := by split <;> omega
    rw [if_pos d, d1, d2]
    refine ⟨by omega, ⟨by omega, by omega⟩, by omega, ?_⟩
    have key : List.take (buf.length - st) (List.take m (List.drop st buf) ++ List.drop (buf.length - st) (List.replicate m 0)) ++ (List.take (m - (buf.length - st)) buf ++
        List.drop ((buf.length - st) + (m - (buf.length - st))) (List.take m (List.drop st buf) ++ List.drop (buf.length - st) (List.replicate m 0))) = List.take m (rot buf st) := by
      refine List.ext_getElem? fun i => ?_
      simp only [rot, List.getElem?_append, List.getElem?_take, List.getElem?_drop, List.getElem?_replicate, List.length_append, List.length_take, List.length_drop, List.length_replicate]
      repeat' split
      all_goals first | omega | rfl | (congr 1; omega) | (rw [List.getElem?_eq_none]; omega) | (symm; rw [List.getElem?_eq_none]; omega) | skip
    rw [key]
    exact hK p hp
  · have d1 : (if m ≤ buf.length - st then m else buf.length - st) = m := by split <;> omega
    have d2 : (if m - m ≤ buf.length then m - m else buf.length) = 0 := by split <;> omega
    rw [if_neg d, d1, d2]
    refine ⟨by omega, ⟨by omega, by omega⟩, by omega, ?_⟩
    have key : List.take m (List.take m (List.drop st buf) ++ List.drop m (List.replicate m 0)) ++ (List.take (m - m) buf ++
        List.drop (m + 0) (List.take m (List.drop st buf) ++ List.drop m (List.replicate m 0))) = List.take m (rot buf st) := by
      refine List.ext_getElem? fun i => ?_
      simp only [rot, List.getElem?_append, List.getElem?_take, List.getElem?_drop, List.getElem?_replicate, List.length_append, List.length_take, List.length_drop, List.length_replicate]
      repeat' split
      all_goals first | omega | rfl | (congr 1; omega) | (rw [List.getElem?_eq_none]; omega) | (symm; rw [List.getElem?_eq_none]; omega) | skip
    rw [key]
    exact hK p hp

/-- What a put writes where it runs over the end. -/
theorem put_wrap {buf bs : List UInt8} {st n m e : Nat} (hst : st < buf.length) (hn : n ≤ buf.length) (hel : e < buf.length) (hev : (st + n < buf.length ∧ e = st + n) ∨ (buf.length ≤ st + n ∧ e = st + n - buf.length))
    (hmn : n + m ≤ buf.length) (hmb : m ≤ bs.length) (d : ¬ m ≤ buf.length - e) (B : List UInt8) (hB : B = List.take buf.length (List.drop (buf.length - e) (List.take m bs)) ++ List.drop (m - (buf.length - e)) (List.take e buf ++ List.take (buf.length - e) (List.take m bs))) :
    B.length = buf.length ∧ List.take (n + m) (rot B st) = List.take n (rot buf st) ++ List.take m bs := by
  have hb1 : B.length = buf.length := by rw [hB]; simp only [List.length_append, List.length_take, List.length_drop]; omega
  have hb2 : ∀ i, i < buf.length → B[i]? = if i < m - (buf.length - e) then bs[buf.length - e + i]? else if i < e then buf[i]? else bs[i - e]? := by
    intro i hi
    rw [hB]
    simp only [List.getElem?_append, List.length_take, List.length_drop, List.getElem?_take, List.getElem?_drop]
    by_cases c1 : i < m - (buf.length - e)
    · have q1 : i < min buf.length (min m bs.length - (buf.length - e)) := by omega
      have q2 : buf.length - e + i < m := by omega
      simp only [q1, c1, hi, q2, if_true]
    · have q1 : ¬ i < min buf.length (min m bs.length - (buf.length - e)) := by omega
      have q3 : m - (buf.length - e) + (i - min buf.length (min m bs.length - (buf.length - e))) = i := by omega
      by_cases c2 : i < e
      · have q2 : i < min e buf.length := by omega
        simp only [q1, c1, q3, q2, c2, if_true, if_false]
      · have q2 : ¬ i < min e buf.length := by omega
        have q4 : i - min e buf.length < buf.length - e := by omega
        have q5 : i - min e buf.length < m := by omega
        simp only [q1, c1, q3, q2, c2, q4, q5, if_true, if_false]
        congr 1; omega
  clear hB
  refine ⟨hb1, ?_⟩
  have hrl : (rot buf st).length = buf.length := by simp [rot]; omega
  refine List.ext_getElem? fun i => ?_
  rw [List.getElem?_take, rot_get (by omega), List.getElem?_append, List.length_take, List.getElem?_take, rot_get (by omega), List.getElem?_take, hb1, hrl]
  have w : st + n ≥ buf.length ∨ e = st + n := by omega
  by_cases i1 : i < n
  · rw [if_pos (show i < n + m by omega), if_pos (show i < min n buf.length by omega), if_pos i1]
    by_cases i2 : st + i < buf.length
    · rw [if_pos i2, if_pos i2, hb2 _ i2]
      have q1 : ¬ st + i < m - (buf.length - e) := by omega
      have q2 : st + i < e := by omega
      simp only [q1, q2, if_true, if_false]
    · have q0 : i < buf.length := by omega
      simp only [i2, q0, if_true, if_false]
      rw [hb2 _ (by omega)]
      have q1 : ¬ st + i - buf.length < m - (buf.length - e) := by omega
      have q2 : st + i - buf.length < e := by omega
      simp only [q1, q2, if_true, if_false]
  · rw [if_neg (show ¬ i < min n buf.length by omega)]
    by_cases i2 : i < n + m
    · have q0 : i < buf.length := by omega
      have q2 : i - min n buf.length < m := by omega
      rw [if_pos i2, if_pos q2]
      by_cases i3 : st + i < buf.length
      · rw [if_pos i3, hb2 _ i3]
        have q3 : ¬ st + i < m - (buf.length - e) := by omega
        have q4 : ¬ st + i < e := by omega
        simp only [q3, q4, if_false]; congr 1; omega
      · simp only [i3, q0, if_true, if_false]
        rw [hb2 _ (by omega)]
        have q3 : st + i - buf.length < m - (buf.length - e) := by omega
        simp only [q3, if_true]; congr 1; omega
    · rw [if_neg i2, if_neg (show ¬ i - min n buf.length < m by omega)]

theorem put_fit {buf bs : List UInt8} {st n m e : Nat} (hst : st < buf.length) (hn : n ≤ buf.length) (hel : e < buf.length) (hev : (st + n < buf.length ∧ e = st + n) ∨ (buf.length ≤ st + n ∧ e = st + n - buf.length))
    (hmn : n + m ≤ buf.length) (hmb : m ≤ bs.length) (d : m ≤ buf.length - e) :
    (List.take e buf ++ (List.take (buf.length - e) (List.take m bs) ++ List.drop (e + m) buf)).length = buf.length ∧ List.take (n + m) (rot (List.take e buf ++ (List.take (buf.length - e) (List.take m bs) ++ List.drop (e + m) buf)) st) = List.take n (rot buf st) ++ List.take m bs := by
  have hb1 : (List.take e buf ++ (List.take (buf.length - e) (List.take m bs) ++ List.drop (e + m) buf)).length = buf.length := by simp only [List.length_append, List.length_take, List.length_drop]; omega
  have hb2 : ∀ i, (List.take e buf ++ (List.take (buf.length - e) (List.take m bs) ++ List.drop (e + m) buf))[i]? = if i < e then buf[i]? else if i < e + m then bs[i - e]? else buf[i]? := by
    intro i
    simp only [List.getElem?_append, List.length_take, List.getElem?_take, List.getElem?_drop]
    by_cases c1 : i < e
    · rw [if_pos (by omega), if_pos c1, if_pos c1]
    · rw [if_neg (by omega), if_neg c1]
      by_cases c2 : i < e + m
      · rw [if_pos (by omega), if_pos c2, if_pos (by omega), if_pos (by omega)]; congr 1; omega
      · rw [if_neg (by omega), if_neg c2]; congr 1; omega
  refine ⟨hb1, ?_⟩
  generalize (List.take e buf ++ (List.take (buf.length - e) (List.take m bs) ++ List.drop (e + m) buf)) = B at hb1 hb2
  refine List.ext_getElem? fun i => ?_
  rw [List.getElem?_take, rot_get (by omega), hb2, hb2, List.getElem?_append, List.length_take, List.getElem?_take, rot_get (by omega), List.getElem?_take, hb1]
  have hrl : (rot buf st).length = buf.length := by simp [rot]; omega
  rw [hrl]
  have hmin : (if n ≤ buf.length then n else buf.length) = n := if_pos hn
  by_cases i1 : i < n
  · rw [if_pos (show i < n + m by omega), if_pos (show i < min n buf.length by omega), if_pos i1]
    by_cases i2 : st + i < buf.length
    · rw [if_pos i2, if_pos i2]
      by_cases i3 : st + i < e
      · rw [if_pos i3]
      · rw [if_neg i3, if_neg (by omega)]
    · have q1 : i < buf.length := by omega
      by_cases i3 : st + i - buf.length < e
      · simp only [i2, q1, i3, if_true, if_false]
      · have q2 : ¬ st + i - buf.length < e + m := by omega
        simp only [i2, q1, i3, q2, if_true, if_false]
  · rw [if_neg (show ¬ i < min n buf.length by omega)]
    by_cases i2 : i < n + m
    · have q1 : i < buf.length := by omega
      have q2 : i - min n buf.length < m := by omega
      rw [if_pos i2, if_pos q2]
      by_cases i3 : st + i < buf.length
      · have q3 : ¬ st + i < e := by omega
        have q4 : st + i < e + m := by omega
        simp only [i3, q3, q4, if_true, if_false]; congr 1; omega
      · have q3 : ¬ st + i - buf.length < e := by omega
        have q4 : st + i - buf.length < e + m := by omega
        simp only [i3, q1, q3, q4, if_true, if_false]; congr 1; omega
    · rw [if_neg i2, if_neg (show ¬ i - min n buf.length < m by omega)]

theorem put_spec (P : Program) {r a st n : Nat} {buf : List UInt8} {H : Heap} (hr : lookH r H = some (.cells [.msl a 0 buf.length 1, .int .i64 st, .int .i64 n])) (ha : lookH a H = some (.cells (bytesAV buf)))
    (hra : ¬ r = a) (hst : st < buf.length) (hn : n ≤ buf.length) (hlen : buf.length ≤ 65536) (bs : List UInt8) (tok : Tok) (hbs : bs.length ≤ 1048576) (m : Nat) (hm : m = if buf.length - n < bs.length then buf.length - n else bs.length)
    (K : Kv) (hK : ∀ buf', buf'.length = buf.length → (rot buf' st).take (n + m) = (rot buf st).take n ++ bs.take m →
      K.ap (.int .i64 m) (setH r (.cells [.msl a 0 buf.length 1, .int .i64 st, .int .i64 (n + m : Nat)]) (setH a (.cells (bytesAV buf')) H))) : @xF (tB P) f23 [.ptr r 0, .sl (bytesAV bs) tok] H K := by
  have e1 := w_i64 ((buf.length : Int) - n) (by omega) (by omega)
  have e2 := w_i64 ((st : Int) + n) (by omega) (by omega)
  have hmm : (if (buf.length : Int) - n < bs.length then (buf.length : Int) - n else (bs.length : Int)) = (m : Int) := by
    rw [hm]; split <;> split <;> omega
  have e3 := w_i64 ((n : Int) + m) (by omega) (by omega)
  have har : ¬ a = r := fun e => hra e.symm
  have e4 : ((st : Int) + n).tmod buf.length = ((st + n) % buf.length : Nat) := by
    rw [← Int.natCast_add, ← Int.ofNat_tmod]
  have e5 : ¬ (buf.length : Int) = 0 := by omega
  have hmb : m ≤ bs.length := by rw [hm]; split <;> omega
  have e6 : (if m ≤ bs.length then m else bs.length) = m := if_pos hmb
  generalize he : (st + n) % buf.length = e at e4
  have hel : e < buf.length := by rw [← he]; exact Nat.mod_lt _ (by omega)
  have e7 : (if e ≤ buf.length then e else buf.length) = e := if_pos (by omega)
  have hev : (st + n < buf.length ∧ e = st + n) ∨ (buf.length ≤ st + n ∧ e = st + n - buf.length) := by
    rcases Nat.lt_or_ge (st + n) buf.length with h | h
    · exact .inl ⟨h, by rw [← he, Nat.mod_eq_of_lt h]⟩
    · refine .inr ⟨h, ?_⟩
      rw [← he, Nat.mod_eq_sub_mod h, Nat.mod_eq_of_lt (by omega)]
  have hmn : n + m ≤ buf.length := by rw [hm]; split <;> omega
  have e8 : (st : Int) + n - 0 = st + n := by omega
  have e9 : ((n : Int) + m) = ((n + m : Nat) : Int) := by omega
  by_cases d : m ≤ buf.length - e
  · have d2 : (if buf.length - e ≤ m then buf.length - e else m) = m := by split <;> omega
    have d3 : List.drop m (List.take m bs) = [] := List.drop_eq_nil_of_le (by simp; omega)
    have d4 : m - m = 0 := by omega
    simp (implicitDefEqProofs := false) only [sB0, sB1, sB2, sB3, sB4, sB5, sB6, sB7, sB8, sB9, sB10, sB11, sB12, sB13, sB14, sB15, sB16, sB17, sB18, sB19, noOb, AV.cells, AV.kindN, AV.undef, fillL, splice, isU8, lookH, setH, renH, othK, Heap.keys, foundA, if_true, if_false, ↓reduceIte, Nat.reduceEqDiff, Nat.reduceLeDiff, Nat.reduceAdd, Nat.reduceMul, Nat.reduceSub, Nat.reduceLT, Nat.reduceBNe, Nat.reduceBEq, Int.reduceToNat, Int.reduceLT, Int.reduceLE, Int.reduceAdd, Int.reduceSub, Int.reduceMul, Int.reduceEq, Int.reduceNeg, true_and, and_true, false_and, and_false, ne_eq, not_true_eq_false, not_false_eq_true, true_or, or_true, false_or, or_false, eq_self, reduceCtorEq, exists_eq_left, exists_eq_left', UInt8.reduceOfNat, UInt8.reduceToNat, not_or, Int.reduceMod, Int.reduceTMod, Int.reduceTDiv, Nat.reduceMod, bytesOf, gt_iff_lt, ge_iff_le, and_self, f23, f26, f27, f28, hr, ha, hra, har, e1, e2, e3, e4, hmm, e5, e6, e7, d, d2, d3, d4, List.take_nil]
    refine ⟨⟨by omega, by omega⟩, ⟨by omega, by omega⟩, by omega, ⟨by omega, by omega⟩, by omega, ?_⟩
    rw [e9]
    obtain ⟨g1, g2⟩ := put_fit hst hn hel hev hmn hmb d
    exact hK _ g1 g2
  · have d2 : (if buf.length - e ≤ m then buf.length - e else m) = buf.length - e := by split <;> omega
    have d3 : ¬ m ≤ buf.length - e := d
    have d4 : (if buf.length ≤ m - (buf.length - e) then buf.length else m - (buf.length - e)) = m - (buf.length - e) := by split <;> omega
    have d5 : e + (buf.length - e) = buf.length := by omega
    simp (implicitDefEqProofs := false) only [sB0, sB1, sB2, sB3, sB4, sB5, sB6, sB7, sB8, sB9, sB10, sB11, sB12, sB13, sB14, sB15, sB16, sB17, sB18, sB19, noOb, AV.cells, AV.kindN, AV.undef, fillL, splice, isU8, lookH, setH, renH, othK, Heap.keys, foundA, if_true, if_false, ↓reduceIte, Nat.reduceEqDiff, Nat.reduceLeDiff, Nat.reduceAdd, Nat.reduceMul, Nat.reduceSub, Nat.reduceLT, Nat.reduceBNe, Nat.reduceBEq, Int.reduceToNat, Int.reduceLT, Int.reduceLE, Int.reduceAdd, Int.reduceSub, Int.reduceMul, Int.reduceEq, Int.reduceNeg, true_and, and_true, false_and, and_false, ne_eq, not_true_eq_false, not_false_eq_true, true_or, or_true, false_or, or_false, eq_self, reduceCtorEq, exists_eq_left, exists_eq_left', UInt8.reduceOfNat, UInt8.reduceToNat, not_or, Int.reduceMod, Int.reduceTMod, Int.reduceTDiv, Nat.reduceMod, bytesOf, gt_iff_lt, ge_iff_le, and_self, f23, f26, f27, f28, hr, ha, hra, har, e1, e2, e3, e4, hmm, e5, e6, e7, d, d2, d4, d5, Nat.sub_self, List.drop_length]
    refine ⟨⟨by omega, by omega⟩, ⟨by omega, by omega⟩, ⟨by omega, by omega, by omega⟩, ?_⟩
    rw [e9]
    obtain ⟨g1, g2⟩ := put_wrap hst hn hel hev hmn hmb d _ rfl
    exact hK _ g1 g2
end Go.AL.Fun
