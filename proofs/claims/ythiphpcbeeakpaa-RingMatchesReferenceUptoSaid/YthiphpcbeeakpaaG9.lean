/- The reference ring. -/
import Derived.Test.YthiphpcbeeakpaaG8
set_option linter.unusedSimpArgs false
set_option linter.unusedVariables false
set_option maxRecDepth 100000
namespace Go.AL.Fun
open Go Go.AL

theorem look_mem {H H' : Heap} {X : Heap} {q : Nat} {o : AObj} (hp : H'.Perm (X ++ H)) (hn : H'.keys.Nodup) (hl : lookH q H = some o) : lookH q H' = some o :=
  (lookH_iff hn).2 (hp.mem_iff.2 (List.mem_append_right _ (lookH_mem hl)))
theorem set_mem {H H' : Heap} {X : Heap} {q : Nat} {o : AObj} (o' : AObj) (hp : H'.Perm (X ++ H)) (hn : H'.keys.Nodup) (hl : lookH q H = some o) : (setH q o' H').Perm (X ++ setH q o' H) := by
  have h1 := setH_perm (id := q) (o := o') hp hn
  have hn' := nodup_perm hp hn
  have hq : q ∉ Heap.keys X := by
    simp only [Heap.keys, List.map_append] at hn'
    exact fun h => (List.nodup_append.1 hn').2.2 q h q (List.mem_map.2 ⟨_, lookH_mem hl, rfl⟩) rfl
  have h2 : setH q o' (X ++ H) = X ++ setH q o' H := renH_app hq
  rw [h2] at h1; exact h1

def qC (c : List UInt8) (t : Tok) (cap : Nat) : AObj := .cells [.sl (bytesAV c) t, .int .i64 cap]
/-- A copy of bytes, and more appended to it. -/
def p33 (xs : List AV) (H : Heap) (K : Kv) : Prop := ∃ q c t cap bs tb, xs = [.ptr q 0, .sl (bytesAV bs) tb] ∧ lookH q H = some (qC c t cap) ∧ H.keys.Nodup ∧ c.length ≤ cap ∧ cap ≤ 65536 ∧ bs.length ≤ 1048576 ∧
  ∀ t' G H', H'.Perm (G ++ setH q (qC (c ++ bs.take (min (cap - c.length) bs.length)) t' cap) H) → H'.keys.Nodup → K.ap (.int .i64 (min (cap - c.length) bs.length : Nat)) H'
def p34 (xs : List AV) (H : Heap) (K : Kv) : Prop := ∃ q c t cap, ∃ k : Int, xs = [.ptr q 0, .int .i64 k] ∧ lookH q H = some (qC c t cap) ∧ H.keys.Nodup ∧ c.length ≤ cap ∧ cap ≤ 65536 ∧
  ∀ t' H', H'.Perm (tokH t' ++ H) → H'.keys.Nodup → K.ap (.sl (bytesAV (c.take k.toNat)) t') H'
def p35 (xs : List AV) (H : Heap) (K : Kv) : Prop := ∃ q c t cap, ∃ k : Int, xs = [.ptr q 0, .int .i64 k] ∧ lookH q H = some (qC c t cap) ∧ H.keys.Nodup ∧ c.length ≤ cap ∧ cap ≤ 65536 ∧
  (k < 0 ∨ (c.length : Int) < k → K.ap (.int .i64 3) H) ∧ (0 ≤ k → k ≤ c.length → ∀ t' G H', H'.Perm (G ++ setH q (qC (c.drop k.toNat) t' cap) H) → H'.keys.Nodup → K.ap (.int .i64 0) H')

section
variable (P : Program)
theorem p33_of {xs : List AV} {H : Heap} {K : Kv} (h : p33 xs H K) : @xF (t0 P) f33 xs H K := by
  obtain ⟨q, c, t, cap, bs, tb, rfl, hl, hn, l1, l2, l3, hK⟩ := h
  have hl' := hl
  simp only [qC] at hl'
  obtain ⟨m, hm⟩ : ∃ m : Nat, m = min (cap - c.length) bs.length := ⟨_, rfl⟩
  rw [← hm] at hK
  have e1 : (cap : Int) - c.length = ((cap - c.length : Nat) : Int) := by omega
  have e2 := w_i64 ((cap - c.length : Nat) : Int) (by omega) (by omega)
  have fin : ∀ n : Int, n = m → xE (t := t0 P) (.bslice 1 0 [.int .u8 0] []) [] H (K := K) → True := fun _ _ _ => trivial
  have key : ∀ (id : Nat) (_ : id ∉ H.keys), ¬ q = id := fun id hid e => hid (by rw [← e]; exact List.mem_map.2 ⟨_, lookH_mem hl, rfl⟩)
  by_cases d : (bs.length : Int) < ((cap - c.length : Nat) : Int)
  · have m1 : m = bs.length := by omega
    simp (implicitDefEqProofs := false) only [sB0, sB1, sB2, sB3, sB4, sB5, sB6, sB7, sB8, sB9, sB10, sB11, sB12, sB13, sB14, sB15, sB16, sB17, sB18, sB19, noOb, AV.cells, AV.kindN, AV.undef, fillL, splice, isU8, lookH, setH, renH, othK, Heap.keys, foundA, if_true, if_false, ↓reduceIte, Nat.reduceEqDiff, Nat.reduceLeDiff, Nat.reduceAdd, Nat.reduceMul, Nat.reduceSub, Nat.reduceLT, Nat.reduceBNe, Nat.reduceBEq, Int.reduceToNat, Int.reduceLT, Int.reduceLE, Int.reduceAdd, Int.reduceSub, Int.reduceMul, Int.reduceEq, Int.reduceNeg, true_and, and_true, false_and, and_false, ne_eq, not_true_eq_false, not_false_eq_true, true_or, or_true, false_or, or_false, eq_self, reduceCtorEq, exists_eq_left, exists_eq_left', UInt8.reduceOfNat, UInt8.reduceToNat, not_or, Int.reduceMod, Int.reduceTMod, Int.reduceTDiv, Nat.reduceMod, bytesOf, gt_iff_lt, ge_iff_le, and_self, f33, hl', e1, e2, d]
    refine ⟨by omega, i_emp hn fun id hid hn2 => ?_⟩
    simp (implicitDefEqProofs := false) only [sB0, sB1, sB2, sB3, sB4, sB5, sB6, sB7, sB8, sB9, sB10, sB11, sB12, sB13, sB14, sB15, sB16, sB17, sB18, sB19, noOb, AV.cells, AV.kindN, AV.undef, fillL, splice, isU8, lookH, setH, renH, othK, Heap.keys, foundA, if_true, if_false, ↓reduceIte, Nat.reduceEqDiff, Nat.reduceLeDiff, Nat.reduceAdd, Nat.reduceMul, Nat.reduceSub, Nat.reduceLT, Nat.reduceBNe, Nat.reduceBEq, Int.reduceToNat, Int.reduceLT, Int.reduceLE, Int.reduceAdd, Int.reduceSub, Int.reduceMul, Int.reduceEq, Int.reduceNeg, true_and, and_true, false_and, and_false, ne_eq, not_true_eq_false, not_false_eq_true, true_or, or_true, false_or, or_false, eq_self, reduceCtorEq, exists_eq_left, exists_eq_left', UInt8.reduceOfNat, UInt8.reduceToNat, not_or, Int.reduceMod, Int.reduceTMod, Int.reduceTDiv, Nat.reduceMod, bytesOf, gt_iff_lt, ge_iff_le, and_self, key id hid, hl']
    refine i_app (A := []) (R := H) (tk := .at id 0 1) (xs := []) (ys := bytesAV c) (.refl _) hn2 rfl (.inl ⟨_, rfl⟩) (by rw [by_all]; trivial) (by rw [allSz_nil]; trivial) ?_ ?_ fun t1 H1 g1 p1 n1 => ?_
    · simp only [by_len, List.length_nil, maxLen_eq]; omega
    · simp only [by_len, List.length_nil]; omega
    · simp (implicitDefEqProofs := false) only [sB0, sB1, sB2, sB3, sB4, sB5, sB6, sB7, sB8, sB9, sB10, sB11, sB12, sB13, sB14, sB15, sB16, sB17, sB18, sB19, noOb, AV.cells, AV.kindN, AV.undef, fillL, splice, isU8, lookH, setH, renH, othK, Heap.keys, foundA, if_true, if_false, ↓reduceIte, Nat.reduceEqDiff, Nat.reduceLeDiff, Nat.reduceAdd, Nat.reduceMul, Nat.reduceSub, Nat.reduceLT, Nat.reduceBNe, Nat.reduceBEq, Int.reduceToNat, Int.reduceLT, Int.reduceLE, Int.reduceAdd, Int.reduceSub, Int.reduceMul, Int.reduceEq, Int.reduceNeg, true_and, and_true, false_and, and_false, ne_eq, not_true_eq_false, not_false_eq_true, true_or, or_true, false_or, or_false, eq_self, reduceCtorEq, exists_eq_left, exists_eq_left', UInt8.reduceOfNat, UInt8.reduceToNat, not_or, Int.reduceMod, Int.reduceTMod, Int.reduceTDiv, Nat.reduceMod, bytesOf, gt_iff_lt, ge_iff_le, and_self]
      refine i_app (A := []) (R := H) (tk := t1) (xs := bytesAV c) (ys := bytesAV bs) p1 n1 g1 (.inl ⟨_, rfl⟩) (by rw [by_all]; trivial) (by rw [by_all]; trivial) ?_ ?_ fun t2 H2 g2 p2 n2 => ?_
      · simp only [by_len, maxLen_eq]; omega
      · simp only [by_len]; omega
      · have hl2 := look_mem (X := tokH t2) p2 n2 hl'
        rw [by_app]
        simp (implicitDefEqProofs := false) only [sB0, sB1, sB2, sB3, sB4, sB5, sB6, sB7, sB8, sB9, sB10, sB11, sB12, sB13, sB14, sB15, sB16, sB17, sB18, sB19, noOb, AV.cells, AV.kindN, AV.undef, fillL, splice, isU8, lookH, setH, renH, othK, Heap.keys, foundA, if_true, if_false, ↓reduceIte, Nat.reduceEqDiff, Nat.reduceLeDiff, Nat.reduceAdd, Nat.reduceMul, Nat.reduceSub, Nat.reduceLT, Nat.reduceBNe, Nat.reduceBEq, Int.reduceToNat, Int.reduceLT, Int.reduceLE, Int.reduceAdd, Int.reduceSub, Int.reduceMul, Int.reduceEq, Int.reduceNeg, true_and, and_true, false_and, and_false, ne_eq, not_true_eq_false, not_false_eq_true, true_or, or_true, false_or, or_false, eq_self, reduceCtorEq, exists_eq_left, exists_eq_left', UInt8.reduceOfNat, UInt8.reduceToNat, not_or, Int.reduceMod, Int.reduceTMod, Int.reduceTDiv, Nat.reduceMod, bytesOf, gt_iff_lt, ge_iff_le, and_self, hl2]
        have := hK t2 (tokH t2) (setH q (qC (c ++ bs) t2 cap) H2) (by rw [m1, List.take_length]; exact set_mem (X := tokH t2) _ p2 n2 hl) (set_nodup _ n2)
        rw [m1] at this
        exact this
  · have m1 : m = cap - c.length := by omega
    simp (implicitDefEqProofs := false) only [sB0, sB1, sB2, sB3, sB4, sB5, sB6, sB7, sB8, sB9, sB10, sB11, sB12, sB13, sB14, sB15, sB16, sB17, sB18, sB19, noOb, AV.cells, AV.kindN, AV.undef, fillL, splice, isU8, lookH, setH, renH, othK, Heap.keys, foundA, if_true, if_false, ↓reduceIte, Nat.reduceEqDiff, Nat.reduceLeDiff, Nat.reduceAdd, Nat.reduceMul, Nat.reduceSub, Nat.reduceLT, Nat.reduceBNe, Nat.reduceBEq, Int.reduceToNat, Int.reduceLT, Int.reduceLE, Int.reduceAdd, Int.reduceSub, Int.reduceMul, Int.reduceEq, Int.reduceNeg, true_and, and_true, false_and, and_false, ne_eq, not_true_eq_false, not_false_eq_true, true_or, or_true, false_or, or_false, eq_self, reduceCtorEq, exists_eq_left, exists_eq_left', UInt8.reduceOfNat, UInt8.reduceToNat, not_or, Int.reduceMod, Int.reduceTMod, Int.reduceTDiv, Nat.reduceMod, bytesOf, gt_iff_lt, ge_iff_le, and_self, f33, hl', e1, e2, d]
    refine ⟨by omega, i_emp hn fun id hid hn2 => ?_⟩
    simp (implicitDefEqProofs := false) only [sB0, sB1, sB2, sB3, sB4, sB5, sB6, sB7, sB8, sB9, sB10, sB11, sB12, sB13, sB14, sB15, sB16, sB17, sB18, sB19, noOb, AV.cells, AV.kindN, AV.undef, fillL, splice, isU8, lookH, setH, renH, othK, Heap.keys, foundA, if_true, if_false, ↓reduceIte, Nat.reduceEqDiff, Nat.reduceLeDiff, Nat.reduceAdd, Nat.reduceMul, Nat.reduceSub, Nat.reduceLT, Nat.reduceBNe, Nat.reduceBEq, Int.reduceToNat, Int.reduceLT, Int.reduceLE, Int.reduceAdd, Int.reduceSub, Int.reduceMul, Int.reduceEq, Int.reduceNeg, true_and, and_true, false_and, and_false, ne_eq, not_true_eq_false, not_false_eq_true, true_or, or_true, false_or, or_false, eq_self, reduceCtorEq, exists_eq_left, exists_eq_left', UInt8.reduceOfNat, UInt8.reduceToNat, not_or, Int.reduceMod, Int.reduceTMod, Int.reduceTDiv, Nat.reduceMod, bytesOf, gt_iff_lt, ge_iff_le, and_self, key id hid, hl']
    refine i_app (A := []) (R := H) (tk := .at id 0 1) (xs := []) (ys := bytesAV c) (.refl _) hn2 rfl (.inl ⟨_, rfl⟩) (by rw [by_all]; trivial) (by rw [allSz_nil]; trivial) ?_ ?_ fun t1 H1 g1 p1 n1 => ?_
    · simp only [by_len, List.length_nil, maxLen_eq]; omega
    · simp only [by_len, List.length_nil]; omega
    · simp (implicitDefEqProofs := false) only [sB0, sB1, sB2, sB3, sB4, sB5, sB6, sB7, sB8, sB9, sB10, sB11, sB12, sB13, sB14, sB15, sB16, sB17, sB18, sB19, noOb, AV.cells, AV.kindN, AV.undef, fillL, splice, isU8, lookH, setH, renH, othK, Heap.keys, foundA, if_true, if_false, ↓reduceIte, Nat.reduceEqDiff, Nat.reduceLeDiff, Nat.reduceAdd, Nat.reduceMul, Nat.reduceSub, Nat.reduceLT, Nat.reduceBNe, Nat.reduceBEq, Int.reduceToNat, Int.reduceLT, Int.reduceLE, Int.reduceAdd, Int.reduceSub, Int.reduceMul, Int.reduceEq, Int.reduceNeg, true_and, and_true, false_and, and_false, ne_eq, not_true_eq_false, not_false_eq_true, true_or, or_true, false_or, or_false, eq_self, reduceCtorEq, exists_eq_left, exists_eq_left', UInt8.reduceOfNat, UInt8.reduceToNat, not_or, Int.reduceMod, Int.reduceTMod, Int.reduceTDiv, Nat.reduceMod, bytesOf, gt_iff_lt, ge_iff_le, and_self]
      refine i_app (A := []) (R := H) (tk := t1) (xs := bytesAV c) (ys := bytesAV (bs.take (cap - c.length))) p1 n1 g1 (.inl ⟨_, rfl⟩) (by rw [by_all]; trivial) (by rw [by_all]; trivial) ?_ ?_ fun t2 H2 g2 p2 n2 => ?_
      · simp only [by_len, List.length_take, maxLen_eq]; omega
      · simp only [by_len, List.length_take]; omega
      · have hl2 := look_mem (X := tokH t2) p2 n2 hl'
        rw [by_app]
        simp (implicitDefEqProofs := false) only [sB0, sB1, sB2, sB3, sB4, sB5, sB6, sB7, sB8, sB9, sB10, sB11, sB12, sB13, sB14, sB15, sB16, sB17, sB18, sB19, noOb, AV.cells, AV.kindN, AV.undef, fillL, splice, isU8, lookH, setH, renH, othK, Heap.keys, foundA, if_true, if_false, ↓reduceIte, Nat.reduceEqDiff, Nat.reduceLeDiff, Nat.reduceAdd, Nat.reduceMul, Nat.reduceSub, Nat.reduceLT, Nat.reduceBNe, Nat.reduceBEq, Int.reduceToNat, Int.reduceLT, Int.reduceLE, Int.reduceAdd, Int.reduceSub, Int.reduceMul, Int.reduceEq, Int.reduceNeg, true_and, and_true, false_and, and_false, ne_eq, not_true_eq_false, not_false_eq_true, true_or, or_true, false_or, or_false, eq_self, reduceCtorEq, exists_eq_left, exists_eq_left', UInt8.reduceOfNat, UInt8.reduceToNat, not_or, Int.reduceMod, Int.reduceTMod, Int.reduceTDiv, Nat.reduceMod, bytesOf, gt_iff_lt, ge_iff_le, and_self, hl2]
        have := hK t2 (tokH t2) (setH q (qC (c ++ bs.take (cap - c.length)) t2 cap) H2) (by rw [m1]; exact set_mem (X := tokH t2) _ p2 n2 hl) (set_nodup _ n2)
        rw [m1] at this
        exact this
theorem p34_of {xs : List AV} {H : Heap} {K : Kv} (h : p34 xs H K) : @xF (t0 P) f34 xs H K := by
  obtain ⟨q, c, t, cap, k, rfl, hl, hn, l1, l2, hK⟩ := h
  have hl' := hl
  simp only [qC] at hl'
  have key : ∀ (id : Nat) (_ : id ∉ H.keys), ¬ q = id := fun id hid e => hid (by rw [← e]; exact List.mem_map.2 ⟨_, lookH_mem hl, rfl⟩)
  obtain ⟨m, hm1, hm2, hm3⟩ : ∃ m : Nat, m ≤ c.length ∧ c.take m = c.take k.toNat ∧ (m : Int) = if k < 0 then 0 else if (c.length : Int) < k then (c.length : Int) else k := by
    by_cases a1 : k < 0
    · exact ⟨0, by omega, by rw [show k.toNat = 0 by omega], by rw [if_pos a1]; rfl⟩
    · by_cases a2 : (c.length : Int) < k
      · exact ⟨c.length, by omega, by rw [List.take_length, List.take_of_length_le (by omega)], by rw [if_neg a1, if_pos a2]⟩
      · exact ⟨k.toNat, by omega, rfl, by rw [if_neg a1, if_neg a2]; omega⟩
  have a3 : (m : Int) ≤ c.length := by omega
  have a4 : (0 : Int) ≤ m := by omega
  rw [← hm2] at hK
  have tail : ∀ (id : Nat) (hid : id ∉ H.keys) (hn2 : (Heap.keys ((id, .spare 0) :: H)).Nodup) (t1 : Tok) (K' : Kv), (∀ t' H', H'.Perm (tokH t' ++ H) → H'.keys.Nodup → K'.ap (.sl (bytesAV (c.take m)) t') H') →
      xE (t := t0 P) (.app 1 1) [.sl [] (.at id 0 1), .sl (bytesAV (c.take m)) t1] ((id, .spare 0) :: H) (K := K') := by
    intro id hid hn2 t1 K' hK'
    refine i_app (A := []) (R := H) (tk := .at id 0 1) (xs := []) (ys := bytesAV (c.take m)) (.refl _) hn2 rfl (.inl ⟨_, rfl⟩) (by rw [by_all]; trivial) (by rw [allSz_nil]; trivial) ?_ ?_ fun t2 H2 g2 p2 n2 => hK' t2 H2 p2 n2
    · simp only [by_len, List.length_nil, List.length_take, maxLen_eq]; omega
    · simp only [by_len, List.length_nil, List.length_take]; omega
  by_cases a1 : k < 0
  · have e : m = 0 := by rw [if_pos a1] at hm3; omega
    subst e
    simp (implicitDefEqProofs := false) only [sB0, sB1, sB2, sB3, sB4, sB5, sB6, sB7, sB8, sB9, sB10, sB11, sB12, sB13, sB14, sB15, sB16, sB17, sB18, sB19, noOb, AV.cells, AV.kindN, AV.undef, fillL, splice, isU8, lookH, setH, renH, othK, Heap.keys, foundA, if_true, if_false, ↓reduceIte, Nat.reduceEqDiff, Nat.reduceLeDiff, Nat.reduceAdd, Nat.reduceMul, Nat.reduceSub, Nat.reduceLT, Nat.reduceBNe, Nat.reduceBEq, Int.reduceToNat, Int.reduceLT, Int.reduceLE, Int.reduceAdd, Int.reduceSub, Int.reduceMul, Int.reduceEq, Int.reduceNeg, true_and, and_true, false_and, and_false, ne_eq, not_true_eq_false, not_false_eq_true, true_or, or_true, false_or, or_false, eq_self, reduceCtorEq, exists_eq_left, exists_eq_left', UInt8.reduceOfNat, UInt8.reduceToNat, not_or, Int.reduceMod, Int.reduceTMod, Int.reduceTDiv, Nat.reduceMod, bytesOf, gt_iff_lt, ge_iff_le, and_self, f34, hl', a1]
    by_cases a5 : (c.length : Int) < 0
    · omega
    · simp (implicitDefEqProofs := false) only [sB0, sB1, sB2, sB3, sB4, sB5, sB6, sB7, sB8, sB9, sB10, sB11, sB12, sB13, sB14, sB15, sB16, sB17, sB18, sB19, noOb, AV.cells, AV.kindN, AV.undef, fillL, splice, isU8, lookH, setH, renH, othK, Heap.keys, foundA, if_true, if_false, ↓reduceIte, Nat.reduceEqDiff, Nat.reduceLeDiff, Nat.reduceAdd, Nat.reduceMul, Nat.reduceSub, Nat.reduceLT, Nat.reduceBNe, Nat.reduceBEq, Int.reduceToNat, Int.reduceLT, Int.reduceLE, Int.reduceAdd, Int.reduceSub, Int.reduceMul, Int.reduceEq, Int.reduceNeg, true_and, and_true, false_and, and_false, ne_eq, not_true_eq_false, not_false_eq_true, true_or, or_true, false_or, or_false, eq_self, reduceCtorEq, exists_eq_left, exists_eq_left', UInt8.reduceOfNat, UInt8.reduceToNat, not_or, Int.reduceMod, Int.reduceTMod, Int.reduceTDiv, Nat.reduceMod, bytesOf, gt_iff_lt, ge_iff_le, and_self, a5, hl']
      refine i_emp hn fun id hid hn2 => ?_
      simp (implicitDefEqProofs := false) only [sB0, sB1, sB2, sB3, sB4, sB5, sB6, sB7, sB8, sB9, sB10, sB11, sB12, sB13, sB14, sB15, sB16, sB17, sB18, sB19, noOb, AV.cells, AV.kindN, AV.undef, fillL, splice, isU8, lookH, setH, renH, othK, Heap.keys, foundA, if_true, if_false, ↓reduceIte, Nat.reduceEqDiff, Nat.reduceLeDiff, Nat.reduceAdd, Nat.reduceMul, Nat.reduceSub, Nat.reduceLT, Nat.reduceBNe, Nat.reduceBEq, Int.reduceToNat, Int.reduceLT, Int.reduceLE, Int.reduceAdd, Int.reduceSub, Int.reduceMul, Int.reduceEq, Int.reduceNeg, true_and, and_true, false_and, and_false, ne_eq, not_true_eq_false, not_false_eq_true, true_or, or_true, false_or, or_false, eq_self, reduceCtorEq, exists_eq_left, exists_eq_left', UInt8.reduceOfNat, UInt8.reduceToNat, not_or, Int.reduceMod, Int.reduceTMod, Int.reduceTDiv, Nat.reduceMod, bytesOf, gt_iff_lt, ge_iff_le, and_self, key id hid, hl']
      refine ⟨by omega, tail id hid hn2 _ _ fun t' H' p' n' => ?_⟩
      simp (implicitDefEqProofs := false) only [sB0, sB1, sB2, sB3, sB4, sB5, sB6, sB7, sB8, sB9, sB10, sB11, sB12, sB13, sB14, sB15, sB16, sB17, sB18, sB19, noOb, AV.cells, AV.kindN, AV.undef, fillL, splice, isU8, lookH, setH, renH, othK, Heap.keys, foundA, if_true, if_false, ↓reduceIte, Nat.reduceEqDiff, Nat.reduceLeDiff, Nat.reduceAdd, Nat.reduceMul, Nat.reduceSub, Nat.reduceLT, Nat.reduceBNe, Nat.reduceBEq, Int.reduceToNat, Int.reduceLT, Int.reduceLE, Int.reduceAdd, Int.reduceSub, Int.reduceMul, Int.reduceEq, Int.reduceNeg, true_and, and_true, false_and, and_false, ne_eq, not_true_eq_false, not_false_eq_true, true_or, or_true, false_or, or_false, eq_self, reduceCtorEq, exists_eq_left, exists_eq_left', UInt8.reduceOfNat, UInt8.reduceToNat, not_or, Int.reduceMod, Int.reduceTMod, Int.reduceTDiv, Nat.reduceMod, bytesOf, gt_iff_lt, ge_iff_le, and_self]
      exact hK t' H' p' n'
  · by_cases a2 : (c.length : Int) < k
    · have e : m = c.length := by rw [if_neg a1, if_pos a2] at hm3; omega
      subst e
      simp (implicitDefEqProofs := false) only [sB0, sB1, sB2, sB3, sB4, sB5, sB6, sB7, sB8, sB9, sB10, sB11, sB12, sB13, sB14, sB15, sB16, sB17, sB18, sB19, noOb, AV.cells, AV.kindN, AV.undef, fillL, splice, isU8, lookH, setH, renH, othK, Heap.keys, foundA, if_true, if_false, ↓reduceIte, Nat.reduceEqDiff, Nat.reduceLeDiff, Nat.reduceAdd, Nat.reduceMul, Nat.reduceSub, Nat.reduceLT, Nat.reduceBNe, Nat.reduceBEq, Int.reduceToNat, Int.reduceLT, Int.reduceLE, Int.reduceAdd, Int.reduceSub, Int.reduceMul, Int.reduceEq, Int.reduceNeg, true_and, and_true, false_and, and_false, ne_eq, not_true_eq_false, not_false_eq_true, true_or, or_true, false_or, or_false, eq_self, reduceCtorEq, exists_eq_left, exists_eq_left', UInt8.reduceOfNat, UInt8.reduceToNat, not_or, Int.reduceMod, Int.reduceTMod, Int.reduceTDiv, Nat.reduceMod, bytesOf, gt_iff_lt, ge_iff_le, and_self, f34, hl', a1, a2]
      refine i_emp hn fun id hid hn2 => ?_
      simp (implicitDefEqProofs := false) only [sB0, sB1, sB2, sB3, sB4, sB5, sB6, sB7, sB8, sB9, sB10, sB11, sB12, sB13, sB14, sB15, sB16, sB17, sB18, sB19, noOb, AV.cells, AV.kindN, AV.undef, fillL, splice, isU8, lookH, setH, renH, othK, Heap.keys, foundA, if_true, if_false, ↓reduceIte, Nat.reduceEqDiff, Nat.reduceLeDiff, Nat.reduceAdd, Nat.reduceMul, Nat.reduceSub, Nat.reduceLT, Nat.reduceBNe, Nat.reduceBEq, Int.reduceToNat, Int.reduceLT, Int.reduceLE, Int.reduceAdd, Int.reduceSub, Int.reduceMul, Int.reduceEq, Int.reduceNeg, true_and, and_true, false_and, and_false, ne_eq, not_true_eq_false, not_false_eq_true, true_or, or_true, false_or, or_false, eq_self, reduceCtorEq, exists_eq_left, exists_eq_left', UInt8.reduceOfNat, UInt8.reduceToNat, not_or, Int.reduceMod, Int.reduceTMod, Int.reduceTDiv, Nat.reduceMod, bytesOf, gt_iff_lt, ge_iff_le, and_self, key id hid, hl']
      refine ⟨by omega, ?_⟩
      have := tail id hid hn2
      rw [List.take_length] at this hK
      refine this _ _ fun t' H' p' n' => ?_
      simp (implicitDefEqProofs := false) only [sB0, sB1, sB2, sB3, sB4, sB5, sB6, sB7, sB8, sB9, sB10, sB11, sB12, sB13, sB14, sB15, sB16, sB17, sB18, sB19, noOb, AV.cells, AV.kindN, AV.undef, fillL, splice, isU8, lookH, setH, renH, othK, Heap.keys, foundA, if_true, if_false, ↓reduceIte, Nat.reduceEqDiff, Nat.reduceLeDiff, Nat.reduceAdd, Nat.reduceMul, Nat.reduceSub, Nat.reduceLT, Nat.reduceBNe, Nat.reduceBEq, Int.reduceToNat, Int.reduceLT, Int.reduceLE, Int.reduceAdd, Int.reduceSub, Int.reduceMul, Int.reduceEq, Int.reduceNeg, true_and, and_true, false_and, and_false, ne_eq, not_true_eq_false, not_false_eq_true, true_or, or_true, false_or, or_false, eq_self, reduceCtorEq, exists_eq_left, exists_eq_left', UInt8.reduceOfNat, UInt8.reduceToNat, not_or, Int.reduceMod, Int.reduceTMod, Int.reduceTDiv, Nat.reduceMod, bytesOf, gt_iff_lt, ge_iff_le, and_self]
      exact hK t' H' p' n'
    · have e : k = m := by rw [if_neg a1, if_neg a2] at hm3; omega
      subst e
      simp (implicitDefEqProofs := false) only [sB0, sB1, sB2, sB3, sB4, sB5, sB6, sB7, sB8, sB9, sB10, sB11, sB12, sB13, sB14, sB15, sB16, sB17, sB18, sB19, noOb, AV.cells, AV.kindN, AV.undef, fillL, splice, isU8, lookH, setH, renH, othK, Heap.keys, foundA, if_true, if_false, ↓reduceIte, Nat.reduceEqDiff, Nat.reduceLeDiff, Nat.reduceAdd, Nat.reduceMul, Nat.reduceSub, Nat.reduceLT, Nat.reduceBNe, Nat.reduceBEq, Int.reduceToNat, Int.reduceLT, Int.reduceLE, Int.reduceAdd, Int.reduceSub, Int.reduceMul, Int.reduceEq, Int.reduceNeg, true_and, and_true, false_and, and_false, ne_eq, not_true_eq_false, not_false_eq_true, true_or, or_true, false_or, or_false, eq_self, reduceCtorEq, exists_eq_left, exists_eq_left', UInt8.reduceOfNat, UInt8.reduceToNat, not_or, Int.reduceMod, Int.reduceTMod, Int.reduceTDiv, Nat.reduceMod, bytesOf, gt_iff_lt, ge_iff_le, and_self, f34, hl', a1, a2]
      refine i_emp hn fun id hid hn2 => ?_
      simp (implicitDefEqProofs := false) only [sB0, sB1, sB2, sB3, sB4, sB5, sB6, sB7, sB8, sB9, sB10, sB11, sB12, sB13, sB14, sB15, sB16, sB17, sB18, sB19, noOb, AV.cells, AV.kindN, AV.undef, fillL, splice, isU8, lookH, setH, renH, othK, Heap.keys, foundA, if_true, if_false, ↓reduceIte, Nat.reduceEqDiff, Nat.reduceLeDiff, Nat.reduceAdd, Nat.reduceMul, Nat.reduceSub, Nat.reduceLT, Nat.reduceBNe, Nat.reduceBEq, Int.reduceToNat, Int.reduceLT, Int.reduceLE, Int.reduceAdd, Int.reduceSub, Int.reduceMul, Int.reduceEq, Int.reduceNeg, true_and, and_true, false_and, and_false, ne_eq, not_true_eq_false, not_false_eq_true, true_or, or_true, false_or, or_false, eq_self, reduceCtorEq, exists_eq_left, exists_eq_left', UInt8.reduceOfNat, UInt8.reduceToNat, not_or, Int.reduceMod, Int.reduceTMod, Int.reduceTDiv, Nat.reduceMod, bytesOf, gt_iff_lt, ge_iff_le, and_self, key id hid, hl']
      refine ⟨⟨by omega, by omega⟩, tail id hid hn2 _ _ fun t' H' p' n' => ?_⟩
      simp (implicitDefEqProofs := false) only [sB0, sB1, sB2, sB3, sB4, sB5, sB6, sB7, sB8, sB9, sB10, sB11, sB12, sB13, sB14, sB15, sB16, sB17, sB18, sB19, noOb, AV.cells, AV.kindN, AV.undef, fillL, splice, isU8, lookH, setH, renH, othK, Heap.keys, foundA, if_true, if_false, ↓reduceIte, Nat.reduceEqDiff, Nat.reduceLeDiff, Nat.reduceAdd, Nat.reduceMul, Nat.reduceSub, Nat.reduceLT, Nat.reduceBNe, Nat.reduceBEq, Int.reduceToNat, Int.reduceLT, Int.reduceLE, Int.reduceAdd, Int.reduceSub, Int.reduceMul, Int.reduceEq, Int.reduceNeg, true_and, and_true, false_and, and_false, ne_eq, not_true_eq_false, not_false_eq_true, true_or, or_true, false_or, or_false, eq_self, reduceCtorEq, exists_eq_left, exists_eq_left', UInt8.reduceOfNat, UInt8.reduceToNat, not_or, Int.reduceMod, Int.reduceTMod, Int.reduceTDiv, Nat.reduceMod, bytesOf, gt_iff_lt, ge_iff_le, and_self]
      exact hK t' H' p' n'
theorem p35_of {xs : List AV} {H : Heap} {K : Kv} (h : p35 xs H K) : @xF (t0 P) f35 xs H K := by
  obtain ⟨q, c, t, cap, k, rfl, hl, hn, l1, l2, h1, h2⟩ := h
  have hl' := hl
  simp only [qC] at hl'
  have key : ∀ (id : Nat) (_ : id ∉ H.keys), ¬ q = id := fun id hid e => hid (by rw [← e]; exact List.mem_map.2 ⟨_, lookH_mem hl, rfl⟩)
  by_cases a1 : k < 0
  · simp (implicitDefEqProofs := false) only [sB0, sB1, sB2, sB3, sB4, sB5, sB6, sB7, sB8, sB9, sB10, sB11, sB12, sB13, sB14, sB15, sB16, sB17, sB18, sB19, noOb, AV.cells, AV.kindN, AV.undef, fillL, splice, isU8, lookH, setH, renH, othK, Heap.keys, foundA, if_true, if_false, ↓reduceIte, Nat.reduceEqDiff, Nat.reduceLeDiff, Nat.reduceAdd, Nat.reduceMul, Nat.reduceSub, Nat.reduceLT, Nat.reduceBNe, Nat.reduceBEq, Int.reduceToNat, Int.reduceLT, Int.reduceLE, Int.reduceAdd, Int.reduceSub, Int.reduceMul, Int.reduceEq, Int.reduceNeg, true_and, and_true, false_and, and_false, ne_eq, not_true_eq_false, not_false_eq_true, true_or, or_true, false_or, or_false, eq_self, reduceCtorEq, exists_eq_left, exists_eq_left', UInt8.reduceOfNat, UInt8.reduceToNat, not_or, Int.reduceMod, Int.reduceTMod, Int.reduceTDiv, Nat.reduceMod, bytesOf, gt_iff_lt, ge_iff_le, and_self, f35, hl', a1]
    exact h1 (.inl a1)
  · by_cases a2 : (c.length : Int) < k
    · simp (implicitDefEqProofs := false) only [sB0, sB1, sB2, sB3, sB4, sB5, sB6, sB7, sB8, sB9, sB10, sB11, sB12, sB13, sB14, sB15, sB16, sB17, sB18, sB19, noOb, AV.cells, AV.kindN, AV.undef, fillL, splice, isU8, lookH, setH, renH, othK, Heap.keys, foundA, if_true, if_false, ↓reduceIte, Nat.reduceEqDiff, Nat.reduceLeDiff, Nat.reduceAdd, Nat.reduceMul, Nat.reduceSub, Nat.reduceLT, Nat.reduceBNe, Nat.reduceBEq, Int.reduceToNat, Int.reduceLT, Int.reduceLE, Int.reduceAdd, Int.reduceSub, Int.reduceMul, Int.reduceEq, Int.reduceNeg, true_and, and_true, false_and, and_false, ne_eq, not_true_eq_false, not_false_eq_true, true_or, or_true, false_or, or_false, eq_self, reduceCtorEq, exists_eq_left, exists_eq_left', UInt8.reduceOfNat, UInt8.reduceToNat, not_or, Int.reduceMod, Int.reduceTMod, Int.reduceTDiv, Nat.reduceMod, bytesOf, gt_iff_lt, ge_iff_le, and_self, f35, hl', a1, a2]
      exact h1 (.inr a2)
    · simp (implicitDefEqProofs := false) only [sB0, sB1, sB2, sB3, sB4, sB5, sB6, sB7, sB8, sB9, sB10, sB11, sB12, sB13, sB14, sB15, sB16, sB17, sB18, sB19, noOb, AV.cells, AV.kindN, AV.undef, fillL, splice, isU8, lookH, setH, renH, othK, Heap.keys, foundA, if_true, if_false, ↓reduceIte, Nat.reduceEqDiff, Nat.reduceLeDiff, Nat.reduceAdd, Nat.reduceMul, Nat.reduceSub, Nat.reduceLT, Nat.reduceBNe, Nat.reduceBEq, Int.reduceToNat, Int.reduceLT, Int.reduceLE, Int.reduceAdd, Int.reduceSub, Int.reduceMul, Int.reduceEq, Int.reduceNeg, true_and, and_true, false_and, and_false, ne_eq, not_true_eq_false, not_false_eq_true, true_or, or_true, false_or, or_false, eq_self, reduceCtorEq, exists_eq_left, exists_eq_left', UInt8.reduceOfNat, UInt8.reduceToNat, not_or, Int.reduceMod, Int.reduceTMod, Int.reduceTDiv, Nat.reduceMod, bytesOf, gt_iff_lt, ge_iff_le, and_self, f35, hl', a1, a2]
      refine i_emp hn fun id hid hn2 => ?_
      simp (implicitDefEqProofs := false) only [sB0, sB1, sB2, sB3, sB4, sB5, sB6, sB7, sB8, sB9, sB10, sB11, sB12, sB13, sB14, sB15, sB16, sB17, sB18, sB19, noOb, AV.cells, AV.kindN, AV.undef, fillL, splice, isU8, lookH, setH, renH, othK, Heap.keys, foundA, if_true, if_false, ↓reduceIte, Nat.reduceEqDiff, Nat.reduceLeDiff, Nat.reduceAdd, Nat.reduceMul, Nat.reduceSub, Nat.reduceLT, Nat.reduceBNe, Nat.reduceBEq, Int.reduceToNat, Int.reduceLT, Int.reduceLE, Int.reduceAdd, Int.reduceSub, Int.reduceMul, Int.reduceEq, Int.reduceNeg, true_and, and_true, false_and, and_false, ne_eq, not_true_eq_false, not_false_eq_true, true_or, or_true, false_or, or_false, eq_self, reduceCtorEq, exists_eq_left, exists_eq_left', UInt8.reduceOfNat, UInt8.reduceToNat, not_or, Int.reduceMod, Int.reduceTMod, Int.reduceTDiv, Nat.reduceMod, bytesOf, gt_iff_lt, ge_iff_le, and_self, key id hid, hl']
      refine ⟨⟨by omega, by omega⟩, ?_⟩
      refine i_app (A := []) (R := H) (tk := .at id 0 1) (xs := []) (ys := bytesAV (c.drop k.toNat)) (.refl _) hn2 rfl (.inl ⟨_, rfl⟩) (by rw [by_all]; trivial) (by rw [allSz_nil]; trivial) ?_ ?_ fun t2 H2 g2 p2 n2 => ?_
      · simp only [by_len, List.length_nil, List.length_drop, maxLen_eq]; omega
      · simp only [by_len, List.length_nil, List.length_drop]; omega
      · have hl2 := look_mem (X := tokH t2) p2 n2 hl'
        simp (implicitDefEqProofs := false) only [sB0, sB1, sB2, sB3, sB4, sB5, sB6, sB7, sB8, sB9, sB10, sB11, sB12, sB13, sB14, sB15, sB16, sB17, sB18, sB19, noOb, AV.cells, AV.kindN, AV.undef, fillL, splice, isU8, lookH, setH, renH, othK, Heap.keys, foundA, if_true, if_false, ↓reduceIte, Nat.reduceEqDiff, Nat.reduceLeDiff, Nat.reduceAdd, Nat.reduceMul, Nat.reduceSub, Nat.reduceLT, Nat.reduceBNe, Nat.reduceBEq, Int.reduceToNat, Int.reduceLT, Int.reduceLE, Int.reduceAdd, Int.reduceSub, Int.reduceMul, Int.reduceEq, Int.reduceNeg, true_and, and_true, false_and, and_false, ne_eq, not_true_eq_false, not_false_eq_true, true_or, or_true, false_or, or_false, eq_self, reduceCtorEq, exists_eq_left, exists_eq_left', UInt8.reduceOfNat, UInt8.reduceToNat, not_or, Int.reduceMod, Int.reduceTMod, Int.reduceTDiv, Nat.reduceMod, bytesOf, gt_iff_lt, ge_iff_le, and_self, hl2]
        exact h2 (by omega) (by omega) t2 (tokH t2) (setH q (qC (c.drop k.toNat) t2 cap) H2) (set_mem (X := tokH t2) _ p2 n2 hl) (set_nodup _ n2)
end
end Go.AL.Fun
