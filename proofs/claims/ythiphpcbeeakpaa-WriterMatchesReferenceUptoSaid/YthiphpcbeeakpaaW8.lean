/- The writer's reference. -/
import Derived.Test.YthiphpcbeeakpaaW7
set_option linter.unusedSimpArgs false
set_option maxRecDepth 100000
namespace Go.AL.Fun
open Go Go.AL

structure MS where
  S : List Int
  B : List UInt8
  calls : Nat
  failed : Bool
def mC (s : MS) (t1 t2 : Tok) : AObj := .cells [.sl (intsAV s.S) t1, .sl (bytesAV s.B) t2, .int .i64 s.calls, .bool s.failed]
def mH (p : Nat) (s : MS) (t1 t2 : Tok) (R : Heap) : Heap := (p, mC s t1 t2) :: (tokH t1 ++ (tokH t2 ++ R))
def MS.write (s : MS) (x : List UInt8) : MS × Int × Int :=
  if s.failed = true then (s, 0, 9) else
  match s.S[s.calls]? with
  | none => (s, 0, 10)
  | some n => if n < 0 then ({ s with calls := s.calls + 1, failed := true }, 0, 9)
    else ({ s with calls := s.calls + 1, B := s.B ++ x.take n.toNat }, min n.toNat x.length, 0)

theorem mnew_spec (P : Program) {l : List Int} {tok : Tok} {H : Heap} (hn : H.keys.Nodup) (hl : l.length ≤ 1099511627776) (K : Kv)
    (hK : ∀ p t H', GT (intsAV l) t → H'.Perm (mH p ⟨l, [], 0, false⟩ t .nil H) → H'.keys.Nodup → K.ap (.ptr p 0) H') : @xF (t0 P) f36 [.sl (intsAV l) tok] H K := by
  simp (implicitDefEqProofs := false) only [sB0, sB1, sB2, sB3, sB4, sB5, sB6, sB7, sB8, sB9, sB10, sB11, sB12, sB13, sB14, sB15, sB16, sB17, sB18, sB19, noOb, AV.cells, AV.kindN, AV.undef, fillL, splice, isU8, lookH, setH, renH, othK, Heap.keys, foundA, if_true, if_false, ↓reduceIte, Nat.reduceEqDiff, Nat.reduceLeDiff, Nat.reduceAdd, Nat.reduceMul, Nat.reduceSub, Nat.reduceLT, Nat.reduceBNe, Nat.reduceBEq, Int.reduceToNat, Int.reduceLT, Int.reduceLE, Int.reduceAdd, Int.reduceSub, Int.reduceMul, Int.reduceEq, Int.reduceNeg, true_and, and_true, false_and, and_false, ne_eq, not_true_eq_false, not_false_eq_true, true_or, or_true, false_or, or_false, eq_self, reduceCtorEq, exists_eq_left, exists_eq_left', UInt8.reduceOfNat, UInt8.reduceToNat, not_or, Int.reduceMod, Int.reduceTMod, Int.reduceTDiv, Nat.reduceMod, bytesOf, gt_iff_lt, ge_iff_le, and_self, f36]
  refine i_emp hn fun id hid hn2 => ?_
  simp (implicitDefEqProofs := false) only [sB0, sB1, sB2, sB3, sB4, sB5, sB6, sB7, sB8, sB9, sB10, sB11, sB12, sB13, sB14, sB15, sB16, sB17, sB18, sB19, noOb, AV.cells, AV.kindN, AV.undef, fillL, splice, isU8, lookH, setH, renH, othK, Heap.keys, foundA, if_true, if_false, ↓reduceIte, Nat.reduceEqDiff, Nat.reduceLeDiff, Nat.reduceAdd, Nat.reduceMul, Nat.reduceSub, Nat.reduceLT, Nat.reduceBNe, Nat.reduceBEq, Int.reduceToNat, Int.reduceLT, Int.reduceLE, Int.reduceAdd, Int.reduceSub, Int.reduceMul, Int.reduceEq, Int.reduceNeg, true_and, and_true, false_and, and_false, ne_eq, not_true_eq_false, not_false_eq_true, true_or, or_true, false_or, or_false, eq_self, reduceCtorEq, exists_eq_left, exists_eq_left', UInt8.reduceOfNat, UInt8.reduceToNat, not_or, Int.reduceMod, Int.reduceTMod, Int.reduceTDiv, Nat.reduceMod, bytesOf, gt_iff_lt, ge_iff_le, and_self]
  refine i_app (A := []) (R := H) (tk := .at id 0 1) (xs := []) (ys := intsAV l) (.refl _) hn2 rfl (.inl ⟨_, rfl⟩) (by rw [ints_all]; trivial) (by rw [allSz_nil]; trivial) ?_ ?_ fun t H' h1 h2 h3 => ?_
  · simp only [ints_len, List.length_nil, maxLen_eq]; omega
  · simp only [ints_len, List.length_nil]; omega
  · simp (implicitDefEqProofs := false) only [sB0, sB1, sB2, sB3, sB4, sB5, sB6, sB7, sB8, sB9, sB10, sB11, sB12, sB13, sB14, sB15, sB16, sB17, sB18, sB19, noOb, AV.cells, AV.kindN, AV.undef, fillL, splice, isU8, lookH, setH, renH, othK, Heap.keys, foundA, if_true, if_false, ↓reduceIte, Nat.reduceEqDiff, Nat.reduceLeDiff, Nat.reduceAdd, Nat.reduceMul, Nat.reduceSub, Nat.reduceLT, Nat.reduceBNe, Nat.reduceBEq, Int.reduceToNat, Int.reduceLT, Int.reduceLE, Int.reduceAdd, Int.reduceSub, Int.reduceMul, Int.reduceEq, Int.reduceNeg, true_and, and_true, false_and, and_false, ne_eq, not_true_eq_false, not_false_eq_true, true_or, or_true, false_or, or_false, eq_self, reduceCtorEq, exists_eq_left, exists_eq_left', UInt8.reduceOfNat, UInt8.reduceToNat, not_or, Int.reduceMod, Int.reduceTMod, Int.reduceTDiv, Nat.reduceMod, bytesOf, gt_iff_lt, ge_iff_le, and_self]
    refine i_new fun p hp => ?_
    simp (implicitDefEqProofs := false) only [sB0, sB1, sB2, sB3, sB4, sB5, sB6, sB7, sB8, sB9, sB10, sB11, sB12, sB13, sB14, sB15, sB16, sB17, sB18, sB19, noOb, AV.cells, AV.kindN, AV.undef, fillL, splice, isU8, lookH, setH, renH, othK, Heap.keys, foundA, if_true, if_false, ↓reduceIte, Nat.reduceEqDiff, Nat.reduceLeDiff, Nat.reduceAdd, Nat.reduceMul, Nat.reduceSub, Nat.reduceLT, Nat.reduceBNe, Nat.reduceBEq, Int.reduceToNat, Int.reduceLT, Int.reduceLE, Int.reduceAdd, Int.reduceSub, Int.reduceMul, Int.reduceEq, Int.reduceNeg, true_and, and_true, false_and, and_false, ne_eq, not_true_eq_false, not_false_eq_true, true_or, or_true, false_or, or_false, eq_self, reduceCtorEq, exists_eq_left, exists_eq_left', UInt8.reduceOfNat, UInt8.reduceToNat, not_or, Int.reduceMod, Int.reduceTMod, Int.reduceTDiv, Nat.reduceMod, bytesOf, gt_iff_lt, ge_iff_le, and_self]
    exact hK p t _ h1 (h2.cons _) (List.nodup_cons.2 ⟨hp, h3⟩)

theorem mext_spec (P : Program) {p : Nat} {s : MS} {t1 t2 tok : Tok} {l : List Int} {H R : Heap} (hp : H.Perm (mH p s t1 t2 R)) (hn : H.keys.Nodup) (hb : s.S.length + l.length ≤ 1099511627776) (K : Kv)
    (hK : ∀ t1' G H', GT (intsAV (s.S ++ l)) t1' → H'.Perm (mH p { s with S := s.S ++ l } t1' t2 (G ++ R)) → H'.keys.Nodup → K.ap (.tup []) H') : @xF (t0 P) f37 [.ptr p 0, .sl (intsAV l) tok] H K := by
  have hl := look_head hp hn
  simp (implicitDefEqProofs := false) only [sB0, sB1, sB2, sB3, sB4, sB5, sB6, sB7, sB8, sB9, sB10, sB11, sB12, sB13, sB14, sB15, sB16, sB17, sB18, sB19, noOb, AV.cells, AV.kindN, AV.undef, fillL, splice, isU8, lookH, setH, renH, othK, Heap.keys, foundA, if_true, if_false, ↓reduceIte, Nat.reduceEqDiff, Nat.reduceLeDiff, Nat.reduceAdd, Nat.reduceMul, Nat.reduceSub, Nat.reduceLT, Nat.reduceBNe, Nat.reduceBEq, Int.reduceToNat, Int.reduceLT, Int.reduceLE, Int.reduceAdd, Int.reduceSub, Int.reduceMul, Int.reduceEq, Int.reduceNeg, true_and, and_true, false_and, and_false, ne_eq, not_true_eq_false, not_false_eq_true, true_or, or_true, false_or, or_false, eq_self, reduceCtorEq, exists_eq_left, exists_eq_left', UInt8.reduceOfNat, UInt8.reduceToNat, not_or, Int.reduceMod, Int.reduceTMod, Int.reduceTDiv, Nat.reduceMod, bytesOf, gt_iff_lt, ge_iff_le, and_self, f37, hl, mC]
  refine i_emp hn fun id hid hn2 => ?_
  have hpi : ¬ p = id := fun e => hid (by rw [← e]; exact List.mem_map.2 ⟨_, lookH_mem hl, rfl⟩)
  simp (implicitDefEqProofs := false) only [sB0, sB1, sB2, sB3, sB4, sB5, sB6, sB7, sB8, sB9, sB10, sB11, sB12, sB13, sB14, sB15, sB16, sB17, sB18, sB19, noOb, AV.cells, AV.kindN, AV.undef, fillL, splice, isU8, lookH, setH, renH, othK, Heap.keys, foundA, if_true, if_false, ↓reduceIte, Nat.reduceEqDiff, Nat.reduceLeDiff, Nat.reduceAdd, Nat.reduceMul, Nat.reduceSub, Nat.reduceLT, Nat.reduceBNe, Nat.reduceBEq, Int.reduceToNat, Int.reduceLT, Int.reduceLE, Int.reduceAdd, Int.reduceSub, Int.reduceMul, Int.reduceEq, Int.reduceNeg, true_and, and_true, false_and, and_false, ne_eq, not_true_eq_false, not_false_eq_true, true_or, or_true, false_or, or_false, eq_self, reduceCtorEq, exists_eq_left, exists_eq_left', UInt8.reduceOfNat, UInt8.reduceToNat, not_or, Int.reduceMod, Int.reduceTMod, Int.reduceTDiv, Nat.reduceMod, bytesOf, gt_iff_lt, ge_iff_le, and_self, hpi, hl, mC]
  refine i_app (A := [(p, mC s t1 t2)]) (R := tokH t1 ++ (tokH t2 ++ R)) (tk := .at id 0 1) (xs := []) (ys := intsAV s.S) ((hp.cons _).trans (.swap _ _ _)) hn2 rfl (.inl ⟨_, rfl⟩) (by rw [ints_all]; trivial) (by rw [allSz_nil]; trivial) ?_ ?_ fun t3 H3 g3 p3 n3 => ?_
  · simp only [ints_len, List.length_nil, maxLen_eq]; omega
  · simp only [ints_len, List.length_nil]; omega
  · simp (implicitDefEqProofs := false) only [sB0, sB1, sB2, sB3, sB4, sB5, sB6, sB7, sB8, sB9, sB10, sB11, sB12, sB13, sB14, sB15, sB16, sB17, sB18, sB19, noOb, AV.cells, AV.kindN, AV.undef, fillL, splice, isU8, lookH, setH, renH, othK, Heap.keys, foundA, if_true, if_false, ↓reduceIte, Nat.reduceEqDiff, Nat.reduceLeDiff, Nat.reduceAdd, Nat.reduceMul, Nat.reduceSub, Nat.reduceLT, Nat.reduceBNe, Nat.reduceBEq, Int.reduceToNat, Int.reduceLT, Int.reduceLE, Int.reduceAdd, Int.reduceSub, Int.reduceMul, Int.reduceEq, Int.reduceNeg, true_and, and_true, false_and, and_false, ne_eq, not_true_eq_false, not_false_eq_true, true_or, or_true, false_or, or_false, eq_self, reduceCtorEq, exists_eq_left, exists_eq_left', UInt8.reduceOfNat, UInt8.reduceToNat, not_or, Int.reduceMod, Int.reduceTMod, Int.reduceTDiv, Nat.reduceMod, bytesOf, gt_iff_lt, ge_iff_le, and_self]
    refine i_app (A := [(p, mC s t1 t2)]) (R := tokH t1 ++ (tokH t2 ++ R)) (tk := t3) (xs := intsAV s.S) (ys := intsAV l) p3 n3 g3 (.inl ⟨_, rfl⟩) (by rw [ints_all]; trivial) (by rw [ints_all]; trivial) ?_ ?_ fun t4 H4 g4 p4 n4 => ?_
    · simp only [ints_len, maxLen_eq]; omega
    · simp only [ints_len]; omega
    · have hl4 := look_head p4 n4
      rw [ints_app] at g4 ⊢
      simp (implicitDefEqProofs := false) only [sB0, sB1, sB2, sB3, sB4, sB5, sB6, sB7, sB8, sB9, sB10, sB11, sB12, sB13, sB14, sB15, sB16, sB17, sB18, sB19, noOb, AV.cells, AV.kindN, AV.undef, fillL, splice, isU8, lookH, setH, renH, othK, Heap.keys, foundA, if_true, if_false, ↓reduceIte, Nat.reduceEqDiff, Nat.reduceLeDiff, Nat.reduceAdd, Nat.reduceMul, Nat.reduceSub, Nat.reduceLT, Nat.reduceBNe, Nat.reduceBEq, Int.reduceToNat, Int.reduceLT, Int.reduceLE, Int.reduceAdd, Int.reduceSub, Int.reduceMul, Int.reduceEq, Int.reduceNeg, true_and, and_true, false_and, and_false, ne_eq, not_true_eq_false, not_false_eq_true, true_or, or_true, false_or, or_false, eq_self, reduceCtorEq, exists_eq_left, exists_eq_left', UInt8.reduceOfNat, UInt8.reduceToNat, not_or, Int.reduceMod, Int.reduceTMod, Int.reduceTDiv, Nat.reduceMod, bytesOf, gt_iff_lt, ge_iff_le, and_self, hl4, mC]
      refine hK t4 (tokH t1) _ g4 ?_ (set_nodup _ n4)
      refine (set_head _ p4 n4).trans (.cons _ ?_)
      show (tokH t4 ++ (tokH t1 ++ (tokH t2 ++ R))).Perm _
      exact (List.perm_append_comm_assoc _ _ _).append_left _

theorem mwrite_spec (P : Program) {p : Nat} {s : MS} {t1 t2 tok : Tok} {x : List UInt8} {H R : Heap} (hp : H.Perm (mH p s t1 t2 R)) (hn : H.keys.Nodup)
    (hc : s.calls < 1099511627776) (hs : s.S.length ≤ 1099511627776) (hb : s.B.length + x.length ≤ 1099511627776) (hg : GT (bytesAV s.B) t2) (K : Kv)
    (hK : ∀ t2' G H', GT (bytesAV (s.write x).1.B) t2' → H'.Perm (mH p (s.write x).1 t1 t2' (G ++ R)) → H'.keys.Nodup → K.ap (.tup [.int .i64 (s.write x).2.1, .int .i64 (s.write x).2.2]) H') :
    @xF (t0 P) f38 [.ptr p 0, .sl (bytesAV x) tok] H K := by
  have hl := look_head hp hn
  obtain ⟨S, B, calls, failed⟩ := s
  cases failed with
  | true =>
    simp (implicitDefEqProofs := false) only [sB0, sB1, sB2, sB3, sB4, sB5, sB6, sB7, sB8, sB9, sB10, sB11, sB12, sB13, sB14, sB15, sB16, sB17, sB18, sB19, noOb, AV.cells, AV.kindN, AV.undef, fillL, splice, isU8, lookH, setH, renH, othK, Heap.keys, foundA, if_true, if_false, ↓reduceIte, Nat.reduceEqDiff, Nat.reduceLeDiff, Nat.reduceAdd, Nat.reduceMul, Nat.reduceSub, Nat.reduceLT, Nat.reduceBNe, Nat.reduceBEq, Int.reduceToNat, Int.reduceLT, Int.reduceLE, Int.reduceAdd, Int.reduceSub, Int.reduceMul, Int.reduceEq, Int.reduceNeg, true_and, and_true, false_and, and_false, ne_eq, not_true_eq_false, not_false_eq_true, true_or, or_true, false_or, or_false, eq_self, reduceCtorEq, exists_eq_left, exists_eq_left', UInt8.reduceOfNat, UInt8.reduceToNat, not_or, Int.reduceMod, Int.reduceTMod, Int.reduceTDiv, Nat.reduceMod, bytesOf, gt_iff_lt, ge_iff_le, and_self, f38, hl, mC]
    exact hK t2 [] _ hg hp hn
  | false =>
    simp only at hc hs hb
    rcases Nat.lt_or_ge calls S.length with c | c
    · have c1 : ¬ (S.length : Int) ≤ calls := by omega
      have e1 := w_i64 ((calls : Int) + 1) (by omega) (by omega)
      have hx : S[calls]? = some S[calls] := List.getElem?_eq_getElem c
      simp only [MS.write, hx] at hK
      by_cases c2 : S[calls] < 0
      · simp (implicitDefEqProofs := false) only [sB0, sB1, sB2, sB3, sB4, sB5, sB6, sB7, sB8, sB9, sB10, sB11, sB12, sB13, sB14, sB15, sB16, sB17, sB18, sB19, noOb, AV.cells, AV.kindN, AV.undef, fillL, splice, isU8, lookH, setH, renH, othK, Heap.keys, foundA, if_true, if_false, ↓reduceIte, Nat.reduceEqDiff, Nat.reduceLeDiff, Nat.reduceAdd, Nat.reduceMul, Nat.reduceSub, Nat.reduceLT, Nat.reduceBNe, Nat.reduceBEq, Int.reduceToNat, Int.reduceLT, Int.reduceLE, Int.reduceAdd, Int.reduceSub, Int.reduceMul, Int.reduceEq, Int.reduceNeg, true_and, and_true, false_and, and_false, ne_eq, not_true_eq_false, not_false_eq_true, true_or, or_true, false_or, or_false, eq_self, reduceCtorEq, exists_eq_left, exists_eq_left', UInt8.reduceOfNat, UInt8.reduceToNat, not_or, Int.reduceMod, Int.reduceTMod, Int.reduceTDiv, Nat.reduceMod, bytesOf, gt_iff_lt, ge_iff_le, and_self, f38, hl, mC, ints_len, c1, ints_get, hx, c2, e1]
        simp only [c2, if_true] at hK
        exact ⟨by omega, hK t2 [] _ hg (set_head _ hp hn) (set_nodup _ hn)⟩
      · obtain ⟨m, hm⟩ : ∃ m : Nat, m = min S[calls].toNat x.length := ⟨_, rfl⟩
        have hm5 : x.take m = x.take S[calls].toNat := by
          rw [hm]; rcases Nat.le_total S[calls].toNat x.length with h | h
          · rw [Nat.min_eq_left h]
          · rw [Nat.min_eq_right h, List.take_length, List.take_of_length_le h]
        simp only [c2, if_false] at hK
        rw [show min ((S[calls].toNat : Nat) : Int) (x.length : Int) = (m : Int) by omega] at hK
        by_cases c3 : (x.length : Int) < S[calls]
        · have m1 : m = x.length := by omega
          simp (implicitDefEqProofs := false) only [sB0, sB1, sB2, sB3, sB4, sB5, sB6, sB7, sB8, sB9, sB10, sB11, sB12, sB13, sB14, sB15, sB16, sB17, sB18, sB19, noOb, AV.cells, AV.kindN, AV.undef, fillL, splice, isU8, lookH, setH, renH, othK, Heap.keys, foundA, if_true, if_false, ↓reduceIte, Nat.reduceEqDiff, Nat.reduceLeDiff, Nat.reduceAdd, Nat.reduceMul, Nat.reduceSub, Nat.reduceLT, Nat.reduceBNe, Nat.reduceBEq, Int.reduceToNat, Int.reduceLT, Int.reduceLE, Int.reduceAdd, Int.reduceSub, Int.reduceMul, Int.reduceEq, Int.reduceNeg, true_and, and_true, false_and, and_false, ne_eq, not_true_eq_false, not_false_eq_true, true_or, or_true, false_or, or_false, eq_self, reduceCtorEq, exists_eq_left, exists_eq_left', UInt8.reduceOfNat, UInt8.reduceToNat, not_or, Int.reduceMod, Int.reduceTMod, Int.reduceTDiv, Nat.reduceMod, bytesOf, gt_iff_lt, ge_iff_le, and_self, f38, hl, mC, ints_len, c1, ints_get, hx, c2, e1, c3]
          refine ⟨by omega, by omega, i_emp (set_nodup _ hn) fun id hid hn2 => ?_⟩
          have hpi : ¬ p = id := fun e => hid (by rw [← e, show Heap.keys (renH p p _ H) = H.keys from keys_set p _ H]; exact List.mem_map.2 ⟨_, lookH_mem hl, rfl⟩)
          simp (implicitDefEqProofs := false) only [sB0, sB1, sB2, sB3, sB4, sB5, sB6, sB7, sB8, sB9, sB10, sB11, sB12, sB13, sB14, sB15, sB16, sB17, sB18, sB19, noOb, AV.cells, AV.kindN, AV.undef, fillL, splice, isU8, lookH, setH, renH, othK, Heap.keys, foundA, if_true, if_false, ↓reduceIte, Nat.reduceEqDiff, Nat.reduceLeDiff, Nat.reduceAdd, Nat.reduceMul, Nat.reduceSub, Nat.reduceLT, Nat.reduceBNe, Nat.reduceBEq, Int.reduceToNat, Int.reduceLT, Int.reduceLE, Int.reduceAdd, Int.reduceSub, Int.reduceMul, Int.reduceEq, Int.reduceNeg, true_and, and_true, false_and, and_false, ne_eq, not_true_eq_false, not_false_eq_true, true_or, or_true, false_or, or_false, eq_self, reduceCtorEq, exists_eq_left, exists_eq_left', UInt8.reduceOfNat, UInt8.reduceToNat, not_or, Int.reduceMod, Int.reduceTMod, Int.reduceTDiv, Nat.reduceMod, bytesOf, gt_iff_lt, ge_iff_le, and_self, hpi, hl, mC]
          refine i_app (A := [(p, mC ⟨S, B, calls + 1, false⟩ t1 t2)]) (R := tokH t1 ++ (tokH t2 ++ R)) (tk := .at id 0 1) (xs := []) (ys := bytesAV B) (((set_head _ hp hn).cons _).trans (.swap _ _ _)) hn2 rfl (.inl ⟨_, rfl⟩) (by rw [by_all]; trivial) (by rw [allSz_nil]; trivial) ?_ ?_ fun t3 H3 g3 p3 n3 => ?_
          · simp only [by_len, List.length_nil, maxLen_eq]; omega
          · simp only [by_len, List.length_nil]; omega
          · simp (implicitDefEqProofs := false) only [sB0, sB1, sB2, sB3, sB4, sB5, sB6, sB7, sB8, sB9, sB10, sB11, sB12, sB13, sB14, sB15, sB16, sB17, sB18, sB19, noOb, AV.cells, AV.kindN, AV.undef, fillL, splice, isU8, lookH, setH, renH, othK, Heap.keys, foundA, if_true, if_false, ↓reduceIte, Nat.reduceEqDiff, Nat.reduceLeDiff, Nat.reduceAdd, Nat.reduceMul, Nat.reduceSub, Nat.reduceLT, Nat.reduceBNe, Nat.reduceBEq, Int.reduceToNat, Int.reduceLT, Int.reduceLE, Int.reduceAdd, Int.reduceSub, Int.reduceMul, Int.reduceEq, Int.reduceNeg, true_and, and_true, false_and, and_false, ne_eq, not_true_eq_false, not_false_eq_true, true_or, or_true, false_or, or_false, eq_self, reduceCtorEq, exists_eq_left, exists_eq_left', UInt8.reduceOfNat, UInt8.reduceToNat, not_or, Int.reduceMod, Int.reduceTMod, Int.reduceTDiv, Nat.reduceMod, bytesOf, gt_iff_lt, ge_iff_le, and_self]
            refine i_app (A := [(p, mC ⟨S, B, calls + 1, false⟩ t1 t2)]) (R := tokH t1 ++ (tokH t2 ++ R)) (tk := t3) (xs := bytesAV B) (ys := bytesAV x) p3 n3 g3 (.inl ⟨_, rfl⟩) (by rw [by_all]; trivial) (by rw [by_all]; trivial) ?_ ?_ fun t4 H4 g4 p4 n4 => ?_
            · simp only [by_len, List.length_take, maxLen_eq]; omega
            · simp only [by_len, List.length_take]; omega
            · have hl4 := look_head p4 n4
              rw [by_app] at g4 ⊢
              simp (implicitDefEqProofs := false) only [sB0, sB1, sB2, sB3, sB4, sB5, sB6, sB7, sB8, sB9, sB10, sB11, sB12, sB13, sB14, sB15, sB16, sB17, sB18, sB19, noOb, AV.cells, AV.kindN, AV.undef, fillL, splice, isU8, lookH, setH, renH, othK, Heap.keys, foundA, if_true, if_false, ↓reduceIte, Nat.reduceEqDiff, Nat.reduceLeDiff, Nat.reduceAdd, Nat.reduceMul, Nat.reduceSub, Nat.reduceLT, Nat.reduceBNe, Nat.reduceBEq, Int.reduceToNat, Int.reduceLT, Int.reduceLE, Int.reduceAdd, Int.reduceSub, Int.reduceMul, Int.reduceEq, Int.reduceNeg, true_and, and_true, false_and, and_false, ne_eq, not_true_eq_false, not_false_eq_true, true_or, or_true, false_or, or_false, eq_self, reduceCtorEq, exists_eq_left, exists_eq_left', UInt8.reduceOfNat, UInt8.reduceToNat, not_or, Int.reduceMod, Int.reduceTMod, Int.reduceTDiv, Nat.reduceMod, bytesOf, gt_iff_lt, ge_iff_le, and_self, hl4, mC]
              have k1 := hK t4 (tokH t2) (setH p (mC ⟨S, B ++ x, calls + 1, false⟩ t1 t4) H4) (by rw [← hm5, show x.take m = x by rw [m1, List.take_length]]; exact g4) ?_ (set_nodup _ n4)
              · rw [m1] at k1; exact k1
              · rw [← hm5, show x.take m = x by rw [m1, List.take_length]]
                refine (set_head _ p4 n4).trans (.cons _ ?_)
                show (tokH t4 ++ (tokH t1 ++ (tokH t2 ++ R))).Perm _
                exact List.perm_append_comm_assoc _ _ _
        · simp (implicitDefEqProofs := false) only [sB0, sB1, sB2, sB3, sB4, sB5, sB6, sB7, sB8, sB9, sB10, sB11, sB12, sB13, sB14, sB15, sB16, sB17, sB18, sB19, noOb, AV.cells, AV.kindN, AV.undef, fillL, splice, isU8, lookH, setH, renH, othK, Heap.keys, foundA, if_true, if_false, ↓reduceIte, Nat.reduceEqDiff, Nat.reduceLeDiff, Nat.reduceAdd, Nat.reduceMul, Nat.reduceSub, Nat.reduceLT, Nat.reduceBNe, Nat.reduceBEq, Int.reduceToNat, Int.reduceLT, Int.reduceLE, Int.reduceAdd, Int.reduceSub, Int.reduceMul, Int.reduceEq, Int.reduceNeg, true_and, and_true, false_and, and_false, ne_eq, not_true_eq_false, not_false_eq_true, true_or, or_true, false_or, or_false, eq_self, reduceCtorEq, exists_eq_left, exists_eq_left', UInt8.reduceOfNat, UInt8.reduceToNat, not_or, Int.reduceMod, Int.reduceTMod, Int.reduceTDiv, Nat.reduceMod, bytesOf, gt_iff_lt, ge_iff_le, and_self, f38, hl, mC, ints_len, c1, ints_get, hx, c2, e1, c3]
          refine ⟨by omega, ⟨by omega, by omega⟩, i_emp (set_nodup _ hn) fun id hid hn2 => ?_⟩
          have hpi : ¬ p = id := fun e => hid (by rw [← e, show Heap.keys (renH p p _ H) = H.keys from keys_set p _ H]; exact List.mem_map.2 ⟨_, lookH_mem hl, rfl⟩)
          simp (implicitDefEqProofs := false) only [sB0, sB1, sB2, sB3, sB4, sB5, sB6, sB7, sB8, sB9, sB10, sB11, sB12, sB13, sB14, sB15, sB16, sB17, sB18, sB19, noOb, AV.cells, AV.kindN, AV.undef, fillL, splice, isU8, lookH, setH, renH, othK, Heap.keys, foundA, if_true, if_false, ↓reduceIte, Nat.reduceEqDiff, Nat.reduceLeDiff, Nat.reduceAdd, Nat.reduceMul, Nat.reduceSub, Nat.reduceLT, Nat.reduceBNe, Nat.reduceBEq, Int.reduceToNat, Int.reduceLT, Int.reduceLE, Int.reduceAdd, Int.reduceSub, Int.reduceMul, Int.reduceEq, Int.reduceNeg, true_and, and_true, false_and, and_false, ne_eq, not_true_eq_false, not_false_eq_true, true_or, or_true, false_or, or_false, eq_self, reduceCtorEq, exists_eq_left, exists_eq_left', UInt8.reduceOfNat, UInt8.reduceToNat, not_or, Int.reduceMod, Int.reduceTMod, Int.reduceTDiv, Nat.reduceMod, bytesOf, gt_iff_lt, ge_iff_le, and_self, hpi, hl, mC]
          refine i_app (A := [(p, mC ⟨S, B, calls + 1, false⟩ t1 t2)]) (R := tokH t1 ++ (tokH t2 ++ R)) (tk := .at id 0 1) (xs := []) (ys := bytesAV B) (((set_head _ hp hn).cons _).trans (.swap _ _ _)) hn2 rfl (.inl ⟨_, rfl⟩) (by rw [by_all]; trivial) (by rw [allSz_nil]; trivial) ?_ ?_ fun t3 H3 g3 p3 n3 => ?_
          · simp only [by_len, List.length_nil, maxLen_eq]; omega
          · simp only [by_len, List.length_nil]; omega
          · simp (implicitDefEqProofs := false) only [sB0, sB1, sB2, sB3, sB4, sB5, sB6, sB7, sB8, sB9, sB10, sB11, sB12, sB13, sB14, sB15, sB16, sB17, sB18, sB19, noOb, AV.cells, AV.kindN, AV.undef, fillL, splice, isU8, lookH, setH, renH, othK, Heap.keys, foundA, if_true, if_false, ↓reduceIte, Nat.reduceEqDiff, Nat.reduceLeDiff, Nat.reduceAdd, Nat.reduceMul, Nat.reduceSub, Nat.reduceLT, Nat.reduceBNe, Nat.reduceBEq, Int.reduceToNat, Int.reduceLT, Int.reduceLE, Int.reduceAdd, Int.reduceSub, Int.reduceMul, Int.reduceEq, Int.reduceNeg, true_and, and_true, false_and, and_false, ne_eq, not_true_eq_false, not_false_eq_true, true_or, or_true, false_or, or_false, eq_self, reduceCtorEq, exists_eq_left, exists_eq_left', UInt8.reduceOfNat, UInt8.reduceToNat, not_or, Int.reduceMod, Int.reduceTMod, Int.reduceTDiv, Nat.reduceMod, bytesOf, gt_iff_lt, ge_iff_le, and_self]
            refine i_app (A := [(p, mC ⟨S, B, calls + 1, false⟩ t1 t2)]) (R := tokH t1 ++ (tokH t2 ++ R)) (tk := t3) (xs := bytesAV B) (ys := bytesAV (List.take S[calls].toNat x)) p3 n3 g3 (.inl ⟨_, rfl⟩) (by rw [by_all]; trivial) (by rw [by_all]; trivial) ?_ ?_ fun t4 H4 g4 p4 n4 => ?_
            · simp only [by_len, List.length_take, maxLen_eq]; omega
            · simp only [by_len, List.length_take]; omega
            · have hl4 := look_head p4 n4
              rw [by_app] at g4 ⊢
              simp (implicitDefEqProofs := false) only [sB0, sB1, sB2, sB3, sB4, sB5, sB6, sB7, sB8, sB9, sB10, sB11, sB12, sB13, sB14, sB15, sB16, sB17, sB18, sB19, noOb, AV.cells, AV.kindN, AV.undef, fillL, splice, isU8, lookH, setH, renH, othK, Heap.keys, foundA, if_true, if_false, ↓reduceIte, Nat.reduceEqDiff, Nat.reduceLeDiff, Nat.reduceAdd, Nat.reduceMul, Nat.reduceSub, Nat.reduceLT, Nat.reduceBNe, Nat.reduceBEq, Int.reduceToNat, Int.reduceLT, Int.reduceLE, Int.reduceAdd, Int.reduceSub, Int.reduceMul, Int.reduceEq, Int.reduceNeg, true_and, and_true, false_and, and_false, ne_eq, not_true_eq_false, not_false_eq_true, true_or, or_true, false_or, or_false, eq_self, reduceCtorEq, exists_eq_left, exists_eq_left', UInt8.reduceOfNat, UInt8.reduceToNat, not_or, Int.reduceMod, Int.reduceTMod, Int.reduceTDiv, Nat.reduceMod, bytesOf, gt_iff_lt, ge_iff_le, and_self, hl4, mC]
              have k1 := hK t4 (tokH t2) (setH p (mC ⟨S, B ++ (List.take S[calls].toNat x), calls + 1, false⟩ t1 t4) H4) (by rw [← hm5, hm5]; exact g4) ?_ (set_nodup _ n4)
              · rw [show (m : Int) = S[calls] by omega] at k1; exact k1
              · rw [← hm5, hm5]
                refine (set_head _ p4 n4).trans (.cons _ ?_)
                show (tokH t4 ++ (tokH t1 ++ (tokH t2 ++ R))).Perm _
                exact List.perm_append_comm_assoc _ _ _
    · have c1 : (S.length : Int) ≤ calls := by omega
      simp (implicitDefEqProofs := false) only [sB0, sB1, sB2, sB3, sB4, sB5, sB6, sB7, sB8, sB9, sB10, sB11, sB12, sB13, sB14, sB15, sB16, sB17, sB18, sB19, noOb, AV.cells, AV.kindN, AV.undef, fillL, splice, isU8, lookH, setH, renH, othK, Heap.keys, foundA, if_true, if_false, ↓reduceIte, Nat.reduceEqDiff, Nat.reduceLeDiff, Nat.reduceAdd, Nat.reduceMul, Nat.reduceSub, Nat.reduceLT, Nat.reduceBNe, Nat.reduceBEq, Int.reduceToNat, Int.reduceLT, Int.reduceLE, Int.reduceAdd, Int.reduceSub, Int.reduceMul, Int.reduceEq, Int.reduceNeg, true_and, and_true, false_and, and_false, ne_eq, not_true_eq_false, not_false_eq_true, true_or, or_true, false_or, or_false, eq_self, reduceCtorEq, exists_eq_left, exists_eq_left', UInt8.reduceOfNat, UInt8.reduceToNat, not_or, Int.reduceMod, Int.reduceTMod, Int.reduceTDiv, Nat.reduceMod, bytesOf, gt_iff_lt, ge_iff_le, and_self, f38, hl, mC, ints_len, c1]
      simp only [MS.write, List.getElem?_eq_none c] at hK
      exact hK t2 [] _ hg hp hn

theorem mH_ext {H R : Heap} {p : Nat} {s : MS} {t1 t2 : Tok} (X : Heap) (hp : H.Perm (mH p s t1 t2 R)) : (X ++ H).Perm (mH p s t1 t2 (X ++ R)) := by
  refine (hp.append_left X).trans ?_
  simp only [mH]
  refine (List.perm_append_comm_assoc X [_] _).trans (.cons _ ?_)
  show (X ++ (tokH t1 ++ (tokH t2 ++ R))).Perm _
  refine (List.perm_append_comm_assoc X _ _).trans (.append_left _ ?_)
  exact List.perm_append_comm_assoc X _ _
theorem mH_eq (p : Nat) (s : MS) (t1 t2 : Tok) (R : Heap) : mH p s t1 t2 R = mH p s t1 t2 [] ++ R := by simp [mH]
theorem mH_congr {R R' : Heap} {p : Nat} {s : MS} {t1 t2 : Tok} (h : R.Perm R') : (mH p s t1 t2 R).Perm (mH p s t1 t2 R') := by
  rw [mH_eq, mH_eq p s t1 t2 R']; exact h.append_left _
theorem wm_swap {H R : Heap} {p q : Nat} {s : WS} {s' : MS} {t1 t2 t1' t2' : Tok} (h : H.Perm (wH p s t1 t2 (mH q s' t1' t2' R))) : H.Perm (mH q s' t1' t2' (wH p s t1 t2 R)) := by
  rw [wH_eq p, mH_eq q] at h
  rw [mH_eq q, wH_eq p]
  exact h.trans (List.perm_append_comm_assoc _ _ _)
theorem mw_swap {H R : Heap} {p q : Nat} {s : WS} {s' : MS} {t1 t2 t1' t2' : Tok} (h : H.Perm (mH q s' t1' t2' (wH p s t1 t2 R))) : H.Perm (wH p s t1 t2 (mH q s' t1' t2' R)) := by
  rw [wH_eq p, mH_eq q]
  rw [mH_eq q, wH_eq p] at h
  exact h.trans (List.perm_append_comm_assoc _ _ _)

/-- The two writers in step. -/
structure Same (s : WS) (m : MS) : Prop where
  left : s.left = m.S.drop m.calls
  b : s.b = m.B
  calls : s.calls = m.calls
  le : m.calls ≤ m.S.length
  err : (s.err = 0 ∧ m.failed = false) ∨ (s.err = 9 ∧ m.failed = true)

theorem same_write {s : WS} {m : MS} (h : Same s m) (x : List UInt8) : Same (s.write x).1 (m.write x).1 ∧ (s.write x).2 = (m.write x).2 := by
  obtain ⟨left, b, calls, err⟩ := s
  obtain ⟨S, B, mc, failed⟩ := m
  obtain ⟨h1, h2, h3, h4, h5⟩ := h
  simp only at h1 h2 h3 h4 h5
  subst h2 h3
  rcases h5 with ⟨rfl, rfl⟩ | ⟨rfl, rfl⟩
  · rcases Nat.lt_or_ge calls S.length with c | c
    · have hx : S[calls]? = some S[calls] := List.getElem?_eq_getElem c
      rw [List.drop_eq_getElem_cons c] at h1
      subst h1
      by_cases c2 : S[calls] < 0
      · rw [write_neg _ _ _ _ c2]
        simp only [MS.write, hx, c2, if_true, Bool.false_eq_true, if_false]
        exact ⟨⟨rfl, rfl, rfl, c, .inr ⟨rfl, rfl⟩⟩, trivial⟩
      · rw [write_pos _ _ _ _ c2]
        simp only [MS.write, hx, c2, Bool.false_eq_true, if_false]
        exact ⟨⟨rfl, rfl, rfl, c, .inl ⟨rfl, rfl⟩⟩, trivial⟩
    · rw [List.drop_eq_nil_of_le c] at h1
      subst h1
      rw [write_nil]
      simp only [MS.write, List.getElem?_eq_none c, Bool.false_eq_true, if_false]
      exact ⟨⟨(List.drop_eq_nil_of_le c).symm, rfl, rfl, h4, .inl ⟨rfl, rfl⟩⟩, trivial⟩
  · rw [write_err _ _ _ _ (by decide)]
    simp only [MS.write, if_true]
    exact ⟨⟨h1, rfl, rfl, h4, .inr ⟨rfl, rfl⟩⟩, trivial⟩
theorem same_ext {s : WS} {m : MS} (h : Same s m) (l : List Int) : Same { s with left := s.left ++ l } { m with S := m.S ++ l } := by
  obtain ⟨h1, h2, h3, h4, h5⟩ := h
  exact ⟨by simp only; rw [h1, List.drop_append_of_le_length h4], h2, h3, by simp; omega, h5⟩

def c36 (xs : List AV) (H : Heap) (K : Kv) : Prop := ∃ l tok, xs = [.sl (intsAV l) tok] ∧ H.keys.Nodup ∧ l.length ≤ 1099511627776 ∧
  ∀ p t H', GT (intsAV l) t → H'.Perm (mH p ⟨l, [], 0, false⟩ t .nil H) → H'.keys.Nodup → K.ap (.ptr p 0) H'
def c37 (xs : List AV) (H : Heap) (K : Kv) : Prop := ∃ p s t1 t2 l tok R, xs = [.ptr p 0, .sl (intsAV l) tok] ∧ H.Perm (mH p s t1 t2 R) ∧ H.keys.Nodup ∧ s.S.length + l.length ≤ 1099511627776 ∧
  ∀ t1' G H', GT (intsAV (s.S ++ l)) t1' → H'.Perm (mH p { s with S := s.S ++ l } t1' t2 (G ++ R)) → H'.keys.Nodup → K.ap (.tup []) H'
def c38 (xs : List AV) (H : Heap) (K : Kv) : Prop := ∃ p s t1 t2 x tok R, xs = [.ptr p 0, .sl (bytesAV x) tok] ∧ H.Perm (mH p s t1 t2 R) ∧ H.keys.Nodup ∧ s.calls < 1099511627776 ∧ s.S.length ≤ 1099511627776 ∧ s.B.length + x.length ≤ 1099511627776 ∧ GT (bytesAV s.B) t2 ∧
  ∀ t2' G H', GT (bytesAV (s.write x).1.B) t2' → H'.Perm (mH p (s.write x).1 t1 t2' (G ++ R)) → H'.keys.Nodup → K.ap (.tup [.int .i64 (s.write x).2.1, .int .i64 (s.write x).2.2]) H'
def n18 (xs : List AV) (H : Heap) (K : Kv) : Prop := c18 xs H K ∨ ∃ x, xs = [.nilp, x] ∧ K.ap (.tup [.int .i64 0, .int .i64 1]) H
def n19 (xs : List AV) (H : Heap) (K : Kv) : Prop := c19 xs H K ∨ xs = [.nilp] ∧ K.ap (.sl [] .nil) H
def n20 (xs : List AV) (H : Heap) (K : Kv) : Prop := c20 xs H K ∨ xs = [.nilp] ∧ K.ap (.int .i64 0) H
def n21 (xs : List AV) (H : Heap) (K : Kv) : Prop := c21 xs H K ∨ ∃ x, xs = [.nilp, x] ∧ K.ap (.tup []) H
def n22 (xs : List AV) (H : Heap) (K : Kv) : Prop := c22 xs H K ∨ xs = [.nilp] ∧ K.ap (.int .i64 0) H
@[reducible] def tZ (P : Program) : Th := ⟨fun _ => none, P, (36, c36) :: (37, c37) :: (38, c38) :: (18, n18) :: (19, n19) :: (20, n20) :: (21, n21) :: (22, n22) :: (tY P).T⟩
section
variable {P : Program} (hm : P.follows .mixedOrders = true) (h15 : compF P 15 f15.body.hints = some f15) (h16 : compF P 16 f16.body.hints = some f16) (h17 : compF P 17 f17.body.hints = some f17) (h18 : compF P 18 f18.body.hints = some f18)
  (h19 : compF P 19 f19.body.hints = some f19) (h20 : compF P 20 f20.body.hints = some f20) (h21 : compF P 21 f21.body.hints = some f21) (h22 : compF P 22 f22.body.hints = some f22)
  (h39 : compF P 39 f39.body.hints = some f39) (h40 : compF P 40 f40.body.hints = some f40) (h36 : compF P 36 f36.body.hints = some f36) (h37 : compF P 37 f37.body.hints = some f37) (h38 : compF P 38 f38.body.hints = some f38)
include hm h39 h40 h15 h16 h17 h18 h19 h20 h21 h22 h36 h37 h38
theorem tZ_ok : TOk (fun _ => none) P (plainT (tZ P).T) := by
  have hX := tX_ok hm h15 h17 h18 h19 h20 h21 h22 h39 h40
  have hW := tW_ok hm h39 h40
  refine .consX (fun xs H K ⟨l, tok, e, a, b, c⟩ => by subst e; exact okF hm .nilX h36 _ _ _ (mnew_spec P a b _ c)) <|
    .consX (fun xs H K ⟨p, s, t1, t2, l, tok, R, e, a, b, c, d⟩ => by subst e; exact okF hm .nilX h37 _ _ _ (mext_spec P a b c _ d)) <|
    .consX (fun xs H K ⟨p, s, t1, t2, x, tok, R, e, a, b, c, d, f, g, h⟩ => by subst e; exact okF hm .nilX h38 _ _ _ (mwrite_spec P a b c d f g _ h)) <|
    .consX (fun xs H K h => ?_) <| .consX (fun xs H K h => ?_) <| .consX (fun xs H K h => ?_) <| .consX (fun xs H K h => ?_) <| .consX (fun xs H K h => ?_) (tY_ok hm h15 h16 h17 h18 h19 h20 h21 h22 h39 h40)
  · rcases h with ⟨p, s, t1, t2, x, tok, R, e, a, b, c, d, f, g⟩ | ⟨x, e, a⟩
    · subst e; exact okF hm .nilX h18 _ _ _ (write_spec P a b c d f _ g)
    · subst e; exact okF hm .nilX h18 _ _ _ (by simp (implicitDefEqProofs := false) only [sB0, sB1, sB2, sB3, sB4, sB5, sB6, sB7, sB8, sB9, sB10, sB11, sB12, sB13, sB14, sB15, sB16, sB17, sB18, sB19, noOb, AV.cells, AV.kindN, AV.undef, fillL, splice, isU8, lookH, setH, renH, othK, Heap.keys, foundA, if_true, if_false, ↓reduceIte, Nat.reduceEqDiff, Nat.reduceLeDiff, Nat.reduceAdd, Nat.reduceMul, Nat.reduceSub, Nat.reduceLT, Nat.reduceBNe, Nat.reduceBEq, Int.reduceToNat, Int.reduceLT, Int.reduceLE, Int.reduceAdd, Int.reduceSub, Int.reduceMul, Int.reduceEq, Int.reduceNeg, true_and, and_true, false_and, and_false, ne_eq, not_true_eq_false, not_false_eq_true, true_or, or_true, false_or, or_false, eq_self, reduceCtorEq, exists_eq_left, exists_eq_left', UInt8.reduceOfNat, UInt8.reduceToNat, not_or, Int.reduceMod, Int.reduceTMod, Int.reduceTDiv, Nat.reduceMod, bytesOf, gt_iff_lt, ge_iff_le, and_self, f18]; exact a)
  · rcases h with ⟨p, s, t1, t2, R, e, a, b, c, d, f⟩ | ⟨e, a⟩
    · subst e; exact okF hm hW h19 _ _ _ (wbytes_spec P a b c d _ f)
    · subst e; exact okF hm hW h19 _ _ _ (by simp (implicitDefEqProofs := false) only [sB0, sB1, sB2, sB3, sB4, sB5, sB6, sB7, sB8, sB9, sB10, sB11, sB12, sB13, sB14, sB15, sB16, sB17, sB18, sB19, noOb, AV.cells, AV.kindN, AV.undef, fillL, splice, isU8, lookH, setH, renH, othK, Heap.keys, foundA, if_true, if_false, ↓reduceIte, Nat.reduceEqDiff, Nat.reduceLeDiff, Nat.reduceAdd, Nat.reduceMul, Nat.reduceSub, Nat.reduceLT, Nat.reduceBNe, Nat.reduceBEq, Int.reduceToNat, Int.reduceLT, Int.reduceLE, Int.reduceAdd, Int.reduceSub, Int.reduceMul, Int.reduceEq, Int.reduceNeg, true_and, and_true, false_and, and_false, ne_eq, not_true_eq_false, not_false_eq_true, true_or, or_true, false_or, or_false, eq_self, reduceCtorEq, exists_eq_left, exists_eq_left', UInt8.reduceOfNat, UInt8.reduceToNat, not_or, Int.reduceMod, Int.reduceTMod, Int.reduceTDiv, Nat.reduceMod, bytesOf, gt_iff_lt, ge_iff_le, and_self, f19]; exact a)
  · rcases h with ⟨p, s, t1, t2, R, e, a, b, c⟩ | ⟨e, a⟩
    · subst e; exact okF hm hW h20 _ _ _ (wcalls_spec P a b _ c)
    · subst e; exact okF hm hW h20 _ _ _ (by simp (implicitDefEqProofs := false) only [sB0, sB1, sB2, sB3, sB4, sB5, sB6, sB7, sB8, sB9, sB10, sB11, sB12, sB13, sB14, sB15, sB16, sB17, sB18, sB19, noOb, AV.cells, AV.kindN, AV.undef, fillL, splice, isU8, lookH, setH, renH, othK, Heap.keys, foundA, if_true, if_false, ↓reduceIte, Nat.reduceEqDiff, Nat.reduceLeDiff, Nat.reduceAdd, Nat.reduceMul, Nat.reduceSub, Nat.reduceLT, Nat.reduceBNe, Nat.reduceBEq, Int.reduceToNat, Int.reduceLT, Int.reduceLE, Int.reduceAdd, Int.reduceSub, Int.reduceMul, Int.reduceEq, Int.reduceNeg, true_and, and_true, false_and, and_false, ne_eq, not_true_eq_false, not_false_eq_true, true_or, or_true, false_or, or_false, eq_self, reduceCtorEq, exists_eq_left, exists_eq_left', UInt8.reduceOfNat, UInt8.reduceToNat, not_or, Int.reduceMod, Int.reduceTMod, Int.reduceTDiv, Nat.reduceMod, bytesOf, gt_iff_lt, ge_iff_le, and_self, f20]; exact a)
  · rcases h with ⟨p, s, t1, t2, l, tok, R, e, a, b, c, d, f⟩ | ⟨x, e, a⟩
    · subst e; exact okF hm hW h21 _ _ _ (wext_spec P a b c d _ f)
    · subst e; exact okF hm hW h21 _ _ _ (by simp (implicitDefEqProofs := false) only [sB0, sB1, sB2, sB3, sB4, sB5, sB6, sB7, sB8, sB9, sB10, sB11, sB12, sB13, sB14, sB15, sB16, sB17, sB18, sB19, noOb, AV.cells, AV.kindN, AV.undef, fillL, splice, isU8, lookH, setH, renH, othK, Heap.keys, foundA, if_true, if_false, ↓reduceIte, Nat.reduceEqDiff, Nat.reduceLeDiff, Nat.reduceAdd, Nat.reduceMul, Nat.reduceSub, Nat.reduceLT, Nat.reduceBNe, Nat.reduceBEq, Int.reduceToNat, Int.reduceLT, Int.reduceLE, Int.reduceAdd, Int.reduceSub, Int.reduceMul, Int.reduceEq, Int.reduceNeg, true_and, and_true, false_and, and_false, ne_eq, not_true_eq_false, not_false_eq_true, true_or, or_true, false_or, or_false, eq_self, reduceCtorEq, exists_eq_left, exists_eq_left', UInt8.reduceOfNat, UInt8.reduceToNat, not_or, Int.reduceMod, Int.reduceTMod, Int.reduceTDiv, Nat.reduceMod, bytesOf, gt_iff_lt, ge_iff_le, and_self, f21]; exact a)
  · rcases h with ⟨p, s, t1, t2, R, e, a, b, c⟩ | ⟨e, a⟩
    · subst e; exact okF hm hW h22 _ _ _ (wleft_spec P a b _ c)
    · subst e; exact okF hm hW h22 _ _ _ (by simp (implicitDefEqProofs := false) only [sB0, sB1, sB2, sB3, sB4, sB5, sB6, sB7, sB8, sB9, sB10, sB11, sB12, sB13, sB14, sB15, sB16, sB17, sB18, sB19, noOb, AV.cells, AV.kindN, AV.undef, fillL, splice, isU8, lookH, setH, renH, othK, Heap.keys, foundA, if_true, if_false, ↓reduceIte, Nat.reduceEqDiff, Nat.reduceLeDiff, Nat.reduceAdd, Nat.reduceMul, Nat.reduceSub, Nat.reduceLT, Nat.reduceBNe, Nat.reduceBEq, Int.reduceToNat, Int.reduceLT, Int.reduceLE, Int.reduceAdd, Int.reduceSub, Int.reduceMul, Int.reduceEq, Int.reduceNeg, true_and, and_true, false_and, and_false, ne_eq, not_true_eq_false, not_false_eq_true, true_or, or_true, false_or, or_false, eq_self, reduceCtorEq, exists_eq_left, exists_eq_left', UInt8.reduceOfNat, UInt8.reduceToNat, not_or, Int.reduceMod, Int.reduceTMod, Int.reduceTDiv, Nat.reduceMod, bytesOf, gt_iff_lt, ge_iff_le, and_self, f22]; exact a)
end
end Go.AL.Fun
