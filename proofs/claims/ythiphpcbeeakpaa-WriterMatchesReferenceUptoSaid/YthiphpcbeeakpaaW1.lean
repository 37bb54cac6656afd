/- The writer: what its functions do. -/
import Derived.Test.YthiphpcbeeakpaaF1
import Derived.Test.YthiphpcbeeakpaaA27
set_option linter.unusedSimpArgs false
set_option maxRecDepth 100000
namespace Go.AL.Fun
open Go Go.AL
@[reducible] def t0 (P : Program) : Th := ⟨fun _ => none, P, []⟩

structure WS where
  left : List Int
  b : List UInt8
  calls : Nat
  err : Int

def intsAV (l : List Int) : List AV := l.map (.int .i64)
theorem ints_len (l : List Int) : (intsAV l).length = l.length := by simp [intsAV]
theorem ints_all (l : List Int) : AllSz 1 (intsAV l) = True := by simp [AllSz, intsAV, AV.cells]
theorem ints_get (l : List Int) (i : Nat) : (intsAV l)[i]? = (l[i]?).map (.int .i64) := by simp [intsAV]
theorem ints_drop (n : Nat) (l : List Int) : (intsAV l).drop n = intsAV (l.drop n) := by simp [intsAV, List.map_drop]
theorem ints_take (n : Nat) (l : List Int) : (intsAV l).take n = intsAV (l.take n) := by simp [intsAV, List.map_take]
theorem ints_tk (l : List Int) : (intsAV l).take l.length = intsAV l := by rw [ints_take, List.take_length]
theorem ints_app (a b : List Int) : intsAV a ++ intsAV b = intsAV (a ++ b) := by simp [intsAV]

theorem ints_flat (l : List Int) : flat (intsAV l) = intsAV l := by
  induction l with
  | nil => rfl
  | cons a l ih => show _ :: flat (intsAV l) = _; rw [ih]; rfl
/-- A slice of whole numbers, read alone or with cells of its own. -/
def IsInts (x : AV) (H : Heap) (l : List Int) : Prop := (∃ tok, x = .sl (intsAV l) tok ∧ (tok = .nil → l = [])) ∨ (∃ id, x = .msl id 0 l.length 1 ∧ lookH id H = some (.cells (intsAV l)))
def wC (s : WS) (t1 t2 : Tok) : AObj := .cells [.sl (intsAV s.left) t1, .sl (bytesAV s.b) t2, .int .i64 s.calls, .int .i64 s.err]
def wH (p : Nat) (s : WS) (t1 t2 : Tok) (R : Heap) : Heap := (p, wC s t1 t2) :: (tokH t1 ++ (tokH t2 ++ R))

def WS.write (s : WS) (x : List UInt8) : WS × Int × Int :=
  if s.err ≠ 0 then (s, 0, s.err) else
  match s.left with
  | [] => (s, 0, 10)
  | n :: r => if n < 0 then ({ s with left := r, calls := s.calls + 1, err := 9 }, 0, 9)
    else ({ s with left := r, calls := s.calls + 1, b := s.b ++ x.take n.toNat }, min n.toNat x.length, 0)

theorem write_spec (P : Program) {p : Nat} {s : WS} {t1 t2 tok : Tok} {x : List UInt8} {H R : Heap} (hp : H.Perm (wH p s t1 t2 R)) (hn : H.keys.Nodup) (hg : GT (bytesAV s.b) t2)
    (hc : s.calls < 1099511627776) (hb : s.b.length + x.length ≤ 1099511627776) (K : Kv)
    (hK : ∀ t2' H', GT (bytesAV (s.write x).1.b) t2' → H'.Perm (wH p (s.write x).1 t1 t2' R) → H'.keys.Nodup → K.ap (.tup [.int .i64 (s.write x).2.1, .int .i64 (s.write x).2.2]) H') :
    @xF (t0 P) f18 [.ptr p 0, .sl (bytesAV x) tok] H K := by
  obtain ⟨left, b, calls, err⟩ := s
  simp only [wH, wC, WS.write, List.cons_append] at hp hK hg hc hb
  have hl := look_head hp hn
  by_cases c1 : err = 0
  · subst c1
    cases left with
    | nil =>
      simp (implicitDefEqProofs := false) only [sB0, sB1, sB2, sB3, sB4, sB5, sB6, sB7, sB8, sB9, sB10, sB11, sB12, sB13, sB14, sB15, sB16, sB17, sB18, sB19, noOb, AV.cells, AV.kindN, AV.undef, fillL, splice, isU8, lookH, setH, renH, othK, Heap.keys, foundA, if_true, if_false, ↓reduceIte, Nat.reduceEqDiff, Nat.reduceLeDiff, Nat.reduceAdd, Nat.reduceMul, Nat.reduceSub, Nat.reduceLT, Nat.reduceBNe, Nat.reduceBEq, Int.reduceToNat, Int.reduceLT, Int.reduceLE, Int.reduceAdd, Int.reduceSub, Int.reduceMul, Int.reduceEq, Int.reduceNeg, true_and, and_true, false_and, and_false, ne_eq, not_true_eq_false, not_false_eq_true, true_or, or_true, false_or, or_false, eq_self, reduceCtorEq, exists_eq_left, exists_eq_left', UInt8.reduceOfNat, UInt8.reduceToNat, not_or, Int.reduceMod, Int.reduceTMod, Int.reduceTDiv, Nat.reduceMod, bytesOf, gt_iff_lt, ge_iff_le, and_self, f18, hl, ints_len]
      exact hK _ _ hg hp hn
    | cons n left =>
      have e1 := w_i64 ((calls : Int) + 1) (by omega) (by omega)
      have e2 : (calls : Int) + 1 = ((calls + 1 : Nat) : Int) := by omega
      have e3 : ¬ ((left.length + 1 : Nat) : Int) = 0 := by omega
      have e4 : (1 : Int) ≤ ((left.length + 1 : Nat) : Int) := by omega
      have hl2 : lookH p H = some (.cells [.sl (.int .i64 n :: intsAV left) t1, .sl (bytesAV b) t2, .int .i64 calls, .int .i64 0]) := hl
      simp only [ne_eq, not_true_eq_false, if_false] at hK
      by_cases c2 : n < 0
      · simp (implicitDefEqProofs := false) only [sB0, sB1, sB2, sB3, sB4, sB5, sB6, sB7, sB8, sB9, sB10, sB11, sB12, sB13, sB14, sB15, sB16, sB17, sB18, sB19, noOb, AV.cells, AV.kindN, AV.undef, fillL, splice, isU8, lookH, setH, renH, othK, Heap.keys, foundA, if_true, if_false, ↓reduceIte, Nat.reduceEqDiff, Nat.reduceLeDiff, Nat.reduceAdd, Nat.reduceMul, Nat.reduceSub, Nat.reduceLT, Nat.reduceBNe, Nat.reduceBEq, Int.reduceToNat, Int.reduceLT, Int.reduceLE, Int.reduceAdd, Int.reduceSub, Int.reduceMul, Int.reduceEq, Int.reduceNeg, true_and, and_true, false_and, and_false, ne_eq, not_true_eq_false, not_false_eq_true, true_or, or_true, false_or, or_false, eq_self, reduceCtorEq, exists_eq_left, exists_eq_left', UInt8.reduceOfNat, UInt8.reduceToNat, not_or, Int.reduceMod, Int.reduceTMod, Int.reduceTDiv, Nat.reduceMod, bytesOf, gt_iff_lt, ge_iff_le, and_self, f18, hl2, ints_len, e1, c2, e3, e4, ints_get, ints_all, ints_drop, ints_tk, List.drop_succ_cons, List.drop_zero, Int.reduceToNat]
        simp only [c2, if_true] at hK
        exact hK _ _ hg (set_head _ hp hn) (set_nodup _ hn)
      · obtain ⟨m, hm⟩ : ∃ m : Nat, m = min n.toNat x.length := ⟨_, rfl⟩
        have hm1 : (if (x.length : Int) < n then (x.length : Int) else n) = (m : Int) := by split <;> omega
        have hm2 : m ≤ x.length := by omega
        have hm3 : (m : Int) ≤ x.length := by omega
        have hm4 : (0 : Int) ≤ m := by omega
        have hm5 : x.take m = x.take n.toNat := by
          rw [hm]; rcases Nat.le_total n.toNat x.length with h | h
          · rw [Nat.min_eq_left h]
          · rw [Nat.min_eq_right h, List.take_length, List.take_of_length_le h]
        simp (implicitDefEqProofs := false) only [sB0, sB1, sB2, sB3, sB4, sB5, sB6, sB7, sB8, sB9, sB10, sB11, sB12, sB13, sB14, sB15, sB16, sB17, sB18, sB19, noOb, AV.cells, AV.kindN, AV.undef, fillL, splice, isU8, lookH, setH, renH, othK, Heap.keys, foundA, if_true, if_false, ↓reduceIte, Nat.reduceEqDiff, Nat.reduceLeDiff, Nat.reduceAdd, Nat.reduceMul, Nat.reduceSub, Nat.reduceLT, Nat.reduceBNe, Nat.reduceBEq, Int.reduceToNat, Int.reduceLT, Int.reduceLE, Int.reduceAdd, Int.reduceSub, Int.reduceMul, Int.reduceEq, Int.reduceNeg, true_and, and_true, false_and, and_false, ne_eq, not_true_eq_false, not_false_eq_true, true_or, or_true, false_or, or_false, eq_self, reduceCtorEq, exists_eq_left, exists_eq_left', UInt8.reduceOfNat, UInt8.reduceToNat, not_or, Int.reduceMod, Int.reduceTMod, Int.reduceTDiv, Nat.reduceMod, bytesOf, gt_iff_lt, ge_iff_le, and_self, f18, hl2, ints_len, e1, c2, e3, e4, ints_get, ints_all, ints_drop, ints_tk, List.drop_succ_cons, List.drop_zero, Int.reduceToNat, hm1, hm3, hm4]
        simp only [c2, if_false] at hK
        refine i_app (A := _ :: tokH t1) (R := R) (set_head _ hp hn) (set_nodup _ hn) hg (.inl ⟨_, rfl⟩) (by rw [by_all]; trivial) (by rw [by_all]; trivial) ?_ ?_ fun t2' H' h1 h2 h3 => ?_
        · simp only [by_len, List.length_take, maxLen_eq]; omega
        · simp only [by_len, List.length_take]; omega
        · have hl3 := look_head h2 h3
          simp (implicitDefEqProofs := false) only [sB0, sB1, sB2, sB3, sB4, sB5, sB6, sB7, sB8, sB9, sB10, sB11, sB12, sB13, sB14, sB15, sB16, sB17, sB18, sB19, noOb, AV.cells, AV.kindN, AV.undef, fillL, splice, isU8, lookH, setH, renH, othK, Heap.keys, foundA, if_true, if_false, ↓reduceIte, Nat.reduceEqDiff, Nat.reduceLeDiff, Nat.reduceAdd, Nat.reduceMul, Nat.reduceSub, Nat.reduceLT, Nat.reduceBNe, Nat.reduceBEq, Int.reduceToNat, Int.reduceLT, Int.reduceLE, Int.reduceAdd, Int.reduceSub, Int.reduceMul, Int.reduceEq, Int.reduceNeg, true_and, and_true, false_and, and_false, ne_eq, not_true_eq_false, not_false_eq_true, true_or, or_true, false_or, or_false, eq_self, reduceCtorEq, exists_eq_left, exists_eq_left', UInt8.reduceOfNat, UInt8.reduceToNat, not_or, Int.reduceMod, Int.reduceTMod, Int.reduceTDiv, Nat.reduceMod, bytesOf, gt_iff_lt, ge_iff_le, and_self, hl3]
          rw [by_app] at h1
          have h4 := set_head (.cells [.sl (intsAV left) t1, .sl (bytesAV (b ++ x.take m)) t2', .int .i64 (calls + 1 : Nat), .int .i64 0]) h2 h3
          have h5 := hK t2' (setH p (.cells [.sl (intsAV left) t1, .sl (bytesAV (b ++ x.take m)) t2', .int .i64 (calls + 1 : Nat), .int .i64 0]) H') (by rw [← hm5]; exact h1) (by rw [← hm5]; exact h4) (set_nodup _ h3)
          rw [show min ((n.toNat : Nat) : Int) (x.length : Int) = (m : Int) by omega] at h5
          exact h5
  · simp (implicitDefEqProofs := false) only [sB0, sB1, sB2, sB3, sB4, sB5, sB6, sB7, sB8, sB9, sB10, sB11, sB12, sB13, sB14, sB15, sB16, sB17, sB18, sB19, noOb, AV.cells, AV.kindN, AV.undef, fillL, splice, isU8, lookH, setH, renH, othK, Heap.keys, foundA, if_true, if_false, ↓reduceIte, Nat.reduceEqDiff, Nat.reduceLeDiff, Nat.reduceAdd, Nat.reduceMul, Nat.reduceSub, Nat.reduceLT, Nat.reduceBNe, Nat.reduceBEq, Int.reduceToNat, Int.reduceLT, Int.reduceLE, Int.reduceAdd, Int.reduceSub, Int.reduceMul, Int.reduceEq, Int.reduceNeg, true_and, and_true, false_and, and_false, ne_eq, not_true_eq_false, not_false_eq_true, true_or, or_true, false_or, or_false, eq_self, reduceCtorEq, exists_eq_left, exists_eq_left', UInt8.reduceOfNat, UInt8.reduceToNat, not_or, Int.reduceMod, Int.reduceTMod, Int.reduceTDiv, Nat.reduceMod, bytesOf, gt_iff_lt, ge_iff_le, and_self, f18, hl, c1]
    simp only [c1, ne_eq, not_false_eq_true, if_true] at hK
    exact hK _ _ hg hp hn

theorem clone_ints (P : Program) {l : List Int} {x : AV} {H : Heap} (hn : H.keys.Nodup) (ht : IsInts x H l) (hl : l.length ≤ 1099511627776) (K : Kv)
    (hK : ∀ t H', GT (intsAV l) t → H'.Perm (tokH t ++ H) → H'.keys.Nodup → K.ap (.sl (intsAV l) t) H') : @xF (t0 P) f39 [x] H K := by
  rcases ht with ⟨tok, rfl, ht⟩ | ⟨id0, rfl, hl0⟩
  · by_cases c : tok = .nil
    · have := ht c; subst this; subst c
      simp (implicitDefEqProofs := false) only [sB0, sB1, sB2, sB3, sB4, sB5, sB6, sB7, sB8, sB9, sB10, sB11, sB12, sB13, sB14, sB15, sB16, sB17, sB18, sB19, noOb, AV.cells, AV.kindN, AV.undef, fillL, splice, isU8, lookH, setH, renH, othK, Heap.keys, foundA, if_true, if_false, ↓reduceIte, Nat.reduceEqDiff, Nat.reduceLeDiff, Nat.reduceAdd, Nat.reduceMul, Nat.reduceSub, Nat.reduceLT, Nat.reduceBNe, Nat.reduceBEq, Int.reduceToNat, Int.reduceLT, Int.reduceLE, Int.reduceAdd, Int.reduceSub, Int.reduceMul, Int.reduceEq, Int.reduceNeg, true_and, and_true, false_and, and_false, ne_eq, not_true_eq_false, not_false_eq_true, true_or, or_true, false_or, or_false, eq_self, reduceCtorEq, exists_eq_left, exists_eq_left', UInt8.reduceOfNat, UInt8.reduceToNat, not_or, Int.reduceMod, Int.reduceTMod, Int.reduceTDiv, Nat.reduceMod, bytesOf, gt_iff_lt, ge_iff_le, and_self, f39]
      exact hK .nil H rfl (.refl _) hn
    · simp (implicitDefEqProofs := false) only [sB0, sB1, sB2, sB3, sB4, sB5, sB6, sB7, sB8, sB9, sB10, sB11, sB12, sB13, sB14, sB15, sB16, sB17, sB18, sB19, noOb, AV.cells, AV.kindN, AV.undef, fillL, splice, isU8, lookH, setH, renH, othK, Heap.keys, foundA, if_true, if_false, ↓reduceIte, Nat.reduceEqDiff, Nat.reduceLeDiff, Nat.reduceAdd, Nat.reduceMul, Nat.reduceSub, Nat.reduceLT, Nat.reduceBNe, Nat.reduceBEq, Int.reduceToNat, Int.reduceLT, Int.reduceLE, Int.reduceAdd, Int.reduceSub, Int.reduceMul, Int.reduceEq, Int.reduceNeg, true_and, and_true, false_and, and_false, ne_eq, not_true_eq_false, not_false_eq_true, true_or, or_true, false_or, or_false, eq_self, reduceCtorEq, exists_eq_left, exists_eq_left', UInt8.reduceOfNat, UInt8.reduceToNat, not_or, Int.reduceMod, Int.reduceTMod, Int.reduceTDiv, Nat.reduceMod, bytesOf, gt_iff_lt, ge_iff_le, and_self, f39, c]
      refine i_emp hn fun id hid hn2 => ?_
      simp (implicitDefEqProofs := false) only [sB0, sB1, sB2, sB3, sB4, sB5, sB6, sB7, sB8, sB9, sB10, sB11, sB12, sB13, sB14, sB15, sB16, sB17, sB18, sB19, noOb, AV.cells, AV.kindN, AV.undef, fillL, splice, isU8, lookH, setH, renH, othK, Heap.keys, foundA, if_true, if_false, ↓reduceIte, Nat.reduceEqDiff, Nat.reduceLeDiff, Nat.reduceAdd, Nat.reduceMul, Nat.reduceSub, Nat.reduceLT, Nat.reduceBNe, Nat.reduceBEq, Int.reduceToNat, Int.reduceLT, Int.reduceLE, Int.reduceAdd, Int.reduceSub, Int.reduceMul, Int.reduceEq, Int.reduceNeg, true_and, and_true, false_and, and_false, ne_eq, not_true_eq_false, not_false_eq_true, true_or, or_true, false_or, or_false, eq_self, reduceCtorEq, exists_eq_left, exists_eq_left', UInt8.reduceOfNat, UInt8.reduceToNat, not_or, Int.reduceMod, Int.reduceTMod, Int.reduceTDiv, Nat.reduceMod, bytesOf, gt_iff_lt, ge_iff_le, and_self]
      refine i_app (A := []) (R := H) (tk := .at id 0 1) (xs := []) (ys := intsAV l) (.refl _) hn2 rfl (.inl ⟨_, rfl⟩) (by rw [ints_all]; trivial) (by rw [allSz_nil]; trivial) ?_ ?_ fun t H' h1 h2 h3 => ?_
      · simp only [ints_len, List.length_nil, maxLen_eq]; omega
      · simp only [ints_len, List.length_nil]; omega
      · simp (implicitDefEqProofs := false) only [sB0, sB1, sB2, sB3, sB4, sB5, sB6, sB7, sB8, sB9, sB10, sB11, sB12, sB13, sB14, sB15, sB16, sB17, sB18, sB19, noOb, AV.cells, AV.kindN, AV.undef, fillL, splice, isU8, lookH, setH, renH, othK, Heap.keys, foundA, if_true, if_false, ↓reduceIte, Nat.reduceEqDiff, Nat.reduceLeDiff, Nat.reduceAdd, Nat.reduceMul, Nat.reduceSub, Nat.reduceLT, Nat.reduceBNe, Nat.reduceBEq, Int.reduceToNat, Int.reduceLT, Int.reduceLE, Int.reduceAdd, Int.reduceSub, Int.reduceMul, Int.reduceEq, Int.reduceNeg, true_and, and_true, false_and, and_false, ne_eq, not_true_eq_false, not_false_eq_true, true_or, or_true, false_or, or_false, eq_self, reduceCtorEq, exists_eq_left, exists_eq_left', UInt8.reduceOfNat, UInt8.reduceToNat, not_or, Int.reduceMod, Int.reduceTMod, Int.reduceTDiv, Nat.reduceMod, bytesOf, gt_iff_lt, ge_iff_le, and_self]
        exact hK t H' h1 h2 h3
  · simp (implicitDefEqProofs := false) only [sB0, sB1, sB2, sB3, sB4, sB5, sB6, sB7, sB8, sB9, sB10, sB11, sB12, sB13, sB14, sB15, sB16, sB17, sB18, sB19, noOb, AV.cells, AV.kindN, AV.undef, fillL, splice, isU8, lookH, setH, renH, othK, Heap.keys, foundA, if_true, if_false, ↓reduceIte, Nat.reduceEqDiff, Nat.reduceLeDiff, Nat.reduceAdd, Nat.reduceMul, Nat.reduceSub, Nat.reduceLT, Nat.reduceBNe, Nat.reduceBEq, Int.reduceToNat, Int.reduceLT, Int.reduceLE, Int.reduceAdd, Int.reduceSub, Int.reduceMul, Int.reduceEq, Int.reduceNeg, true_and, and_true, false_and, and_false, ne_eq, not_true_eq_false, not_false_eq_true, true_or, or_true, false_or, or_false, eq_self, reduceCtorEq, exists_eq_left, exists_eq_left', UInt8.reduceOfNat, UInt8.reduceToNat, not_or, Int.reduceMod, Int.reduceTMod, Int.reduceTDiv, Nat.reduceMod, bytesOf, gt_iff_lt, ge_iff_le, and_self, f39]
    refine i_emp hn fun id hid hn2 => ?_
    simp (implicitDefEqProofs := false) only [sB0, sB1, sB2, sB3, sB4, sB5, sB6, sB7, sB8, sB9, sB10, sB11, sB12, sB13, sB14, sB15, sB16, sB17, sB18, sB19, noOb, AV.cells, AV.kindN, AV.undef, fillL, splice, isU8, lookH, setH, renH, othK, Heap.keys, foundA, if_true, if_false, ↓reduceIte, Nat.reduceEqDiff, Nat.reduceLeDiff, Nat.reduceAdd, Nat.reduceMul, Nat.reduceSub, Nat.reduceLT, Nat.reduceBNe, Nat.reduceBEq, Int.reduceToNat, Int.reduceLT, Int.reduceLE, Int.reduceAdd, Int.reduceSub, Int.reduceMul, Int.reduceEq, Int.reduceNeg, true_and, and_true, false_and, and_false, ne_eq, not_true_eq_false, not_false_eq_true, true_or, or_true, false_or, or_false, eq_self, reduceCtorEq, exists_eq_left, exists_eq_left', UInt8.reduceOfNat, UInt8.reduceToNat, not_or, Int.reduceMod, Int.reduceTMod, Int.reduceTDiv, Nat.reduceMod, bytesOf, gt_iff_lt, ge_iff_le, and_self]
    have hne : ¬ id0 = id := fun e => hid (by rw [← e]; exact List.mem_map.2 ⟨_, lookH_mem hl0, rfl⟩)
    refine i_appX (A := []) (R := H) (tk := .at id 0 1) (xs := []) (ys := intsAV l) (.refl _) hn2 rfl (by rw [← ints_len l]; exact src_cells (by simp only [lookH, if_neg hne]; exact hl0) (by rw [ints_all]; trivial) (ints_flat l)) (by rw [allSz_nil]; trivial) ?_ ?_ fun t H' h1 h2 h3 => ?_
    · simp only [ints_len, List.length_nil, maxLen_eq]; omega
    · simp only [ints_len, List.length_nil]; omega
    · simp (implicitDefEqProofs := false) only [sB0, sB1, sB2, sB3, sB4, sB5, sB6, sB7, sB8, sB9, sB10, sB11, sB12, sB13, sB14, sB15, sB16, sB17, sB18, sB19, noOb, AV.cells, AV.kindN, AV.undef, fillL, splice, isU8, lookH, setH, renH, othK, Heap.keys, foundA, if_true, if_false, ↓reduceIte, Nat.reduceEqDiff, Nat.reduceLeDiff, Nat.reduceAdd, Nat.reduceMul, Nat.reduceSub, Nat.reduceLT, Nat.reduceBNe, Nat.reduceBEq, Int.reduceToNat, Int.reduceLT, Int.reduceLE, Int.reduceAdd, Int.reduceSub, Int.reduceMul, Int.reduceEq, Int.reduceNeg, true_and, and_true, false_and, and_false, ne_eq, not_true_eq_false, not_false_eq_true, true_or, or_true, false_or, or_false, eq_self, reduceCtorEq, exists_eq_left, exists_eq_left', UInt8.reduceOfNat, UInt8.reduceToNat, not_or, Int.reduceMod, Int.reduceTMod, Int.reduceTDiv, Nat.reduceMod, bytesOf, gt_iff_lt, ge_iff_le, and_self]
      exact hK t H' h1 h2 h3
theorem clone_bytes (P : Program) {l : List UInt8} {tok : Tok} {H : Heap} (hn : H.keys.Nodup) (ht : tok = .nil → l = []) (hl : l.length ≤ 1099511627776) (K : Kv)
    (hK : ∀ t H', GT (bytesAV l) t → H'.Perm (tokH t ++ H) → H'.keys.Nodup → K.ap (.sl (bytesAV l) t) H') : @xF (t0 P) f40 [.sl (bytesAV l) tok] H K := by
  by_cases c : tok = .nil
  · have := ht c; subst this; subst c
    simp (implicitDefEqProofs := false) only [sB0, sB1, sB2, sB3, sB4, sB5, sB6, sB7, sB8, sB9, sB10, sB11, sB12, sB13, sB14, sB15, sB16, sB17, sB18, sB19, noOb, AV.cells, AV.kindN, AV.undef, fillL, splice, isU8, lookH, setH, renH, othK, Heap.keys, foundA, if_true, if_false, ↓reduceIte, Nat.reduceEqDiff, Nat.reduceLeDiff, Nat.reduceAdd, Nat.reduceMul, Nat.reduceSub, Nat.reduceLT, Nat.reduceBNe, Nat.reduceBEq, Int.reduceToNat, Int.reduceLT, Int.reduceLE, Int.reduceAdd, Int.reduceSub, Int.reduceMul, Int.reduceEq, Int.reduceNeg, true_and, and_true, false_and, and_false, ne_eq, not_true_eq_false, not_false_eq_true, true_or, or_true, false_or, or_false, eq_self, reduceCtorEq, exists_eq_left, exists_eq_left', UInt8.reduceOfNat, UInt8.reduceToNat, not_or, Int.reduceMod, Int.reduceTMod, Int.reduceTDiv, Nat.reduceMod, bytesOf, gt_iff_lt, ge_iff_le, and_self, f40]
    exact hK .nil H rfl (.refl _) hn
  · simp (implicitDefEqProofs := false) only [sB0, sB1, sB2, sB3, sB4, sB5, sB6, sB7, sB8, sB9, sB10, sB11, sB12, sB13, sB14, sB15, sB16, sB17, sB18, sB19, noOb, AV.cells, AV.kindN, AV.undef, fillL, splice, isU8, lookH, setH, renH, othK, Heap.keys, foundA, if_true, if_false, ↓reduceIte, Nat.reduceEqDiff, Nat.reduceLeDiff, Nat.reduceAdd, Nat.reduceMul, Nat.reduceSub, Nat.reduceLT, Nat.reduceBNe, Nat.reduceBEq, Int.reduceToNat, Int.reduceLT, Int.reduceLE, Int.reduceAdd, Int.reduceSub, Int.reduceMul, Int.reduceEq, Int.reduceNeg, true_and, and_true, false_and, and_false, ne_eq, not_true_eq_false, not_false_eq_true, true_or, or_true, false_or, or_false, eq_self, reduceCtorEq, exists_eq_left, exists_eq_left', UInt8.reduceOfNat, UInt8.reduceToNat, not_or, Int.reduceMod, Int.reduceTMod, Int.reduceTDiv, Nat.reduceMod, bytesOf, gt_iff_lt, ge_iff_le, and_self, f40, c]
    refine i_emp hn fun id hid hn2 => ?_
    simp (implicitDefEqProofs := false) only [sB0, sB1, sB2, sB3, sB4, sB5, sB6, sB7, sB8, sB9, sB10, sB11, sB12, sB13, sB14, sB15, sB16, sB17, sB18, sB19, noOb, AV.cells, AV.kindN, AV.undef, fillL, splice, isU8, lookH, setH, renH, othK, Heap.keys, foundA, if_true, if_false, ↓reduceIte, Nat.reduceEqDiff, Nat.reduceLeDiff, Nat.reduceAdd, Nat.reduceMul, Nat.reduceSub, Nat.reduceLT, Nat.reduceBNe, Nat.reduceBEq, Int.reduceToNat, Int.reduceLT, Int.reduceLE, Int.reduceAdd, Int.reduceSub, Int.reduceMul, Int.reduceEq, Int.reduceNeg, true_and, and_true, false_and, and_false, ne_eq, not_true_eq_false, not_false_eq_true, true_or, or_true, false_or, or_false, eq_self, reduceCtorEq, exists_eq_left, exists_eq_left', UInt8.reduceOfNat, UInt8.reduceToNat, not_or, Int.reduceMod, Int.reduceTMod, Int.reduceTDiv, Nat.reduceMod, bytesOf, gt_iff_lt, ge_iff_le, and_self]
    refine i_app (A := []) (R := H) (tk := .at id 0 1) (xs := []) (ys := bytesAV l) (.refl _) hn2 rfl (.inl ⟨_, rfl⟩) (by rw [by_all]; trivial) (by rw [allSz_nil]; trivial) ?_ ?_ fun t H' h1 h2 h3 => ?_
    · simp only [by_len, List.length_nil, maxLen_eq]; omega
    · simp only [by_len, List.length_nil]; omega
    · simp (implicitDefEqProofs := false) only [sB0, sB1, sB2, sB3, sB4, sB5, sB6, sB7, sB8, sB9, sB10, sB11, sB12, sB13, sB14, sB15, sB16, sB17, sB18, sB19, noOb, AV.cells, AV.kindN, AV.undef, fillL, splice, isU8, lookH, setH, renH, othK, Heap.keys, foundA, if_true, if_false, ↓reduceIte, Nat.reduceEqDiff, Nat.reduceLeDiff, Nat.reduceAdd, Nat.reduceMul, Nat.reduceSub, Nat.reduceLT, Nat.reduceBNe, Nat.reduceBEq, Int.reduceToNat, Int.reduceLT, Int.reduceLE, Int.reduceAdd, Int.reduceSub, Int.reduceMul, Int.reduceEq, Int.reduceNeg, true_and, and_true, false_and, and_false, ne_eq, not_true_eq_false, not_false_eq_true, true_or, or_true, false_or, or_false, eq_self, reduceCtorEq, exists_eq_left, exists_eq_left', UInt8.reduceOfNat, UInt8.reduceToNat, not_or, Int.reduceMod, Int.reduceTMod, Int.reduceTDiv, Nat.reduceMod, bytesOf, gt_iff_lt, ge_iff_le, and_self]
      exact hK t H' h1 h2 h3

/-- What a program writes with its contracts: copies of slices. -/
def c39 (xs : List AV) (H : Heap) (K : Kv) : Prop := ∃ l x, xs = [x] ∧ IsInts x H l ∧ l.length ≤ 1099511627776 ∧ H.keys.Nodup ∧ ∀ t H', GT (intsAV l) t → H'.Perm (tokH t ++ H) → H'.keys.Nodup → K.ap (.sl (intsAV l) t) H'
def c40 (xs : List AV) (H : Heap) (K : Kv) : Prop := ∃ l tok, xs = [.sl (bytesAV l) tok] ∧ (tok = .nil → l = []) ∧ l.length ≤ 1099511627776 ∧ H.keys.Nodup ∧ ∀ t H', GT (bytesAV l) t → H'.Perm (tokH t ++ H) → H'.keys.Nodup → K.ap (.sl (bytesAV l) t) H'
@[reducible] def tW (P : Program) : Th := ⟨fun _ => none, P, [(39, c39), (40, c40)]⟩

theorem wnew_spec (P : Program) {l : List Int} {x : AV} {H : Heap} (hn : H.keys.Nodup) (ht : IsInts x H l) (hl : l.length ≤ 1099511627776) (K : Kv)
    (hK : ∀ p t H', GT (intsAV l) t → H'.Perm (wH p ⟨l, [], 0, 0⟩ t .nil H) → H'.keys.Nodup → K.ap (.ptr p 0) H') : @xF (tW P) f17 [x] H K := by
  simp (implicitDefEqProofs := false) only [sB0, sB1, sB2, sB3, sB4, sB5, sB6, sB7, sB8, sB9, sB10, sB11, sB12, sB13, sB14, sB15, sB16, sB17, sB18, sB19, noOb, AV.cells, AV.kindN, AV.undef, fillL, splice, isU8, lookH, setH, renH, othK, Heap.keys, foundA, if_true, if_false, ↓reduceIte, Nat.reduceEqDiff, Nat.reduceLeDiff, Nat.reduceAdd, Nat.reduceMul, Nat.reduceSub, Nat.reduceLT, Nat.reduceBNe, Nat.reduceBEq, Int.reduceToNat, Int.reduceLT, Int.reduceLE, Int.reduceAdd, Int.reduceSub, Int.reduceMul, Int.reduceEq, Int.reduceNeg, true_and, and_true, false_and, and_false, ne_eq, not_true_eq_false, not_false_eq_true, true_or, or_true, false_or, or_false, eq_self, reduceCtorEq, exists_eq_left, exists_eq_left', UInt8.reduceOfNat, UInt8.reduceToNat, not_or, Int.reduceMod, Int.reduceTMod, Int.reduceTDiv, Nat.reduceMod, bytesOf, gt_iff_lt, ge_iff_le, and_self, f17]
  refine ⟨l, x, rfl, ht, hl, hn, fun t H' h1 h2 h3 => ?_⟩
  simp (implicitDefEqProofs := false) only [sB0, sB1, sB2, sB3, sB4, sB5, sB6, sB7, sB8, sB9, sB10, sB11, sB12, sB13, sB14, sB15, sB16, sB17, sB18, sB19, noOb, AV.cells, AV.kindN, AV.undef, fillL, splice, isU8, lookH, setH, renH, othK, Heap.keys, foundA, if_true, if_false, ↓reduceIte, Nat.reduceEqDiff, Nat.reduceLeDiff, Nat.reduceAdd, Nat.reduceMul, Nat.reduceSub, Nat.reduceLT, Nat.reduceBNe, Nat.reduceBEq, Int.reduceToNat, Int.reduceLT, Int.reduceLE, Int.reduceAdd, Int.reduceSub, Int.reduceMul, Int.reduceEq, Int.reduceNeg, true_and, and_true, false_and, and_false, ne_eq, not_true_eq_false, not_false_eq_true, true_or, or_true, false_or, or_false, eq_self, reduceCtorEq, exists_eq_left, exists_eq_left', UInt8.reduceOfNat, UInt8.reduceToNat, not_or, Int.reduceMod, Int.reduceTMod, Int.reduceTDiv, Nat.reduceMod, bytesOf, gt_iff_lt, ge_iff_le, and_self]
  refine i_new fun p hp => ?_
  simp (implicitDefEqProofs := false) only [sB0, sB1, sB2, sB3, sB4, sB5, sB6, sB7, sB8, sB9, sB10, sB11, sB12, sB13, sB14, sB15, sB16, sB17, sB18, sB19, noOb, AV.cells, AV.kindN, AV.undef, fillL, splice, isU8, lookH, setH, renH, othK, Heap.keys, foundA, if_true, if_false, ↓reduceIte, Nat.reduceEqDiff, Nat.reduceLeDiff, Nat.reduceAdd, Nat.reduceMul, Nat.reduceSub, Nat.reduceLT, Nat.reduceBNe, Nat.reduceBEq, Int.reduceToNat, Int.reduceLT, Int.reduceLE, Int.reduceAdd, Int.reduceSub, Int.reduceMul, Int.reduceEq, Int.reduceNeg, true_and, and_true, false_and, and_false, ne_eq, not_true_eq_false, not_false_eq_true, true_or, or_true, false_or, or_false, eq_self, reduceCtorEq, exists_eq_left, exists_eq_left', UInt8.reduceOfNat, UInt8.reduceToNat, not_or, Int.reduceMod, Int.reduceTMod, Int.reduceTDiv, Nat.reduceMod, bytesOf, gt_iff_lt, ge_iff_le, and_self]
  exact hK p t _ h1 (h2.cons _) (List.nodup_cons.2 ⟨hp, h3⟩)

theorem wbytes_spec (P : Program) {p : Nat} {s : WS} {t1 t2 : Tok} {H R : Heap} (hp : H.Perm (wH p s t1 t2 R)) (hn : H.keys.Nodup) (hg : GT (bytesAV s.b) t2) (hb : s.b.length ≤ 1099511627776) (K : Kv)
    (hK : ∀ t H', GT (bytesAV s.b) t → H'.Perm (tokH t ++ H) → H'.keys.Nodup → K.ap (.sl (bytesAV s.b) t) H') : @xF (tW P) f19 [.ptr p 0] H K := by
  have hl := look_head hp hn
  simp (implicitDefEqProofs := false) only [sB0, sB1, sB2, sB3, sB4, sB5, sB6, sB7, sB8, sB9, sB10, sB11, sB12, sB13, sB14, sB15, sB16, sB17, sB18, sB19, noOb, AV.cells, AV.kindN, AV.undef, fillL, splice, isU8, lookH, setH, renH, othK, Heap.keys, foundA, if_true, if_false, ↓reduceIte, Nat.reduceEqDiff, Nat.reduceLeDiff, Nat.reduceAdd, Nat.reduceMul, Nat.reduceSub, Nat.reduceLT, Nat.reduceBNe, Nat.reduceBEq, Int.reduceToNat, Int.reduceLT, Int.reduceLE, Int.reduceAdd, Int.reduceSub, Int.reduceMul, Int.reduceEq, Int.reduceNeg, true_and, and_true, false_and, and_false, ne_eq, not_true_eq_false, not_false_eq_true, true_or, or_true, false_or, or_false, eq_self, reduceCtorEq, exists_eq_left, exists_eq_left', UInt8.reduceOfNat, UInt8.reduceToNat, not_or, Int.reduceMod, Int.reduceTMod, Int.reduceTDiv, Nat.reduceMod, bytesOf, gt_iff_lt, ge_iff_le, and_self, f19, hl, wC]
  refine ⟨s.b, t2, rfl, fun h => ?_, hb, hn, fun t H' h1 h2 h3 => ?_⟩
  · rw [h] at hg
    exact List.map_eq_nil_iff.1 (show bytesAV s.b = [] from hg)
  · simp (implicitDefEqProofs := false) only [sB0, sB1, sB2, sB3, sB4, sB5, sB6, sB7, sB8, sB9, sB10, sB11, sB12, sB13, sB14, sB15, sB16, sB17, sB18, sB19, noOb, AV.cells, AV.kindN, AV.undef, fillL, splice, isU8, lookH, setH, renH, othK, Heap.keys, foundA, if_true, if_false, ↓reduceIte, Nat.reduceEqDiff, Nat.reduceLeDiff, Nat.reduceAdd, Nat.reduceMul, Nat.reduceSub, Nat.reduceLT, Nat.reduceBNe, Nat.reduceBEq, Int.reduceToNat, Int.reduceLT, Int.reduceLE, Int.reduceAdd, Int.reduceSub, Int.reduceMul, Int.reduceEq, Int.reduceNeg, true_and, and_true, false_and, and_false, ne_eq, not_true_eq_false, not_false_eq_true, true_or, or_true, false_or, or_false, eq_self, reduceCtorEq, exists_eq_left, exists_eq_left', UInt8.reduceOfNat, UInt8.reduceToNat, not_or, Int.reduceMod, Int.reduceTMod, Int.reduceTDiv, Nat.reduceMod, bytesOf, gt_iff_lt, ge_iff_le, and_self]
    exact hK t H' h1 h2 h3

theorem wcalls_spec (P : Program) {p : Nat} {s : WS} {t1 t2 : Tok} {H R : Heap} (hp : H.Perm (wH p s t1 t2 R)) (hn : H.keys.Nodup) (K : Kv) (hK : K.ap (.int .i64 s.calls) H) : @xF (tW P) f20 [.ptr p 0] H K := by
  have hl := look_head hp hn
  simp (implicitDefEqProofs := false) only [sB0, sB1, sB2, sB3, sB4, sB5, sB6, sB7, sB8, sB9, sB10, sB11, sB12, sB13, sB14, sB15, sB16, sB17, sB18, sB19, noOb, AV.cells, AV.kindN, AV.undef, fillL, splice, isU8, lookH, setH, renH, othK, Heap.keys, foundA, if_true, if_false, ↓reduceIte, Nat.reduceEqDiff, Nat.reduceLeDiff, Nat.reduceAdd, Nat.reduceMul, Nat.reduceSub, Nat.reduceLT, Nat.reduceBNe, Nat.reduceBEq, Int.reduceToNat, Int.reduceLT, Int.reduceLE, Int.reduceAdd, Int.reduceSub, Int.reduceMul, Int.reduceEq, Int.reduceNeg, true_and, and_true, false_and, and_false, ne_eq, not_true_eq_false, not_false_eq_true, true_or, or_true, false_or, or_false, eq_self, reduceCtorEq, exists_eq_left, exists_eq_left', UInt8.reduceOfNat, UInt8.reduceToNat, not_or, Int.reduceMod, Int.reduceTMod, Int.reduceTDiv, Nat.reduceMod, bytesOf, gt_iff_lt, ge_iff_le, and_self, f20, hl, wC]
  exact hK
theorem wleft_spec (P : Program) {p : Nat} {s : WS} {t1 t2 : Tok} {H R : Heap} (hp : H.Perm (wH p s t1 t2 R)) (hn : H.keys.Nodup) (K : Kv) (hK : K.ap (.int .i64 s.left.length) H) : @xF (tW P) f22 [.ptr p 0] H K := by
  have hl := look_head hp hn
  simp (implicitDefEqProofs := false) only [sB0, sB1, sB2, sB3, sB4, sB5, sB6, sB7, sB8, sB9, sB10, sB11, sB12, sB13, sB14, sB15, sB16, sB17, sB18, sB19, noOb, AV.cells, AV.kindN, AV.undef, fillL, splice, isU8, lookH, setH, renH, othK, Heap.keys, foundA, if_true, if_false, ↓reduceIte, Nat.reduceEqDiff, Nat.reduceLeDiff, Nat.reduceAdd, Nat.reduceMul, Nat.reduceSub, Nat.reduceLT, Nat.reduceBNe, Nat.reduceBEq, Int.reduceToNat, Int.reduceLT, Int.reduceLE, Int.reduceAdd, Int.reduceSub, Int.reduceMul, Int.reduceEq, Int.reduceNeg, true_and, and_true, false_and, and_false, ne_eq, not_true_eq_false, not_false_eq_true, true_or, or_true, false_or, or_false, eq_self, reduceCtorEq, exists_eq_left, exists_eq_left', UInt8.reduceOfNat, UInt8.reduceToNat, not_or, Int.reduceMod, Int.reduceTMod, Int.reduceTDiv, Nat.reduceMod, bytesOf, gt_iff_lt, ge_iff_le, and_self, f22, hl, wC, ints_len]
  exact hK
theorem wext_spec (P : Program) {p : Nat} {s : WS} {t1 t2 tok : Tok} {l : List Int} {H R : Heap} (hp : H.Perm (wH p s t1 t2 R)) (hn : H.keys.Nodup) (hg : GT (intsAV s.left) t1) (hb : s.left.length + l.length ≤ 1099511627776) (K : Kv)
    (hK : ∀ t1' H', GT (intsAV (s.left ++ l)) t1' → H'.Perm (wH p { s with left := s.left ++ l } t1' t2 R) → H'.keys.Nodup → K.ap (.tup []) H') : @xF (tW P) f21 [.ptr p 0, .sl (intsAV l) tok] H K := by
  have hl := look_head hp hn
  simp (implicitDefEqProofs := false) only [sB0, sB1, sB2, sB3, sB4, sB5, sB6, sB7, sB8, sB9, sB10, sB11, sB12, sB13, sB14, sB15, sB16, sB17, sB18, sB19, noOb, AV.cells, AV.kindN, AV.undef, fillL, splice, isU8, lookH, setH, renH, othK, Heap.keys, foundA, if_true, if_false, ↓reduceIte, Nat.reduceEqDiff, Nat.reduceLeDiff, Nat.reduceAdd, Nat.reduceMul, Nat.reduceSub, Nat.reduceLT, Nat.reduceBNe, Nat.reduceBEq, Int.reduceToNat, Int.reduceLT, Int.reduceLE, Int.reduceAdd, Int.reduceSub, Int.reduceMul, Int.reduceEq, Int.reduceNeg, true_and, and_true, false_and, and_false, ne_eq, not_true_eq_false, not_false_eq_true, true_or, or_true, false_or, or_false, eq_self, reduceCtorEq, exists_eq_left, exists_eq_left', UInt8.reduceOfNat, UInt8.reduceToNat, not_or, Int.reduceMod, Int.reduceTMod, Int.reduceTDiv, Nat.reduceMod, bytesOf, gt_iff_lt, ge_iff_le, and_self, f21, hl, wC]
  refine i_app (A := [(p, wC s t1 t2)]) (R := tokH t2 ++ R) hp hn hg (.inl ⟨_, rfl⟩) (by rw [ints_all]; trivial) (by rw [ints_all]; trivial) ?_ ?_ fun t2' H' h1 h2 h3 => ?_
  · simp only [ints_len, maxLen_eq]; omega
  · simp only [ints_len]; omega
  · have hl3 := look_head h2 h3
    simp (implicitDefEqProofs := false) only [sB0, sB1, sB2, sB3, sB4, sB5, sB6, sB7, sB8, sB9, sB10, sB11, sB12, sB13, sB14, sB15, sB16, sB17, sB18, sB19, noOb, AV.cells, AV.kindN, AV.undef, fillL, splice, isU8, lookH, setH, renH, othK, Heap.keys, foundA, if_true, if_false, ↓reduceIte, Nat.reduceEqDiff, Nat.reduceLeDiff, Nat.reduceAdd, Nat.reduceMul, Nat.reduceSub, Nat.reduceLT, Nat.reduceBNe, Nat.reduceBEq, Int.reduceToNat, Int.reduceLT, Int.reduceLE, Int.reduceAdd, Int.reduceSub, Int.reduceMul, Int.reduceEq, Int.reduceNeg, true_and, and_true, false_and, and_false, ne_eq, not_true_eq_false, not_false_eq_true, true_or, or_true, false_or, or_false, eq_self, reduceCtorEq, exists_eq_left, exists_eq_left', UInt8.reduceOfNat, UInt8.reduceToNat, not_or, Int.reduceMod, Int.reduceTMod, Int.reduceTDiv, Nat.reduceMod, bytesOf, gt_iff_lt, ge_iff_le, and_self, hl3, wC]
    rw [ints_app] at h1 ⊢
    exact hK t2' _ h1 (set_head _ h2 h3) (set_nodup _ h3)
end Go.AL.Fun
