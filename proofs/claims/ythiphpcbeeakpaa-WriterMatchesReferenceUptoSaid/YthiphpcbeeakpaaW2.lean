/- The writer's laws: tables, the size test, the example. -/
import Derived.Test.YthiphpcbeeakpaaW1
set_option linter.unusedSimpArgs false
set_option maxRecDepth 100000
namespace Go.AL.Fun
open Go Go.AL

theorem wH_ext {H R : Heap} {p : Nat} {s : WS} {t1 t2 : Tok} (X : Heap) (hp : H.Perm (wH p s t1 t2 R)) : (X ++ H).Perm (wH p s t1 t2 (X ++ R)) := by
  refine (hp.append_left X).trans ?_
  simp only [wH]
  refine (List.perm_append_comm_assoc X [_] _).trans (.cons _ ?_)
  show (X ++ (tokH t1 ++ (tokH t2 ++ R))).Perm _
  refine (List.perm_append_comm_assoc X _ _).trans (.append_left _ ?_)
  exact List.perm_append_comm_assoc X _ _

def bbAV (l : List (List UInt8 × Tok)) : List AV := l.map fun p => .sl (bytesAV p.1) p.2
def bbSum (l : List (List UInt8 × Tok)) : Nat := (l.map fun p => p.1.length).sum
theorem bb_get (l : List (List UInt8 × Tok)) (i : Nat) : (bbAV l)[i]? = (l[i]?).map fun p => .sl (bytesAV p.1) p.2 := by simp [bbAV]
theorem bb_len (l : List (List UInt8 × Tok)) : (bbAV l).length = l.length := by simp [bbAV]
theorem bb_take {l : List (List UInt8 × Tok)} {i : Nat} {x : List UInt8 × Tok} (h : l[i]? = some x) : bbSum (l.take (i + 1)) = bbSum (l.take i) + x.1.length := by
  rw [List.take_add_one, h]; simp [bbSum]
theorem bb_le (l : List (List UInt8 × Tok)) (i : Nat) : bbSum (l.take i) ≤ bbSum l := by
  have : bbSum l = bbSum (l.take i) + bbSum (l.drop i) := by
    conv => lhs; rw [← List.take_append_drop i l]
    simp only [bbSum, List.map_append, List.sum_append]
  omega

theorem toolarge_spec (P : Program) {n : Nat} {xs : List AV} {l : List (List UInt8 × Tok)} {t t' : Tok} {H : Heap} (hx : xs.length = n) (h1 : n ≤ 1099511627776) (h2 : l.length ≤ 1099511627776) (h3 : bbSum l ≤ 1099511627776) (K : Kv)
    (hK : K.ap (.bool (decide (300 < n ∨ 300 < l.length ∨ 20000 < bbSum l))) H) : @xF (t0 P) f15 [.sl xs t, .sl (bbAV l) t'] H K := by
  simp (implicitDefEqProofs := false) only [sB0, sB1, sB2, sB3, sB4, sB5, sB6, sB7, sB8, sB9, sB10, sB11, sB12, sB13, sB14, sB15, sB16, sB17, sB18, sB19, noOb, AV.cells, AV.kindN, AV.undef, fillL, splice, isU8, lookH, setH, renH, othK, Heap.keys, foundA, if_true, if_false, ↓reduceIte, Nat.reduceEqDiff, Nat.reduceLeDiff, Nat.reduceAdd, Nat.reduceMul, Nat.reduceSub, Nat.reduceLT, Nat.reduceBNe, Nat.reduceBEq, Int.reduceToNat, Int.reduceLT, Int.reduceLE, Int.reduceAdd, Int.reduceSub, Int.reduceMul, Int.reduceEq, Int.reduceNeg, true_and, and_true, false_and, and_false, ne_eq, not_true_eq_false, not_false_eq_true, true_or, or_true, false_or, or_false, eq_self, reduceCtorEq, exists_eq_left, exists_eq_left', UInt8.reduceOfNat, UInt8.reduceToNat, not_or, Int.reduceMod, Int.reduceTMod, Int.reduceTDiv, Nat.reduceMod, bytesOf, gt_iff_lt, ge_iff_le, and_self, f15, hx, bb_len]
  refine i_loop (fun σ H1 => H1 = H ∧ ∃ i, i ≤ l.length ∧ σ = [(0, .sl xs t), (1, .sl (bbAV l) t'), (5, .int .i64 (bbSum (l.take i))), (8, .sl (bbAV l) t'), (9, .int .i64 l.length), (10, .int .i64 i)]) (fun σ _ => match σ.get 10 with | .int _ n => l.length - n.toNat | _ => 0) ⟨H, .refl _, rfl, 0, Nat.zero_le _, rfl⟩ ?_
  rintro σ1 H1 ⟨rfl, i, hi, rfl⟩
  simp (implicitDefEqProofs := false) only [sB0, sB1, sB2, sB3, sB4, sB5, sB6, sB7, sB8, sB9, sB10, sB11, sB12, sB13, sB14, sB15, sB16, sB17, sB18, sB19, noOb, AV.cells, AV.kindN, AV.undef, fillL, splice, isU8, lookH, setH, renH, othK, Heap.keys, foundA, if_true, if_false, ↓reduceIte, Nat.reduceEqDiff, Nat.reduceLeDiff, Nat.reduceAdd, Nat.reduceMul, Nat.reduceSub, Nat.reduceLT, Nat.reduceBNe, Nat.reduceBEq, Int.reduceToNat, Int.reduceLT, Int.reduceLE, Int.reduceAdd, Int.reduceSub, Int.reduceMul, Int.reduceEq, Int.reduceNeg, true_and, and_true, false_and, and_false, ne_eq, not_true_eq_false, not_false_eq_true, true_or, or_true, false_or, or_false, eq_self, reduceCtorEq, exists_eq_left, exists_eq_left', UInt8.reduceOfNat, UInt8.reduceToNat, not_or, Int.reduceMod, Int.reduceTMod, Int.reduceTDiv, Nat.reduceMod, bytesOf, gt_iff_lt, ge_iff_le, and_self]
  refine i_if (fun c => ?_) (fun c => ?_)
  · have hlt : i < l.length := by simpa using c
    have hx : l[i]? = some l[i] := List.getElem?_eq_getElem hlt
    simp (implicitDefEqProofs := false) only [sB0, sB1, sB2, sB3, sB4, sB5, sB6, sB7, sB8, sB9, sB10, sB11, sB12, sB13, sB14, sB15, sB16, sB17, sB18, sB19, noOb, AV.cells, AV.kindN, AV.undef, fillL, splice, isU8, lookH, setH, renH, othK, Heap.keys, foundA, if_true, if_false, ↓reduceIte, Nat.reduceEqDiff, Nat.reduceLeDiff, Nat.reduceAdd, Nat.reduceMul, Nat.reduceSub, Nat.reduceLT, Nat.reduceBNe, Nat.reduceBEq, Int.reduceToNat, Int.reduceLT, Int.reduceLE, Int.reduceAdd, Int.reduceSub, Int.reduceMul, Int.reduceEq, Int.reduceNeg, true_and, and_true, false_and, and_false, ne_eq, not_true_eq_false, not_false_eq_true, true_or, or_true, false_or, or_false, eq_self, reduceCtorEq, exists_eq_left, exists_eq_left', UInt8.reduceOfNat, UInt8.reduceToNat, not_or, Int.reduceMod, Int.reduceTMod, Int.reduceTDiv, Nat.reduceMod, bytesOf, gt_iff_lt, ge_iff_le, and_self, bb_get, hx]
    have e1 := bb_take hx
    have e2 := bb_le l (i + 1)
    have e3 := w_i64 ((bbSum (l.take i) : Int) + l[i].1.length) (by omega) (by omega)
    have e4 := w_i64 ((i : Int) + 1) (by omega) (by omega)
    rw [e3, e4]
    refine ⟨by omega, H1, .refl _, ⟨rfl, i + 1, hlt, ?_, ?_⟩, by omega⟩
    · rw [e1]; simp
    · simp
  · have hlt : i = l.length := by have : ¬ (i : Int) < l.length := by simpa using c
                                  omega
    subst hlt
    rw [List.take_length]
    by_cases c1 : (300 : Int) < n
    · simp (implicitDefEqProofs := false) only [sB0, sB1, sB2, sB3, sB4, sB5, sB6, sB7, sB8, sB9, sB10, sB11, sB12, sB13, sB14, sB15, sB16, sB17, sB18, sB19, noOb, AV.cells, AV.kindN, AV.undef, fillL, splice, isU8, lookH, setH, renH, othK, Heap.keys, foundA, if_true, if_false, ↓reduceIte, Nat.reduceEqDiff, Nat.reduceLeDiff, Nat.reduceAdd, Nat.reduceMul, Nat.reduceSub, Nat.reduceLT, Nat.reduceBNe, Nat.reduceBEq, Int.reduceToNat, Int.reduceLT, Int.reduceLE, Int.reduceAdd, Int.reduceSub, Int.reduceMul, Int.reduceEq, Int.reduceNeg, true_and, and_true, false_and, and_false, ne_eq, not_true_eq_false, not_false_eq_true, true_or, or_true, false_or, or_false, eq_self, reduceCtorEq, exists_eq_left, exists_eq_left', UInt8.reduceOfNat, UInt8.reduceToNat, not_or, Int.reduceMod, Int.reduceTMod, Int.reduceTDiv, Nat.reduceMod, bytesOf, gt_iff_lt, ge_iff_le, and_self, hx, c1]
      rw [decide_eq_true (by omega)] at hK
      exact hK
    · by_cases c2 : (300 : Int) < l.length
      · simp (implicitDefEqProofs := false) only [sB0, sB1, sB2, sB3, sB4, sB5, sB6, sB7, sB8, sB9, sB10, sB11, sB12, sB13, sB14, sB15, sB16, sB17, sB18, sB19, noOb, AV.cells, AV.kindN, AV.undef, fillL, splice, isU8, lookH, setH, renH, othK, Heap.keys, foundA, if_true, if_false, ↓reduceIte, Nat.reduceEqDiff, Nat.reduceLeDiff, Nat.reduceAdd, Nat.reduceMul, Nat.reduceSub, Nat.reduceLT, Nat.reduceBNe, Nat.reduceBEq, Int.reduceToNat, Int.reduceLT, Int.reduceLE, Int.reduceAdd, Int.reduceSub, Int.reduceMul, Int.reduceEq, Int.reduceNeg, true_and, and_true, false_and, and_false, ne_eq, not_true_eq_false, not_false_eq_true, true_or, or_true, false_or, or_false, eq_self, reduceCtorEq, exists_eq_left, exists_eq_left', UInt8.reduceOfNat, UInt8.reduceToNat, not_or, Int.reduceMod, Int.reduceTMod, Int.reduceTDiv, Nat.reduceMod, bytesOf, gt_iff_lt, ge_iff_le, and_self, hx, c1, bb_len, c2]
        rw [decide_eq_true (by omega)] at hK
        exact hK
      · simp (implicitDefEqProofs := false) only [sB0, sB1, sB2, sB3, sB4, sB5, sB6, sB7, sB8, sB9, sB10, sB11, sB12, sB13, sB14, sB15, sB16, sB17, sB18, sB19, noOb, AV.cells, AV.kindN, AV.undef, fillL, splice, isU8, lookH, setH, renH, othK, Heap.keys, foundA, if_true, if_false, ↓reduceIte, Nat.reduceEqDiff, Nat.reduceLeDiff, Nat.reduceAdd, Nat.reduceMul, Nat.reduceSub, Nat.reduceLT, Nat.reduceBNe, Nat.reduceBEq, Int.reduceToNat, Int.reduceLT, Int.reduceLE, Int.reduceAdd, Int.reduceSub, Int.reduceMul, Int.reduceEq, Int.reduceNeg, true_and, and_true, false_and, and_false, ne_eq, not_true_eq_false, not_false_eq_true, true_or, or_true, false_or, or_false, eq_self, reduceCtorEq, exists_eq_left, exists_eq_left', UInt8.reduceOfNat, UInt8.reduceToNat, not_or, Int.reduceMod, Int.reduceTMod, Int.reduceTDiv, Nat.reduceMod, bytesOf, gt_iff_lt, ge_iff_le, and_self, hx, c1, bb_len, c2]
        rw [show decide (300 < n ∨ 300 < l.length ∨ 20000 < bbSum l) = decide ((20000 : Int) < (bbSum l : Nat)) by rw [decide_eq_decide]; omega] at hK
        exact hK
/-- The size test. -/
def c15 (xs : List AV) (H : Heap) (K : Kv) : Prop := ∃ ys l t t', xs = [.sl ys t, .sl (bbAV l) t'] ∧ ys.length ≤ 1099511627776 ∧ l.length ≤ 1099511627776 ∧ bbSum l ≤ 1099511627776 ∧
  K.ap (.bool (decide (300 < ys.length ∨ 300 < l.length ∨ 20000 < bbSum l))) H
def c17 (xs : List AV) (H : Heap) (K : Kv) : Prop := ∃ l x, xs = [x] ∧ IsInts x H l ∧ l.length ≤ 1099511627776 ∧ H.keys.Nodup ∧
  ∀ p t H', GT (intsAV l) t → H'.Perm (wH p ⟨l, [], 0, 0⟩ t .nil H) → H'.keys.Nodup → K.ap (.ptr p 0) H'
def c18 (xs : List AV) (H : Heap) (K : Kv) : Prop := ∃ p s t1 t2 x tok R, xs = [.ptr p 0, .sl (bytesAV x) tok] ∧ H.Perm (wH p s t1 t2 R) ∧ H.keys.Nodup ∧ GT (bytesAV s.b) t2 ∧ s.calls < 1099511627776 ∧ s.b.length + x.length ≤ 1099511627776 ∧
  ∀ t2' H', GT (bytesAV (s.write x).1.b) t2' → H'.Perm (wH p (s.write x).1 t1 t2' R) → H'.keys.Nodup → K.ap (.tup [.int .i64 (s.write x).2.1, .int .i64 (s.write x).2.2]) H'
def c19 (xs : List AV) (H : Heap) (K : Kv) : Prop := ∃ p s t1 t2 R, xs = [.ptr p 0] ∧ H.Perm (wH p s t1 t2 R) ∧ H.keys.Nodup ∧ GT (bytesAV s.b) t2 ∧ s.b.length ≤ 1099511627776 ∧
  ∀ t H', GT (bytesAV s.b) t → H'.Perm (tokH t ++ H) → H'.keys.Nodup → K.ap (.sl (bytesAV s.b) t) H'
def c20 (xs : List AV) (H : Heap) (K : Kv) : Prop := ∃ p s t1 t2 R, xs = [.ptr p 0] ∧ H.Perm (wH p s t1 t2 R) ∧ H.keys.Nodup ∧ K.ap (.int .i64 s.calls) H
def c22 (xs : List AV) (H : Heap) (K : Kv) : Prop := ∃ p s t1 t2 R, xs = [.ptr p 0] ∧ H.Perm (wH p s t1 t2 R) ∧ H.keys.Nodup ∧ K.ap (.int .i64 s.left.length) H
def c21 (xs : List AV) (H : Heap) (K : Kv) : Prop := ∃ p s t1 t2 l tok R, xs = [.ptr p 0, .sl (intsAV l) tok] ∧ H.Perm (wH p s t1 t2 R) ∧ H.keys.Nodup ∧ GT (intsAV s.left) t1 ∧ s.left.length + l.length ≤ 1099511627776 ∧
  ∀ t1' H', GT (intsAV (s.left ++ l)) t1' → H'.Perm (wH p { s with left := s.left ++ l } t1' t2 R) → H'.keys.Nodup → K.ap (.tup []) H'
@[reducible] def tX (P : Program) : Th := ⟨fun _ => none, P, [(15, c15), (17, c17), (18, c18), (19, c19), (20, c20), (21, c21), (22, c22)]⟩

section
variable {P : Program} (hm : P.follows .mixedOrders = true) (h15 : compF P 15 f15.body.hints = some f15) (h17 : compF P 17 f17.body.hints = some f17) (h18 : compF P 18 f18.body.hints = some f18)
  (h19 : compF P 19 f19.body.hints = some f19) (h20 : compF P 20 f20.body.hints = some f20) (h21 : compF P 21 f21.body.hints = some f21) (h22 : compF P 22 f22.body.hints = some f22)
  (h39 : compF P 39 f39.body.hints = some f39) (h40 : compF P 40 f40.body.hints = some f40)
include hm h39 h40
theorem tW_ok : TOk (fun _ => none) P (plainT (tW P).T) :=
  .consX (fun xs H K ⟨l, tok, e, a, b, c, d⟩ => by subst e; exact okF hm .nilX h39 _ _ _ (clone_ints P c a b _ d)) (.consX (fun xs H K ⟨l, tok, e, a, b, c, d⟩ => by subst e; exact okF hm .nilX h40 _ _ _ (clone_bytes P c a b _ d)) .nilX)
include h15 h17 h18 h19 h20 h21 h22
theorem tX_ok : TOk (fun _ => none) P (plainT (tX P).T) :=
  .consX (fun xs H K ⟨ys, l, t, t', e, a, b, c, d⟩ => by subst e; exact okF hm .nilX h15 _ _ _ (toolarge_spec P rfl a b c _ d)) <|
  .consX (fun xs H K ⟨l, tok, e, a, b, c, d⟩ => by subst e; exact okF hm (tW_ok hm h39 h40) h17 _ _ _ (wnew_spec P c a b _ d)) <|
  .consX (fun xs H K ⟨p, s, t1, t2, x, tok, R, e, a, b, c, d, f, g⟩ => by subst e; exact okF hm .nilX h18 _ _ _ (write_spec P a b c d f _ g)) <|
  .consX (fun xs H K ⟨p, s, t1, t2, R, e, a, b, c, d, f⟩ => by subst e; exact okF hm (tW_ok hm h39 h40) h19 _ _ _ (wbytes_spec P a b c d _ f)) <|
  .consX (fun xs H K ⟨p, s, t1, t2, R, e, a, b, c⟩ => by subst e; exact okF hm (tW_ok hm h39 h40) h20 _ _ _ (wcalls_spec P a b _ c)) <|
  .consX (fun xs H K ⟨p, s, t1, t2, l, tok, R, e, a, b, c, d, f⟩ => by subst e; exact okF hm (tW_ok hm h39 h40) h21 _ _ _ (wext_spec P a b c d _ f)) <|
  .consX (fun xs H K ⟨p, s, t1, t2, R, e, a, b, c⟩ => by subst e; exact okF hm (tW_ok hm h39 h40) h22 _ _ _ (wleft_spec P a b _ c)) .nilX
end
end Go.AL.Fun
