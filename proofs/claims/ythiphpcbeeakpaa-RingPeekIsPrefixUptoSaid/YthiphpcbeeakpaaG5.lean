/- The ring, by its contents. -/
import Derived.Test.YthiphpcbeeakpaaG4
set_option linter.unusedSimpArgs false
set_option linter.unusedVariables false
set_option maxRecDepth 100000
namespace Go.AL.Fun
open Go Go.AL

theorem set_same {id : Nat} {o : AObj} : ∀ {H : Heap}, lookH id H = some o → setH id o H = H
  | [], h => by cases h
  | (j, p) :: H, h => by
    simp only [lookH] at h
    simp only [setH, renH]
    by_cases e : id = j
    · subst e; rw [if_pos rfl] at h ⊢; cases h; rfl
    · rw [if_neg e] at h ⊢; congr 1; exact set_same h

def IsRing (r cap : Nat) (c : List UInt8) (R H : Heap) : Prop := ∃ (a st : Nat) (buf : List UInt8), H.Perm ((r, .cells [.msl a 0 cap 1, .int .i64 st, .int .i64 c.length]) :: (a, .cells (bytesAV buf)) :: R) ∧ H.keys.Nodup ∧
  buf.length = cap ∧ st < cap ∧ c.length ≤ cap ∧ cap ≤ 65536 ∧ (rot buf st).take c.length = c

theorem IsRing.nodup {r cap : Nat} {c : List UInt8} {R H : Heap} (h : IsRing r cap c R H) : H.keys.Nodup := by obtain ⟨_, _, _, _, h, _⟩ := h; exact h
theorem IsRing.le {r cap : Nat} {c : List UInt8} {R H : Heap} (h : IsRing r cap c R H) : c.length ≤ cap ∧ cap ≤ 65536 ∧ 0 < cap := by obtain ⟨_, _, _, _, _, _, _, h1, h2, _⟩ := h; exact ⟨h1, h2, by omega⟩
theorem IsRing.look {r cap : Nat} {c : List UInt8} {R H : Heap} (h : IsRing r cap c R H) {id : Nat} {o : AObj} (ho : (id, o) ∈ R) : lookH id H = some o := by
  obtain ⟨_, _, _, hp, hn, _⟩ := h
  rw [lookH_iff hn]; exact hp.mem_iff.2 (by simp [ho])
theorem IsRing.ext {r cap : Nat} {c : List UInt8} {R H : Heap} (h : IsRing r cap c R H) (X : Heap) (hn : (X ++ H).keys.Nodup) : IsRing r cap c (X ++ R) (X ++ H) := by
  obtain ⟨a, st, buf, hp, _, h2⟩ := h
  refine ⟨a, st, buf, ?_, hn, h2⟩
  exact (hp.append_left X).trans (List.perm_append_comm_assoc X [_, _] R)
theorem IsRing.perm {r cap : Nat} {c : List UInt8} {R R' H : Heap} (h : IsRing r cap c R H) (hp : R.Perm R') : IsRing r cap c R' H := by
  obtain ⟨a, st, buf, h1, h2⟩ := h
  exact ⟨a, st, buf, h1.trans ((hp.cons _).cons _), h2⟩

/-- The ring's own entries. -/
theorem IsRing.own {r cap : Nat} {c : List UInt8} {R H : Heap} (h : IsRing r cap c R H) : ∃ (a st : Nat) (buf : List UInt8), lookH r H = some (.cells [.msl a 0 buf.length 1, .int .i64 st, .int .i64 c.length]) ∧ lookH a H = some (.cells (bytesAV buf)) ∧ ¬ r = a ∧
    r ∈ H.keys ∧ a ∈ H.keys ∧ buf.length = cap ∧ st < buf.length ∧ (rot buf st).take c.length = c ∧ (∀ id ∈ R.keys, ¬ id = r ∧ ¬ id = a) ∧
    ∀ st' buf' c', buf'.length = cap → st' < cap → c'.length ≤ cap → (rot buf' st').take c'.length = c' → IsRing r cap c' R (setH r (.cells [.msl a 0 buf.length 1, .int .i64 st', .int .i64 c'.length]) (setH a (.cells (bytesAV buf')) H)) := by
  obtain ⟨a, st, buf, hp, hn, h1, h2, h3, h4, h5⟩ := h
  have hn' := nodup_perm hp hn
  simp only [Heap.keys, List.map_cons, List.nodup_cons, List.mem_cons, not_or] at hn'
  have hra : ¬ r = a := hn'.1.1
  subst h1
  have l1 := look_head hp hn
  refine ⟨a, st, buf, l1, ?_, hra, List.mem_map.2 ⟨_, lookH_mem l1, rfl⟩, ?_, rfl, h2, h5, fun id hid => ⟨fun e => hn'.1.2 (by rw [← e]; exact hid), fun e => hn'.2.1 (by rw [← e]; exact hid)⟩, fun st' buf' c' q1 q2 q3 q4 => ?_⟩
  · rw [lookH_iff hn]; exact hp.mem_iff.2 (by simp)
  · exact List.mem_map.2 ⟨_, hp.mem_iff.2 (List.mem_cons_of_mem _ List.mem_cons_self), rfl⟩
  · refine ⟨a, st', buf', ?_, set_nodup _ (set_nodup _ hn), q1, q2, q3, h4, q4⟩
    have k1 := setH_perm (id := a) (o := .cells (bytesAV buf')) hp hn
    have k2 := setH_perm (id := r) (o := .cells [.msl a 0 buf.length 1, .int .i64 st', .int .i64 c'.length]) k1 (set_nodup _ hn)
    have har : ¬ a = r := fun e => hra e.symm
    simpa [setH, renH, hra, har] using k2

theorem rot_drop {buf : List UInt8} {st k n : Nat} {c : List UInt8} (h1 : st < buf.length) (hn : n ≤ buf.length) (hk : k ≤ n) (h2 : (rot buf st).take n = c) : (rot buf ((st + k) % buf.length)).take (n - k) = c.drop k := by
  rw [← h2]
  have hlt : (st + k) % buf.length < buf.length := Nat.mod_lt _ (by omega)
  have hev : (st + k < buf.length ∧ (st + k) % buf.length = st + k) ∨ (buf.length ≤ st + k ∧ (st + k) % buf.length = st + k - buf.length) := by
    rcases Nat.lt_or_ge (st + k) buf.length with h | h
    · exact .inl ⟨h, Nat.mod_eq_of_lt h⟩
    · refine .inr ⟨h, ?_⟩
      rw [Nat.mod_eq_sub_mod h, Nat.mod_eq_of_lt (by omega)]
  generalize (st + k) % buf.length = e at hlt hev
  refine List.ext_getElem? fun i => ?_
  rw [List.getElem?_take, rot_get (by omega), List.getElem?_drop, List.getElem?_take, rot_get (by omega)]
  by_cases i1 : i < n - k
  · rw [if_pos i1, if_pos (show k + i < n by omega)]
    have q0 : i < buf.length := by omega
    have q1 : k + i < buf.length := by omega
    by_cases i2 : st + (k + i) < buf.length
    · have q2 : e + i < buf.length := by omega
      simp only [i2, q2, if_true]; congr 1; omega
    · by_cases i3 : e + i < buf.length
      · simp only [i2, i3, q0, q1, if_true, if_false]; congr 1; omega
      · simp only [i2, i3, q0, q1, if_true, if_false]; congr 1; omega
  · rw [if_neg i1, if_neg (show ¬ k + i < n by omega)]

def p31 (xs : List AV) (H : Heap) (K : Kv) : Prop := ∃ n : Int, xs = [.int .i64 n] ∧ H.keys.Nodup ∧ (n < 1 ∨ 65536 < n → K.ap (.tup [.nilp, .int .i64 3]) H) ∧ (1 ≤ n → n ≤ 65536 → ∀ r H', IsRing r n.toNat [] H H' → K.ap (.tup [.ptr r 0, .int .i64 0]) H')
def p23 (xs : List AV) (H : Heap) (K : Kv) : Prop := ∃ r cap c R bs x, xs = [.ptr r 0, x] ∧ IsRing r cap c R H ∧ ((∃ tok, x = .sl (bytesAV bs) tok) ∨ ∃ o, x = .msl o 0 bs.length 1 ∧ (o, AObj.cells (bytesAV bs)) ∈ R) ∧ bs.length ≤ 1048576 ∧
  ∀ H', IsRing r cap (c ++ bs.take (min (cap - c.length) bs.length)) R H' → K.ap (.int .i64 (min (cap - c.length) bs.length : Nat)) H'
def p24 (xs : List AV) (H : Heap) (K : Kv) : Prop := ∃ r cap c R, ∃ k : Int, xs = [.ptr r 0, .int .i64 k] ∧ IsRing r cap c R H ∧ -9223372036854775808 ≤ k ∧ k < 9223372036854775808 ∧
  ∀ p H', IsRing r cap c ((p, .cells (bytesAV (c.take k.toNat))) :: R) H' → K.ap (.msl p 0 (min k.toNat c.length) 1) H'
def p25 (xs : List AV) (H : Heap) (K : Kv) : Prop := ∃ r cap c R, ∃ k : Int, xs = [.ptr r 0, .int .i64 k] ∧ IsRing r cap c R H ∧ (k < 0 ∨ (c.length : Int) < k → K.ap (.int .i64 3) H) ∧
  (0 ≤ k → k ≤ c.length → ∀ H', IsRing r cap (c.drop k.toNat) R H' → K.ap (.int .i64 0) H')
def p26 (xs : List AV) (H : Heap) (K : Kv) : Prop := ∃ r cap c R, xs = [.ptr r 0] ∧ IsRing r cap c R H ∧ K.ap (.int .i64 c.length) H
def p27 (xs : List AV) (H : Heap) (K : Kv) : Prop := ∃ r cap c R, xs = [.ptr r 0] ∧ IsRing r cap c R H ∧ K.ap (.int .i64 (cap - c.length : Nat)) H
def p28 (xs : List AV) (H : Heap) (K : Kv) : Prop := ∃ r cap c R, xs = [.ptr r 0] ∧ IsRing r cap c R H ∧ K.ap (.int .i64 cap) H

section
variable (P : Program)
theorem p31_of {xs : List AV} {H : Heap} {K : Kv} (h : p31 xs H K) : @xF (t0 P) f31 xs H K := by
  obtain ⟨n, rfl, hn, h1, h2⟩ := h
  by_cases c1 : n < 1
  · simp (implicitDefEqProofs := false) only [sB0, sB1, sB2, sB3, sB4, sB5, sB6, sB7, sB8, sB9, sB10, sB11, sB12, sB13, sB14, sB15, sB16, sB17, sB18, sB19, noOb, AV.cells, AV.kindN, AV.undef, fillL, splice, isU8, lookH, setH, renH, othK, Heap.keys, foundA, if_true, if_false, ↓reduceIte, Nat.reduceEqDiff, Nat.reduceLeDiff, Nat.reduceAdd, Nat.reduceMul, Nat.reduceSub, Nat.reduceLT, Nat.reduceBNe, Nat.reduceBEq, Int.reduceToNat, Int.reduceLT, Int.reduceLE, Int.reduceAdd, Int.reduceSub, Int.reduceMul, Int.reduceEq, Int.reduceNeg, true_and, and_true, false_and, and_false, ne_eq, not_true_eq_false, not_false_eq_true, true_or, or_true, false_or, or_false, eq_self, reduceCtorEq, exists_eq_left, exists_eq_left', UInt8.reduceOfNat, UInt8.reduceToNat, not_or, Int.reduceMod, Int.reduceTMod, Int.reduceTDiv, Nat.reduceMod, bytesOf, gt_iff_lt, ge_iff_le, and_self, f31, c1]
    exact h1 (.inl c1)
  · by_cases c2 : 65536 < n
    · simp (implicitDefEqProofs := false) only [sB0, sB1, sB2, sB3, sB4, sB5, sB6, sB7, sB8, sB9, sB10, sB11, sB12, sB13, sB14, sB15, sB16, sB17, sB18, sB19, noOb, AV.cells, AV.kindN, AV.undef, fillL, splice, isU8, lookH, setH, renH, othK, Heap.keys, foundA, if_true, if_false, ↓reduceIte, Nat.reduceEqDiff, Nat.reduceLeDiff, Nat.reduceAdd, Nat.reduceMul, Nat.reduceSub, Nat.reduceLT, Nat.reduceBNe, Nat.reduceBEq, Int.reduceToNat, Int.reduceLT, Int.reduceLE, Int.reduceAdd, Int.reduceSub, Int.reduceMul, Int.reduceEq, Int.reduceNeg, true_and, and_true, false_and, and_false, ne_eq, not_true_eq_false, not_false_eq_true, true_or, or_true, false_or, or_false, eq_self, reduceCtorEq, exists_eq_left, exists_eq_left', UInt8.reduceOfNat, UInt8.reduceToNat, not_or, Int.reduceMod, Int.reduceTMod, Int.reduceTDiv, Nat.reduceMod, bytesOf, gt_iff_lt, ge_iff_le, and_self, f31, c1, c2]
      exact h1 (.inr c2)
    · simp (implicitDefEqProofs := false) only [sB0, sB1, sB2, sB3, sB4, sB5, sB6, sB7, sB8, sB9, sB10, sB11, sB12, sB13, sB14, sB15, sB16, sB17, sB18, sB19, noOb, AV.cells, AV.kindN, AV.undef, fillL, splice, isU8, lookH, setH, renH, othK, Heap.keys, foundA, if_true, if_false, ↓reduceIte, Nat.reduceEqDiff, Nat.reduceLeDiff, Nat.reduceAdd, Nat.reduceMul, Nat.reduceSub, Nat.reduceLT, Nat.reduceBNe, Nat.reduceBEq, Int.reduceToNat, Int.reduceLT, Int.reduceLE, Int.reduceAdd, Int.reduceSub, Int.reduceMul, Int.reduceEq, Int.reduceNeg, true_and, and_true, false_and, and_false, ne_eq, not_true_eq_false, not_false_eq_true, true_or, or_true, false_or, or_false, eq_self, reduceCtorEq, exists_eq_left, exists_eq_left', UInt8.reduceOfNat, UInt8.reduceToNat, not_or, Int.reduceMod, Int.reduceTMod, Int.reduceTDiv, Nat.reduceMod, bytesOf, gt_iff_lt, ge_iff_le, and_self, f31, c1, c2]
      refine ⟨by omega, i_new fun a ha => ?_⟩
      simp (implicitDefEqProofs := false) only [sB0, sB1, sB2, sB3, sB4, sB5, sB6, sB7, sB8, sB9, sB10, sB11, sB12, sB13, sB14, sB15, sB16, sB17, sB18, sB19, noOb, AV.cells, AV.kindN, AV.undef, fillL, splice, isU8, lookH, setH, renH, othK, Heap.keys, foundA, if_true, if_false, ↓reduceIte, Nat.reduceEqDiff, Nat.reduceLeDiff, Nat.reduceAdd, Nat.reduceMul, Nat.reduceSub, Nat.reduceLT, Nat.reduceBNe, Nat.reduceBEq, Int.reduceToNat, Int.reduceLT, Int.reduceLE, Int.reduceAdd, Int.reduceSub, Int.reduceMul, Int.reduceEq, Int.reduceNeg, true_and, and_true, false_and, and_false, ne_eq, not_true_eq_false, not_false_eq_true, true_or, or_true, false_or, or_false, eq_self, reduceCtorEq, exists_eq_left, exists_eq_left', UInt8.reduceOfNat, UInt8.reduceToNat, not_or, Int.reduceMod, Int.reduceTMod, Int.reduceTDiv, Nat.reduceMod, bytesOf, gt_iff_lt, ge_iff_le, and_self]
      refine i_new fun b hb => ?_
      simp (implicitDefEqProofs := false) only [sB0, sB1, sB2, sB3, sB4, sB5, sB6, sB7, sB8, sB9, sB10, sB11, sB12, sB13, sB14, sB15, sB16, sB17, sB18, sB19, noOb, AV.cells, AV.kindN, AV.undef, fillL, splice, isU8, lookH, setH, renH, othK, Heap.keys, foundA, if_true, if_false, ↓reduceIte, Nat.reduceEqDiff, Nat.reduceLeDiff, Nat.reduceAdd, Nat.reduceMul, Nat.reduceSub, Nat.reduceLT, Nat.reduceBNe, Nat.reduceBEq, Int.reduceToNat, Int.reduceLT, Int.reduceLE, Int.reduceAdd, Int.reduceSub, Int.reduceMul, Int.reduceEq, Int.reduceNeg, true_and, and_true, false_and, and_false, ne_eq, not_true_eq_false, not_false_eq_true, true_or, or_true, false_or, or_false, eq_self, reduceCtorEq, exists_eq_left, exists_eq_left', UInt8.reduceOfNat, UInt8.reduceToNat, not_or, Int.reduceMod, Int.reduceTMod, Int.reduceTDiv, Nat.reduceMod, bytesOf, gt_iff_lt, ge_iff_le, and_self] at hb
      simp (implicitDefEqProofs := false) only [sB0, sB1, sB2, sB3, sB4, sB5, sB6, sB7, sB8, sB9, sB10, sB11, sB12, sB13, sB14, sB15, sB16, sB17, sB18, sB19, noOb, AV.cells, AV.kindN, AV.undef, fillL, splice, isU8, lookH, setH, renH, othK, Heap.keys, foundA, if_true, if_false, ↓reduceIte, Nat.reduceEqDiff, Nat.reduceLeDiff, Nat.reduceAdd, Nat.reduceMul, Nat.reduceSub, Nat.reduceLT, Nat.reduceBNe, Nat.reduceBEq, Int.reduceToNat, Int.reduceLT, Int.reduceLE, Int.reduceAdd, Int.reduceSub, Int.reduceMul, Int.reduceEq, Int.reduceNeg, true_and, and_true, false_and, and_false, ne_eq, not_true_eq_false, not_false_eq_true, true_or, or_true, false_or, or_false, eq_self, reduceCtorEq, exists_eq_left, exists_eq_left', UInt8.reduceOfNat, UInt8.reduceToNat, not_or, Int.reduceMod, Int.reduceTMod, Int.reduceTDiv, Nat.reduceMod, bytesOf, gt_iff_lt, ge_iff_le, and_self]
      refine h2 (by omega) (by omega) b _ ⟨a, 0, List.replicate n.toNat 0, .refl _, ?_, by simp, by omega, by simp, by omega, by simp⟩
      exact List.nodup_cons.2 ⟨by simp [hb], List.nodup_cons.2 ⟨ha, hn⟩⟩
theorem p23_of {xs : List AV} {H : Heap} {K : Kv} (h : p23 xs H K) : @xF (tB P) f23 xs H K := by
  obtain ⟨r, cap, c, R, bs, x, rfl, h1, h2, h3, hK⟩ := h
  obtain ⟨l1, l2, l3⟩ := h1.le
  obtain ⟨a, st, buf, g1, g2, g3, g4, g5, rfl, g7, g8, g9, g10⟩ := h1.own
  have hm : min (buf.length - c.length) bs.length = if buf.length - c.length < bs.length then buf.length - c.length else bs.length := by split <;> omega
  have fin : ∀ buf', buf'.length = buf.length → (rot buf' st).take (c.length + min (buf.length - c.length) bs.length) = (rot buf st).take c.length ++ bs.take (min (buf.length - c.length) bs.length) →
      K.ap (.int .i64 (min (buf.length - c.length) bs.length : Nat)) (setH r (.cells [.msl a 0 buf.length 1, .int .i64 st, .int .i64 (c.length + min (buf.length - c.length) bs.length : Nat)]) (setH a (.cells (bytesAV buf')) H)) := by
    intro buf' q1 q2
    rw [g8] at q2
    have ql : (c ++ bs.take (min (buf.length - c.length) bs.length)).length = c.length + min (buf.length - c.length) bs.length := by rw [List.length_append, List.length_take]; omega
    have := g10 st buf' (c ++ bs.take (min (buf.length - c.length) bs.length)) q1 g7 (by rw [ql]; omega) (by rw [ql]; exact q2)
    rw [ql] at this
    exact hK _ this
  rcases h2 with ⟨tok, rfl⟩ | ⟨o, rfl, ho⟩
  · exact put_spec P g1 g2 g3 g7 l1 l2 bs tok h3 _ hm K fin
  · have hk := g9 o (List.mem_map.2 ⟨_, ho, rfl⟩)
    exact put_spec_m P g1 g2 g3 g7 l1 l2 bs (h1.look ho) hk.2 hk.1 h3 _ hm K fin
theorem p24_of {xs : List AV} {H : Heap} {K : Kv} (h : p24 xs H K) : @xF (t0 P) f24 xs H K := by
  obtain ⟨r, cap, c, R, k, rfl, h1, h2, h3, hK⟩ := h
  obtain ⟨l1, l2, l3⟩ := h1.le
  obtain ⟨a, st, buf, g1, g2, g3, g4, g5, rfl, g7, g8, g9, g10⟩ := h1.own
  refine peek_spec P g1 g2 g7 l1 l2 k h2 h3 (min k.toNat c.length) (by split <;> (try split) <;> omega) g4 g5 K fun p hp => ?_
  have e : (rot buf st).take (min k.toNat c.length) = c.take k.toNat := by rw [← List.take_take, g8]
  rw [e]
  exact hK p _ (h1.ext [_] (List.nodup_cons.2 ⟨hp, h1.nodup⟩))
theorem p25_of {xs : List AV} {H : Heap} {K : Kv} (h : p25 xs H K) : @xF (t0 P) f25 xs H K := by
  obtain ⟨r, cap, c, R, k, rfl, h1, h2, hK⟩ := h
  obtain ⟨l1, l2, l3⟩ := h1.le
  obtain ⟨a, st, buf, g1, g2, g3, g4, g5, rfl, g7, g8, g9, g10⟩ := h1.own
  by_cases c1 : k < 0 ∨ (c.length : Int) < k
  · exact consume_no P g1 k c1 K (h2 c1)
  · obtain ⟨m, rfl⟩ : ∃ m : Nat, k = m := ⟨k.toNat, by omega⟩
    have hm : m ≤ c.length := by omega
    refine consume_spec P g1 g7 l1 l2 m hm K fun st' q1 q2 => ?_
    have k1 := g10 st' buf (c.drop m) rfl q1 (by rw [List.length_drop]; omega) (by rw [List.length_drop, q2]; exact rot_drop g7 l1 hm g8)
    rw [List.length_drop] at k1
    have k2 : setH a (.cells (bytesAV buf)) H = H := set_same g2
    rw [k2] at k1
    exact hK (by omega) (by omega) _ (by rw [Int.toNat_natCast]; exact k1)
theorem p26_of {xs : List AV} {H : Heap} {K : Kv} (h : p26 xs H K) : @xF (t0 P) f26 xs H K := by
  obtain ⟨r, cap, c, R, rfl, h1, hK⟩ := h
  obtain ⟨a, st, buf, g1, _⟩ := h1.own
  simp (implicitDefEqProofs := false) only [sB0, sB1, sB2, sB3, sB4, sB5, sB6, sB7, sB8, sB9, sB10, sB11, sB12, sB13, sB14, sB15, sB16, sB17, sB18, sB19, noOb, AV.cells, AV.kindN, AV.undef, fillL, splice, isU8, lookH, setH, renH, othK, Heap.keys, foundA, if_true, if_false, ↓reduceIte, Nat.reduceEqDiff, Nat.reduceLeDiff, Nat.reduceAdd, Nat.reduceMul, Nat.reduceSub, Nat.reduceLT, Nat.reduceBNe, Nat.reduceBEq, Int.reduceToNat, Int.reduceLT, Int.reduceLE, Int.reduceAdd, Int.reduceSub, Int.reduceMul, Int.reduceEq, Int.reduceNeg, true_and, and_true, false_and, and_false, ne_eq, not_true_eq_false, not_false_eq_true, true_or, or_true, false_or, or_false, eq_self, reduceCtorEq, exists_eq_left, exists_eq_left', UInt8.reduceOfNat, UInt8.reduceToNat, not_or, Int.reduceMod, Int.reduceTMod, Int.reduceTDiv, Nat.reduceMod, bytesOf, gt_iff_lt, ge_iff_le, and_self, f26, g1]
  exact hK
theorem p28_of {xs : List AV} {H : Heap} {K : Kv} (h : p28 xs H K) : @xF (t0 P) f28 xs H K := by
  obtain ⟨r, cap, c, R, rfl, h1, hK⟩ := h
  obtain ⟨a, st, buf, g1, _, _, _, _, g6, _⟩ := h1.own
  simp (implicitDefEqProofs := false) only [sB0, sB1, sB2, sB3, sB4, sB5, sB6, sB7, sB8, sB9, sB10, sB11, sB12, sB13, sB14, sB15, sB16, sB17, sB18, sB19, noOb, AV.cells, AV.kindN, AV.undef, fillL, splice, isU8, lookH, setH, renH, othK, Heap.keys, foundA, if_true, if_false, ↓reduceIte, Nat.reduceEqDiff, Nat.reduceLeDiff, Nat.reduceAdd, Nat.reduceMul, Nat.reduceSub, Nat.reduceLT, Nat.reduceBNe, Nat.reduceBEq, Int.reduceToNat, Int.reduceLT, Int.reduceLE, Int.reduceAdd, Int.reduceSub, Int.reduceMul, Int.reduceEq, Int.reduceNeg, true_and, and_true, false_and, and_false, ne_eq, not_true_eq_false, not_false_eq_true, true_or, or_true, false_or, or_false, eq_self, reduceCtorEq, exists_eq_left, exists_eq_left', UInt8.reduceOfNat, UInt8.reduceToNat, not_or, Int.reduceMod, Int.reduceTMod, Int.reduceTDiv, Nat.reduceMod, bytesOf, gt_iff_lt, ge_iff_le, and_self, f28, g1, g6]
  exact hK
theorem p27_of {xs : List AV} {H : Heap} {K : Kv} (h : p27 xs H K) : @xF (tA P) f27 xs H K := by
  obtain ⟨r, cap, c, R, rfl, h1, hK⟩ := h
  obtain ⟨l1, l2, l3⟩ := h1.le
  obtain ⟨a, st, buf, g1, _, _, _, _, g6, _⟩ := h1.own
  have e : ((cap : Int) - c.length) = ((cap - c.length : Nat) : Int) := by omega
  simp (implicitDefEqProofs := false) only [sB0, sB1, sB2, sB3, sB4, sB5, sB6, sB7, sB8, sB9, sB10, sB11, sB12, sB13, sB14, sB15, sB16, sB17, sB18, sB19, noOb, AV.cells, AV.kindN, AV.undef, fillL, splice, isU8, lookH, setH, renH, othK, Heap.keys, foundA, if_true, if_false, ↓reduceIte, Nat.reduceEqDiff, Nat.reduceLeDiff, Nat.reduceAdd, Nat.reduceMul, Nat.reduceSub, Nat.reduceLT, Nat.reduceBNe, Nat.reduceBEq, Int.reduceToNat, Int.reduceLT, Int.reduceLE, Int.reduceAdd, Int.reduceSub, Int.reduceMul, Int.reduceEq, Int.reduceNeg, true_and, and_true, false_and, and_false, ne_eq, not_true_eq_false, not_false_eq_true, true_or, or_true, false_or, or_false, eq_self, reduceCtorEq, exists_eq_left, exists_eq_left', UInt8.reduceOfNat, UInt8.reduceToNat, not_or, Int.reduceMod, Int.reduceTMod, Int.reduceTDiv, Nat.reduceMod, bytesOf, gt_iff_lt, ge_iff_le, and_self, f27, f26, f28, g1, g6, e, w_i64 ((cap - c.length : Nat) : Int) (by omega) (by omega)]
  exact hK
end
end Go.AL.Fun
