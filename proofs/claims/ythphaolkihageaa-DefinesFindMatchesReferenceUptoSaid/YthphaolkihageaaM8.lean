/- The reference's parser walked: a whole source; the table. -/
import Derived.Test.YthphaolkihageaaM7
set_option linter.unusedSimpArgs false
set_option linter.unusedVariables false
set_option maxRecDepth 100000
set_option maxHeartbeats 4000000
namespace Go.AL.Fun
open Go Go.AL

def resP : Option (List Nd) × Int × Int → AV
  | (some l, a, e) => .tup [.sl (Nd.avs l) (tokc l), .int .i64 a, .int .i64 e]
  | (none, a, e) => .tup [.sl [] .nil, .int .i64 a, .int .i64 e]
theorem parseR_bad {src : List UInt8} {a e : Int} (h : parseR src = (none, a, e)) : e ≠ 0 := by
  unfold parseR at h
  cases hl : lexR src with
  | mk o q =>
    obtain ⟨a1, e1⟩ := q
    rw [hl] at h
    cases o with
    | none => cases h; exact lexR_bad hl
    | some ts =>
      simp only at h
      have hk := (parse_facts ts src.length (lexR_ok hl).2.1 (2 * ts.length + 2)).1 (-1) false 0 0 0 [] (by omega) (Nat.zero_le _) (Nat.zero_le _) trivial
      revert hk h
      generalize listR ts (2 * ts.length + 2) (-1) false 0 0 0 [] = r
      rcases r with ⟨_ | x, a2, e2, i2, n2⟩
      · intro h hk; cases h; exact hk.1
      · intro h; cases h
def c15 (xs : List AV) (H : Heap) (K : Kv) : Prop := ∃ s, xs = [.str s] ∧ H.keys.Nodup ∧ s.length ≤ 1099511627776 ∧ K.ap (resP (parseR s)) H
theorem x_c15 {s : List UInt8} {H : Heap} (hn : H.keys.Nodup) (h : s.length ≤ 1099511627776) (K : Kv) (k : K.ap (resP (parseR s)) H) : c15 [.str s] H K := ⟨s, rfl, hn, h, k⟩
@[reducible] def t34 (P : Program) : Th := ⟨fun _ => none, P, [(25, c25), (26, c26 1099511627776)]⟩
theorem c15_of (P : Program) {xs : List AV} {H : Heap} {K : Kv} (h : c15 xs H K) : @xF (t34 P) f15 xs H ⟨fun v H' => ∃ H0, Hle H0 H' ∧ K.ap v H0⟩ := by
  obtain ⟨s, rfl, hn, hs, h⟩ := h
  simp (implicitDefEqProofs := false) only [sB, simprocAttr, f15]
  refine x_c25 hn hs _ ?_
  unfold parseR at h
  cases hl : lexR s with
  | mk o q =>
    obtain ⟨a1, e1⟩ := q
    rw [hl] at h
    cases o with
    | none =>
      have e0 := lexR_bad hl
      simp (implicitDefEqProofs := false) only [sB, simprocAttr, resL, e0]
      exact ⟨_, .refl _, h⟩
    | some ts =>
      obtain ⟨t1, t2, rfl⟩ := lexR_ok hl
      simp only at h
      simp (implicitDefEqProofs := false) only [sB, simprocAttr, resL]
      refine i_new fun p8 hp8 => ?_
      simp (implicitDefEqProofs := false) only [sB, simprocAttr]
      refine ⟨p8, ts, tokc ts, 0, 0, -1, false, 0, 2 * ts.length + 2, rfl, List.nodup_cons.2 ⟨hp8, hn⟩, by simp [lookH, parO], by omega, by omega, by omega, by omega, by omega, by omega, by omega, ?_⟩
      have hk := (parse_facts ts s.length t2 (2 * ts.length + 2)).1 (-1) false 0 0 0 [] (by omega) (Nat.zero_le _) (Nat.zero_le _) trivial
      revert hk h
      generalize listR ts (2 * ts.length + 2) (-1) false 0 0 0 [] = r
      rcases r with ⟨_ | x, a2, e2, i2, n2⟩
      · intro h hk
        have e0 := hk.1
        simp (implicitDefEqProofs := false) only [sB, simprocAttr, resLs, e0]
        exact ⟨_, .tail _ _, h⟩
      · rintro h ⟨rfl, rfl, _⟩
        simp (implicitDefEqProofs := false) only [sB, simprocAttr, resLs]
        exact ⟨_, .tail _ _, h⟩
def c5 (xs : List AV) (H : Heap) (K : Kv) : Prop := ∃ s, xs = [.str s] ∧ H.keys.Nodup ∧ s.length ≤ 1099511627776 ∧ K.ap (.sl (Nd.avs (parsedR s)) (tokc (parsedR s))) H
theorem x_c5 {s : List UInt8} {H : Heap} (hn : H.keys.Nodup) (h : s.length ≤ 1099511627776) (K : Kv) (k : K.ap (.sl (Nd.avs (parsedR s)) (tokc (parsedR s))) H) : c5 [.str s] H K := ⟨s, rfl, hn, h, k⟩
theorem c5_of (P : Program) {xs : List AV} {H : Heap} {K : Kv} (h : c5 xs H K) : @xF ⟨fun _ => none, P, [(15, c15)]⟩ f5 xs H ⟨fun v H' => ∃ H0, Hle H0 H' ∧ K.ap v H0⟩ := by
  obtain ⟨s, rfl, hn, hs, h⟩ := h
  unfold parsedR at h
  by_cases e5 : 5000 < s.length
  · have e5' : (5000 : Int) < (s.length : Int) := by omega
    rw [if_pos e5] at h
    simp (implicitDefEqProofs := false) only [sB, simprocAttr, f5, e5']
    exact ⟨_, .refl _, h⟩
  · have e5' : ¬ (5000 : Int) < (s.length : Int) := by omega
    rw [if_neg e5] at h
    simp (implicitDefEqProofs := false) only [sB, simprocAttr, f5, e5']
    refine x_c15 hn hs _ ?_
    cases hl : parseR s with
    | mk o q =>
      obtain ⟨a1, e1⟩ := q
      rw [hl] at h
      cases o with
      | none =>
        have e0 := parseR_bad hl
        simp (implicitDefEqProofs := false) only [sB, simprocAttr, resP, e0]
        exact ⟨_, .refl _, h⟩
      | some l =>
        obtain ⟨_, _, rfl⟩ := parseR_ok hl
        simp (implicitDefEqProofs := false) only [sB, simprocAttr, resP]
        exact ⟨_, .refl _, h⟩
section
variable {P : Program} (hm : P.follows .mixedOrders = true)
/-- What is wanted of a program, for the parser. -/
structure LOkP (P : Program) : Prop where
  hm : P.follows .mixedOrders = true
  h18 : compF P 5 f5.body.hints = some f5
  h34 : compF P 15 f15.body.hints = some f15
  h53 : compF P 25 f25.body.hints = some f25
  h54 : compF P 26 f26.body.hints = some f26
  h60 : compF P 32 f32.body.hints = some f32
  h61 : compF P 33 f33.body.hints = some f33
  h62 : compF P 34 f34.body.hints = some f34
  h63 : compF P 35 f35.body.hints = some f35
  h65 : compF P 47 f47.body.hints = some f47
  h66 : compF P 48 f48.body.hints = some f48
  h67 : compF P 49 f49.body.hints = some f49
  h68 : compF P 50 f50.body.hints = some f50
  h70 : compF P 57 f57.body.hints = some f57
end
section
variable {P : Program} (h : LOkP P)
include h
abbrev NGl : Nat → Option (List AV) := fun _ => none
theorem lk70 (xs : List AV) (H : Heap) (K : AV → Heap → Prop) (c : c57 xs H ⟨K⟩) : ACalls NGl P 57 xs H K := okF h.hm .nilX h.h70 _ _ _ (c57_of P c)
theorem lk66 (xs : List AV) (H : Heap) (K : AV → Heap → Prop) (c : c48 xs H ⟨K⟩) : ACalls NGl P 48 xs H K := okC h.hm (.consX (lk70 h) .nilX) h.h66 _ _ _ (c48_of P (K := ⟨K⟩) c)
theorem lk65 (xs : List AV) (H : Heap) (K : AV → Heap → Prop) (c : c47 xs H ⟨K⟩) : ACalls NGl P 47 xs H K := okF h.hm .nilX h.h65 _ _ _ (c47_of P c)
theorem lk68 (xs : List AV) (H : Heap) (K : AV → Heap → Prop) (c : c50 xs H ⟨K⟩) : ACalls NGl P 50 xs H K := okF h.hm .nilX h.h68 _ _ _ (c50_of P c)
theorem lk60 (xs : List AV) (H : Heap) (K : AV → Heap → Prop) (c : c32 xs H ⟨K⟩) : ACalls NGl P 32 xs H K := okC h.hm .nilX h.h60 _ _ _ (c32_of P (K := ⟨K⟩) c)
theorem lk62 (xs : List AV) (H : Heap) (K : AV → Heap → Prop) (c : c34 xs H ⟨K⟩) : ACalls NGl P 34 xs H K := okW h.hm .nilX h.h62 _ _ _ (c34_of P (K := ⟨K⟩) c)
theorem lk67 (xs : List AV) (H : Heap) (K : AV → Heap → Prop) (c : c49 xs H ⟨K⟩) : ACalls NGl P 49 xs H K := okW h.hm (.consX (lk66 h) .nilX) h.h67 _ _ _ (c49_of P (K := ⟨K⟩) c)
theorem lk61 (xs : List AV) (H : Heap) (K : AV → Heap → Prop) (c : c33 xs H ⟨K⟩) : ACalls NGl P 33 xs H K := okC h.hm (.consX (lk65 h) (.consX (lk66 h) (.consX (lk67 h) .nilX))) h.h61 _ _ _ (c33_of P (K := ⟨K⟩) c)
theorem lk53 (xs : List AV) (H : Heap) (K : AV → Heap → Prop) (c : c25 xs H ⟨K⟩) : ACalls NGl P 25 xs H K := okW h.hm (.consX (lk60 h) (.consX (lk61 h) (.consX (lk62 h) .nilX))) h.h53 _ _ _ (c25_of P (K := ⟨K⟩) c)
mutual
theorem lk63 : ∀ (N : Nat) (xs : List AV) (H : Heap) (K : AV → Heap → Prop), c35 N xs H ⟨K⟩ → ACalls NGl P 35 xs H K
  | 0 => fun xs H K c => by
    obtain ⟨pp, ts, tok, i, n, d, F, t, _, _, _, ht, hN, _⟩ := c
    have := (List.getElem?_eq_some_iff.1 ht).1
    omega
  | N + 1 => fun xs H K c => okW h.hm (.consX (lk54 N) (.consX (lk68 h) .nilX)) h.h63 _ _ _ (c35_of P (K := ⟨K⟩) c)
theorem lk54 : ∀ (N : Nat) (xs : List AV) (H : Heap) (K : AV → Heap → Prop), c26 N xs H ⟨K⟩ → ACalls NGl P 26 xs H K
  | N => fun xs H K c => okW h.hm (.consX (lk63 N) .nilX) h.h54 _ _ _ (c26_of P (K := ⟨K⟩) c)
end
theorem lk34 (xs : List AV) (H : Heap) (K : AV → Heap → Prop) (c : c15 xs H ⟨K⟩) : ACalls NGl P 15 xs H K := okC h.hm (.consX (lk53 h) (.consX (lk54 h 1099511627776) .nilX)) h.h34 _ _ _ (c15_of P (K := ⟨K⟩) c)
theorem lk18 (xs : List AV) (H : Heap) (K : AV → Heap → Prop) (c : c5 xs H ⟨K⟩) : ACalls NGl P 5 xs H K := okC h.hm (.consX (lk34 h) .nilX) h.h18 _ _ _ (c5_of P (K := ⟨K⟩) c)
end
end Go.AL.Fun
