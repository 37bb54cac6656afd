/- Numbers in decimal; Text. -/
import Derived.Test.YtpeaphpibnikcaaDoorT19
import Derived.Lib.ItoaNum
set_option linter.unusedSimpArgs false
set_option linter.unusedVariables false
set_option maxRecDepth 100000
set_option maxHeartbeats 4000000
namespace Go.AL.Fun
open Go Go.AL Go.Proofs

theorem dec_lt {u : Nat} (h : u < 10) : Lib.decDigits u = [UInt8.ofNat (48 + u)] := by rw [Lib.decDigits, dif_pos h]
theorem dec_ge {u : Nat} (h : ¬ u < 10) : Lib.decDigits u = Lib.decDigits (u / 10) ++ [UInt8.ofNat (48 + u % 10)] := by rw [Lib.decDigits, dif_neg h]
theorem dec_len : ∀ (k u : Nat), u < 10 ^ (k + 1) → (Lib.decDigits u).length ≤ k + 1
  | 0, u, h => by rw [dec_lt (by simpa using h)]; exact Nat.le_refl _
  | k + 1, u, h => by
    by_cases c : u < 10
    · rw [dec_lt c]; simp
    · have := dec_len k (u / 10) (by rw [Nat.pow_succ] at h; omega)
      rw [dec_ge c]; simp; omega
/-- strconv.FormatInt at base 10. -/
def c37 (xs : List AV) (H : Heap) (K : Kv) : Prop := ∃ n : Int, xs = [.int .i64 n, .int .i64 10] ∧ -9223372036854775808 ≤ n ∧ n ≤ 9223372036854775807 ∧ K.ap (.str (Lib.itoa n)) H
def c38 (xs : List AV) (H : Heap) (K : Kv) : Prop := ∃ n : Int, xs = [.int .i64 n] ∧ -9223372036854775808 ≤ n ∧ n ≤ 9223372036854775807 ∧ K.ap (.str (Lib.itoa n)) H
theorem c38_of (P : Program) {G : Nat → Option (List AV)} {xs : List AV} {H : Heap} {K : Kv} (h : c38 xs H K) : @xF ⟨G, P, []⟩ f38 xs H ⟨fun v H' => ∃ H0, Hle H0 H' ∧ K.ap v H0⟩ := by
  obtain ⟨n, rfl, h0, h1, k⟩ := h
  have hlen : (Lib.decDigits n.natAbs).length ≤ 19 := dec_len 18 _ (by omega)
  simp (implicitDefEqProofs := false) only [sB, simprocAttr, f38]
  refine i_loopJ (fun σ H1 => ∃ (m : Int) (s : List UInt8), H1 = H ∧ σ = [(0, .int .i64 n), (3, .str s), (4, .int .i64 m)] ∧ -9223372036854775808 ≤ m ∧ m ≤ 9223372036854775807 ∧ Lib.decDigits n.natAbs = Lib.decDigits m.natAbs ++ s)
    (fun σ _ => match σ.get 4 with | .int _ m => m.natAbs | _ => 0)
    (fun e σ H1 => e = .exit 0 ∧ (∃ x, H1 = x :: H) ∧ σ.get 0 = .int .i64 n ∧ σ.get 3 = .str (Lib.decDigits n.natAbs))
    ⟨_, .refl _, n, [], rfl, rfl, h0, h1, by simp⟩ ?_ ?_
  · rintro e σ H1 ⟨rfl, ⟨x, rfl⟩, q0, q3⟩
    by_cases c : n < 0
    · rw [Lib.itoa, if_pos c] at k
      simp (implicitDefEqProofs := false) only [sB, simprocAttr, q0, q3, c]
      exact ⟨by omega, _, .tail _ _, k⟩
    · rw [Lib.itoa, if_neg c, show n.toNat = n.natAbs by omega] at k
      simp (implicitDefEqProofs := false) only [sB, simprocAttr, q0, q3, c]
      exact ⟨_, .tail _ _, k⟩
  · rintro Q hQ σ H1 ⟨m, s, rfl, rfl, m0, m1, hd⟩
    have hs : s.length ≤ 19 := by rw [hd, List.length_append] at hlen; omega
    have k1 : IntKind.i64.wrap (48 + ((m.natAbs % 10 : Nat) : Int)) = 48 + ((m.natAbs % 10 : Nat) : Int) := w_i64 _ (by omega) (by omega)
    have k2 : IntKind.u8.wrap (48 + ((m.natAbs % 10 : Nat) : Int)) = 48 + ((m.natAbs % 10 : Nat) : Int) := w_u8 _ (by omega) (by omega)
    have k3 : (48 + ((m.natAbs % 10 : Nat) : Int)).toNat = 48 + m.natAbs % 10 := by omega
    have b1 : (0 : Int) ≤ 48 + ((m.natAbs % 10 : Nat) : Int) := by omega
    have b2 : 48 + ((m.natAbs % 10 : Nat) : Int) < 256 := by omega
    have q1 : (m.tdiv 10).natAbs = m.natAbs / 10 := by
      rw [Int.natAbs_tdiv]; rfl
    have q2 : (m.tmod 10).natAbs = m.natAbs % 10 := by
      rw [Int.natAbs_tmod]; rfl
    have q3 : IntKind.i64.wrap (m.tdiv 10) = m.tdiv 10 := w_i64 _ (by omega) (by omega)
    by_cases c : m.tmod 10 < 0
    · have e1 : 0 - (m.tmod 10) = ((m.natAbs % 10 : Nat) : Int) := by omega
      have e2 : IntKind.i64.wrap ((m.natAbs % 10 : Nat) : Int) = ((m.natAbs % 10 : Nat) : Int) := w_i64 _ (by omega) (by omega)
      simp (implicitDefEqProofs := false) only [sB, simprocAttr, c, e1, e2, k1, k2]
      refine i_new fun z hz => ?_
      by_cases g1 : -10 < m
      · by_cases g2 : m < 10
        · simp (implicitDefEqProofs := false) only [sB, simprocAttr, c, g1, g2, e1, e2, k1, k2, k3]
          exact ⟨by omega, hQ _ _ _ ⟨rfl, ⟨_, rfl⟩, rfl, by rw [hd, dec_lt (by omega), show m.natAbs % 10 = m.natAbs by omega]; rfl⟩⟩
        · simp (implicitDefEqProofs := false) only [sB, simprocAttr, c, g1, g2, e1, e2, k1, k2, k3, q3]
          exact ⟨by omega, _, .tail _ _, ⟨m.tdiv 10, _, rfl, ⟨rfl, rfl⟩, by omega, by omega, by rw [hd, dec_ge (by omega), q1, List.append_assoc]; rfl⟩, by rw [q1]; omega⟩
      · simp (implicitDefEqProofs := false) only [sB, simprocAttr, c, g1, e1, e2, k1, k2, k3, q3]
        exact ⟨by omega, _, .tail _ _, ⟨m.tdiv 10, _, rfl, ⟨rfl, rfl⟩, by omega, by omega, by rw [hd, dec_ge (by omega), q1, List.append_assoc]; rfl⟩, by rw [q1]; omega⟩
    · have e1 : m.tmod 10 = ((m.natAbs % 10 : Nat) : Int) := by omega
      have c0 : ¬ ((m.natAbs % 10 : Nat) : Int) < 0 := by omega
      simp (implicitDefEqProofs := false) only [sB, simprocAttr, c0, e1, k1, k2]
      refine i_new fun z hz => ?_
      by_cases g1 : -10 < m
      · by_cases g2 : m < 10
        · simp (implicitDefEqProofs := false) only [sB, simprocAttr, c0, g1, g2, e1, k1, k2, k3]
          exact ⟨by omega, hQ _ _ _ ⟨rfl, ⟨_, rfl⟩, rfl, by rw [hd, dec_lt (by omega), show m.natAbs % 10 = m.natAbs by omega]; rfl⟩⟩
        · simp (implicitDefEqProofs := false) only [sB, simprocAttr, c0, g1, g2, e1, k1, k2, k3, q3]
          exact ⟨by omega, _, .tail _ _, ⟨m.tdiv 10, _, rfl, ⟨rfl, rfl⟩, by omega, by omega, by rw [hd, dec_ge (by omega), q1, List.append_assoc]; rfl⟩, by rw [q1]; omega⟩
      · simp (implicitDefEqProofs := false) only [sB, simprocAttr, c0, g1, e1, k1, k2, k3, q3]
        exact ⟨by omega, _, .tail _ _, ⟨m.tdiv 10, _, rfl, ⟨rfl, rfl⟩, by omega, by omega, by rw [hd, dec_ge (by omega), q1, List.append_assoc]; rfl⟩, by rw [q1]; omega⟩

def txt (k : Int) (s : List UInt8) (n : Int) : List UInt8 × Int := if k = 0 then (s, 0) else if k = 1 then (Lib.itoa n, 0) else ([], 18)
def c19 (xs : List AV) (H : Heap) (K : Kv) : Prop := ∃ (k : Int) (s : List UInt8) (n : Int) (b : Bool) (it : Tok) (is : List Val) (ft : Tok) (fs : List Fld), xs = [.agg [.int .i64 k, .str s, .int .i64 n, .bool b, .sl (Val.avs is) it, .sl (Val.fvs fs) ft]] ∧ -9223372036854775808 ≤ n ∧ n ≤ 9223372036854775807 ∧ K.ap (.tup [.str (txt k s n).1, .int .i64 (txt k s n).2]) H
theorem x_c19 {k : Int} {s : List UInt8} {n : Int} {b : Bool} {it : Tok} {is : List Val} {ft : Tok} {fs : List Fld} (h1 : -9223372036854775808 ≤ n) (h2 : n ≤ 9223372036854775807) (H : Heap) (K : Kv) (h : K.ap (.tup [.str (txt k s n).1, .int .i64 (txt k s n).2]) H) : c19 [.agg [.int .i64 k, .str s, .int .i64 n, .bool b, .sl (Val.avs is) it, .sl (Val.fvs fs) ft]] H K := ⟨_, _, _, _, _, _, _, _, rfl, h1, h2, h⟩
theorem c19_of (P : Program) {G : Nat → Option (List AV)} {xs : List AV} {H : Heap} {K : Kv} (h : c19 xs H K) : @xF ⟨G, P, [(37, c37)]⟩ f19 xs H ⟨fun v H' => ∃ H0, Hle H0 H' ∧ K.ap v H0⟩ := by
  obtain ⟨k, s, n, b, it, is, ft, fs, rfl, n0, n1, h⟩ := h
  simp (implicitDefEqProofs := false) only [sB, simprocAttr, f19]
  refine i_new fun p hp => ?_
  by_cases c0 : k = 0
  · subst c0
    simp (implicitDefEqProofs := false) only [sB, simprocAttr]
    exact ⟨_, .tail _ _, h⟩
  · by_cases c1 : k = 1
    · subst c1
      simp (implicitDefEqProofs := false) only [sB, simprocAttr]
      refine ⟨n, rfl, n0, n1, ?_⟩
      simp (implicitDefEqProofs := false) only [sB, simprocAttr]
      exact ⟨_, .tail _ _, h⟩
    · rw [txt, if_neg c0, if_neg c1] at h
      simp (implicitDefEqProofs := false) only [sB, simprocAttr, c0, c1]
      exact ⟨_, .tail _ _, h⟩
def c20 (xs : List AV) (H : Heap) (K : Kv) : Prop := ∃ (k : Int) (s : List UInt8) (n : Int) (b : Bool) (it : Tok) (is : List Val) (ft : Tok) (fs : List Fld), xs = [.agg [.int .i64 k, .str s, .int .i64 n, .bool b, .sl (Val.avs is) it, .sl (Val.fvs fs) ft]] ∧ -9223372036854775808 ≤ n ∧ n ≤ 9223372036854775807 ∧ K.ap (.tup [.str (txt k s n).1, .int .i64 (txt k s n).2]) H
theorem x_c20 {k : Int} {s : List UInt8} {n : Int} {b : Bool} {it : Tok} {is : List Val} {ft : Tok} {fs : List Fld} (h1 : -9223372036854775808 ≤ n) (h2 : n ≤ 9223372036854775807) (H : Heap) (K : Kv) (h : K.ap (.tup [.str (txt k s n).1, .int .i64 (txt k s n).2]) H) : c20 [.agg [.int .i64 k, .str s, .int .i64 n, .bool b, .sl (Val.avs is) it, .sl (Val.fvs fs) ft]] H K := ⟨_, _, _, _, _, _, _, _, rfl, h1, h2, h⟩
theorem c20_of (P : Program) {G : Nat → Option (List AV)} {xs : List AV} {H : Heap} {K : Kv} (h : c20 xs H K) : @xF ⟨G, P, [(38, c38)]⟩ f20 xs H ⟨fun v H' => ∃ H0, Hle H0 H' ∧ K.ap v H0⟩ := by
  obtain ⟨k, s, n, b, it, is, ft, fs, rfl, n0, n1, h⟩ := h
  simp (implicitDefEqProofs := false) only [sB, simprocAttr, f20]
  refine i_new fun p hp => ?_
  by_cases c0 : k = 0
  · subst c0
    simp (implicitDefEqProofs := false) only [sB, simprocAttr]
    exact ⟨_, .tail _ _, h⟩
  · by_cases c1 : k = 1
    · subst c1
      simp (implicitDefEqProofs := false) only [sB, simprocAttr]
      refine ⟨n, rfl, n0, n1, ?_⟩
      simp (implicitDefEqProofs := false) only [sB, simprocAttr]
      exact ⟨_, .tail _ _, h⟩
    · rw [txt, if_neg c0, if_neg c1] at h
      simp (implicitDefEqProofs := false) only [sB, simprocAttr, c0, c1]
      exact ⟨_, .tail _ _, h⟩
end Go.AL.Fun
