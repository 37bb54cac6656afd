/- DechunkInvertsFramer, walked. -/
import Derived.Test.YtcmgeflfapffoaaDoorY16
import Derived.Test.YtcmgeflfapffoaaDoorFL9
set_option linter.unusedSimpArgs false
set_option linter.unusedVariables false
set_option maxRecDepth 100000
set_option maxHeartbeats 4000000
namespace Go.AL.Fun
open Go Go.AL
def Gd : Nat → Option (List AV) := fun g => match g with | 2 => some firstL | 3 => some accL | 5 => some tab64L | _ => none
@[reducible] def tD : XT := [(26, c11), (27, c12), (12, d12), (28, c20), (29, c14), (30, c18), (31, c17), (32, c15), (33, c19)]
theorem law9 (P : Program) (b : List UInt8) (t : Tok) (n : Int) (n0 : 0 ≤ n) (n1 : n ≤ 255) (c : Int) (u0 : 0 ≤ c) (u1 : c ≤ 65535) (K : Kv) (hK : ∀ H, K.ap (.bool true) H) : @xF ⟨Gd, P, tD⟩ f9 [.sl (bytesAV b) t, .int .u8 n, .int .u16 c] [] K := by
  have hn : (Heap.keys []).Nodup := List.nodup_nil
  by_cases c0 : (2000 : Int) < (b.length : Int)
  · simp (implicitDefEqProofs := false) only [sB, simprocAttr, f9, by_len, c0]
    refine ⟨rfl, hn, ?_⟩
    simp (implicitDefEqProofs := false) only [sB, simprocAttr]
    exact hK _
  obtain ⟨k, hk⟩ : ∃ k : Nat, (k : Int) = 1 + n := ⟨(1 + n).toNat, by omega⟩
  have hk1 : 1 ≤ k := by omega
  have hk2 : k ≤ 65536 := by omega
  have w0 := w_i64 n (by omega) (by omega)
  have w1 := w_i64 (k : Int) (by omega) (by omega)
  simp (implicitDefEqProofs := false) only [sB, simprocAttr, f9, by_len, c0, w0, ← hk, w1]
  refine ⟨b, t, k, rfl, by omega, hn, fun _ h => (by cases h), fun h => by omega, fun _ _ => ?_⟩
  rw [Int.toNat_natCast]
  obtain ⟨z, hz⟩ := feed_body hk1 hk2 b
  have hpart := fun i (hi : i < (bodyP k b).length) => feed_part hk1 hk2 b hi
  have hbl : (bodyP k b).length ≤ 1073741824 ∧ 5 ≤ (bodyP k b).length := by
    have h1 := outP_len hk2 b (List.range (cntN k b.length))
    rw [List.length_range] at h1
    have h2 := cnt_small hk1 hk2 (show b.length ≤ 1048576 by omega)
    have h3 := chunkP_len (b := []) (by decide)
    rw [List.length_nil] at h3
    have h4 : (chunkP []).length = 5 := by
      unfold chunkP lineL
      rw [List.length_nil, hexL_lt (by decide)]; rfl
    unfold bodyP
    rw [List.length_append]
    omega
  generalize bodyP k b = body at *
  simp (implicitDefEqProofs := false) only [sB, simprocAttr]
  refine x_c12 hbl.1 hn (fun h => by rw [hz] at h; exact absurd rfl h) fun _ t2 => ?_
  rw [hz]
  have l5 : ¬ (body.length : Int) < 5 := by omega
  have wc := w_i64 c (by omega) (by omega)
  have lz : ¬ (body.length : Int) = 0 := by omega
  obtain ⟨i, hi⟩ : ∃ i : Nat, i = c.toNat % body.length := ⟨_, rfl⟩
  have hil : i < body.length := by rw [hi]; exact Nat.mod_lt _ (by omega)
  have tm : c.tmod (body.length : Int) = (i : Int) := by rw [Int.tmod_eq_emod_of_nonneg u0, hi, Int.natCast_emod, Int.toNat_of_nonneg u0]
  have wi := w_i64 (i : Int) (by omega) (by omega)
  have i0 : (0 : Int) ≤ (i : Int) := by omega
  have i1 : (i : Int) ≤ (body.length : Int) := by omega
  simp (implicitDefEqProofs := false) only [sB, simprocAttr, by_len, decide_true, l5, wc, lz, tm, wi, i0, i1]
  obtain ⟨e1, e2, e3⟩ := hpart i hil
  refine x_c12 (by rw [List.length_take]; omega) hn (fun h => absurd e1 h) fun _ t3 => ?_
  generalize (DS.new.feed (body.take i)) = s at *
  obtain ⟨rest, hrest⟩ := e3
  have hol : (s.out.length : Int) ≤ (b.length : Int) := by have := congrArg List.length hrest; rw [List.length_append] at this; omega
  have hmin : (if (b.length : Int) < (s.out.length : Int) then (b.length : Int) else (s.out.length : Int)) = (s.out.length : Int) := by split <;> omega
  have hmin2 : (if (s.out.length : Int) < (b.length : Int) then (s.out.length : Int) else (b.length : Int)) = (s.out.length : Int) := by split <;> omega
  have htk : b.take s.out.length = s.out := by rw [← hrest, List.take_left' rfl]
  have o0 : (0 : Int) ≤ (s.out.length : Int) := by omega
  simp (implicitDefEqProofs := false) only [sB, simprocAttr]
  refine ⟨rfl, hn, ?_⟩
  simp (implicitDefEqProofs := false) only [sB, simprocAttr, by_len, decide_eq_false e2, hol, hmin, hmin2, o0, htk]
  exact hK _
end Go.AL.Fun
