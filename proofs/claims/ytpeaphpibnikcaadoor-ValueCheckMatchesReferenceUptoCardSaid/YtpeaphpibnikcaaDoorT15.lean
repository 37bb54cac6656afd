/- Three laws, walked. -/
import Derived.Test.YtpeaphpibnikcaaDoorT14
set_option linter.unusedSimpArgs false
set_option linter.unusedVariables false
set_option maxRecDepth 100000
set_option maxHeartbeats 4000000
namespace Go.AL.Fun
open Go Go.AL Go.Proofs

theorem lookR_wt : ∀ (l : List (List UInt8)) (v : Val), (lookR v l).1.wt ≤ v.wt
  | [], v => by unfold lookR; exact Nat.le_refl _
  | key :: l, .mk k s n b it is ft fs => by
    have h1 := fieldG_wt k s n b it is ft fs key
    unfold lookR
    split
    · exact Nat.le_trans (lookR_wt l _) h1
    · exact Val.wt_pos _
theorem lookP_wt (v : Val) (path : List UInt8) : (lookP v path).1.wt ≤ v.wt := by
  unfold lookP
  split
  · exact lookR_wt _ _
  · exact Val.wt_pos _
@[reducible] def tD : XT := [(9, c9), (10, c10), (11, c11), (12, c12), (13, c13 1099511627776), (14, c14), (15, c15), (16, c16), (17, c17), (18, c18)]
theorem law5 (P : Program) (s : List UInt8) (hs : s.length ≤ 1048576) (K : Kv) (hK : ∀ H, K.ap (.bool true) H) : @xF ⟨fun _ => none, P, tD⟩ f5 [.str s] [] K := by
  have hn : (Heap.keys []).Nodup := List.nodup_nil
  by_cases q1 : (2000 : Int) < s.length
  · simp (implicitDefEqProofs := false) only [sB, simprocAttr, f5, q1]
    refine ⟨rfl, hn, ?_⟩
    simp (implicitDefEqProofs := false) only [sB, simprocAttr]
    exact hK _
  · have l8 := splitR_len s
    simp (implicitDefEqProofs := false) only [sB, simprocAttr, f5, q1]
    refine ⟨s, rfl, hn, hs, fun t1 => ?_⟩
    simp (implicitDefEqProofs := false) only [sB, simprocAttr]
    refine ⟨s, rfl, hn, hs, fun t2 => ?_⟩
    simp (implicitDefEqProofs := false) only [sB, simprocAttr]
    refine ⟨rfl, hn, ?_⟩
    simp (implicitDefEqProofs := false) only [sB, simprocAttr]
    rw [x_c16 (by omega)]
    simp (implicitDefEqProofs := false) only [sB, simprocAttr]
    rw [x_c17 (by omega)]
    simp (implicitDefEqProofs := false) only [sB, simprocAttr, beq_self_eq_true]
    refine x_c18 (l := (splitR s).1) (m := (splitR s).1) (by omega) _ _ ?_
    simp (implicitDefEqProofs := false) only [sB, simprocAttr]
    exact hK _
theorem law3 (P : Program) (v : Val) (path : List UInt8) (hw : v.wt ≤ 1048576) (hp : path.length ≤ 1048576) (K : Kv) (hK : ∀ H, K.ap (.bool true) H) : @xF ⟨fun _ => none, P, tD⟩ f3 [.agg v.cs, .str path] [] K := by
  have hn : (Heap.keys []).Nodup := List.nodup_nil
  obtain ⟨k, s, n, b, it, is, ft, fs⟩ := v
  simp only [Val.cs]
  simp (implicitDefEqProofs := false) only [sB, simprocAttr, f3]
  refine i_new fun p hp1 => ?_
  have hn1 := List.nodup_cons.2 ⟨hp1, hn⟩
  simp (implicitDefEqProofs := false) only [sB, simprocAttr]
  refine x_c9 (by omega) _ _ fun r r0 r1 => ?_
  by_cases c1 : 0 < r
  · simp (implicitDefEqProofs := false) only [sB, simprocAttr, c1]
    refine ⟨rfl, hn1, ?_⟩
    simp (implicitDefEqProofs := false) only [sB, simprocAttr]
    exact hK _
  by_cases c2 : (2000 : Int) < path.length
  · simp (implicitDefEqProofs := false) only [sB, simprocAttr, c1, c2]
    refine ⟨rfl, hn1, ?_⟩
    simp (implicitDefEqProofs := false) only [sB, simprocAttr]
    exact hK _
  simp (implicitDefEqProofs := false) only [sB, simprocAttr, c1, c2]
  have lw := lookP_wt (.mk k s n b it is ft fs) path
  refine x_c11 (v := .mk k s n b it is ft fs) hn1 hp (by omega) ?_
  have K2 : ∀ (H : Heap) (K' : Kv), H.keys.Nodup → K'.ap (.tup [.agg (lookP (.mk k s n b it is ft fs) path).1.cs, .int .i64 (lookP (.mk k s n b it is ft fs) path).2]) H → c12 [.agg [.int .i64 k, .str s, .int .i64 n, .bool b, .sl (Val.avs is) it, .sl (Val.fvs fs) ft], .str path] H K' :=
    fun H K' h k' => x_c12 (v := .mk k s n b it is ft fs) h hp (by omega) k'
  generalize lookP (.mk k s n b it is ft fs) path = r at lw K2 ⊢
  obtain ⟨⟨k2, s2, m2, b2, it2, is2, ft2, fs2⟩, e2⟩ := r
  simp only [Val.cs] at lw K2 ⊢
  simp (implicitDefEqProofs := false) only [sB, simprocAttr]
  refine i_new fun q hq => ?_
  simp (implicitDefEqProofs := false) only [sB, simprocAttr] at hq
  have hpq : ¬ p = q := fun e => hq e.symm
  have hn2 := List.nodup_cons.2 ⟨by simpa [Heap.keys] using hq, hn1⟩
  simp (implicitDefEqProofs := false) only [sB, simprocAttr, hpq]
  refine K2 _ _ hn2 ?_
  simp (implicitDefEqProofs := false) only [sB, simprocAttr, hpq]
  refine i_new fun x hx => ?_
  simp (implicitDefEqProofs := false) only [sB, simprocAttr] at hx
  have hqx : ¬ q = x := fun e => hx.1 e.symm
  have hn3 := List.nodup_cons.2 ⟨by simpa [Heap.keys] using hx, hn2⟩
  simp (implicitDefEqProofs := false) only [sB, simprocAttr, hpq, hqx]
  refine ⟨rfl, hn3, ?_⟩
  simp (implicitDefEqProofs := false) only [sB, simprocAttr, hpq, hqx]
  refine x_c13 (by omega) (Nat.le_refl _) _ _ ?_
  simp (implicitDefEqProofs := false) only [sB, simprocAttr]
  exact hK _
end Go.AL.Fun
