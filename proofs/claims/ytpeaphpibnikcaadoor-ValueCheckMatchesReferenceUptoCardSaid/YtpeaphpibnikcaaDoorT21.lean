/- Law 6 (checks, equality, texts), walked. -/
import Derived.Test.YtpeaphpibnikcaaDoorT20
set_option linter.unusedSimpArgs false
set_option linter.unusedVariables false
set_option maxRecDepth 100000
set_option maxHeartbeats 4000000
namespace Go.AL.Fun
open Go Go.AL Go.Proofs

mutual
theorem eqV_self : ∀ v : Val, v.eqV v = true
  | .mk k s n b it is ft fs => by simp [Val.eqV, eqVs_self is, eqFs_self fs]
theorem eqVs_self : ∀ l : List Val, Val.eqVs l l = true
  | [] => by simp [Val.eqVs]
  | v :: l => by simp [Val.eqVs, eqV_self v, eqVs_self l]
theorem eqFs_self : ∀ l : List Fld, Val.eqFs l l = true
  | [] => by simp [Val.eqFs]
  | f :: l => by simp [Val.eqFs, eqF_self f, eqFs_self l]
theorem eqF_self : ∀ f : Fld, Val.eqF f f = true
  | (k, v) => by simp [Val.eqF, eqV_self v]
end
theorem wf_rng {n : Int} (h : (Lit.int .i64 n).wf = true) : -9223372036854775808 ≤ n ∧ n ≤ 9223372036854775807 := by
  have h2 : IntKind.i64.min ≤ n ∧ n ≤ 9223372036854775807 := by simpa [Lit.wf] using h
  have h3 : IntKind.i64.min = -9223372036854775808 := by decide
  omega
@[reducible] def tE : XT := [(9, c9), (10, c10), (13, c13g 1099511627776), (19, c19), (20, c20), (21, c21), (22, c22), (23, c23 1099511627776)]
theorem law6 (P : Program) {G : Nat → Option (List AV)} (v w : Val) (hw : v.wt ≤ 1048576) (hw2 : w.wt ≤ 1048576) (hok : v.ok) (K : Kv) (hK : ∀ H, K.ap (.bool true) H) : @xF ⟨G, P, tE⟩ f6 [.agg v.cs, .agg w.cs] [] K := by
  have hn : (Heap.keys []).Nodup := List.nodup_nil
  have es := eqV_self v
  obtain ⟨k, s, n, b, it, is, ft, fs⟩ := v
  obtain ⟨k2, s2, n2, b2, it2, is2, ft2, fs2⟩ := w
  simp only [Val.cs]
  simp only [Val.ok] at hok
  have hr := wf_rng hok.2.1
  simp (implicitDefEqProofs := false) only [sB, simprocAttr, f6]
  refine i_new fun p hp1 => ?_
  have hn1 := List.nodup_cons.2 ⟨hp1, hn⟩
  simp (implicitDefEqProofs := false) only [sB, simprocAttr]
  refine i_new fun q hq => ?_
  simp (implicitDefEqProofs := false) only [sB, simprocAttr] at hq
  have hpq : ¬ p = q := fun e => hq e.symm
  have hqp : ¬ q = p := fun e => hq e
  have hn2 := List.nodup_cons.2 ⟨by simpa [Heap.keys] using hq, hn1⟩
  simp (implicitDefEqProofs := false) only [sB, simprocAttr, hpq, hqp]
  refine x_c9 (by omega) _ _ fun r r0 r1 => ?_
  by_cases c1 : 0 < r
  · simp (implicitDefEqProofs := false) only [sB, simprocAttr, c1]
    refine ⟨rfl, hn2, ?_⟩
    simp (implicitDefEqProofs := false) only [sB, simprocAttr]
    exact hK _
  simp (implicitDefEqProofs := false) only [sB, simprocAttr, c1, hpq, hqp]
  refine x_c9 (by omega) _ _ fun r' r0' r1' => ?_
  by_cases c2 : 0 < r'
  · simp (implicitDefEqProofs := false) only [sB, simprocAttr, c1, c2]
    refine ⟨rfl, hn2, ?_⟩
    simp (implicitDefEqProofs := false) only [sB, simprocAttr]
    exact hK _
  simp (implicitDefEqProofs := false) only [sB, simprocAttr, c1, c2, hpq, hqp]
  refine x_c19 (by omega) (by omega) _ _ ?_
  simp (implicitDefEqProofs := false) only [sB, simprocAttr, hpq, hqp]
  refine x_c20 (by omega) (by omega) _ _ ?_
  simp (implicitDefEqProofs := false) only [sB, simprocAttr, hpq, hqp]
  refine ⟨rfl, hn2, ?_⟩
  simp (implicitDefEqProofs := false) only [sB, simprocAttr, hpq, hqp]
  refine x_c21 (by omega) _ _ ?_
  refine ⟨by simp (implicitDefEqProofs := false) only [sB, simprocAttr, hpq, hqp], ?_⟩
  refine x_c22 (by omega) _ _ ?_
  simp (implicitDefEqProofs := false) only [sB, simprocAttr, hpq, hqp, beq_self_eq_true]
  refine x_c23 (by omega) (Nat.le_refl _) _ _ ?_
  refine ⟨by simp (implicitDefEqProofs := false) only [sB, simprocAttr, hpq, hqp], ?_⟩
  refine x_c13g (by omega) (Nat.le_refl _) _ _ ?_
  simp (implicitDefEqProofs := false) only [sB, simprocAttr, hpq, hqp, beq_self_eq_true]
  refine x_c23 (by omega) (Nat.le_refl _) _ _ ?_
  simp (implicitDefEqProofs := false) only [sB, simprocAttr, hpq, hqp, beq_self_eq_true, es]
  exact hK _
end Go.AL.Fun
