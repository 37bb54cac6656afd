/- The example; three laws. -/
import Derived.Test.YtpeaphpibnikcaaDoorT13
set_option linter.unusedSimpArgs false
set_option linter.unusedVariables false
set_option maxRecDepth 100000
set_option maxHeartbeats 4000000
namespace Go.AL.Fun
open Go Go.AL Go.Proofs

theorem sp1 : splitR [97, 46, 98] = ([[97], [98]], 0) := by decide
theorem sp2 : splitR [97, 46, 98, 46, 99] = ([[97], [98], [99]], 0) := by decide
theorem ex1 (t1 t2 : Tok) : lookP (exV t1 t2) [97, 46, 98] = (fiveV, 0) := by
  unfold lookP; rw [sp1]
  simp [exV, lookR, fieldG, fieldR, fiveV]
theorem ex2 (t1 t2 : Tok) : lookP (exV t1 t2) [97, 46, 98, 46, 99] = (zeroV, 18) := by
  unfold lookP; rw [sp2]
  simp [exV, lookR, fieldG, fieldR, fiveV]
theorem x_c11 {v : Val} {path : List UInt8} {H : Heap} {K : Kv} (hn : H.keys.Nodup) (hp : path.length ≤ 1048576) (hw : v.wt ≤ 1099511627776) (k : K.ap (.tup [.agg (lookP v path).1.cs, .int .i64 (lookP v path).2]) H) : c11 [.agg v.cs, .str path] H K := ⟨v, path, rfl, hn, hp, hw, k⟩
theorem x_c12 {v : Val} {path : List UInt8} {H : Heap} {K : Kv} (hn : H.keys.Nodup) (hp : path.length ≤ 1048576) (hw : v.wt ≤ 1099511627776) (k : K.ap (.tup [.agg (lookP v path).1.cs, .int .i64 (lookP v path).2]) H) : c12 [.agg v.cs, .str path] H K := ⟨v, path, rfl, hn, hp, hw, k⟩
theorem exV_wt (t1 t2 : Tok) : (exV t1 t2).wt ≤ 1099511627776 := by simp [exV, fiveV, Val.wt, Val.wts, Val.wtf, Val.wt1]
theorem fiveV_cs : fiveV.cs = [.int .i64 1, .str [], .int .i64 5, .bool false, .sl [] .nil, .sl [] .nil] := rfl
def c10 (xs : List AV) (H : Heap) (K : Kv) : Prop := xs = [] ∧ H.keys.Nodup ∧ K.ap (.bool true) H
theorem c10_of (P : Program) {G : Nat → Option (List AV)} {xs : List AV} {H : Heap} {K : Kv} (h : c10 xs H K) : @xF ⟨G, P, [(28, c28), (11, c11)]⟩ f10 xs H ⟨fun v H' => ∃ H0, Hle H0 H' ∧ K.ap v H0⟩ := by
  obtain ⟨rfl, hn, k⟩ := h
  simp (implicitDefEqProofs := false) only [sB, simprocAttr, f10]
  refine ⟨rfl, fun t1 t2 => ?_⟩
  simp (implicitDefEqProofs := false) only [sB, simprocAttr]
  refine x_c11 hn (by decide) (exV_wt _ _) ?_
  rw [ex1, fiveV_cs]
  simp (implicitDefEqProofs := false) only [sB, simprocAttr]
  refine i_new fun p hp => ?_
  simp (implicitDefEqProofs := false) only [sB, simprocAttr]
  refine ⟨rfl, fun t3 t4 => ?_⟩
  simp (implicitDefEqProofs := false) only [sB, simprocAttr]
  refine x_c11 (List.nodup_cons.2 ⟨hp, hn⟩) (by decide) (exV_wt _ _) ?_
  rw [ex2, zeroV_cs]
  simp (implicitDefEqProofs := false) only [sB, simprocAttr]
  refine i_new fun q hq => ?_
  simp (implicitDefEqProofs := false) only [sB, simprocAttr] at hq
  have hpq : ¬ p = q := fun e => hq.1 e.symm
  simp (implicitDefEqProofs := false) only [sB, simprocAttr, hq, hpq]
  exact ⟨_, Hle.right [_, _] H, k⟩
end Go.AL.Fun
