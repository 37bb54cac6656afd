/- slices.Chunk and what it hands back, at the model. -/
import Derived.RangeFuncNested
import Derived.RangeFuncBound
import Derived.RangeFuncCalls
import Derived.RangeFuncLeaves
import Derived.Shelf.Abstract
import Derived.Shelf.RegionOpen
import Derived.WalkKit
import Derived.OwnWalkIn
import Derived.TacticsInMore
import Derived.LoopNIn
import Derived.LoopIn
import Derived.Test.YtcmgeflfapffoaaDoorFA
import Derived.Test.YtcmgeflfapffoaaDoorFD
set_option linter.unusedVariables false
set_option maxRecDepth 100000
set_option maxHeartbeats 2000000
namespace Go.Proofs.YtcmgeflfapffoaaDoor.lib
open Go.RowKit Go.Shelf Go.Proofs Go.AL.Fun
attribute [local go_sem] Oper.semAt_some

/-- slices.Chunk: the slice and the number are boxed; the function value captures the boxes. -/
theorem chunk_in (n : Nat) (a : Option Addr) (len cap : Nat) (k : Int) (hk : 1 ≤ k) (w : World) :
    CallsIn Fence.wide n Tryd.prog 35 #[.slice a len cap, .int .i64 k] w fun e w' => e = .returned (.func (.func 41) #[] #[.pointer (some ⟨w.heap.size, 0, none⟩), .pointer (some ⟨w.heap.size + 1, 0, none⟩)]) ∧ w' = (w.alloc (.cells #[.slice a len cap] 22)).alloc (.cells #[.int .i64 k] 3) := by
  refine callsIn_of_wp Tryd.func35 rfl trivial ?_ rfl
  simp only [Tryd.ntmps35, List.size_toArray, List.length_cons, List.length_nil, Nat.reduceAdd, Nat.reduceSub, Array.replicate_succ, Array.replicate_zero, List.push_toArray, List.append_toArray, List.nil_append, List.cons_append]
  gi_wp2
  go_ret
  exact ⟨rfl, rfl⟩

/-- A chunk. -/
def chV (blk off len k j : Nat) : Value := .slice (some ⟨blk, off + j * k, none⟩) (min k (len - j * k)) (min k (len - j * k))
def KpB (b1 b2 : Nat) (W W' : World) : Prop := (∀ v, W.cell? ⟨b1, 0, none⟩ = some v → W'.cell? ⟨b1, 0, none⟩ = some v) ∧ (∀ v, W.cell? ⟨b2, 0, none⟩ = some v → W'.cell? ⟨b2, 0, none⟩ = some v)
theorem chunk1_in (n : Nat) (hn : 1 ≤ n) (l b1 b2 blk off len cap k N : Nat) (hk : 1 ≤ k) (hk2 : k ≤ 65536) (hlen : len ≤ 1099511627776) (hcap : len ≤ cap) (hN : ∀ j, j < N → j * k < len) (hN2 : len ≤ N * k) (J Jx : List (Fin N) → World → Prop) (hJ : ∀ xs W, J xs W → J xs W.drew)
    (hY : ∀ pre x W, J pre W → pre.length < N → YieldAt Fence.wide (n - 1) Tryd.prog l #[chV blk off len k x.val] W fun e W' =>
      (e = .returned (.bool true) ∧ J (pre ++ [x]) W' ∧ KpB b1 b2 W W') ∨ (e = .returned (.bool false) ∧ Jx (pre ++ [x]) W'))
    (W : World) (hc1 : W.cell? ⟨b1, 0, none⟩ = some (.slice (some ⟨blk, off, none⟩) len cap)) (hc2 : W.cell? ⟨b2, 0, none⟩ = some (.int .i64 k)) (h0 : J [] W) :
    CallsIn Fence.wide n Tryd.prog 41 #[.func (.yield l) #[] #[], .pointer (some ⟨b1, 0, none⟩), .pointer (some ⟨b2, 0, none⟩)] W fun e W' => (∃ v, e = .returned v) ∧
      ((∃ ys, ys.map Fin.val = List.range N ∧ J ys W') ∨ (∃ pre, True ∧ Jx pre W')) := by
  refine callsIn_of_wp Tryd.func41 rfl trivial ?_ rfl
  simp only [Tryd.ntmps41, List.size_toArray, List.length_cons, List.length_nil, Nat.reduceAdd, Nat.reduceSub, Array.replicate_succ, Array.replicate_zero, List.push_toArray, List.append_toArray, List.nil_append, List.cons_append]
  gi_wp2
  gi_loopw [4] (fun i wr => ∃ (j x : Nat) (pre : List (Fin N)), j ≤ N ∧ x = j * k ∧ pre.map Fin.val = List.range j ∧ i = .int .i64 (x : Int) ∧ J pre wr ∧ wr.cell? ⟨b1, 0, none⟩ = some (.slice (some ⟨blk, off, none⟩) len cap) ∧ wr.cell? ⟨b2, 0, none⟩ = some (.int .i64 k))
    (fun i _ => len - (intOf i).toNat)
  case atStart => exact ⟨0, 0, [], Nat.zero_le _, by simp, rfl, rfl, h0, hc1, hc2⟩
  case round =>
    obtain ⟨j, x, pre, hj, hx, hpre, rfl, hJs, hc1, hc2⟩ := hrel
    have hpl : pre.length = j := by have := congrArg List.length hpre; simpa using this
    by_cases hlt : x < len
    · have hjN : j < N := by
        rcases Nat.lt_or_ge j N with h | h
        · exact h
        · have := Nat.mul_le_mul_right k h
          omega
      obtain ⟨fn, tmps, assign, body, hy, hR⟩ := hY _ ⟨j, hjN⟩ wr.drew (hJ _ _ hJs) (by rw [hpl]; exact hjN)
      have e1 : (((j : Int) * (k : Int) + min (k : Int) ((len - j * k : Nat) : Int)).toNat - j * k) = min k (len - j * k) := by
        have e0 : (j : Int) * (k : Int) = ((j * k : Nat) : Int) := (Int.natCast_mul j k).symm
        rw [e0]
        rw [← hx]
        omega
      simp only [chV] at hy
      gi_wp2
      gi_region
      gi_wp2
      refine hR.mono ?_
      rintro e W3 (⟨rfl, hJ3, hk3⟩ | ⟨rfl, hJx3⟩)
      · have hd1 : W3.cell? ⟨b1, 0, none⟩ = some (.slice (some ⟨blk, off, none⟩) len cap) := hk3.1 _ hc1
        have hd2 : W3.cell? ⟨b2, 0, none⟩ = some (.int .i64 k) := hk3.2 _ hc2
        gi_wp2
        go_roundw
        case rel => exact ⟨j + 1, x + k, pre ++ [⟨j, hjN⟩], by omega, by rw [hx, Nat.add_mul, Nat.one_mul], by rw [List.map_append, hpre, List.range_succ]; rfl, by simp [hx], hJ3, hd1, hd2⟩
        case measure => simp [intOf]; omega
      · gi_wp2
        refine bodyPost_ret (results_none rfl _ _ _) rfl ?_
        exact ⟨⟨_, rfl⟩, .inr ⟨_, trivial, hJx3⟩⟩
    · have hjN : j = N := by
        rcases Nat.lt_or_ge j N with h | h
        · exact absurd (hN j h) (by rw [← hx]; exact hlt)
        · omega
      rw [hjN] at hpre
      gi_wp2
      go_end0
      exact ⟨⟨_, rfl⟩, .inl ⟨_, hpre, hJs⟩⟩
theorem chunk0_in {β : Type} (n : Nat) (l b1 b2 cap k : Nat) (a : Option Addr) (J : List β → World → Prop)
    (W : World) (hc1 : W.cell? ⟨b1, 0, none⟩ = some (.slice a 0 cap)) (hc2 : W.cell? ⟨b2, 0, none⟩ = some (.int .i64 k)) (h0 : J [] W) :
    CallsIn Fence.wide n Tryd.prog 41 #[.func (.yield l) #[] #[], .pointer (some ⟨b1, 0, none⟩), .pointer (some ⟨b2, 0, none⟩)] W fun e W' => (∃ v, e = .returned v) ∧ J [] W' := by
  refine callsIn_of_wp Tryd.func41 rfl trivial ?_ rfl
  simp only [Tryd.ntmps41, List.size_toArray, List.length_cons, List.length_nil, Nat.reduceAdd, Nat.reduceSub, Array.replicate_succ, Array.replicate_zero, List.push_toArray, List.append_toArray, List.nil_append, List.cons_append]
  gi_wp2
  gi_loopw [4] (fun i wr => i = .int .i64 0 ∧ J [] wr ∧ wr.cell? ⟨b1, 0, none⟩ = some (.slice a 0 cap)) (fun _ _ => 0)
  case atStart => exact ⟨rfl, h0, hc1⟩
  case round =>
    obtain ⟨rfl, hJs, hc1⟩ := hrel
    gi_wp2
    go_end0
    exact ⟨⟨_, rfl⟩, hJs⟩

/-- A slice whose chunks are handed out. -/
inductive ChSl : Value → Nat → Nat → Nat → Prop
  | emp (a : Option Addr) (cap blk off : Nat) : ChSl (.slice a 0 cap) blk off 0
  | at (blk off len cap : Nat) (h : len ≤ cap) : ChSl (.slice (some ⟨blk, off, none⟩) len cap) blk off len
theorem chunk_stops (n : Nat) (hn : 1 ≤ n) (b1 b2 blk off len k : Nat) (sv : Value) (hsv : ChSl sv blk off len) (hk : 1 ≤ k) (hk2 : k ≤ 65536) (hlen : len ≤ 1099511627776) (w : World) (hb1 : b1 < w.heap.size) (hb2 : b2 < w.heap.size)
    (hc1 : w.cell? ⟨b1, 0, none⟩ = some sv) (hc2 : w.cell? ⟨b2, 0, none⟩ = some (.int .i64 k)) :
    SeqStopsK Fence.wide n Tryd.prog 41 #[.pointer (some ⟨b1, 0, none⟩), .pointer (some ⟨b2, 0, none⟩)] (fun j : Fin (cntN k len) => #[chV blk off len k j.val]) (KpB b1 b2) (fun ys => ys.map Fin.val = List.range (cntN k len)) (fun _ => True) (cntN k len) w := fun l J Jx W hW hJ _ hY h0 => by
  have hd1 := (hW.cell (p := ⟨b1, 0, none⟩) hb1).trans hc1
  have hd2 := (hW.cell (p := ⟨b2, 0, none⟩) hb2).trans hc2
  have hJd : ∀ xs W, J xs W → J xs W.drew := fun xs W h => hJ xs W W.drew none h ⟨rfl, rfl, rfl, Nat.le_refl _, fun _ _ _ => rfl⟩ (fun r e => by cases e)
  cases hsv with
  | emp a cap _ _ =>
    refine (chunk0_in n l b1 b2 cap k a J W hd1 hd2 h0).mono fun e W' ⟨h1, h2⟩ => ⟨h1, .inl ⟨[], ?_, h2⟩⟩
    have : cntN k 0 = 0 := Nat.div_eq_of_lt (by omega)
    rw [this]; rfl
  | «at» _ _ _ cap h => exact chunk1_in n hn l b1 b2 blk off len cap k (cntN k len) hk hk2 hlen h (fun j h => cntN_lt hk h) (cntN_ge hk) J Jx hJd hY W hd1 hd2 h0
end Go.Proofs.YtcmgeflfapffoaaDoor.lib
