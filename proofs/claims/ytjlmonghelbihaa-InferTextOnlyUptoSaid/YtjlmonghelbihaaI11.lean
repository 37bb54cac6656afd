/- The analysis: a template in two parts; text only. -/
import Derived.Test.YtjlmonghelbihaaI10
set_option linter.unusedSimpArgs false
set_option linter.unusedVariables false
set_option maxRecDepth 100000
set_option maxHeartbeats 4000000
namespace Go.AL.Fun
open Go Go.AL

theorem nds_take (l : List Nd) (k : Nat) : (Nd.avs l).take k = Nd.avs (l.take k) := by simp [nds_map, List.map_take]
theorem nds_drop (l : List Nd) (k : Nat) : (Nd.avs l).drop k = Nd.avs (l.drop k) := by simp [nds_map, List.map_drop]
theorem cnts_take (l : List Nd) (k : Nat) : Nd.cnts (l.take k) ≤ Nd.cnts l := by
  have := cnts_append (l.take k) (l.drop k)
  rw [List.take_append_drop] at this; omega
theorem les_split {L : Nat} {a b : List Nd} (h : Nd.les L (a ++ b)) : Nd.les L a ∧ Nd.les L b := by
  induction a with
  | nil => exact ⟨trivial, h⟩
  | cons x a ih => exact ⟨⟨h.1, (ih h.2).1⟩, (ih h.2).2⟩
theorem aftP_inv {s : St} (l : List Nd) (h : Inv s) : Inv (aftP s l).1 := by
  unfold aftP
  split
  · exact invZ
  · exact listA_inv s l an0 h
theorem law9 (P : Program) (src : List UInt8) (n : Int) (hs : src.length ≤ 1048576) (lo : 0 ≤ n) (hi : n < 256) (K : Kv) (hK : ∀ H, K.ap (.bool true) H) : @xF (tI P) f9 [.str src, .int .u8 n] [] K := by
  have n0 : (Heap.keys ([] : Heap)).Nodup := List.nodup_nil
  have r1 := w_i64 n (by omega) (by omega)
  simp (implicitDefEqProofs := false) only [sB, simprocAttr, f9]
  refine x_c18 n0 (by omega) _ ?_
  have pc := parsed_cnt src
  have pl := parsed_les src
  have ok := (parsedR_ok src).1
  generalize parsedR src = l at pc pl ok ⊢
  have wl := cnts_len l
  have r2 := w_i64 ((l.length : Int) + 1) (by omega) (by omega)
  have z1 : ¬ ((l.length : Int) + 1 = 0) := by omega
  have t0 : 0 ≤ n.tmod ((l.length : Int) + 1) := Int.tmod_nonneg _ lo
  have t1 : n.tmod ((l.length : Int) + 1) ≤ (l.length : Int) := by
    have := Int.tmod_lt_of_pos n (show (0 : Int) < (l.length : Int) + 1 by omega)
    omega
  generalize hz : n.tmod ((l.length : Int) + 1) = z at t0 t1
  have app := List.take_append_drop z.toNat l
  have pl2 := les_split (a := l.take z.toNat) (b := l.drop z.toNat) (by rw [app]; exact pl)
  have pc1 := cnts_take l z.toNat
  have pc2 := cnts_drop l z.toNat
  have key := aft_app St.zero (l.take z.toNat) (l.drop z.toNat)
  rw [app] at key
  have iv := aftP_inv (s := St.zero) (l.take z.toNat) invZ
  simp (implicitDefEqProofs := false) only [sB, simprocAttr, r1, r2, z1, hz, nds_len, nds_all, t0, t1]
  refine ⟨St.zero, l.take z.toNat, _, by rw [nds_take]; rfl, n0, by omega, invZ, pl2.1, ?_⟩
  generalize aftP St.zero (l.take z.toNat) = ra at key iv ⊢
  obtain ⟨⟨c1, m1, u1, q1⟩, at1, e1⟩ := ra
  simp (implicitDefEqProofs := false) only [sB, simprocAttr, stAV]
  refine i_new fun p7 hp7 => ?_
  simp (implicitDefEqProofs := false) only [sB, simprocAttr]
  refine ⟨St.zero, l, _, rfl, by simp [Heap.keys], by omega, invZ, pl, ?_⟩
  generalize aftP St.zero l = rb at key ⊢
  obtain ⟨⟨c2, m2, u2, q2⟩, at2, e2⟩ := rb
  simp (implicitDefEqProofs := false) only [sB, simprocAttr, stAV]
  refine i_new fun p10 hp10 => ?_
  have nA : ¬ p10 = p7 := fun e => hp10 (by subst e; simp [Heap.keys])
  have nB : ¬ p7 = p10 := fun e => nA e.symm
  have n2 : (Heap.keys [(p10, AObj.cells [.int .i64 c2, .str m2, .str u2, .str q2]), (p7, .cells [.int .i64 c1, .str m1, .str u1, .str q1])]).Nodup := by simp [Heap.keys, nA]
  by_cases e0 : e1 = 0
  · subst e0
    simp only [ne_eq, not_true_eq_false, if_false] at key iv
    simp (implicitDefEqProofs := false) only [sB, simprocAttr, nA, nB, stAV, nds_len, nds_all, t0, t1]
    have two : ∀ (A B : Prop), A → B → A ∧ B := fun _ _ a b => ⟨a, b⟩
    refine two _ _ ?_ ?_
    refine ⟨⟨c1, m1, u1, q1⟩, l.drop z.toNat, _, by rw [nds_take, nds_drop, List.take_length]; rfl, n2, by omega, iv, pl2.2, ?_⟩
    rw [← key]
    simp (implicitDefEqProofs := false) only [sB, simprocAttr, nA, nB, stAV]
    refine i_new fun p13 hp13 => ?_
    rotate_left
    refine i_new fun p13 hp13 => ?_
    have nC : ¬ p13 = p10 := fun e => hp13 (by subst e; simp [Heap.keys])
    have nD : ¬ p10 = p13 := fun e => nC e.symm
    have nE : ¬ p13 = p7 := fun e => hp13 (by subst e; simp [Heap.keys])
    have nF : ¬ p7 = p13 := fun e => nE e.symm
    simp (implicitDefEqProofs := false) only [sB, simprocAttr, nA, nB, nC, nD, nE, nF, stAV]
    refine ⟨⟨c1, m1, u1, q1⟩, l.drop z.toNat, _, by rw [nds_take, nds_drop, List.take_length]; rfl, List.nodup_cons.2 ⟨hp13, n2⟩, by omega, iv, pl2.2, ?_⟩
    rw [← key]
    all_goals
      have nC : ¬ p13 = p10 := fun e => hp13 (by subst e; simp [Heap.keys])
      have nD : ¬ p10 = p13 := fun e => nC e.symm
      have nE : ¬ p13 = p7 := fun e => hp13 (by subst e; simp [Heap.keys])
      have nF : ¬ p7 = p13 := fun e => nE e.symm
      simp (implicitDefEqProofs := false) only [sB, simprocAttr, nA, nB, nC, nD, nE, nF, stAV]
      refine ⟨rfl, List.nodup_cons.2 ⟨hp13, n2⟩, ?_⟩
      simp (implicitDefEqProofs := false) only [sB, simprocAttr, nA, nB, nC, nD, nE, nF, x_eqst]
      exact hK _
  · rw [if_pos e0] at key
    simp only [Prod.mk.injEq] at key
    obtain ⟨_, _, rfl⟩ := key
    simp (implicitDefEqProofs := false) only [sB, simprocAttr, nA, nB, e0, x_c21 n2]
    exact hK _
theorem law10 (P : Program) (src : List UInt8) (hs : src.length ≤ 1048576) (K : Kv) (hK : ∀ H, K.ap (.bool true) H) : @xF (tI P) f10 [.str src] [] K := by
  have n0 : (Heap.keys ([] : Heap)).Nodup := List.nodup_nil
  simp (implicitDefEqProofs := false) only [sB, simprocAttr, f10]
  refine x_c18 n0 (by omega) _ ?_
  have pc := parsed_cnt src
  have pl := parsed_les src
  have pt : ∀ x, parsedR src = [x] → x.cs[0]? = some (.int .i64 0) → ∃ q h1 h2 b el, x = .mk 0 0 src q h1 h2 b el := by
    intro x hx hk
    unfold parsedR at hx
    split at hx
    · cases hx
    · cases hp : parseR src with
      | mk o q =>
        obtain ⟨a, e⟩ := q
        rw [hp] at hx
        cases o with
        | none => cases hx
        | some l =>
          have hx' : l = [x] := hx
          subst hx'
          obtain ⟨p, q, h1, h2, b, el, h3, _⟩ := parse_text hp hk
          exact ⟨q, h1, h2, b, el, h3⟩
  generalize parsedR src = l at pc pl pt ⊢
  by_cases c1 : (l.length : Int) = 1
  · obtain ⟨x, rfl⟩ : ∃ x, l = [x] := by
      cases l with
      | nil => simp at c1
      | cons x r => cases r with
        | nil => exact ⟨x, rfl⟩
        | cons y r => simp at c1; omega
    have px := pt x rfl
    obtain ⟨k, p, t, q, hph, he, b, el⟩ := x
    by_cases k0 : k = 0
    · subst k0
      obtain ⟨q', h1, h2, b', el', e⟩ := px rfl
      simp only [Nd.mk.injEq, true_and] at e
      obtain ⟨rfl, rfl, rfl, rfl, rfl, rfl, rfl⟩ := e
      have a1 : aftP St.zero [.mk 0 0 t q hph he b el] = (runP St.zero t, 0, 0) := by simp [aftP, listA, nodeA, an0]
      have a2 : infP [.mk 0 0 t q hph he b el] = if runP St.zero t = St.zero then ([], 0, 0) else ([], 0, 16) := by
        by_cases e : runP St.zero t = St.zero
        · simp [infP, endA, listA, nodeA, an0, e]
        · simp [infP, endA, listA, nodeA, an0, e, An.fail, Nd.at_]
      simp (implicitDefEqProofs := false) only [sB, simprocAttr, nds_get, nds_len, Nd.avs, Nd.cs]
      refine ⟨St.zero, [.mk 0 0 t q hph he b el], _, rfl, n0, pc, invZ, pl, ?_⟩
      rw [a1]
      simp (implicitDefEqProofs := false) only [sB, simprocAttr, stAV]
      refine i_new fun p5 hp5 => ?_
      simp (implicitDefEqProofs := false) only [sB, simprocAttr]
      refine ⟨[.mk 0 0 t q hph he b el], _, rfl, by simp [Heap.keys], pc, pl, ?_⟩
      rw [a2]
      have iz := inv_run invZ t
      by_cases e : runP St.zero t = St.zero
      · rw [if_pos e]
        simp (implicitDefEqProofs := false) only [sB, simprocAttr, x_c17 invZ (show t.length ≤ 1099511627776 by omega), stAV]
        refine i_new fun p10 hp10 => ?_
        have nA : ¬ p10 = p5 := fun e => hp10 (by subst e; simp [Heap.keys])
        have nB : ¬ p5 = p10 := fun e => nA e.symm
        have e3 : (St.mk (runP ⟨0, [], [], []⟩ t).ctx (runP ⟨0, [], [], []⟩ t).name (runP ⟨0, [], [], []⟩ t).attr (runP ⟨0, [], [], []⟩ t).part = ⟨0, [], [], []⟩) = True := eq_true e
        have e4 : (St.mk (runP St.zero t).ctx (runP St.zero t).name (runP St.zero t).attr (runP St.zero t).part = St.mk (runP ⟨0, [], [], []⟩ t).ctx (runP ⟨0, [], [], []⟩ t).name (runP ⟨0, [], [], []⟩ t).attr (runP ⟨0, [], [], []⟩ t).part) = True := eq_true rfl
        simp (implicitDefEqProofs := false) only [sB, simprocAttr, nA, nB, stAV, x_eqst, e3, e4, intsAV]
        refine ⟨rfl, List.nodup_cons.2 ⟨hp10, by simp [Heap.keys]⟩, ?_⟩
        simp (implicitDefEqProofs := false) only [sB, simprocAttr, nA, nB, stAV, x_eqst, e3, e4]
        exact  hK _
      · rw [if_neg e]
        simp (implicitDefEqProofs := false) only [sB, simprocAttr, x_c17 invZ (show t.length ≤ 1099511627776 by omega), stAV]
        refine i_new fun p10 hp10 => ?_
        have nA : ¬ p10 = p5 := fun e => hp10 (by subst e; simp [Heap.keys])
        have nB : ¬ p5 = p10 := fun e => nA e.symm
        have e3 : (St.mk (runP ⟨0, [], [], []⟩ t).ctx (runP ⟨0, [], [], []⟩ t).name (runP ⟨0, [], [], []⟩ t).attr (runP ⟨0, [], [], []⟩ t).part = ⟨0, [], [], []⟩) = False := eq_false e
        have e4 : (St.mk (runP St.zero t).ctx (runP St.zero t).name (runP St.zero t).attr (runP St.zero t).part = St.mk (runP ⟨0, [], [], []⟩ t).ctx (runP ⟨0, [], [], []⟩ t).name (runP ⟨0, [], [], []⟩ t).attr (runP ⟨0, [], [], []⟩ t).part) = True := eq_true rfl
        simp (implicitDefEqProofs := false) only [sB, simprocAttr, nA, nB, stAV, x_eqst, e3, e4, intsAV]
        refine ⟨rfl, List.nodup_cons.2 ⟨hp10, by simp [Heap.keys]⟩, ?_⟩
        simp (implicitDefEqProofs := false) only [sB, simprocAttr, nA, nB, stAV, x_eqst, e3, e4]
        exact  hK _
    · simp (implicitDefEqProofs := false) only [sB, simprocAttr, nds_get, nds_len, Nd.avs, Nd.cs, k0, x_c21 n0]
      exact hK _
  · simp (implicitDefEqProofs := false) only [sB, simprocAttr, nds_len, c1, x_c21 n0]
    exact hK _
end Go.AL.Fun
