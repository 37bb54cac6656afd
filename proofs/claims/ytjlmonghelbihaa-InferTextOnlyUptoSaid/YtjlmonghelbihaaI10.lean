/- The analysis: the table holds; the laws walked. -/
import Derived.Test.YtjlmonghelbihaaI9
set_option linter.unusedSimpArgs false
set_option linter.unusedVariables false
set_option maxRecDepth 100000
set_option maxHeartbeats 4000000
namespace Go.AL.Fun
open Go Go.AL

/-- What is wanted of a program, for the analysis. -/
structure IOk (P : Program) : Prop where
  hr : ROk P
  hl : LOkP P
  h19 : OkAt P 19 f19
  h20 : OkAt P 20 f20
  h21 : OkAt P 21 f21
  h22 : OkAt P 22 f22
  h23 : OkAt P 23 f23
  h24 : OkAt P 24 f24
  h25 : OkAt P 25 f25
  h35 : OkAt P 35 f35
  h36 : OkAt P 36 f36
  h37 : OkAt P 37 f37
  h55 : OkAt P 55 f55
  h56 : OkAt P 56 f56
section
variable {P : Program} (h : IOk P)
include h
theorem ik17 (xs : List AV) (H : Heap) (K : AV → Heap → Prop) (c : c17 xs H ⟨K⟩) : ACalls NG P 17 xs H K := (tF_ok h.hr.ho) (17, fun xs H K => c17 xs H ⟨K⟩) List.mem_cons_self xs H K c
theorem ik14 (xs : List AV) (H : Heap) (K : AV → Heap → Prop) (c : c14 xs H ⟨K⟩) : ACalls NG P 14 xs H K := (tF_ok h.hr.ho) (14, fun xs H K => c14 xs H ⟨K⟩) (.tail _ (.tail _ (.head _))) xs H K c
theorem ik56 (xs : List AV) (H : Heap) (K : AV → Heap → Prop) (c : c56 xs H ⟨K⟩) : ACalls NG P 56 xs H K := okC h.hl.hm .nilX h.h56 _ _ _ (c56_of P (K := ⟨K⟩) c)
theorem ik36 (xs : List AV) (H : Heap) (K : AV → Heap → Prop) (c : c36 xs H ⟨K⟩) : ACalls NG P 36 xs H K := okC h.hl.hm (.consX (ik56 h) .nilX) h.h36 _ _ _ (c36_of P (K := ⟨K⟩) c)
mutual
theorem ik55 : ∀ (N : Nat) (xs : List AV) (H : Heap) (K : AV → Heap → Prop), c55 N xs H ⟨K⟩ → ACalls NG P 55 xs H K
  | 0 => fun xs H K c => by
    obtain ⟨pp, a, tk, R, s, n, _, _, _, _, hN, _⟩ := c
    exact absurd (cnt_pos n) (by omega)
  | N + 1 => fun xs H K c => okC h.hl.hm (.consX (ik35 N) (.consX (ik36 h) (.consX (ik56 h) (.consX (ik17 h) (.consX (ik14 h) .nilX))))) h.h55 _ _ _ (c55_of P (K := ⟨K⟩) c)
theorem ik35 : ∀ (N : Nat) (xs : List AV) (H : Heap) (K : AV → Heap → Prop), c35 N xs H ⟨K⟩ → ACalls NG P 35 xs H K
  | N => fun xs H K c => okC h.hl.hm (.consX (ik55 N) .nilX) h.h35 _ _ _ (c35_of P (K := ⟨K⟩) c)
end
theorem ik23 (xs : List AV) (H : Heap) (K : AV → Heap → Prop) (c : c23 xs H ⟨K⟩) : ACalls NG P 23 xs H K := okC h.hl.hm (.consX (ik35 h 1099511627776) (.consX (ik36 h) .nilX)) h.h23 _ _ _ (c23_of P (K := ⟨K⟩) c)
theorem ik19 (xs : List AV) (H : Heap) (K : AV → Heap → Prop) (c : c19 xs H ⟨K⟩) : ACalls NG P 19 xs H K := okW h.hl.hm (.consX (ik35 h 1099511627776) (.consX (ik36 h) .nilX)) h.h19 _ _ _ (c19_of P (K := ⟨K⟩) c)
theorem ik25 (xs : List AV) (H : Heap) (K : AV → Heap → Prop) (c : c17 xs H ⟨K⟩) : ACalls NG P 25 xs H K := okC h.hl.hm (.consX (rk13 h.hr) .nilX) h.h25 _ _ _ (r25_of P (K := ⟨K⟩) c)
mutual
theorem ik37 : ∀ (N : Nat) (xs : List AV) (H : Heap) (K : AV → Heap → Prop), c37 N xs H ⟨K⟩ → ACalls NG P 37 xs H K
  | 0 => fun xs H K c => by
    obtain ⟨s, n, _, _, hN, _⟩ := c
    exact absurd (cnt_pos n) (by omega)
  | N + 1 => fun xs H K c => okW h.hl.hm (.consX (ik24 N) (.consX (ik25 h) (.consX (rk15 h.hr) .nilX))) h.h37 _ _ _ (c37_of P (K := ⟨K⟩) c)
theorem ik24 : ∀ (N : Nat) (xs : List AV) (H : Heap) (K : AV → Heap → Prop), c24 N xs H ⟨K⟩ → ACalls NG P 24 xs H K
  | N => fun xs H K c => okW h.hl.hm (.consX (ik37 N) .nilX) h.h24 _ _ _ (c24_of P (K := ⟨K⟩) c)
end
theorem ik20 (xs : List AV) (H : Heap) (K : AV → Heap → Prop) (c : c20 xs H ⟨K⟩) : ACalls NG P 20 xs H K := okC h.hl.hm (.consX (ik24 h 1099511627776) .nilX) h.h20 _ _ _ (c20_of P (K := ⟨K⟩) c)
theorem ik22 (xs : List AV) (H : Heap) (K : AV → Heap → Prop) (c : c22 xs H ⟨K⟩) : ACalls NG P 22 xs H K := okC h.hl.hm .nilX h.h22 _ _ _ (c22_of P (K := ⟨K⟩) c)
theorem ik21 (xs : List AV) (H : Heap) (K : AV → Heap → Prop) (c : c21 xs H ⟨K⟩) : ACalls NG P 21 xs H K := okC h.hl.hm (.consX (lk18 h.hl) (.consX (ik19 h) (.consX (ik22 h) .nilX))) h.h21 _ _ _ (c21_of P (K := ⟨K⟩) c)
abbrev tIT : XT := [(18, c18), (19, c19), (20, c20), (21, c21), (22, c22), (23, c23), (24, c24 1099511627776), (25, c17), (17, c17), (16, r16)]
theorem tI_ok : TOk NG P (plainT tIT) := .consX (lk18 h.hl) (.consX (ik19 h) (.consX (ik20 h) (.consX (ik21 h) (.consX (ik22 h) (.consX (ik23 h) (.consX (ik24 h 1099511627776) (.consX (ik25 h) (.consX (ik17 h) (.consX (rk16 h.hr) .nilX)))))))))
end
@[reducible] def tI (P : Program) : Th := ⟨fun _ => none, P, tIT⟩
theorem x_c21 {H : Heap} (hn : H.keys.Nodup) (K : Kv) : c21 [] H K = K.ap (.bool true) H := propext ⟨fun h => h.2.2, fun h => ⟨rfl, hn, h⟩⟩
theorem law7 (P : Program) (src : List UInt8) (hs : src.length ≤ 1048576) (K : Kv) (hK : ∀ H, K.ap (.bool true) H) : @xF (tI P) f7 [.str src] [] K := by
  have n0 : (Heap.keys ([] : Heap)).Nodup := List.nodup_nil
  simp (implicitDefEqProofs := false) only [sB, simprocAttr, f7]
  refine x_c18 n0 (by omega) _ ?_
  have lp := infP_len _ (parsed_cnt src)
  have ie := inf_eq (parsedR src)
  simp (implicitDefEqProofs := false) only [sB, simprocAttr]
  refine ⟨_, _, rfl, n0, parsed_cnt _, parsed_les _, ?_⟩
  generalize infP (parsedR src) = r at ie lp ⊢
  obtain ⟨ks, at1, e1⟩ := r
  simp (implicitDefEqProofs := false) only [sB, simprocAttr]
  refine ⟨_, _, rfl, n0, parsed_cnt _, parsed_les _, fun tok ht => ?_⟩
  rw [← ie]
  simp only at lp
  simp (implicitDefEqProofs := false) only [sB, simprocAttr, x_c21 n0]
  refine x_c22 lp _ _ ?_
  simp (implicitDefEqProofs := false) only [sB, simprocAttr]
  exact hK _
theorem law8 (P : Program) (before src : List UInt8) (hb : before.length ≤ 1048576) (hs : src.length ≤ 1048576) (K : Kv) (hK : ∀ H, K.ap (.bool true) H) : @xF (tI P) f8 [.str before, .str src] [] K := by
  have n0 : (Heap.keys ([] : Heap)).Nodup := List.nodup_nil
  by_cases c : (2000 : Int) < before.length
  · simp (implicitDefEqProofs := false) only [sB, simprocAttr, f8, c, x_c21 n0]
    exact hK _
  · simp (implicitDefEqProofs := false) only [sB, simprocAttr, f8, c]
    refine x_c18 n0 (by omega) _ ?_
    simp (implicitDefEqProofs := false) only [sB, simprocAttr, x_c17 invZ (show before.length ≤ 1099511627776 by omega), stAV]
    have iz := inv_run invZ before
    have ae := aft_eq (runP St.zero before) (parsedR src)
    refine ⟨runP St.zero before, _, _, rfl, n0, parsed_cnt _, iz, parsed_les _, ?_⟩
    generalize aftP (runP St.zero before) (parsedR src) = r at ae ⊢
    obtain ⟨⟨c1, m1, u1, q1⟩, at1, e1⟩ := r
    simp (implicitDefEqProofs := false) only [sB, simprocAttr, stAV]
    refine i_new fun p6 hp6 => ?_
    simp (implicitDefEqProofs := false) only [sB, simprocAttr, x_c17 invZ (show before.length ≤ 1099511627776 by omega), stAV]
    refine ⟨runP St.zero before, _, _, rfl, by simp [Heap.keys], parsed_cnt _, parsed_cnt _, iz, parsed_les _, fun tok ht => ?_⟩
    generalize listF (runP St.zero before) (parsedR src) = r at ae ⊢
    obtain ⟨⟨c2, m2, u2, q2⟩, e2, a2, r2⟩ := r
    simp (implicitDefEqProofs := false) only [sB, simprocAttr, rsCs]
    refine i_new fun p9 hp9 => ?_
    have n69 : ¬ p6 = p9 := fun e => hp9 (by subst e; simp [Heap.keys])
    have n96 : ¬ p9 = p6 := fun e => n69 e.symm
    have n2 : (Heap.keys [(p9, AObj.cells [.int .i64 c2, .str m2, .str u2, .str q2, .sl (intsAV e2) tok, .int .i64 a2, .int .i64 r2]), (p6, .cells [.int .i64 c1, .str m1, .str u1, .str q1])]).Nodup := by simp [Heap.keys, n96]
    by_cases r0 : r2 = 0
    · subst r0
      simp only [ne_eq, not_true_eq_false, if_false, Prod.mk.injEq, St.mk.injEq] at ae
      obtain ⟨⟨rfl, rfl, rfl, rfl⟩, rfl, rfl⟩ := ae
      simp (implicitDefEqProofs := false) only [sB, simprocAttr, rsCs, n69, n96, x_c21 n2, x_r16, stAV, x_eqst]
      exact hK _
    · simp only [r0, ne_eq, not_false_eq_true, if_true, Prod.mk.injEq] at ae
      obtain ⟨az, rfl, rfl⟩ := ae
      obtain ⟨rfl, rfl, rfl, rfl⟩ : c1 = 0 ∧ m1 = [] ∧ u1 = [] ∧ q1 = [] := by simpa [St.zero] using az
      simp (implicitDefEqProofs := false) only [sB, simprocAttr, rsCs, n69, n96, r0, x_c21 n2, x_eqst]
      exact hK _
end Go.AL.Fun
