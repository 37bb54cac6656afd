/- IncescapeConcatenation, walked. -/
import Derived.Test.YtijioomcpecdhaaDoorS20w
import Derived.Test.YtijioomcpecdhaaDoorS30
set_option linter.unusedSimpArgs false
set_option linter.unusedVariables false
set_option maxRecDepth 100000
set_option maxHeartbeats 4000000
namespace Go.AL.Fun
open Go Go.AL
@[reducible] def t14 : XT := [(38, c38), (18, c18), (25, c25), (26, c26), (27, c27), (28, c28), (29, c29), (30, c30), (31, c31)]
theorem law14 (P : Program) (e : Int) (h0 : 0 ≤ e) (h1 : e ≤ 255) (s t : List UInt8) (hs1 : s.length ≤ 1048576) (K : Kv) (hK : ∀ H, K.ap (.bool true) H) : @xF ⟨Gu, P, t14⟩ f14 [.int .u8 e, .str s, .str t] [] K := by
  have hn : (Heap.keys []).Nodup := List.nodup_nil
  have alive : ∀ (H : Heap) (K' : Kv), H.keys.Nodup → K'.ap (.bool true) H → c26 [] H K' := fun H K' h k => ⟨rfl, h, k⟩
  by_cases cs : (5000 : Int) < (s.length : Int)
  · simp (implicitDefEqProofs := false) only [sB, simprocAttr, f14, cs]
    refine alive _ _ hn ?_
    simp (implicitDefEqProofs := false) only [sB, simprocAttr]
    exact hK _
  by_cases ct : (5000 : Int) < (t.length : Int)
  · simp (implicitDefEqProofs := false) only [sB, simprocAttr, f14, cs, ct]
    refine alive _ _ hn ?_
    simp (implicitDefEqProofs := false) only [sB, simprocAttr]
    exact hK _
  simp (implicitDefEqProofs := false) only [sB, simprocAttr, f14, cs, ct]
  refine ⟨s, rfl, hs1, hn, fun r hr => ?_⟩
  by_cases hv : validP s = true
  · obtain rfl : r = s := hr.2 hv
    have hm := mod5 h0
    have he : e.toNat % 5 < 5 := Nat.mod_lt _ (by decide)
    have w0 := w_i64 e (by omega) (by omega)
    have w1 := w_i64 ((e.toNat % 5 : Nat) : Int) (by omega) (by omega)
    have e0 : (0 : Int) ≤ ((e.toNat % 5 : Nat) : Int) := by omega
    have e4 : ((e.toNat % 5 : Nat) : Int) ≤ 4 := by omega
    simp (implicitDefEqProofs := false) only [sB, simprocAttr, beq_self_eq_true, w0, hm, w1]
    generalize ((e.toNat % 5 : Nat) : Int) = k at *
    refine x_c25 hn (fun h => by omega) fun _ _ p H1 hE => ?_
    simp (implicitDefEqProofs := false) only [sB, simprocAttr]
    refine ⟨by omega, i_new fun z hz => ?_⟩
    simp (implicitDefEqProofs := false) only [sB, simprocAttr]
    have hE1 := hE.push (o := .cells (bytesAV r)) hz
    have hb1 : BSrc ((z, .cells (bytesAV r)) :: H1) (.msl z 0 r.length 1) r := BSrc.msl z 0 (bytesAV r) r (by simp [lookH]) (by rw [by_len]; omega) (by rw [List.drop_zero, ← by_len, List.take_length])
    refine .inr ⟨p, _, _, r, _, rfl, hE1, hb1, fun h => (by cases h), fun _ => ⟨by show 0 + _ ≤ _; omega, by show 0 ≤ _; omega, e0, e4, fun H2 hE2 => ?_⟩⟩
    simp only [List.nil_append] at hE2
    have hw1 := wrP_len _ r (Nat.le_refl _)
    have hf1 := runeF_len k (wrP r).1
    have hh1 := wr_held r
    simp (implicitDefEqProofs := false) only [sB, simprocAttr]
    refine ⟨by omega, i_new fun z2 hz2 => ?_⟩
    simp (implicitDefEqProofs := false) only [sB, simprocAttr]
    have hE3 := hE2.push (o := .cells (bytesAV t)) hz2
    have hb2 : BSrc ((z2, .cells (bytesAV t)) :: H2) (.msl z2 0 t.length 1) t := BSrc.msl z2 0 (bytesAV t) t (by simp [lookH]) (by rw [by_len]; omega) (by rw [List.drop_zero, ← by_len, List.take_length])
    refine .inr ⟨p, _, _, t, _, rfl, hE3, hb2, fun h => (by cases h), fun _ => ⟨by show (wrP r).2.length + _ ≤ _; omega, by show ((wrP r).1.flatMap (runeP k)).length ≤ _; omega, e0, e4, fun H4 hE4 => ?_⟩⟩
    simp only at hE4
    have hst : (wrP (r ++ t)).1.flatMap (runeP k) = (wrP r).1.flatMap (runeP k) ++ (wrP ((wrP r).2 ++ t)).1.flatMap (runeP k) := by rw [(wr_app t _ r (Nat.le_refl _)).1, List.flatMap_append]
    have hw9 := (wr_app t _ r (Nat.le_refl _)).2
    rw [← hst, ← hw9] at hE4
    have hw2 := wrP_len _ (r ++ t) (Nat.le_refl _)
    have hf2 := runeF_len k (wrP (r ++ t)).1
    have hh2 := wr_held (r ++ t)
    have hl2 : (r ++ t).length = r.length + t.length := List.length_append
    simp (implicitDefEqProofs := false) only [sB, simprocAttr]
    refine .inr ⟨p, _, _, rfl, hE4, fun h => (by cases h), fun _ => ⟨by show (wrP (r ++ t)).2.length ≤ _; omega, by show ((wrP (r ++ t)).1.flatMap (runeP k)).length ≤ _; omega, e0, e4, fun H5 hE5 => ?_⟩⟩
    simp only at hE5
    have hall : (wrP (r ++ t)).1.flatMap (runeP k) ++ (decP (wrP (r ++ t)).2).flatMap (runeP k) = escP k r ++ escP k t := by
      rw [← escP_app k hv]; unfold escP; rw [wr_end (r ++ t), List.flatMap_append]
    rw [hall] at hE5
    have hd2 : ((decP (wrP (r ++ t)).2).flatMap (runeP k)).length ≤ 9 * (wrP (r ++ t)).2.length := escP_9 k _ (wrP (r ++ t)).2 (Nat.le_refl _)
    have hla := congrArg List.length hall
    rw [List.length_append] at hla
    simp (implicitDefEqProofs := false) only [sB, simprocAttr]
    refine x_c18 e0 e4 hE5.1 (by omega) ?_
    simp (implicitDefEqProofs := false) only [sB, simprocAttr]
    refine x_c18 e0 e4 hE5.1 (by omega) ?_
    simp (implicitDefEqProofs := false) only [sB, simprocAttr]
    refine alive _ _ hE5.1 ?_
    simp (implicitDefEqProofs := false) only [sB, simprocAttr]
    refine x_c27 hE5 ?_
    simp (implicitDefEqProofs := false) only [sB, simprocAttr]
    refine .inr ⟨p, _, _, _, rfl, hE5, by show (escP k r ++ escP k t).length ≤ _; omega, fun t4 H6 hE6 => ?_⟩
    have hmn : min ((((escP k r ++ escP k t).length : Nat) : Int)).toNat (escP k r ++ escP k t).length = (escP k r ++ escP k t).length := by omega
    have hmn2 : min ((((escP k r).length + (escP k t).length : Nat) : Int)).toNat (escP k r ++ escP k t).length = (escP k r ++ escP k t).length := by rw [List.length_append]; omega
    simp only [hmn, hmn2, List.drop_length] at hE6
    rw [show List.take (min ((((escP k r).length + (escP k t).length : Nat) : Int)).toNat (ES.mk [] k (escP k r ++ escP k t) true).out.length) (ES.mk [] k (escP k r ++ escP k t) true).out = escP k r ++ escP k t from by simp only; rw [hmn2, List.take_length]]
    simp (implicitDefEqProofs := false) only [sB, simprocAttr]
    have hl3 : (escP k r ++ escP k t).length = (escP k r).length + (escP k t).length := List.length_append
    refine ⟨by omega, ?_⟩
    refine x_c28 hE6 ?_
    simp (implicitDefEqProofs := false) only [sB, simprocAttr]
    exact hK _
  · have hne : ¬ r = s := fun e => hv (hr.1 e)
    simp (implicitDefEqProofs := false) only [sB, simprocAttr, hne]
    refine alive _ _ hn ?_
    simp (implicitDefEqProofs := false) only [sB, simprocAttr]
    exact hK _
end Go.AL.Fun
