/- IncescapeNext, walked. -/
import Derived.Test.YtijioomcpecdhaaDoorS20
import Derived.Test.YtijioomcpecdhaaDoorFL12
set_option linter.unusedSimpArgs false
set_option linter.unusedVariables false
set_option maxRecDepth 100000
set_option maxHeartbeats 4000000
namespace Go.AL.Fun
open Go Go.AL
@[reducible] def t12 : XT := [(25, c25), (26, c26), (27, c27), (28, c28), (29, c29), (30, c30), (31, c31)]
theorem t12_ok {P : Program} (h : IOk P) : TOk Gu P (plainT t12) := .consX (e25 h) (.consX (e26 h) (.consX (e27 h) (.consX (e28 h) (.consX (e29 h) (.consX (e30 h) (.consX (e31 h) .nilX))))))
theorem minmax (n : Int) (len : Nat) : (if (0 : Int) < (if (len : Int) < n then (len : Int) else n) then (if (len : Int) < n then (len : Int) else n) else 0) = ((min n.toNat len : Nat) : Int) := by
  repeat' split
  all_goals omega
theorem law12 (P : Program) (e : Int) (h0 : 0 ≤ e) (h1 : e ≤ 255) (s : List UInt8) (n : Int) (hn1 : -9223372036854775808 ≤ n) (hn2 : n ≤ 9223372036854775807) (K : Kv) (hK : ∀ H, K.ap (.bool true) H) : @xF ⟨Gu, P, t12⟩ f12 [.int .u8 e, .str s, .int .i64 n] [] K := by
  have hn : (Heap.keys []).Nodup := List.nodup_nil
  have alive : ∀ (H : Heap) (K' : Kv), H.keys.Nodup → K'.ap (.bool true) H → c26 [] H K' := fun H K' h k => ⟨rfl, h, k⟩
  by_cases cs : (5000 : Int) < (s.length : Int)
  · simp (implicitDefEqProofs := false) only [sB, simprocAttr, f12, cs]
    refine alive _ _ hn ?_
    simp (implicitDefEqProofs := false) only [sB, simprocAttr]
    exact hK _
  have hm := mod5 h0
  have he : e.toNat % 5 < 5 := Nat.mod_lt _ (by decide)
  have w0 := w_i64 e (by omega) (by omega)
  have w1 := w_i64 ((e.toNat % 5 : Nat) : Int) (by omega) (by omega)
  simp (implicitDefEqProofs := false) only [sB, simprocAttr, f12, cs, w0, hm, w1]
  refine x_c25 hn (fun h => by omega) fun _ _ p H1 hE => ?_
  simp (implicitDefEqProofs := false) only [sB, simprocAttr]
  refine ⟨by omega, i_new fun z hz => ?_⟩
  simp (implicitDefEqProofs := false) only [sB, simprocAttr]
  have hbs : BSrc ((z, .cells (bytesAV s)) :: H1) (.msl z 0 s.length 1) s := .msl z 0 (bytesAV s) s (by simp [lookH]) (by simp [by_len]) (by rw [List.drop_zero, ← by_len s, List.take_length])
  obtain ⟨w, hw⟩ : ∃ w, wrP ([] ++ s) = w := ⟨_, rfl⟩
  have hwl : w.1.length ≤ s.length := by rw [← hw]; simpa using wrP_len _ s (Nat.le_refl _)
  have hwh : w.2.length ≤ 3 := by rw [← hw]; simpa using wr_held s
  have ho1 := runeF_len ((e.toNat % 5 : Nat) : Int) w.1
  have ho2 := runeF_len ((e.toNat % 5 : Nat) : Int) (decP w.2)
  have ho3 := decP_len _ w.2 (Nat.le_refl _)
  refine .inr ⟨p, ⟨[], ((e.toNat % 5 : Nat) : Int), [], false⟩, _, s, _, rfl, hE.push hz, hbs, fun h => (by cases h), fun _ => ⟨by simp; omega, by simp, Int.natCast_nonneg _, (by omega : ((e.toNat % 5 : Nat) : Int) ≤ 4), fun H2 hE2 => ?_⟩⟩
  rw [hw] at hE2
  simp (implicitDefEqProofs := false) only [sB, simprocAttr]
  refine .inr ⟨p, _, _, rfl, hE2, fun h => (by cases h), fun _ => ⟨by show w.2.length ≤ _; omega, by show (([] : List UInt8) ++ w.1.flatMap (runeP ((e.toNat % 5 : Nat) : Int))).length ≤ _; rw [List.nil_append]; omega, Int.natCast_nonneg _, (by omega : ((e.toNat % 5 : Nat) : Int) ≤ 4), fun H3 hE3 => ?_⟩⟩
  simp only [List.nil_append] at hE3
  have hol : (w.1.flatMap (runeP ((e.toNat % 5 : Nat) : Int)) ++ (decP w.2).flatMap (runeP ((e.toNat % 5 : Nat) : Int))).length ≤ 1000000 := by rw [List.length_append]; omega
  generalize w.1.flatMap (runeP ((e.toNat % 5 : Nat) : Int)) ++ (decP w.2).flatMap (runeP ((e.toNat % 5 : Nat) : Int)) = out at *
  simp (implicitDefEqProofs := false) only [sB, simprocAttr]
  refine x_c27 hE3 ?_
  simp (implicitDefEqProofs := false) only [sB, simprocAttr]
  refine .inr ⟨p, _, n, _, rfl, hE3, by show out.length ≤ _; omega, fun t H4 hE4 => ?_⟩
  have hmm := minmax n out.length
  obtain ⟨m, hm9⟩ : ∃ m, min n.toNat out.length = m := ⟨_, rfl⟩
  rw [hm9] at hE4 hmm ⊢
  have hml : m ≤ out.length := by omega
  have hlen : ((out.take m).length : Int) = (m : Int) := by rw [List.length_take]; omega
  have hdl : ((out.drop m).length : Int) = (out.length : Int) - (m : Int) := by rw [List.length_drop]; omega
  have hdl2 : ((out.length - m : Nat) : Int) = (out.length : Int) - (m : Int) := by omega
  have hif : (if m ≤ out.length then m else out.length) = m := if_pos hml
  have ws := w_i64 ((out.length : Int) - (m : Int)) (by omega) (by omega)
  simp (implicitDefEqProofs := false) only [sB, simprocAttr]
  refine alive _ _ hE4.1 ?_
  simp (implicitDefEqProofs := false) only [sB, simprocAttr, by_len, hmm, hlen, hif]
  refine x_c27 hE4 ?_
  simp (implicitDefEqProofs := false) only [sB, simprocAttr, hmm, hdl, hdl2, ws]
  refine x_c28 hE4 ?_
  have hdn : decide (out.drop m = []) = decide ((out.length : Int) = (m : Int)) := by
    rw [decide_eq_decide, List.drop_eq_nil_iff]; omega
  have fin : ∀ K' : Kv, (∀ H, K'.ap (.bool true) H) → ∀ b : Bool, True := fun _ _ _ => trivial
  rw [show (true && decide (out.drop m = [])) = decide ((out.length : Int) = (m : Int)) from by rw [hdn]; rfl]
  by_cases hd : (out.length : Int) = (m : Int)
  · simp (implicitDefEqProofs := false) only [sB, simprocAttr, hd]
    refine .inr ⟨p, _, -1, _, rfl, hE4, by show (out.drop m).length ≤ _; rw [List.length_drop]; omega, fun t2 H5 hE5 => ?_⟩
    have z : min (-1 : Int).toNat (out.drop m).length = 0 := by simp
    rw [z, List.drop_zero] at hE5
    rw [z, List.take_zero]
    simp (implicitDefEqProofs := false) only [sB, simprocAttr]
    refine x_c27 hE5 ?_
    have wz := w_i64 ((m : Int) - (m : Int)) (by omega) (by omega)
    simp (implicitDefEqProofs := false) only [sB, simprocAttr, hdl, hdl2, hd, ws, wz]
    exact hK _
  · simp (implicitDefEqProofs := false) only [sB, simprocAttr, hd]
    refine .inr ⟨p, _, -1, _, rfl, hE4, by show (out.drop m).length ≤ _; rw [List.length_drop]; omega, fun t2 H5 hE5 => ?_⟩
    have z : min (-1 : Int).toNat (out.drop m).length = 0 := by simp
    rw [z, List.drop_zero] at hE5
    rw [z, List.take_zero]
    simp (implicitDefEqProofs := false) only [sB, simprocAttr]
    refine x_c27 hE5 ?_
    have wz := w_i64 ((m : Int) - (m : Int)) (by omega) (by omega)
    simp (implicitDefEqProofs := false) only [sB, simprocAttr, hdl, hdl2, hd, ws, wz]
    exact hK _
end Go.AL.Fun
