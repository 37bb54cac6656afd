/- IncescapeHoldsLittle, walked. -/
import Derived.Test.YtijioomcpecdhaaDoorS20
import Derived.Test.YtijioomcpecdhaaDoorFL11
set_option linter.unusedSimpArgs false
set_option linter.unusedVariables false
set_option maxRecDepth 100000
set_option maxHeartbeats 4000000
namespace Go.AL.Fun
open Go Go.AL
@[reducible] def t11 : XT := [(25, c25), (26, c26), (27, c27), (29, c29), (30, c30)]
theorem t11_ok {P : Program} (h : IOk P) : TOk Gu P (plainT t11) := .consX (e25 h) (.consX (e26 h) (.consX (e27 h) (.consX (e29 h) (.consX (e30 h) .nilX))))
theorem law11 (P : Program) (e : Int) (h0 : 0 ≤ e) (h1 : e ≤ 255) (s : List UInt8) (K : Kv) (hK : ∀ H, K.ap (.bool true) H) : @xF ⟨Gu, P, t11⟩ f11 [.int .u8 e, .str s] [] K := by
  have hn : (Heap.keys []).Nodup := List.nodup_nil
  have alive : ∀ (H : Heap) (K' : Kv), H.keys.Nodup → K'.ap (.bool true) H → c26 [] H K' := fun H K' h k => ⟨rfl, h, k⟩
  by_cases cs : (1000 : Int) < (s.length : Int)
  · simp (implicitDefEqProofs := false) only [sB, simprocAttr, f11, cs]
    refine alive _ _ hn ?_
    simp (implicitDefEqProofs := false) only [sB, simprocAttr]
    exact hK _
  have hm := mod5 h0
  have he : e.toNat % 5 < 5 := Nat.mod_lt _ (by decide)
  have w0 := w_i64 e (by omega) (by omega)
  have w1 := w_i64 ((e.toNat % 5 : Nat) : Int) (by omega) (by omega)
  simp (implicitDefEqProofs := false) only [sB, simprocAttr, f11, cs, w0, hm, w1]
  refine x_c25 hn (fun h => by omega) fun _ _ p H1 hE => ?_
  simp (implicitDefEqProofs := false) only [sB, simprocAttr]
  refine ⟨by omega, i_new fun z hz => ?_⟩
  simp (implicitDefEqProofs := false) only [sB, simprocAttr]
  have hbs : BSrc ((z, .cells (bytesAV s)) :: H1) (.msl z 0 s.length 1) s := .msl z 0 (bytesAV s) s (by simp [lookH]) (by simp [by_len]) (by rw [List.drop_zero, ← by_len s, List.take_length])
  obtain ⟨w, hw⟩ : ∃ w, wrP ([] ++ s) = w := ⟨_, rfl⟩
  have hwl : w.1.length ≤ s.length := by rw [← hw]; simpa using wrP_len _ s (Nat.le_refl _)
  have hwh : w.2.length ≤ 3 := by rw [← hw]; simpa using wr_held s
  have ho1 := runeF_len ((e.toNat % 5 : Nat) : Int) w.1
  have ho2 : ((decP w.2).flatMap (runeP ((e.toNat % 5 : Nat) : Int))).length ≤ 9 * w.2.length := escP_9 ((e.toNat % 5 : Nat) : Int) _ w.2 (Nat.le_refl _)
  refine .inr ⟨p, ⟨[], ((e.toNat % 5 : Nat) : Int), [], false⟩, _, s, _, rfl, hE.push hz, hbs, fun h => (by cases h), fun _ => ⟨by simp; omega, by simp, Int.natCast_nonneg _, (by omega : ((e.toNat % 5 : Nat) : Int) ≤ 4), fun H2 hE2 => ?_⟩⟩
  rw [hw] at hE2
  simp only [List.nil_append] at hE2
  obtain ⟨h, hh⟩ : ∃ h, w.2 = h := ⟨_, rfl⟩
  rw [hh] at hE2 ho2 hwh
  generalize w.1.flatMap (runeP ((e.toNat % 5 : Nat) : Int)) = o1 at *
  simp (implicitDefEqProofs := false) only [sB, simprocAttr]
  refine x_c27 hE2 ?_
  simp (implicitDefEqProofs := false) only [sB, simprocAttr]
  refine .inr ⟨p, _, _, rfl, hE2, fun h => (by cases h), fun _ => ⟨by show h.length ≤ _; omega, by show o1.length ≤ _; omega, Int.natCast_nonneg _, (by omega : ((e.toNat % 5 : Nat) : Int) ≤ 4), fun H3 hE3 => ?_⟩⟩
  simp only at hE3
  generalize (decP h).flatMap (runeP ((e.toNat % 5 : Nat) : Int)) = o2 at *
  have hl : ((o1 ++ o2).length : Int) = (o1.length : Int) + (o2.length : Int) := by rw [List.length_append]; omega
  simp (implicitDefEqProofs := false) only [sB, simprocAttr]
  refine x_c27 hE3 ?_
  simp (implicitDefEqProofs := false) only [sB, simprocAttr]
  refine alive _ _ hE3.1 ?_
  have g1 : (o1.length : Int) ≤ ((o1.length + o2.length : Nat) : Int) := by omega
  have g2 : ((o1.length + o2.length : Nat) : Int) - (o1.length : Int) ≤ 27 := by omega
  have wz := w_i64 (((o1.length + o2.length : Nat) : Int) - (o1.length : Int)) (by omega) (by omega)
  simp (implicitDefEqProofs := false) only [sB, simprocAttr, List.length_append, g1, g2, wz]
  exact hK _
end Go.AL.Fun
