/- EscapeIsInjective, walked. -/
import Derived.Test.YtijioomcpecdhaaDoorS27
import Derived.Test.YtijioomcpecdhaaDoorFL8
set_option linter.unusedSimpArgs false
set_option linter.unusedVariables false
set_option maxRecDepth 100000
set_option maxHeartbeats 4000000
namespace Go.AL.Fun
open Go Go.AL
@[reducible] def t8 : XT := [(17, c17), (18, c18), (19, c19), (24, c24)]
theorem t8_ok {P : Program} (h : LOk P) : TOk Gu P (plainT t8) := .consX (e17 Gu5 h.i.e) (.consX (e18 Gu5 h.i.e) (.consX (e19 h.i) (.consX (e24 h) .nilX)))
theorem law8 (P : Program) {G : Nat → Option (List AV)} (e : Int) (h0 : 0 ≤ e) (h1 : e ≤ 255) (s t : List UInt8) (K : Kv) (hK : ∀ H, K.ap (.bool true) H) : @xF ⟨G, P, t8⟩ f8 [.int .u8 e, .str s, .str t] [] K := by
  have hn : (Heap.keys []).Nodup := List.nodup_nil
  have fin : ∀ K' : Kv, K'.ap (.bool true) [] → c17 [] [] K' := fun K' k => ⟨rfl, hn, k⟩
  by_cases cs : (1000 : Int) < (s.length : Int)
  · simp (implicitDefEqProofs := false) only [sB, simprocAttr, f8, cs]
    refine fin _ ?_
    simp (implicitDefEqProofs := false) only [sB, simprocAttr]
    exact hK _
  by_cases ct : (1000 : Int) < (t.length : Int)
  · simp (implicitDefEqProofs := false) only [sB, simprocAttr, f8, cs, ct]
    refine fin _ ?_
    simp (implicitDefEqProofs := false) only [sB, simprocAttr]
    exact hK _
  simp (implicitDefEqProofs := false) only [sB, simprocAttr, f8, cs, ct]
  refine ⟨s, rfl, by omega, ?_⟩
  cases hv : validP s with
  | false =>
    simp (implicitDefEqProofs := false) only [sB, simprocAttr]
    refine fin _ ?_
    simp (implicitDefEqProofs := false) only [sB, simprocAttr]
    exact hK _
  | true =>
    simp (implicitDefEqProofs := false) only [sB, simprocAttr]
    refine ⟨t, rfl, by omega, ?_⟩
    cases hw : validP t with
    | false =>
      simp (implicitDefEqProofs := false) only [sB, simprocAttr]
      refine fin _ ?_
      simp (implicitDefEqProofs := false) only [sB, simprocAttr]
      exact hK _
    | true =>
      simp (implicitDefEqProofs := false) only [sB, simprocAttr]
      refine ⟨by omega, s ++ t, rfl, ?_⟩
      by_cases hz : (0 : UInt8) ∈ s ++ t
      · rw [decide_eq_true hz]
        simp (implicitDefEqProofs := false) only [sB, simprocAttr]
        refine fin _ ?_
        simp (implicitDefEqProofs := false) only [sB, simprocAttr]
        exact hK _
      · rw [decide_eq_false hz]
        rw [List.mem_append, not_or] at hz
        have hm := mod5 h0
        have he : e.toNat % 5 < 5 := Nat.mod_lt _ (by decide)
        have w0 := w_i64 e (by omega) (by omega)
        have w1 := w_i64 ((e.toNat % 5 : Nat) : Int) (by omega) (by omega)
        have e0 : (0 : Int) ≤ ((e.toNat % 5 : Nat) : Int) := by omega
        have e4 : ((e.toNat % 5 : Nat) : Int) ≤ 4 := by omega
        have hi := escP_inj e0 e4 hv hw hz.1 hz.2
        have l1 := escP_len ((e.toNat % 5 : Nat) : Int) s
        have l2 := escP_len ((e.toNat % 5 : Nat) : Int) t
        simp (implicitDefEqProofs := false) only [sB, simprocAttr, w0, hm, w1]
        refine x_c18 e0 e4 hn (by omega) ?_
        simp (implicitDefEqProofs := false) only [sB, simprocAttr]
        refine x_c18 e0 e4 hn (by omega) ?_
        simp (implicitDefEqProofs := false) only [sB, simprocAttr]
        refine fin _ ?_
        by_cases hst : s = t
        · subst hst
          simp (implicitDefEqProofs := false) only [sB, simprocAttr]
          exact hK _
        · have hne : ¬ escP ((e.toNat % 5 : Nat) : Int) s = escP ((e.toNat % 5 : Nat) : Int) t := fun h => hst (hi.1 h)
          simp (implicitDefEqProofs := false) only [sB, simprocAttr, hst, hne]
          exact hK _
end Go.AL.Fun
