/- EscapeConcatenation, walked. -/
import Derived.Test.YtijioomcpecdhaaDoorS20
import Derived.Test.YtijioomcpecdhaaDoorFL5
set_option linter.unusedSimpArgs false
set_option linter.unusedVariables false
set_option maxRecDepth 100000
set_option maxHeartbeats 4000000
namespace Go.AL.Fun
open Go Go.AL
@[reducible] def t5 : XT := [(17, c17), (18, c18), (19, c19)]
theorem t5_ok {P : Program} (h : IOk P) : TOk Gu P (plainT t5) := .consX (e17 Gu5 h.e) (.consX (e18 Gu5 h.e) (.consX (e19 h) .nilX))
theorem law5 (P : Program) {G : Nat → Option (List AV)} (e : Int) (h0 : 0 ≤ e) (h1 : e ≤ 255) (s t : List UInt8) (K : Kv) (hK : ∀ H, K.ap (.bool true) H) : @xF ⟨G, P, t5⟩ f5 [.int .u8 e, .str s, .str t] [] K := by
  have hn : (Heap.keys []).Nodup := List.nodup_nil
  have fin : ∀ K' : Kv, K'.ap (.bool true) [] → c17 [] [] K' := fun K' k => ⟨rfl, hn, k⟩
  by_cases cs : (1000 : Int) < (s.length : Int)
  · simp (implicitDefEqProofs := false) only [sB, simprocAttr, f5, cs]
    refine fin _ ?_
    simp (implicitDefEqProofs := false) only [sB, simprocAttr]
    exact hK _
  by_cases ct : (1000 : Int) < (t.length : Int)
  · simp (implicitDefEqProofs := false) only [sB, simprocAttr, f5, cs, ct]
    refine fin _ ?_
    simp (implicitDefEqProofs := false) only [sB, simprocAttr]
    exact hK _
  simp (implicitDefEqProofs := false) only [sB, simprocAttr, f5, cs, ct]
  refine ⟨s, rfl, by omega, ?_⟩
  cases hv : validP s with
  | false =>
    simp (implicitDefEqProofs := false) only [sB, simprocAttr]
    refine fin _ ?_
    simp (implicitDefEqProofs := false) only [sB, simprocAttr]
    exact hK _
  | true =>
    have hm := mod5 h0
    have he : e.toNat % 5 < 5 := Nat.mod_lt _ (by decide)
    have w0 := w_i64 e (by omega) (by omega)
    have w1 := w_i64 ((e.toNat % 5 : Nat) : Int) (by omega) (by omega)
    have happ := escP_app ((e.toNat % 5 : Nat) : Int) (t := t) hv
    have l1 := escP_len ((e.toNat % 5 : Nat) : Int) s
    have l2 := escP_len ((e.toNat % 5 : Nat) : Int) t
    simp (implicitDefEqProofs := false) only [sB, simprocAttr, w0, hm, w1]
    refine x_c18 (by omega) (by omega) hn (by omega) ?_
    simp (implicitDefEqProofs := false) only [sB, simprocAttr]
    refine x_c18 (by omega) (by omega) hn (by omega) ?_
    simp (implicitDefEqProofs := false) only [sB, simprocAttr]
    refine ⟨by omega, x_c18 (by omega) (by omega) hn (by rw [List.length_append]; omega) ?_⟩
    rw [happ]
    simp (implicitDefEqProofs := false) only [sB, simprocAttr]
    refine fin _ ?_
    simp (implicitDefEqProofs := false) only [sB, simprocAttr]
    exact ⟨by omega, hK _⟩
end Go.AL.Fun
