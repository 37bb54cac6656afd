/- EscapeIsSafe, walked. -/
import Derived.Test.YtijioomcpecdhaaDoorS23p
import Derived.Test.YtijioomcpecdhaaDoorS24
import Derived.Test.YtijioomcpecdhaaDoorFL7
set_option linter.unusedSimpArgs false
set_option linter.unusedVariables false
set_option maxRecDepth 100000
set_option maxHeartbeats 4000000
namespace Go.AL.Fun
open Go Go.AL
@[reducible] def t7 : XT := [(17, c17), (18, c18), (19, c19), (21, c21), (23, c23)]
theorem t7_ok {P : Program} (h : JOk P) : TOk Gu P (plainT t7) := .consX (e17 Gu5 h.i.e) (.consX (e18 Gu5 h.i.e) (.consX (e19 h.i) (.consX (e21 h) (.consX (e23 h.i) .nilX))))
theorem law7 (P : Program) {G : Nat → Option (List AV)} (e : Int) (h0 : 0 ≤ e) (h1 : e ≤ 255) (s : List UInt8) (K : Kv) (hK : ∀ H, K.ap (.bool true) H) : @xF ⟨G, P, t7⟩ f7 [.int .u8 e, .str s] [] K := by
  have hn : (Heap.keys []).Nodup := List.nodup_nil
  have fin : ∀ K' : Kv, K'.ap (.bool true) [] → c17 [] [] K' := fun K' k => ⟨rfl, hn, k⟩
  by_cases cs : (1000 : Int) < (s.length : Int)
  · simp (implicitDefEqProofs := false) only [sB, simprocAttr, f7, cs]
    refine fin _ ?_
    simp (implicitDefEqProofs := false) only [sB, simprocAttr]
    exact hK _
  have hm := mod5 h0
  have he : e.toNat % 5 < 5 := Nat.mod_lt _ (by decide)
  have w0 := w_i64 e (by omega) (by omega)
  have w1 := w_i64 ((e.toNat % 5 : Nat) : Int) (by omega) (by omega)
  have e0 : (0 : Int) ≤ ((e.toNat % 5 : Nat) : Int) := by omega
  have e4 : ((e.toNat % 5 : Nat) : Int) ≤ 4 := by omega
  have l1 := escP_len ((e.toNat % 5 : Nat) : Int) s
  have hs := escP_safe e0 e4 s
  have hg : ((decP s).length : Int) ≤ ((escP ((e.toNat % 5 : Nat) : Int) s).length : Int) := by have := escP_ge ((e.toNat % 5 : Nat) : Int) (decP s); unfold escP; omega
  simp (implicitDefEqProofs := false) only [sB, simprocAttr, f7, cs, w0, hm, w1]
  refine x_c18 e0 e4 hn (by omega) ?_
  simp (implicitDefEqProofs := false) only [sB, simprocAttr]
  refine fin _ ?_
  simp (implicitDefEqProofs := false) only [sB, simprocAttr]
  refine ⟨_, _, rfl, by omega, ?_⟩
  rw [hs.2]
  simp (implicitDefEqProofs := false) only [sB, simprocAttr]
  refine ⟨_, rfl, by omega, ?_⟩
  rw [hs.1]
  simp (implicitDefEqProofs := false) only [sB, simprocAttr]
  refine x_c23 hn (by omega) fun id H' p q => ?_
  simp (implicitDefEqProofs := false) only [sB, simprocAttr, hg]
  exact hK _
end Go.AL.Fun
