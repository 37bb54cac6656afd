/- EscapeKeepsLetters, walked. -/
import Derived.Test.YtijioomcpecdhaaDoorS18
import Derived.Test.YtijioomcpecdhaaDoorS20
import Derived.Test.YtijioomcpecdhaaDoorFL4
set_option linter.unusedSimpArgs false
set_option linter.unusedVariables false
set_option maxRecDepth 100000
set_option maxHeartbeats 4000000
namespace Go.AL.Fun
open Go Go.AL
@[reducible] def t4 : XT := [(17, c17), (18, c18)]
theorem t4_ok {P : Program} {G : Nat → Option (List AV)} (hG : G 5 = some tab64L) (h : EOk P) : TOk G P (plainT t4) := .consX (e17 hG h) (.consX (e18 hG h) .nilX)
theorem law4 (P : Program) {G : Nat → Option (List AV)} (e : Int) (h0 : 0 ≤ e) (h1 : e ≤ 255) (l : List UInt8) (t : Tok) (K : Kv) (hK : ∀ H, K.ap (.bool true) H) : @xF ⟨G, P, t4⟩ f4 [.int .u8 e, .sl (bytesAV l) t] [] K := by
  have hn : (Heap.keys []).Nodup := List.nodup_nil
  by_cases c : (300 : Int) < (l.length : Int)
  · simp (implicitDefEqProofs := false) only [sB, simprocAttr, f4, c]
    refine ⟨rfl, hn, ?_⟩
    simp (implicitDefEqProofs := false) only [sB, simprocAttr]
    exact hK _
  have he : e.toNat % 5 < 5 := Nat.mod_lt _ (by decide)
  have hk := escP_keep he l
  have hm := mod5 h0
  have w0 := w_i64 e (by omega) (by omega)
  have w1 := w_i64 ((e.toNat % 5 : Nat) : Int) (by omega) (by omega)
  simp (implicitDefEqProofs := false) only [sB, simprocAttr, f4, c]
  refine i_loopJ (fun σ H1 => ∃ (i : Nat), H1 = [] ∧ i ≤ l.length ∧ σ = [(0, .int .u8 e), (5, .str ((l.take i).map kl)), (15, .sl (bytesAV l) t), (16, .int .i64 l.length), (17, .int .i64 i)])
    (fun σ _ => match σ.get 17 with | .int _ n => l.length - n.toNat | _ => 0)
    (fun ex σ H1 => ex = .exit 0 ∧ H1 = [] ∧ σ.get 5 = .str (l.map kl) ∧ σ.get 0 = .int .u8 e)
    ⟨_, .refl _, 0, rfl, by omega, rfl⟩ ?_ ?_
  · rintro ex σ H1 ⟨rfl, rfl, h5, h0'⟩
    simp (implicitDefEqProofs := false) only [sB, simprocAttr, h5, h0', w0, hm, w1]
    refine x_c18 (by omega) (by omega) hn (by rw [List.length_map]; omega) ?_
    rw [hk]
    simp (implicitDefEqProofs := false) only [sB, simprocAttr, h5]
    refine ⟨rfl, hn, ?_⟩
    simp (implicitDefEqProofs := false) only [sB, simprocAttr, h5]
    exact hK _
  · rintro Q hQ σ H1 ⟨i, rfl, hi, rfl⟩
    by_cases ci : i < l.length
    · have ci' : (i : Int) < (l.length : Int) := by omega
      have i0 : (0 : Int) ≤ (i : Int) := by omega
      have hgi : l[i]? = some l[i] := List.getElem?_eq_getElem ci
      have r9 := w_i64 ((i : Int) + 1) (by omega) (by omega)
      have htk : (l.take (i + 1)).map kl = (l.take i).map kl ++ [kl l[i]] := by
        rw [List.take_add_one, hgi, Option.toList_some, List.map_append]; rfl
      generalize l[i] = x at *
      have hx : x.toNat % 65 < 65 := Nat.mod_lt _ (by decide)
      have hlt := x.toNat_lt
      have hs3 : List.drop (x.toNat % 65) (97 :: List.take (x.toNat % 65) [98, 99, 100, 101, 102, 103, 104, 105, 106, 107, 108, 109, 110, 111, 112, 113, 114, 115, 116, 117, 118, 119, 120, 121, 122, 65, 66, 67, 68, 69, 70, 71, 72, 73, 74, 75, 76, 77, 78, 79, 80, 81, 82, 83, 84, 85, 86, 87, 88, 89, 90, 48, 49, 50, 51, 52, 53, 54, 55, 56, 57, 45, 46, 95]) = [kl x] := all_slice ⟨_, hx⟩
      have b1 : byteAV x = .int .u8 (x.toNat : Nat) := rfl
      have wx := w_i64 ((x.toNat : Nat) : Int) (by omega) (by omega)
      have tm : ((x.toNat : Nat) : Int).tmod 65 = ((x.toNat % 65 : Nat) : Int) := by rw [Int.tmod_eq_emod_of_nonneg (by omega)]; omega
      have wm := w_i64 ((x.toNat % 65 : Nat) : Int) (by omega) (by omega)
      have wp := w_i64 (((x.toNat % 65 : Nat) : Int) + 1) (by omega) (by omega)
      have tn : (((x.toNat % 65 : Nat) : Int) + 1).toNat = x.toNat % 65 + 1 := by omega
      have b0 : (0 : Int) ≤ ((x.toNat % 65 : Nat) : Int) := by omega
      have b2 : ((x.toNat % 65 : Nat) : Int) ≤ ((x.toNat % 65 : Nat) : Int) + 1 := by omega
      have b3 : ((x.toNat % 65 : Nat) : Int) + 1 ≤ 65 := by omega
      simp (implicitDefEqProofs := false) only [sB, simprocAttr, ci', i0, hgi, Option.map_some, b1, wx, tm, wm, wp, tn, b0, b2, b3, r9]
      refine ⟨by rw [List.length_map, List.length_take]; split <;> omega, _, .refl _, ⟨i + 1, rfl, by omega, by rw [hs3, htk], by simp⟩, by omega⟩
    · have ci' : ¬ (i : Int) < (l.length : Int) := by omega
      simp (implicitDefEqProofs := false) only [sB, simprocAttr, ci']
      exact hQ _ _ _ ⟨rfl, rfl, by rw [List.take_of_length_le (by omega)]; rfl, rfl⟩
end Go.AL.Fun
