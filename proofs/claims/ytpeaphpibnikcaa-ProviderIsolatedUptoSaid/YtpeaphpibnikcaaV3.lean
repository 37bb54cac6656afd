/- Names, by runes. -/
import Derived.Test.YtpeaphpibnikcaaV2
set_option linter.unusedSimpArgs false
set_option linter.unusedVariables false
set_option maxRecDepth 100000
set_option maxHeartbeats 1000000
namespace Go.AL.Fun
open Go Go.AL

theorem x_c23 {s : List UInt8} (hs : s.length ≤ 1099511627776) (H : Heap) (K : Kv) : c23 [.str s] H K = K.ap (.bool (nameB s)) H := by
  simp only [c23, List.cons.injEq, AV.str.injEq, and_true]
  exact propext ⟨fun ⟨_, e, _, h⟩ => e ▸ h, fun h => ⟨_, rfl, hs, h⟩⟩
def c16 (xs : List AV) (H : Heap) (K : Kv) : Prop := ∃ s, xs = [.str s] ∧ s.length ≤ 1099511627776 ∧ K.ap (.bool (nameB s)) H
theorem x_c16 {s : List UInt8} (hs : s.length ≤ 1099511627776) (H : Heap) (K : Kv) : c16 [.str s] H K = K.ap (.bool (nameB s)) H := by
  simp only [c16, List.cons.injEq, AV.str.injEq, and_true]
  exact propext ⟨fun ⟨_, e, _, h⟩ => e ▸ h, fun h => ⟨_, rfl, hs, h⟩⟩
theorem c16_of (P : Program) {xs : List AV} {H : Heap} {K : Kv} (h : c16 xs H K) : @xF (tN P) f16 xs H ⟨fun v H' => ∃ H0, Hle H0 H' ∧ K.ap v H0⟩ := by
  obtain ⟨s, rfl, hs, h⟩ := h
  by_cases c1 : s = []
  · subst c1
    simp (implicitDefEqProofs := false) only [sB, simprocAttr, f16]
    exact ⟨H, .refl _, h⟩
  · by_cases c2 : (32 : Int) < s.length
    · simp (implicitDefEqProofs := false) only [sB, simprocAttr, f16, c1, c2]
      rw [show nameB s = false by unfold nameB; rw [decide_eq_false (by omega)]; rfl] at h
      exact ⟨H, .refl _, h⟩
    · have pos : 0 < s.length := List.length_pos_iff.2 c1
      simp (implicitDefEqProofs := false) only [sB, simprocAttr, f16, c1, c2]
      refine i_new fun p hp => ?_
      simp (implicitDefEqProofs := false) only [sB, simprocAttr]
      refine i_loopJ (fun σ H1 => ∃ (i : Nat), H1 = (p, .iter s i) :: H ∧ i ≤ s.length ∧ (∀ x ∈ s.take i, nameC (b8 x) = true) ∧ (0 < i → headL s = true) ∧ σ = [(13, .ptr p 0)])
        (fun _ H1 => match H1 with | (_, .iter _ i) :: _ => s.length - i | _ => 0)
        (fun e σ H1 => Hle H H1 ∧ ((e = .exit 0 ∧ nameB s = true) ∨ (e = .ret ∧ σ.get 2 = .bool false ∧ nameB s = false)))
        ⟨_, .refl _, 0, rfl, by omega, by simp, by omega, rfl⟩ ?_ ?_
      · rintro e σ H1 ⟨hl, ⟨rfl, hn⟩ | ⟨rfl, q2, hn⟩⟩
        · rw [hn] at h
          simp (implicitDefEqProofs := false) only [sB, simprocAttr]
          exact ⟨_, hl, h⟩
        · rw [hn] at h
          simp (implicitDefEqProofs := false) only [sB, simprocAttr, q2]
          exact ⟨_, hl, h⟩
      · rintro Q hQ σ H1 ⟨i, rfl, hi, hall, hhd, rfl⟩
        have hd0 : i = 0 → ∀ h : i < s.length, headL s = isLet (b8 s[i]) := by
          intro z h; subst z; cases s with | nil => simp at h | cons x r => rfl
        by_cases d : i < s.length
        · have hx : s[i]? = some s[i] := List.getElem?_eq_getElem d
          have next : nameC (b8 s[i]) = true → ∀ x ∈ s.take (i + 1), nameC (b8 x) = true := by
            intro hc x hx'
            rw [List.take_add_one, hx] at hx'
            rcases List.mem_append.1 hx' with hx' | hx'
            · exact hall x hx'
            · simp at hx'; subst hx'; exact hc
          by_cases lo : b8 s[i] < 128
          · have dl := dec_low hx lo
            have fold : ((s[i].toNat : Nat) : Int) = b8 s[i] := rfl
            by_cases l1 : isLet (b8 s[i]) = true
            · simp (implicitDefEqProofs := false) only [sB, simprocAttr, d, dl, fold, x_c27, l1]
              refine ⟨_, .refl _, ⟨i + 1, rfl, by omega, next (by simp [nameC, l1]), fun _ => ?_⟩, by show s.length - (i + 1) < s.length - i; omega⟩
              by_cases z : i = 0
              · rw [hd0 z d]; exact l1
              · exact hhd (by omega)
            · have l1' : isLet (b8 s[i]) = false := by simpa using l1
              by_cases z : i = 0
              · have nf : nameB s = false := by unfold nameB; rw [hd0 z d, l1']; simp
                simp (implicitDefEqProofs := false) only [sB, simprocAttr, d, dl, fold, x_c27, l1, eq_true (show (i : Int) = 0 by omega)]
                exact hQ _ _ _ ⟨.tail _ _, .inr ⟨rfl, rfl, nf⟩⟩
              · have z' : ¬ (i : Int) = 0 := by omega
                by_cases l4 : b8 s[i] = 95
                · simp (implicitDefEqProofs := false) only [sB, simprocAttr, d, dl, fold, x_c27, l1, z', eq_true l4]
                  exact ⟨_, .refl _, ⟨i + 1, rfl, by omega, next (by simp [nameC, l4]), fun _ => hhd (by omega)⟩, by show s.length - (i + 1) < s.length - i; omega⟩
                · by_cases l2 : b8 s[i] < 48
                  · simp (implicitDefEqProofs := false) only [sB, simprocAttr, d, dl, fold, x_c27, l1, z', l4, l2]
                    exact hQ _ _ _ ⟨.tail _ _, .inr ⟨rfl, rfl, nameB_false hx (by simp [nameC, l1']; omega)⟩⟩
                  · by_cases l3 : 57 < b8 s[i]
                    · simp (implicitDefEqProofs := false) only [sB, simprocAttr, d, dl, fold, x_c27, l1, z', l4, l2, l3]
                      exact hQ _ _ _ ⟨.tail _ _, .inr ⟨rfl, rfl, nameB_false hx (by simp [nameC, l1']; omega)⟩⟩
                    · simp (implicitDefEqProofs := false) only [sB, simprocAttr, d, dl, fold, x_c27, l1, z', l4, l2, l3]
                      exact ⟨_, .refl _, ⟨i + 1, rfl, by omega, next (by simp [nameC]; omega), fun _ => hhd (by omega)⟩, by show s.length - (i + 1) < s.length - i; omega⟩
          · have dh := dec_high hx lo
            obtain ⟨r, hr⟩ : ∃ r : Int, r = ((Utf8.decode ⟨s.toArray⟩ i).1 : Nat) := ⟨_, rfl⟩
            have r0 : 128 ≤ r := by omega
            have l1 : isLet r = false := by unfold isLet; rw [decide_eq_false]; omega
            have nc : nameC (b8 s[i]) = false := by
              have b := b8_lt s[i]
              unfold nameC isLet
              rw [decide_eq_false (by omega), decide_eq_false (by omega)]; rfl
            have nf := nameB_false hx nc
            have l4 : ¬ r = 95 := by omega
            have l2 : ¬ r < 48 := by omega
            have l3 : 57 < r := by omega
            by_cases z : i = 0
            · simp (implicitDefEqProofs := false) only [sB, simprocAttr, d, ← hr, x_c27, l1, eq_true (show (i : Int) = 0 by omega)]
              exact hQ _ _ _ ⟨.tail _ _, .inr ⟨rfl, rfl, nf⟩⟩
            · have z' : ¬ (i : Int) = 0 := by omega
              simp (implicitDefEqProofs := false) only [sB, simprocAttr, d, ← hr, x_c27, l1, z', l4, l2, l3]
              exact hQ _ _ _ ⟨.tail _ _, .inr ⟨rfl, rfl, nf⟩⟩
        · have : i = s.length := by omega
          subst this
          simp (implicitDefEqProofs := false) only [sB, simprocAttr, Nat.lt_irrefl]
          refine hQ _ _ _ ⟨.tail _ _, .inl ⟨rfl, ?_⟩⟩
          rw [List.take_length] at hall
          unfold nameB
          rw [hhd pos, decide_eq_true (by omega), List.all_eq_true.2 hall]; rfl
end Go.AL.Fun
