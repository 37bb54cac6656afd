/- A size line parsed. -/
import Derived.Test.YtcmgeflfapffoaaDoorY4
set_option linter.unusedSimpArgs false
set_option linter.unusedVariables false
set_option maxRecDepth 100000
set_option maxHeartbeats 4000000
namespace Go.AL.Fun
open Go Go.AL

theorem ib_fin : ∀ i : Fin 256, isHx (UInt8.ofNat i.val) = true → Lib.indexByte hexD (UInt8.ofNat i.val) = ((hv (UInt8.ofNat i.val) : Nat) : Int) := by decide +kernel
theorem ib_hv {c : UInt8} (h : isHx c = true) : Lib.indexByte hexD c = ((hv c : Nat) : Int) := by obtain ⟨i, rfl⟩ := u8_fin c; exact ib_fin i h
theorem hv_lt {c : UInt8} (h : isHx c = true) : hv c < 16 := of_decide_eq_true h
theorem hval_take {d : List UInt8} {i : Nat} (h : i < d.length) : hvalL (d.take (i + 1)) = 16 * hvalL (d.take i) + hv d[i] := by
  rw [List.take_add_one, List.getElem?_eq_getElem h]; exact hvalL_app _ _
theorem hval_take_le (d : List UInt8) (i : Nat) : hvalL (d.take i) ≤ hvalL d := by
  have := hvalL_mono (d.drop i) (d.take i)
  rwa [List.take_append_drop] at this
def tup3 (r : Nat × Nat × Int) : AV := .tup [.int .i64 (r.1 : Nat), .int .i64 (r.2.1 : Nat), .int .i64 r.2.2]
theorem restP_ok {d r : List UInt8} : ∀ x : Nat × Nat × Int, restP d r = x → True := fun _ _ => trivial
def c27 (xs : List AV) (H : Heap) (K : Kv) : Prop := ∃ (b : List UInt8) (t : Tok), xs = [.sl (bytesAV b) t] ∧ b.length ≤ 1099511627776 ∧ K.ap (tup3 (parseP b)) H
theorem c27_of (P : Program) {G : Nat → Option (List AV)} {xs : List AV} {H : Heap} {K : Kv} (h : c27 xs H K) : @xF ⟨G, P, [(51, c34), (54, c37)]⟩ f49 xs H ⟨fun v H' => ∃ H0, Hle H0 H' ∧ K.ap v H0⟩ := by
  obtain ⟨b, t, rfl, hl, k⟩ := h
  obtain ⟨hs, ha⟩ := tw_split b
  have hpe : parseP b = if 65536 < hvalL (b.takeWhile isHx) ∨ (1 < (b.takeWhile isHx).length ∧ (b.takeWhile isHx).head? = some 48) then (0, 0, 5) else restP (b.takeWhile isHx) (b.drop (b.takeWhile isHx).length) := rfl
  rw [hpe] at k
  have hend : endP b = if (b.takeWhile isHx).length < b.length then (((b.takeWhile isHx).length : Nat) : Int) else -1 := rfl
  have hbl := congrArg List.length hs
  rw [List.length_append] at hbl
  have htk : b.take (b.takeWhile isHx).length = b.takeWhile isHx := by
    have := List.take_left' (l₁ := b.takeWhile isHx) (l₂ := b.drop (b.takeWhile isHx).length) rfl
    rw [← hs] at this
    exact this
  generalize b.takeWhile isHx = d at *
  simp (implicitDefEqProofs := false) only [sB, simprocAttr, f49]
  refine ⟨b, t, rfl, hl, ?_⟩
  rw [hend]
  have d0 : (0 : Int) ≤ (d.length : Nat) := by omega
  have dl : ((d.length : Nat) : Int) ≤ (b.length : Int) := by omega
  by_cases c : d.length < b.length
  · rw [if_pos c]
    simp (implicitDefEqProofs := false) only [sB, simprocAttr, d0, by_len, dl, by_take, htk]
    generalize (if d.length = b.length then t else Tok.no) = tk
    refine i_loopJ (fun σ H1 => ∃ (i : Nat), H1 = H ∧ i ≤ d.length ∧ hvalL (d.take i) ≤ 65536 ∧ (0 < i → ¬ (1 < d.length ∧ d.head? = some 48)) ∧
        σ = [(0, .sl (bytesAV b) t), (6, .sl (bytesAV d) tk), (7, .int .i64 (hvalL (d.take i) : Nat)), (19, .sl (bytesAV d) tk), (20, .int .i64 d.length), (21, .int .i64 i)])
      (fun σ _ => match σ.get 21 with | .int _ n => d.length - n.toNat | _ => 0)
      (fun e σ H1 => H1 = H ∧ ((e = .exit 0 ∧ ¬ (65536 < hvalL d ∨ (1 < d.length ∧ d.head? = some 48)) ∧ σ.get 0 = .sl (bytesAV b) t ∧ σ.get 6 = .sl (bytesAV d) tk ∧ σ.get 7 = .int .i64 (hvalL d : Nat)) ∨
        (e = .ret ∧ (65536 < hvalL d ∨ (1 < d.length ∧ d.head? = some 48)) ∧ σ.get 2 = .int .i64 0 ∧ σ.get 3 = .int .i64 0 ∧ σ.get 4 = .int .i64 5)))
      ⟨_, .refl _, 0, rfl, by omega, by simp [hvalL_nil], by omega, rfl⟩ ?_ ?_
    · rintro e σ H1 ⟨rfl, ⟨rfl, hnb, q0, q6, q7⟩ | ⟨rfl, hb5, q2, q3, q4⟩⟩
      · rw [if_neg hnb] at k
        have r2w := w_i64 ((d.length : Int) + 2) (by omega) (by omega)
        simp (implicitDefEqProofs := false) only [sB, simprocAttr, q0, q6, q7, by_len, d0, dl, by_drop]
        generalize hr : b.drop d.length = r at k ⊢
        have hrl : r.length = b.length - d.length := by rw [← hr, List.length_drop]
        cases r with
        | nil => simp at hrl; omega
        | cons c1 r1 =>
          have e0 : ¬ ((b.length - d.length : Nat) : Int) = 0 := by omega
          have e1 : ((b.length - d.length : Nat) : Int) = (r1.length : Int) + 1 := by rw [List.length_cons] at hrl; omega
          have b1 : byteAV c1 = .int .u8 (c1.toNat : Nat) := rfl
          have b13 : byteAV 13 = .int .u8 13 := rfl
          have b10 : byteAV 10 = .int .u8 10 := rfl
          by_cases cd : d = []
          · have hl0 : ((d.length : Nat) : Int) = 0 := by rw [cd]; rfl
            have k5 : restP d (c1 :: r1) = (0, 0, 5) := by simp [restP, cd]
            rw [k5] at k
            simp (implicitDefEqProofs := false) only [sB, simprocAttr, e0, hl0]
            exact ⟨_, .refl _, k⟩
          have hl0 : ¬ ((d.length : Nat) : Int) = 0 := by have := List.length_pos_iff.2 cd; omega
          by_cases c13 : c1 = 13
          · have hc13 : ((c1.toNat : Nat) : Int) = 13 := by rw [c13]; rfl
            cases r1 with
            | nil =>
              have k5 : restP d [c1] = (0, 0, 7) := by simp [restP, cd, c13]
              rw [k5] at k
              have e2 : ((b.length - d.length : Nat) : Int) = 1 := by rw [e1]; rfl
              simp (implicitDefEqProofs := false) only [sB, simprocAttr, e0, hl0, b1, b13, b10, hc13, e2]
              exact ⟨_, .refl _, k⟩
            | cons c2 r2 =>
              have b2 : byteAV c2 = .int .u8 (c2.toNat : Nat) := rfl
              have e2 : ¬ ((b.length - d.length : Nat) : Int) = 1 := by rw [e1, List.length_cons]; omega
              have e3 : ¬ ((r2.length + 1 + 1 : Nat) : Int) = 1 := by omega
              by_cases c10 : c2 = 10
              · have hc10 : ((c2.toNat : Nat) : Int) = 10 := by rw [c10]; rfl
                have k5 : restP d (c1 :: c2 :: r2) = (hvalL d, d.length + 2, 0) := by simp [restP, cd, c13, c10]
                rw [k5] at k
                simp (implicitDefEqProofs := false) only [sB, simprocAttr, e0, hl0, b1, b13, b10, hc13, e2, e3, b2, hc10, r2w]
                exact ⟨_, .refl _, k⟩
              · have hc10 : ¬ ((c2.toNat : Nat) : Int) = 10 := fun e => c10 (UInt8.toNat_inj.1 (by have : (10 : UInt8).toNat = 10 := rfl; omega))
                have k5 : restP d (c1 :: c2 :: r2) = (0, 0, 5) := by simp [restP, cd, c13, c10]
                rw [k5] at k
                simp (implicitDefEqProofs := false) only [sB, simprocAttr, e0, hl0, b1, b13, b10, hc13, e2, e3, b2, hc10]
                exact ⟨_, .refl _, k⟩
          · have hc13 : ¬ ((c1.toNat : Nat) : Int) = 13 := fun e => c13 (UInt8.toNat_inj.1 (by have : (13 : UInt8).toNat = 13 := rfl; omega))
            have k5 : restP d (c1 :: r1) = (0, 0, 5) := by simp [restP, c13]
            rw [k5] at k
            simp (implicitDefEqProofs := false) only [sB, simprocAttr, e0, hl0, b1, b13, b10, hc13]
            exact ⟨_, .refl _, k⟩
      · rw [if_pos hb5] at k
        simp (implicitDefEqProofs := false) only [sB, simprocAttr, q2, q3, q4]
        exact ⟨_, .refl _, k⟩
    · rintro Q hQ σ H1 ⟨i, rfl, hi, hv5, hz, rfl⟩
      by_cases ci : i < d.length
      · have ci' : (i : Int) < (d.length : Int) := by omega
        have i0 : (0 : Int) ≤ (i : Int) := by omega
        have hx : d[i]? = some d[i] := List.getElem?_eq_getElem ci
        have hxx := ha d[i] (List.getElem_mem ci)
        have ht := hval_take ci
        have hle := hval_take_le d (i + 1)
        have hv16 := hv_lt hxx
        have hib := ib_hv hxx
        have r9 := w_i64 ((i : Int) + 1) (by omega) (by omega)
        have hby : byteAV d[i] = .int .u8 (d[i].toNat : Nat) := rfl
        have r1 := w_i64 ((hvalL (d.take i) : Nat) * 16) (by omega) (by omega)
        have r2 := w_i64 ((hvalL (d.take i) : Nat) * 16 + (hv d[i] : Nat)) (by omega) (by omega)
        simp (implicitDefEqProofs := false) only [sB, simprocAttr, ci', i0, by_get, hx, Option.map_some, hby, by_len, r1]
        refine x_c37 ?_
        rw [hib]
        simp (implicitDefEqProofs := false) only [sB, simprocAttr, r2]
        have hn : ((hvalL (d.take i) : Nat) : Int) * 16 + (hv d[i] : Nat) = (hvalL (d.take (i + 1)) : Nat) := by rw [ht]; omega
        rw [hn]
        by_cases c5 : (65536 : Int) < (hvalL (d.take (i + 1)) : Nat)
        · simp (implicitDefEqProofs := false) only [sB, simprocAttr, c5]
          exact hQ _ _ _ ⟨rfl, .inr ⟨rfl, .inl (by omega), rfl, rfl, rfl⟩⟩
        · by_cases c1 : (1 : Int) < (d.length : Int)
          · have h0 : 0 < d.length := by omega
            have hx0 : d[0]? = some d[0] := List.getElem?_eq_getElem h0
            have hby0 : byteAV d[0] = .int .u8 (d[0].toNat : Nat) := rfl
            have hh0 : d.head? = some d[0] := by rw [List.head?_eq_getElem?]; exact hx0
            have d00 : (0 : Int) < (d.length : Int) := by omega
            by_cases cz : d[0] = 48
            · have hz0 : ((d[0].toNat : Nat) : Int) = 48 := by rw [cz]; rfl
              simp (implicitDefEqProofs := false) only [sB, simprocAttr, c5, by_len, c1, by_get, hx0, Option.map_some, hby0, hz0, d00]
              exact hQ _ _ _ ⟨rfl, .inr ⟨rfl, .inr ⟨by omega, by rw [hh0, cz]⟩, rfl, rfl, rfl⟩⟩
            · have hz0 : ¬ ((d[0].toNat : Nat) : Int) = 48 := fun e => cz (UInt8.toNat_inj.1 (by have : (48 : UInt8).toNat = 48 := rfl; omega))
              simp (implicitDefEqProofs := false) only [sB, simprocAttr, c5, by_len, c1, by_get, hx0, Option.map_some, hby0, hz0, d00, r9]
              exact ⟨_, .refl _, ⟨i + 1, rfl, by omega, by omega, fun _ h => cz (by rw [hh0] at h; simpa using h.2), rfl, by simp⟩, by omega⟩
          · simp (implicitDefEqProofs := false) only [sB, simprocAttr, c5, by_len, c1, r9]
            exact ⟨_, .refl _, ⟨i + 1, rfl, by omega, by omega, fun _ h => by omega, rfl, by simp⟩, by omega⟩
      · have ci' : ¬ (i : Int) < (d.length : Int) := by omega
        have e1 : d.take i = d := List.take_of_length_le (by omega)
        rw [e1] at hv5
        simp (implicitDefEqProofs := false) only [sB, simprocAttr, ci']
        refine hQ _ _ _ ⟨rfl, .inl ⟨rfl, ?_, rfl, rfl, by rw [e1]; rfl⟩⟩
        rintro (h | h)
        · omega
        · exact hz (by omega) h
  · rw [if_neg c]
    have hbd : b = d := by
      have : d.length = b.length := by omega
      rw [this, List.take_length] at htk; exact htk
    subst hbd
    simp (implicitDefEqProofs := false) only [sB, simprocAttr, by_len]
    refine i_loopJ (fun σ H1 => ∃ (i : Nat), H1 = H ∧ i ≤ b.length ∧ hvalL (b.take i) ≤ 65536 ∧ (0 < i → ¬ (1 < b.length ∧ b.head? = some 48)) ∧
        σ = [(0, .sl (bytesAV b) t), (6, .sl (bytesAV b) t), (7, .int .i64 (hvalL (b.take i) : Nat)), (19, .sl (bytesAV b) t), (20, .int .i64 b.length), (21, .int .i64 i)])
      (fun σ _ => match σ.get 21 with | .int _ n => b.length - n.toNat | _ => 0)
      (fun e σ H1 => H1 = H ∧ ((e = .exit 0 ∧ ¬ (65536 < hvalL b ∨ (1 < b.length ∧ b.head? = some 48)) ∧ σ.get 0 = .sl (bytesAV b) t ∧ σ.get 6 = .sl (bytesAV b) t ∧ σ.get 7 = .int .i64 (hvalL b : Nat)) ∨
        (e = .ret ∧ (65536 < hvalL b ∨ (1 < b.length ∧ b.head? = some 48)) ∧ σ.get 2 = .int .i64 0 ∧ σ.get 3 = .int .i64 0 ∧ σ.get 4 = .int .i64 5)))
      ⟨_, .refl _, 0, rfl, by omega, by simp [hvalL_nil], by omega, rfl⟩ ?_ ?_
    · rintro e σ H1 ⟨rfl, ⟨rfl, hnb, q0, q6, q7⟩ | ⟨rfl, hb5, q2, q3, q4⟩⟩
      · rw [if_neg hnb] at k
        have r2w := w_i64 ((b.length : Int) + 2) (by omega) (by omega)
        simp (implicitDefEqProofs := false) only [sB, simprocAttr, q0, q6, q7, by_len, d0, dl, by_drop]
        rw [List.drop_length] at k
        simp (implicitDefEqProofs := false) only [sB, simprocAttr, Nat.sub_self]
        exact ⟨_, .refl _, k⟩
      · rw [if_pos hb5] at k
        simp (implicitDefEqProofs := false) only [sB, simprocAttr, q2, q3, q4]
        exact ⟨_, .refl _, k⟩
    · rintro Q hQ σ H1 ⟨i, rfl, hi, hv5, hz, rfl⟩
      by_cases ci : i < b.length
      · have ci' : (i : Int) < (b.length : Int) := by omega
        have i0 : (0 : Int) ≤ (i : Int) := by omega
        have hx : b[i]? = some b[i] := List.getElem?_eq_getElem ci
        have hxx := ha b[i] (List.getElem_mem ci)
        have ht := hval_take ci
        have hle := hval_take_le b (i + 1)
        have hv16 := hv_lt hxx
        have hib := ib_hv hxx
        have r9 := w_i64 ((i : Int) + 1) (by omega) (by omega)
        have hby : byteAV b[i] = .int .u8 (b[i].toNat : Nat) := rfl
        have r1 := w_i64 ((hvalL (b.take i) : Nat) * 16) (by omega) (by omega)
        have r2 := w_i64 ((hvalL (b.take i) : Nat) * 16 + (hv b[i] : Nat)) (by omega) (by omega)
        simp (implicitDefEqProofs := false) only [sB, simprocAttr, ci', i0, by_get, hx, Option.map_some, hby, by_len, r1]
        refine x_c37 ?_
        rw [hib]
        simp (implicitDefEqProofs := false) only [sB, simprocAttr, r2]
        have hn : ((hvalL (b.take i) : Nat) : Int) * 16 + (hv b[i] : Nat) = (hvalL (b.take (i + 1)) : Nat) := by rw [ht]; omega
        rw [hn]
        by_cases c5 : (65536 : Int) < (hvalL (b.take (i + 1)) : Nat)
        · simp (implicitDefEqProofs := false) only [sB, simprocAttr, c5]
          exact hQ _ _ _ ⟨rfl, .inr ⟨rfl, .inl (by omega), rfl, rfl, rfl⟩⟩
        · by_cases c1 : (1 : Int) < (b.length : Int)
          · have h0 : 0 < b.length := by omega
            have hx0 : b[0]? = some b[0] := List.getElem?_eq_getElem h0
            have hby0 : byteAV b[0] = .int .u8 (b[0].toNat : Nat) := rfl
            have hh0 : b.head? = some b[0] := by rw [List.head?_eq_getElem?]; exact hx0
            have d00 : (0 : Int) < (b.length : Int) := by omega
            by_cases cz : b[0] = 48
            · have hz0 : ((b[0].toNat : Nat) : Int) = 48 := by rw [cz]; rfl
              simp (implicitDefEqProofs := false) only [sB, simprocAttr, c5, by_len, c1, by_get, hx0, Option.map_some, hby0, hz0, d00]
              exact hQ _ _ _ ⟨rfl, .inr ⟨rfl, .inr ⟨by omega, by rw [hh0, cz]⟩, rfl, rfl, rfl⟩⟩
            · have hz0 : ¬ ((b[0].toNat : Nat) : Int) = 48 := fun e => cz (UInt8.toNat_inj.1 (by have : (48 : UInt8).toNat = 48 := rfl; omega))
              simp (implicitDefEqProofs := false) only [sB, simprocAttr, c5, by_len, c1, by_get, hx0, Option.map_some, hby0, hz0, d00, r9]
              exact ⟨_, .refl _, ⟨i + 1, rfl, by omega, by omega, fun _ h => cz (by rw [hh0] at h; simpa using h.2), rfl, by simp⟩, by omega⟩
          · simp (implicitDefEqProofs := false) only [sB, simprocAttr, c5, by_len, c1, r9]
            exact ⟨_, .refl _, ⟨i + 1, rfl, by omega, by omega, fun _ h => by omega, rfl, by simp⟩, by omega⟩
      · have ci' : ¬ (i : Int) < (b.length : Int) := by omega
        have e1 : b.take i = b := List.take_of_length_le (by omega)
        rw [e1] at hv5
        simp (implicitDefEqProofs := false) only [sB, simprocAttr, ci']
        refine hQ _ _ _ ⟨rfl, .inl ⟨rfl, ?_, rfl, rfl, by rw [e1]; rfl⟩⟩
        rintro (h | h)
        · omega
        · exact hz (by omega) h
end Go.AL.Fun
