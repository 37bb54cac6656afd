/- FramerIsolated, walked. -/
import Derived.Test.YtcmgeflfapffoaaDoorFT
import Derived.Test.YtcmgeflfapffoaaDoorFL4
set_option linter.unusedSimpArgs false
set_option linter.unusedVariables false
set_option maxRecDepth 100000
set_option maxHeartbeats 4000000
namespace Go.AL.Fun
open Go Go.AL
/-- A list of bytes, whatever they are. -/
def U8s (vs : List AV) : Prop := ∀ x ∈ vs, ∃ n : Int, x = AV.int .u8 n
theorem u8s_by (l : List UInt8) : U8s (bytesAV l) := fun x h => by
  obtain ⟨b, _, rfl⟩ := List.mem_map.1 h
  exact ⟨_, rfl⟩
theorem u8s_put {vs : List AV} {i : Nat} (n : Int) (h : U8s vs) (hi : i < vs.length) : U8s (vs.take i ++ AV.int .u8 n :: vs.drop (i + 1)) ∧ (vs.take i ++ AV.int .u8 n :: vs.drop (i + 1)).length = vs.length := by
  refine ⟨fun x hx => ?_, ?_⟩
  · rcases List.mem_append.1 hx with hx | hx
    · exact h x (List.mem_of_mem_take hx)
    · rcases List.mem_cons.1 hx with rfl | hx
      · exact ⟨n, rfl⟩
      · exact h x (List.mem_of_mem_drop hx)
  · simp only [List.length_append, List.length_cons, List.length_take, List.length_drop]
    omega
theorem FX.setR {p z : Nat} {s : FS} {o : AObj} {H R : Heap} (o' : AObj) (h : FX p s H ((z, o) :: R)) : FX p s (setH z o' H) ((z, o') :: R) := by
  obtain ⟨hn, tk, ht, hp⟩ := h
  exact ⟨set_nodup _ hn, tk, ht, (set_head o' (hp.trans (.swap _ _ _)) hn).trans (.swap _ _ _)⟩
theorem law4 (P : Program) (b : List UInt8) (t : Tok) (K : Kv) (hK : ∀ H, K.ap (.bool true) H) : @xF ⟨Gh, P, tF⟩ f4 [.sl (bytesAV b) t] [] K := by
  have hn : (Heap.keys []).Nodup := List.nodup_nil
  simp (implicitDefEqProofs := false) only [sB, simprocAttr, f4]
  refine ⟨65536, rfl, hn, fun h => by omega, fun _ _ p H1 hX => ?_⟩
  by_cases c0 : ((b.length : Nat) : Int) = 0
  · simp (implicitDefEqProofs := false) only [sB, simprocAttr, by_len, c0]
    refine alive_in hX.1 (hX.cells cO_nil) ?_
    simp (implicitDefEqProofs := false) only [sB, simprocAttr]
    exact hK _
  by_cases c1 : (3000 : Int) < (b.length : Int)
  · simp (implicitDefEqProofs := false) only [sB, simprocAttr, by_len, c0, c1]
    refine alive_in hX.1 (hX.cells cO_nil) ?_
    simp (implicitDefEqProofs := false) only [sB, simprocAttr]
    exact hK _
  have hb0 : b ≠ [] := fun e => c0 (by rw [e]; rfl)
  simp (implicitDefEqProofs := false) only [sB, simprocAttr, by_len, c0, c1]
  refine i_msl (i_new fun z hz => ?_)
  simp (implicitDefEqProofs := false) only [sB, simprocAttr]
  refine ⟨⟨by omega, by omega⟩, hz, i_otherM fun z2 hz2 => ?_⟩
  simp (implicitDefEqProofs := false) only [sB, simprocAttr, by_len]
  have hz2' : z2 ∉ Heap.keys H1 := hz2
  have hX1 := hX.push (o := .cells (bytesAV b)) hz2'
  refine .inr ⟨p, _, _, b, _, rfl, hX1, .msl z2 0 (bytesAV b) b (by simp [lookH]) (by rw [by_len]; omega) (by rw [List.drop_zero, ← by_len, List.take_length]), by decide, fun h => by simp at h, fun _ _ h => ?_, fun _ _ _ _ H2 hX2 => ?_⟩
  · rcases h with h | h
    · exact absurd h hb0
    · have : (65536 : Int) < (b.length : Int) := h
      omega
  simp only at hX2
  simp (implicitDefEqProofs := false) only [sB, simprocAttr]
  refine i_loopJ (fun σ H3 => ∃ (i : Nat) (vs : List AV), i ≤ b.length ∧ vs.length = b.length ∧ U8s vs ∧ FX p ⟨65536, chunkP b, false⟩ H3 [(z2, .cells vs)] ∧ σ = [(0, .sl (bytesAV b) t), (3, .ptr p 0), (5, .msl z2 0 b.length 1), (42, .int .i64 b.length), (43, .int .i64 i)])
    (fun σ _ => match σ.get 43 with | .int _ n => b.length - n.toNat | _ => 0)
    (fun e σ H3 => e = .exit 0 ∧ ∃ vs, FX p ⟨65536, chunkP b, false⟩ H3 [(z2, .cells vs)] ∧ σ.get 0 = .sl (bytesAV b) t ∧ σ.get 3 = .ptr p 0)
    ⟨_, .refl _, 0, bytesAV b, by omega, by rw [by_len], u8s_by b, hX2, rfl⟩ ?_ ?_
  · rintro e σ H3 ⟨rfl, vs, hX3, q0, q3⟩
    simp (implicitDefEqProofs := false) only [sB, simprocAttr, q0, q3]
    have hL0 := chunkP_ne b
    have hLl := chunkP_len (b := b) (by omega)
    refine .inr ⟨p, _, _, rfl, hX3, by show (chunkP b).length ≤ _; omega, .inr ⟨hL0, fun id H4 hX4 => ?_⟩⟩
    simp only at hX4 ⊢
    obtain ⟨L, hL⟩ : ∃ L, L = chunkP b := ⟨_, rfl⟩
    rw [← hL] at hX4 hL0 hLl ⊢
    simp (implicitDefEqProofs := false) only [sB, simprocAttr, q0, q3]
    refine i_loopJ (fun σ H5 => ∃ (i : Nat) (ws : List AV), i ≤ L.length ∧ ws.length = L.length ∧ U8s ws ∧ FX p ⟨65536, L, false⟩ H5 [(id, .cells ws), (z2, .cells vs)] ∧ σ = [(0, .sl (bytesAV b) t), (3, .ptr p 0), (7, .msl id 0 L.length 1), (56, .int .i64 L.length), (57, .int .i64 i)])
      (fun σ _ => match σ.get 57 with | .int _ n => L.length - n.toNat | _ => 0)
      (fun e σ H5 => e = .exit 2 ∧ ∃ ws, FX p ⟨65536, L, false⟩ H5 [(id, .cells ws), (z2, .cells vs)] ∧ σ.get 0 = .sl (bytesAV b) t ∧ σ.get 3 = .ptr p 0)
      ⟨_, .refl _, 0, bytesAV L, by omega, by rw [by_len], u8s_by L, hX4, rfl⟩ ?_ ?_
    · rintro e σ H5 ⟨rfl, ws, hX5, q0, q3⟩
      simp (implicitDefEqProofs := false) only [sB, simprocAttr, q0, q3]
      refine alive_in hX5.1 (hX5.cells ((cO_nil.cons rfl).cons rfl)) ?_
      simp (implicitDefEqProofs := false) only [sB, simprocAttr, q0, q3]
      refine .inr ⟨p, _, _, rfl, hX5, by show L.length ≤ _; omega, .inl fun t4 => ?_⟩
      simp only
      simp (implicitDefEqProofs := false) only [sB, simprocAttr, q0, q3]
      refine ⟨_, b, rfl, .sl _ _, by omega, hX5.1, fun t5 _ => ?_⟩
      rw [← hL]
      simp (implicitDefEqProofs := false) only [sB, simprocAttr]
      exact hK _
    · rintro Q hQ σ H5 ⟨i, ws, hi, hv, hu, hX5, rfl⟩
      by_cases c : i < L.length
      · have c' : (i : Int) < (L.length : Int) := by omega
        have hlk : lookH id H5 = some (.cells ws) := hX5.lookR (by simp [lookH])
        have hg : ws[i]? = some ws[i] := List.getElem?_eq_getElem (by omega)
        obtain ⟨n, hn9⟩ := hu _ (List.mem_of_getElem? hg)
        rw [hn9] at hg
        have i0 : (0 : Int) ≤ (i : Int) := by omega
        have r1 := w_i64 ((i : Int) + 1) (by omega) (by omega)
        simp (implicitDefEqProofs := false) only [sB, simprocAttr, c', hlk, hg, i0, r1]
        obtain ⟨u1, u2⟩ := u8s_put (intB .xor .u8 n 255) hu (show i < ws.length by omega)
        exact ⟨by omega, _, .refl _, ⟨i + 1, _, by omega, by rw [u2, hv], u1, hX5.setR _, by simp⟩, by omega⟩
      · have c' : ¬ (i : Int) < (L.length : Int) := by omega
        simp (implicitDefEqProofs := false) only [sB, simprocAttr, c']
        exact hQ _ _ _ ⟨rfl, ws, hX5, rfl, rfl⟩
  · rintro Q hQ σ H3 ⟨i, vs, hi, hv, hu, hX3, rfl⟩
    by_cases c : i < b.length
    · have c' : (i : Int) < (b.length : Int) := by omega
      have hlk : lookH z2 H3 = some (.cells vs) := hX3.lookR (by simp [lookH])
      have hg : vs[i]? = some vs[i] := List.getElem?_eq_getElem (by omega)
      obtain ⟨n, hn9⟩ := hu _ (List.mem_of_getElem? hg)
      rw [hn9] at hg
      have i0 : (0 : Int) ≤ (i : Int) := by omega
      have r1 := w_i64 ((i : Int) + 1) (by omega) (by omega)
      simp (implicitDefEqProofs := false) only [sB, simprocAttr, c', hlk, hg, i0, r1]
      obtain ⟨u1, u2⟩ := u8s_put (intB .xor .u8 n 255) hu (show i < vs.length by omega)
      exact ⟨by omega, _, .refl _, ⟨i + 1, _, by omega, by rw [u2, hv], u1, hX3.setR _, by simp⟩, by omega⟩
    · have c' : ¬ (i : Int) < (b.length : Int) := by omega
      simp (implicitDefEqProofs := false) only [sB, simprocAttr, c']
      exact hQ _ _ _ ⟨rfl, vs, hX3, rfl, rfl⟩
end Go.AL.Fun
