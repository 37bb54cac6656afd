/- FramerPiecesIrrelevant, walked. -/
import Derived.Test.YtcmgeflfapffoaaDoorFT
import Derived.Test.YtcmgeflfapffoaaDoorFL7
set_option linter.unusedSimpArgs false
set_option linter.unusedVariables false
set_option maxRecDepth 100000
set_option maxHeartbeats 4000000
namespace Go.AL.Fun
open Go Go.AL
theorem hex_small {n : Nat} (h : n ≤ 50) : (hexL n).length ≤ 2 := by
  have h1 := hexL_len_le 50 n 50 (Nat.le_refl _) h
  have h2 : (hexL 50).length = 2 := by rw [hexL_ge (by decide), hexL_lt (by decide)]; rfl
  omega
theorem chunkP_small {b : List UInt8} (h : b.length ≤ 50) : (chunkP b).length ≤ b.length + 6 := by
  unfold chunkP lineL
  have := hex_small h
  simp only [List.length_append, List.length_cons, List.length_nil]
  omega
theorem law7 (P : Program) (b : List UInt8) (t : Tok) (n : Int) (n0 : 0 ≤ n) (n1 : n ≤ 255) (ps : List UInt8) (t2 : Tok) (K : Kv) (hK : ∀ H, K.ap (.bool true) H) : @xF ⟨Gh, P, tF⟩ f7 [.sl (bytesAV b) t, .int .u8 n, .sl (bytesAV ps) t2] [] K := by
  have hn : (Heap.keys []).Nodup := List.nodup_nil
  obtain ⟨k, hk⟩ : ∃ k : Nat, k = 1 + n.toNat % 50 := ⟨_, rfl⟩
  have hk1 : 1 ≤ k := by omega
  have hk2 : k ≤ 50 := by omega
  have w0 := w_i64 n (by omega) (by omega)
  have hmod : n.tmod 50 = ((n.toNat % 50 : Nat) : Int) := by rw [Int.tmod_eq_emod_of_nonneg n0]; omega
  have w1 := w_i64 ((n.toNat % 50 : Nat) : Int) (by omega) (by omega)
  have hkk : (1 : Int) + ((n.toNat % 50 : Nat) : Int) = (k : Int) := by omega
  have w2 := w_i64 (k : Int) (by omega) (by omega)
  simp (implicitDefEqProofs := false) only [sB, simprocAttr, f7, w0, hmod, w1, hkk, w2]
  refine ⟨k, rfl, hn, fun h => by omega, fun _ _ p H1 hX => ?_⟩
  by_cases c0 : (2000 : Int) < (b.length : Int)
  · simp (implicitDefEqProofs := false) only [sB, simprocAttr, by_len, c0]
    refine alive_in hX.1 (hX.cells cO_nil) ?_
    simp (implicitDefEqProofs := false) only [sB, simprocAttr]
    exact hK _
  by_cases c1 : ((ps.length : Nat) : Int) = 0
  · simp (implicitDefEqProofs := false) only [sB, simprocAttr, by_len, c0, c1]
    refine alive_in hX.1 (hX.cells cO_nil) ?_
    simp (implicitDefEqProofs := false) only [sB, simprocAttr]
    exact hK _
  by_cases c2 : (100 : Int) < (ps.length : Int)
  · simp (implicitDefEqProofs := false) only [sB, simprocAttr, by_len, c0, c1, c2]
    refine alive_in hX.1 (hX.cells cO_nil) ?_
    simp (implicitDefEqProofs := false) only [sB, simprocAttr]
    exact hK _
  have w3 := w_i64 ((b.length : Int) + 2) (by omega) (by omega)
  have w4 := w_i64 ((k : Int) + 20) (by omega) (by omega)
  simp (implicitDefEqProofs := false) only [sB, simprocAttr, by_len, c0, c1, c2]
  refine i_emp hX.1 fun g hg hg2 => ?_
  have hX0 : FX p ⟨k, [], false⟩ ((g, .spare 0) :: H1) (tokH (.at g 0 1)) := hX.push (o := .spare 0) hg
  simp (implicitDefEqProofs := false) only [sB, simprocAttr, by_len, w3]
  refine i_loopJ (fun σ H => ∃ (i tn : Nat) (tg : Tok), i ≤ cntN k b.length ∧ tn ≤ 1000 * i ∧ GT (bytesAV (outP k b (List.range i))) tg ∧ FX p ⟨k, [], false⟩ H (tokH tg) ∧
      σ = [(0, .sl (bytesAV b) t), (2, .sl (bytesAV ps) t2), (7, .int .i64 k), (8, .ptr p 0), (10, .sl (bytesAV (b.drop (i * k))) t), (11, .sl (bytesAV (outP k b (List.range i))) tg), (12, .int .i64 tn), (57, .int .i64 ((b.length : Int) + 2)), (58, .int .i64 i)])
    (fun σ _ => match σ.get 58 with | .int _ n => b.length + 2 - n.toNat | _ => 0)
    (fun e σ H => e = .ret ∧ σ.get 6 = .bool true)
    ⟨_, .refl _, 0, 0, .at g 0 1, Nat.zero_le _, by omega, rfl, hX0, by rw [Nat.zero_mul, List.drop_zero]; rfl⟩ ?_ ?_
  · rintro e σ H ⟨rfl, q6⟩
    simp (implicitDefEqProofs := false) only [sB, simprocAttr, q6]
    exact hK _
  · rintro Q hQ σ H ⟨i, tn, tg, hi, htn, hgt, hX1, rfl⟩
    have hcl : cntN k b.length ≤ b.length + 1 := by
      unfold cntN
      rw [Nat.div_le_iff_le_mul_add_pred (by omega)]
      have := Nat.mul_le_mul_right b.length hk1
      rw [Nat.one_mul, Nat.mul_comm] at this
      have : k * (b.length + 1) = k * b.length + k := Nat.mul_succ k b.length
      have h3 : b.length * k = k * b.length := Nat.mul_comm _ _
      omega
    have c' : (i : Int) < (b.length : Int) + 2 := by omega
    have r58 := w_i64 ((i : Int) + 1) (by omega) (by omega)
    by_cases c : i * k < b.length
    · have hjN : i + 1 ≤ cntN k b.length := by
        rcases Nat.lt_or_ge i (cntN k b.length) with h | h
        · exact h
        · have := Nat.mul_le_mul_right k h
          have := cntN_ge (len := b.length) hk1
          omega
      have hdl : (b.drop (i * k)).length = b.length - i * k := by simp
      obtain ⟨tk, htk⟩ : ∃ tk, tk = min k (b.drop (i * k)).length := ⟨_, rfl⟩
      obtain ⟨d1, d2⟩ := drop_part k b i tk htk
      have hpl := part_len k b i
      have htk1 : 1 ≤ tk := by omega
      have htk2 : tk ≤ k := by omega
      have htk3 : tk ≤ (b.drop (i * k)).length := by omega
      have hptk : (partP k b i).length = tk := by omega
      generalize hdx : b.drop (i * k) = dx at *
      have cx : (0 : Int) < (dx.length : Int) := by omega
      have hmin : (if (k : Int) < (dx.length : Int) then (k : Int) else (dx.length : Int)) = ((tk : Nat) : Int) := by split <;> omega
      have hmin2 : (if (dx.length : Int) < (k : Int) then (dx.length : Int) else (k : Int)) = ((tk : Nat) : Int) := by split <;> omega
      have t0 : (0 : Int) ≤ (tk : Int) := by omega
      have t1 : (tk : Int) ≤ (dx.length : Int) := by omega
      simp (implicitDefEqProofs := false) only [sB, simprocAttr, c', by_len, cx, hmin, hmin2, t0, t1, d1]
      refine .inr ⟨p, _, _, partP k b i, _, rfl, hX1, .sl _ _, by show (k : Int) ≤ 65536; omega, fun h => by simp at h, fun _ _ h => ?_, fun _ _ _ _ H2 hX2 => ?_⟩
      · rcases h with h | h
        · rw [h] at hptk; simp at hptk; omega
        · have h' : (k : Int) < ((partP k b i).length : Int) := h
          omega
      simp only at hX2
      have hLl := chunkP_small (b := partP k b i) (by omega)
      have hol := outP_len (show k ≤ 65536 by omega) b (List.range i)
      rw [List.length_range] at hol
      have hol2 : i * (k + 104) ≤ 2001 * 154 := Nat.mul_le_mul (by omega) (by omega)
      obtain ⟨L, hL⟩ : ∃ L, L = chunkP (partP k b i) := ⟨_, rfl⟩
      obtain ⟨out, hout⟩ : ∃ out, out = outP k b (List.range i) := ⟨_, rfl⟩
      rw [← hL] at hX2 hLl
      rw [← hout] at hgt hol ⊢
      simp (implicitDefEqProofs := false) only [sB, simprocAttr, by_len, t0, t1, d2, w4]
      refine i_loopJ (fun σ H => ∃ (d j tn' : Nat) (tg' : Tok), d ≤ L.length ∧ j ≤ d ∧ tn' ≤ 1000 * i + j ∧ GT (bytesAV (out ++ L.take d)) tg' ∧ FX p ⟨k, L.drop d, false⟩ H (tokH tg') ∧
          σ = [(0, .sl (bytesAV b) t), (2, .sl (bytesAV ps) t2), (7, .int .i64 k), (8, .ptr p 0), (10, .sl (bytesAV (b.drop ((i + 1) * k))) t), (11, .sl (bytesAV (out ++ L.take d)) tg'), (12, .int .i64 tn'), (57, .int .i64 ((b.length : Int) + 2)), (58, .int .i64 i), (80, .int .i64 ((k : Int) + 20)), (81, .int .i64 j)])
        (fun σ _ => match σ.get 81 with | .int _ n => k + 20 - n.toNat | _ => 0)
        (fun e σ H => e = .exit 2 ∧ ∃ (tn' : Nat) (tg' : Tok), tn' ≤ 1000 * (i + 1) ∧ GT (bytesAV (out ++ L)) tg' ∧ FX p ⟨k, [], false⟩ H (tokH tg') ∧ σ.get 0 = .sl (bytesAV b) t ∧ σ.get 2 = .sl (bytesAV ps) t2 ∧ σ.get 7 = .int .i64 k ∧ σ.get 8 = .ptr p 0 ∧ σ.get 10 = .sl (bytesAV (b.drop ((i + 1) * k))) t ∧ σ.get 11 = .sl (bytesAV (out ++ L)) tg' ∧ σ.get 12 = .int .i64 tn' ∧ σ.get 57 = .int .i64 ((b.length : Int) + 2) ∧ σ.get 58 = .int .i64 i)
        ⟨_, .refl _, 0, 0, tn, tg, by omega, by omega, by omega, by simpa using hgt, by simpa using hX2, by simp; rfl⟩ ?_ ?_
      · rintro e σ H ⟨rfl, tn', tg', htn', hgt', hX3, q0, q2, q7, q8, q10, q11, q12, q57, q58⟩
        simp (implicitDefEqProofs := false) only [sB, simprocAttr, q0, q2, q7, q8, q10, q11, q12, q57, q58]
        refine .inr ⟨p, _, _, rfl, hX3, ?_⟩
        simp (implicitDefEqProofs := false) only [sB, simprocAttr, q0, q2, q7, q8, q10, q11, q12, q57, q58, Bool.false_and, r58]
        refine ⟨H, .refl _, ⟨i + 1, tn', tg', hjN, htn', by rw [List.range_succ, outP_app, ← hL, ← hout]; exact hgt', hX3, ?_⟩, by omega⟩
        rw [List.range_succ, outP_app, ← hL, ← hout]
        simp
      · rintro Q2 hQ2 σ H ⟨d, j, tn', tg', hd, hjd, htn', hgt', hX3, rfl⟩
        have cj : (j : Int) < (k : Int) + 20 := by omega
        have hdl2 : (L.drop d).length = L.length - d := by simp
        by_cases ce : d = L.length
        · have hnil : L.drop d = [] := by rw [ce, List.drop_length]
          rw [hnil] at hX3
          have htk : L.take d = L := by rw [ce, List.take_length]
          rw [htk] at hgt' ⊢
          simp (implicitDefEqProofs := false) only [sB, simprocAttr, cj]
          refine .inr ⟨p, _, _, rfl, hX3, by simp, .inl fun t4 => ?_⟩
          simp (implicitDefEqProofs := false) only [sB, simprocAttr]
          exact hQ2 _ _ _ ⟨rfl, tn', tg', by omega, hgt', hX3, rfl, rfl, rfl, rfl, rfl, rfl, rfl, rfl, rfl⟩
        · have hm0 : 0 < (L.drop d).length := by omega
          simp (implicitDefEqProofs := false) only [sB, simprocAttr, cj]
          refine .inr ⟨p, _, _, rfl, hX3, by show (L.drop d).length ≤ _; omega, .inl fun t4 => ?_⟩
          simp only
          obtain ⟨M, hM⟩ : ∃ M, M = L.drop d := ⟨_, rfl⟩
          rw [← hM] at hX3 hm0 hdl2 ⊢
          have hmz : ¬ ((M.length : Nat) : Int) = 0 := by omega
          have hpz : 0 < ps.length := by omega
          have him : tn' % ps.length < ps.length := Nat.mod_lt _ hpz
          have tm : ((tn' : Nat) : Int).tmod (ps.length : Int) = ((tn' % ps.length : Nat) : Int) := by rw [Int.tmod_eq_emod_of_nonneg (by omega)]; omega
          have wm := w_i64 ((tn' % ps.length : Nat) : Int) (by omega) (by omega)
          have lm : ((tn' % ps.length : Nat) : Int) < (ps.length : Int) := by omega
          have lz : (0 : Int) ≤ ((tn' % ps.length : Nat) : Int) := by omega
          have hgi : ps[tn' % ps.length]? = some ps[tn' % ps.length] := List.getElem?_eq_getElem him
          generalize ps[tn' % ps.length] = bb at *
          have b1 : byteAV bb = .int .u8 (bb.toNat : Nat) := rfl
          have hb := bb.toNat_lt
          have wb := w_i64 ((bb.toNat : Nat) : Int) (by omega) (by omega)
          obtain ⟨y, hy⟩ : ∃ y, y = bb.toNat % M.length := ⟨_, rfl⟩
          have hyl : y < M.length := by rw [hy]; exact Nat.mod_lt _ hm0
          have tb : ((bb.toNat : Nat) : Int).tmod (M.length : Int) = ((y : Nat) : Int) := by rw [Int.tmod_eq_emod_of_nonneg (by omega), hy]; omega
          have wy := w_i64 ((y : Nat) : Int) (by omega) (by omega)
          have wy1 := w_i64 (1 + ((y : Nat) : Int)) (by omega) (by omega)
          have wt1 := w_i64 ((tn' : Int) + 1) (by omega) (by omega)
          have wj1 := w_i64 ((j : Int) + 1) (by omega) (by omega)
          have z0 : (0 : Int) ≤ 1 + ((y : Nat) : Int) := by omega
          have z1 : 1 + ((y : Nat) : Int) ≤ (M.length : Int) := by omega
          have zn : (1 + ((y : Nat) : Int)).toNat = y + 1 := by omega
          simp (implicitDefEqProofs := false) only [sB, simprocAttr, by_len, hmz, c1, tm, wm, lm, lz, hgi, Option.map_some, b1, wb, tb, wy, wy1, wt1]
          refine .inr ⟨p, _, _, _, rfl, hX3, fun h => ?_, fun _ _ H4 hX4 => ?_⟩
          · have h' : 1 + ((y : Nat) : Int) < 0 ∨ (M.length : Int) < 1 + ((y : Nat) : Int) := h
            omega
          rw [zn] at hX4
          simp only at hX4
          obtain ⟨hnd, tk9, ht9, hp9⟩ := hX4
          have hlo : (out ++ L.take d).length ≤ 1000000 := by rw [List.length_append, List.length_take]; omega
          simp (implicitDefEqProofs := false) only [sB, simprocAttr, by_len, z0, z1, zn]
          refine i_app (A := [(p, fO ⟨k, M.drop (y + 1), false⟩ tk9)]) (R := []) (tk := tg') (xs := bytesAV (out ++ L.take d)) (ys := bytesAV (M.take (y + 1))) (hp9.trans (.of_eq (by simp))) hnd hgt' (.inl ⟨_, rfl⟩) (allSz_bytes _) (allSz_bytes _) ?_ ?_ fun tg5 H5 r1 r2 r3 => ?_
          · simp only [by_len, maxLen_eq, List.length_take]; omega
          · simp only [by_len, List.length_take]; omega
          have hcat : out ++ L.take d ++ M.take (y + 1) = out ++ L.take (d + (y + 1)) := by rw [List.append_assoc, hM, ← List.take_add]
          have hdrop : M.drop (y + 1) = L.drop (d + (y + 1)) := by rw [hM, List.drop_drop]
          rw [by_app, hcat] at r1 ⊢
          rw [hdrop] at r2 ht9
          simp (implicitDefEqProofs := false) only [sB, simprocAttr, wj1]
          refine ⟨H5, .refl _, ⟨d + (y + 1), j + 1, tn' + 1, tg5, by omega, by omega, by omega, r1, ⟨r3, tk9, ht9, r2.trans (.of_eq (by simp))⟩, by simp⟩, by omega⟩
    · have hiN : i = cntN k b.length := by
        rcases Nat.lt_or_ge i (cntN k b.length) with h | h
        · exact absurd (cntN_lt hk1 h) c
        · omega
      have hdx : b.drop (i * k) = [] := List.drop_eq_nil_of_le (by omega)
      have cx : ¬ (0 : Int) < (([] : List UInt8).length : Int) := by simp
      simp (implicitDefEqProofs := false) only [sB, simprocAttr, c', hdx, by_len]
      refine .inr ⟨p, _, _, rfl, hX1, fun h => by simp at h, fun _ _ H2 hX2 => ?_⟩
      simp only at hX2
      have hLl := chunkP_small (b := []) (by decide)
      rw [List.length_nil] at hLl
      have hol := outP_len (show k ≤ 65536 by omega) b (List.range i)
      rw [List.length_range] at hol
      have hol2 : i * (k + 104) ≤ 2001 * 154 := Nat.mul_le_mul (by omega) (by omega)
      obtain ⟨L, hL⟩ : ∃ L, L = chunkP [] := ⟨_, rfl⟩
      obtain ⟨out, hout⟩ : ∃ out, out = outP k b (List.range i) := ⟨_, rfl⟩
      rw [← hL] at hX2 hLl
      rw [← hout] at hgt hol ⊢
      simp (implicitDefEqProofs := false) only [sB, simprocAttr, w4]
      refine i_loopJ (fun σ H => ∃ (d j tn' : Nat) (tg' : Tok), d ≤ L.length ∧ j ≤ d ∧ tn' ≤ 1000 * i + j ∧ GT (bytesAV (out ++ L.take d)) tg' ∧ FX p ⟨k, L.drop d, true⟩ H (tokH tg') ∧
          σ = [(0, .sl (bytesAV b) t), (2, .sl (bytesAV ps) t2), (7, .int .i64 k), (8, .ptr p 0), (10, .sl (bytesAV ([])) t), (11, .sl (bytesAV (out ++ L.take d)) tg'), (12, .int .i64 tn'), (57, .int .i64 ((b.length : Int) + 2)), (58, .int .i64 i), (80, .int .i64 ((k : Int) + 20)), (81, .int .i64 j)])
        (fun σ _ => match σ.get 81 with | .int _ n => k + 20 - n.toNat | _ => 0)
        (fun e σ H => e = .exit 2 ∧ ∃ (tn' : Nat) (tg' : Tok), tn' ≤ 1000 * (i + 1) ∧ GT (bytesAV (out ++ L)) tg' ∧ FX p ⟨k, [], true⟩ H (tokH tg') ∧ σ.get 0 = .sl (bytesAV b) t ∧ σ.get 2 = .sl (bytesAV ps) t2 ∧ σ.get 7 = .int .i64 k ∧ σ.get 8 = .ptr p 0 ∧ σ.get 10 = .sl (bytesAV ([])) t ∧ σ.get 11 = .sl (bytesAV (out ++ L)) tg' ∧ σ.get 12 = .int .i64 tn' ∧ σ.get 57 = .int .i64 ((b.length : Int) + 2) ∧ σ.get 58 = .int .i64 i)
        ⟨_, .refl _, 0, 0, tn, tg, by omega, by omega, by omega, by simpa using hgt, by simpa using hX2, by simp; rfl⟩ ?_ ?_
      · rintro e σ H ⟨rfl, tn', tg', htn', hgt', hX3, q0, q2, q7, q8, q10, q11, q12, q57, q58⟩
        simp (implicitDefEqProofs := false) only [sB, simprocAttr, q0, q2, q7, q8, q10, q11, q12, q57, q58]
        refine .inr ⟨p, _, _, rfl, hX3, ?_⟩
        simp (implicitDefEqProofs := false) only [sB, simprocAttr, q0, q2, q7, q8, q10, q11, q12, q57, q58, Bool.true_and, decide_true]
        refine ⟨b, t, k, rfl, by omega, hX3.1, hX3.cells (tokH_cells tg'), fun h => by omega, fun _ _ => ?_⟩
        rw [Int.toNat_natCast]
        have hall : out ++ L = bodyP k b := by rw [hout, hL, hiN]; rfl
        simp (implicitDefEqProofs := false) only [sB, simprocAttr, q0, q2, q7, q8, q10, q11, q12, q57, q58]
        refine alive_in hX3.1 (hX3.cells (tokH_cells tg')) ?_
        simp (implicitDefEqProofs := false) only [sB, simprocAttr, q0, q2, q7, q8, q10, q11, q12, q57, q58, hall]
        refine .inr ⟨p, _, _, rfl, hX3, fun _ => ?_, fun _ h => by cases h⟩
        simp (implicitDefEqProofs := false) only [sB, simprocAttr, q0, q2, q7, q8, q10, q11, q12, q57, q58]
        refine i_new fun z hz => ?_
        have hX9 := hX3.push (o := .spare 1) hz
        simp (implicitDefEqProofs := false) only [sB, simprocAttr, q0, q2, q7, q8, q10, q11, q12, q57, q58]
        refine .inr ⟨p, _, _, [120], _, rfl, hX9, .sl [120] _, by show (k : Int) ≤ 65536; omega, fun _ => ?_, (fun _ h => by cases h), (fun _ h => by cases h)⟩
        simp (implicitDefEqProofs := false) only [sB, simprocAttr]
        exact hQ _ _ _ ⟨rfl, rfl⟩
      · rintro Q2 hQ2 σ H ⟨d, j, tn', tg', hd, hjd, htn', hgt', hX3, rfl⟩
        have cj : (j : Int) < (k : Int) + 20 := by omega
        have hdl2 : (L.drop d).length = L.length - d := by simp
        by_cases ce : d = L.length
        · have hnil : L.drop d = [] := by rw [ce, List.drop_length]
          rw [hnil] at hX3
          have htk : L.take d = L := by rw [ce, List.take_length]
          rw [htk] at hgt' ⊢
          simp (implicitDefEqProofs := false) only [sB, simprocAttr, cj]
          refine .inr ⟨p, _, _, rfl, hX3, by simp, .inl fun t4 => ?_⟩
          simp (implicitDefEqProofs := false) only [sB, simprocAttr]
          exact hQ2 _ _ _ ⟨rfl, tn', tg', by omega, hgt', hX3, rfl, rfl, rfl, rfl, rfl, rfl, rfl, rfl, rfl⟩
        · have hm0 : 0 < (L.drop d).length := by omega
          simp (implicitDefEqProofs := false) only [sB, simprocAttr, cj]
          refine .inr ⟨p, _, _, rfl, hX3, by show (L.drop d).length ≤ _; omega, .inl fun t4 => ?_⟩
          simp only
          obtain ⟨M, hM⟩ : ∃ M, M = L.drop d := ⟨_, rfl⟩
          rw [← hM] at hX3 hm0 hdl2 ⊢
          have hmz : ¬ ((M.length : Nat) : Int) = 0 := by omega
          have hpz : 0 < ps.length := by omega
          have him : tn' % ps.length < ps.length := Nat.mod_lt _ hpz
          have tm : ((tn' : Nat) : Int).tmod (ps.length : Int) = ((tn' % ps.length : Nat) : Int) := by rw [Int.tmod_eq_emod_of_nonneg (by omega)]; omega
          have wm := w_i64 ((tn' % ps.length : Nat) : Int) (by omega) (by omega)
          have lm : ((tn' % ps.length : Nat) : Int) < (ps.length : Int) := by omega
          have lz : (0 : Int) ≤ ((tn' % ps.length : Nat) : Int) := by omega
          have hgi : ps[tn' % ps.length]? = some ps[tn' % ps.length] := List.getElem?_eq_getElem him
          generalize ps[tn' % ps.length] = bb at *
          have b1 : byteAV bb = .int .u8 (bb.toNat : Nat) := rfl
          have hb := bb.toNat_lt
          have wb := w_i64 ((bb.toNat : Nat) : Int) (by omega) (by omega)
          obtain ⟨y, hy⟩ : ∃ y, y = bb.toNat % M.length := ⟨_, rfl⟩
          have hyl : y < M.length := by rw [hy]; exact Nat.mod_lt _ hm0
          have tb : ((bb.toNat : Nat) : Int).tmod (M.length : Int) = ((y : Nat) : Int) := by rw [Int.tmod_eq_emod_of_nonneg (by omega), hy]; omega
          have wy := w_i64 ((y : Nat) : Int) (by omega) (by omega)
          have wy1 := w_i64 (1 + ((y : Nat) : Int)) (by omega) (by omega)
          have wt1 := w_i64 ((tn' : Int) + 1) (by omega) (by omega)
          have wj1 := w_i64 ((j : Int) + 1) (by omega) (by omega)
          have z0 : (0 : Int) ≤ 1 + ((y : Nat) : Int) := by omega
          have z1 : 1 + ((y : Nat) : Int) ≤ (M.length : Int) := by omega
          have zn : (1 + ((y : Nat) : Int)).toNat = y + 1 := by omega
          simp (implicitDefEqProofs := false) only [sB, simprocAttr, by_len, hmz, c1, tm, wm, lm, lz, hgi, Option.map_some, b1, wb, tb, wy, wy1, wt1]
          refine .inr ⟨p, _, _, _, rfl, hX3, fun h => ?_, fun _ _ H4 hX4 => ?_⟩
          · have h' : 1 + ((y : Nat) : Int) < 0 ∨ (M.length : Int) < 1 + ((y : Nat) : Int) := h
            omega
          rw [zn] at hX4
          simp only at hX4
          obtain ⟨hnd, tk9, ht9, hp9⟩ := hX4
          have hlo : (out ++ L.take d).length ≤ 1000000 := by rw [List.length_append, List.length_take]; omega
          simp (implicitDefEqProofs := false) only [sB, simprocAttr, by_len, z0, z1, zn]
          refine i_app (A := [(p, fO ⟨k, M.drop (y + 1), true⟩ tk9)]) (R := []) (tk := tg') (xs := bytesAV (out ++ L.take d)) (ys := bytesAV (M.take (y + 1))) (hp9.trans (.of_eq (by simp))) hnd hgt' (.inl ⟨_, rfl⟩) (allSz_bytes _) (allSz_bytes _) ?_ ?_ fun tg5 H5 r1 r2 r3 => ?_
          · simp only [by_len, maxLen_eq, List.length_take]; omega
          · simp only [by_len, List.length_take]; omega
          have hcat : out ++ L.take d ++ M.take (y + 1) = out ++ L.take (d + (y + 1)) := by rw [List.append_assoc, hM, ← List.take_add]
          have hdrop : M.drop (y + 1) = L.drop (d + (y + 1)) := by rw [hM, List.drop_drop]
          rw [by_app, hcat] at r1 ⊢
          rw [hdrop] at r2 ht9
          simp (implicitDefEqProofs := false) only [sB, simprocAttr, wj1]
          refine ⟨H5, .refl _, ⟨d + (y + 1), j + 1, tn' + 1, tg5, by omega, by omega, by omega, r1, ⟨r3, tk9, ht9, r2.trans (.of_eq (by simp))⟩, by simp⟩, by omega⟩
end Go.AL.Fun
