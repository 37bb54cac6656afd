/- The laws of size lines, walked. -/
import Derived.Test.YtcaegdcldbggpaaDoorE8
set_option linter.unusedSimpArgs false
set_option linter.unusedVariables false
set_option maxRecDepth 100000
set_option maxHeartbeats 4000000
namespace Go.AL.Fun
open Go Go.AL

@[reducible] def tE : XT := [(24, c24), (25, c25), (26, c26), (27, c27), (28, c28)]
theorem lineL_len (n : Nat) : (lineL n).length = (hexL n).length + 2 := by unfold lineL; rw [List.length_append]; rfl
theorem hexL_small {n : Nat} (h : n ≤ 65536) : (hexL n).length ≤ 5 := by
  have := hexL_len_le 65536 n 65536 (Nat.le_refl _) h
  have h2 : (hexL 65536).length = 5 := by
    rw [hexL_ge (by decide), hexL_ge (by decide), hexL_ge (by decide), hexL_ge (by decide), hexL_lt (by decide)]; rfl
  omega
theorem law6 (P : Program) (n : Int) (K : Kv) (hK : ∀ H, K.ap (.bool true) H) : @xF ⟨Gh, P, tE⟩ f6 [.int .i64 n] [] K := by
  have hn : (Heap.keys []).Nodup := List.nodup_nil
  simp (implicitDefEqProofs := false) only [sB, simprocAttr, f6]
  refine ⟨n, rfl, hn, fun h => ?_, fun h0 h1 tk => ?_⟩
  · simp (implicitDefEqProofs := false) only [sB, simprocAttr]
    refine ⟨n, rfl, fun _ => ?_, fun a b => by omega⟩
    simp (implicitDefEqProofs := false) only [sB, simprocAttr]
    refine ⟨rfl, hn, ?_⟩
    simp (implicitDefEqProofs := false) only [sB, simprocAttr]
    exact hK _
  · simp (implicitDefEqProofs := false) only [sB, simprocAttr]
    refine ⟨n, rfl, fun h => by omega, fun _ _ id hid => ?_⟩
    have hl := List.nodup_cons.2 ⟨hid, hn⟩
    have hlk : lookH id [(id, AObj.cells (bytesAV (lineL n.toNat)))] = some (.cells (bytesAV (lineL n.toNat))) := by simp [lookH]
    generalize lineL n.toNat = L at *
    simp (implicitDefEqProofs := false) only [sB, simprocAttr]
    refine ⟨rfl, hl, ?_⟩
    have e1 : (bytesAV L).take L.length = bytesAV L := List.take_of_length_le (by rw [by_len]; exact Nat.le_refl _)
    simp (implicitDefEqProofs := false) only [sB, simprocAttr, by_of, e1, by_len, List.take_length]
    exact hK _
theorem law7 (P : Program) (b : List UInt8) (t : Tok) (hb : b.length ≤ 1048576) (K : Kv) (hK : ∀ H, K.ap (.bool true) H) : @xF ⟨Gh, P, tE⟩ f7 [.sl (bytesAV b) t] [] K := by
  have hn : (Heap.keys []).Nodup := List.nodup_nil
  by_cases c : (1000 : Int) < (b.length : Int)
  · simp (implicitDefEqProofs := false) only [sB, simprocAttr, f7, by_len, c]
    refine ⟨rfl, hn, ?_⟩
    simp (implicitDefEqProofs := false) only [sB, simprocAttr]
    exact hK _
  · simp (implicitDefEqProofs := false) only [sB, simprocAttr, f7, by_len, c]
    refine ⟨b, t, rfl, by omega, ?_⟩
    simp (implicitDefEqProofs := false) only [sB, simprocAttr, tup3]
    refine ⟨b, t, rfl, by omega, ?_⟩
    simp (implicitDefEqProofs := false) only [sB, simprocAttr, tup3]
    refine ⟨rfl, hn, ?_⟩
    simp (implicitDefEqProofs := false) only [sB, simprocAttr]
    exact hK _
theorem law9 (P : Program) (b : List UInt8) (t : Tok) (hb : b.length ≤ 1048576) (K : Kv) (hK : ∀ H, K.ap (.bool true) H) : @xF ⟨Gh, P, tE⟩ f9 [.sl (bytesAV b) t] [] K := by
  have hn : (Heap.keys []).Nodup := List.nodup_nil
  simp (implicitDefEqProofs := false) only [sB, simprocAttr, f9]
  refine ⟨b, t, rfl, by omega, ?_⟩
  obtain ⟨⟨n, k, e⟩, hp⟩ : ∃ x, parseP b = x := ⟨_, rfl⟩
  rw [hp]
  by_cases ce : e = 0
  · subst ce
    by_cases c : (1000 : Int) < (b.length : Int)
    · simp (implicitDefEqProofs := false) only [sB, simprocAttr, tup3, by_len, c]
      refine ⟨rfl, hn, ?_⟩
      simp (implicitDefEqProofs := false) only [sB, simprocAttr]
      exact hK _
    · obtain ⟨hn5, rfl, r, hb2⟩ := parse_canon hp
      simp (implicitDefEqProofs := false) only [sB, simprocAttr, tup3, by_len, c]
      refine ⟨n, rfl, hn, fun h => by omega, fun _ _ tk => ?_⟩
      rw [Int.toNat_natCast]
      have hl := lineL_len n
      have hbl : b = lineL n ++ r := by rw [hb2]; unfold lineL; rw [List.append_assoc]; rfl
      have hlen : b.length = (lineL n).length + r.length := by rw [hbl, List.length_append]
      have htk : b.take (lineL n).length = lineL n := by rw [hbl]; exact List.take_left' rfl
      rw [← hl]
      generalize lineL n = L at *
      have a1 : (L.length : Int) ≤ (b.length : Int) := by omega
      have a2 : ¬ (b.length : Int) < (L.length : Int) := by omega
      have a3 : (0 : Int) ≤ (L.length : Int) := by omega
      simp (implicitDefEqProofs := false) only [sB, simprocAttr]
      refine ⟨rfl, hn, ?_⟩
      simp (implicitDefEqProofs := false) only [sB, simprocAttr, by_len, a1, a2, a3, by_take, htk, by_of]
      exact hK _
  · simp (implicitDefEqProofs := false) only [sB, simprocAttr, tup3, ce]
    refine ⟨rfl, hn, ?_⟩
    simp (implicitDefEqProofs := false) only [sB, simprocAttr]
    exact hK _
theorem law10 (P : Program) (n m : Int) (K : Kv) (hK : ∀ H, K.ap (.bool true) H) : @xF ⟨Gh, P, tE⟩ f10 [.int .i64 n, .int .i64 m] [] K := by
  have hn : (Heap.keys []).Nodup := List.nodup_nil
  by_cases c1 : n < 0
  · simp (implicitDefEqProofs := false) only [sB, simprocAttr, f10, c1]
    refine ⟨rfl, hn, ?_⟩
    simp (implicitDefEqProofs := false) only [sB, simprocAttr]
    exact hK _
  by_cases c2 : m < 0
  · simp (implicitDefEqProofs := false) only [sB, simprocAttr, f10, c1, c2]
    refine ⟨rfl, hn, ?_⟩
    simp (implicitDefEqProofs := false) only [sB, simprocAttr]
    exact hK _
  by_cases c3 : m ≤ n
  · simp (implicitDefEqProofs := false) only [sB, simprocAttr, f10, c1, c2, c3]
    refine ⟨rfl, hn, ?_⟩
    simp (implicitDefEqProofs := false) only [sB, simprocAttr]
    exact hK _
  by_cases c4 : 65536 < m
  · simp (implicitDefEqProofs := false) only [sB, simprocAttr, f10, c1, c2, c3, c4]
    refine ⟨rfl, hn, ?_⟩
    simp (implicitDefEqProofs := false) only [sB, simprocAttr]
    exact hK _
  simp (implicitDefEqProofs := false) only [sB, simprocAttr, f10, c1, c2, c3, c4]
  refine ⟨n, rfl, hn, fun h => by omega, fun _ _ t1 => ?_⟩
  simp (implicitDefEqProofs := false) only [sB, simprocAttr]
  refine ⟨m, rfl, hn, fun h => by omega, fun _ _ t2 => ?_⟩
  have ho := hex_order (n := n.toNat) (m := m.toNat) (by omega) (by omega)
  have l1 := lineL_len n.toNat
  obtain ⟨o1, o2⟩ := ho
  rw [show hexL n.toNat ++ [13, 10] = lineL n.toNat from rfl, show hexL m.toNat ++ [13, 10] = lineL m.toNat from rfl] at o1 o2
  generalize lineL n.toNat = A at *
  generalize lineL m.toNat = B at *
  have a1 : (0 : Int) < (A.length : Int) := by omega
  have a2 : (A.length : Int) ≤ (B.length : Int) := by omega
  have a3 : (0 : Int) ≤ (A.length : Int) := by omega
  simp (implicitDefEqProofs := false) only [sB, simprocAttr]
  refine ⟨rfl, hn, ?_⟩
  simp (implicitDefEqProofs := false) only [sB, simprocAttr, by_len, a1, a2, a3, by_take, by_of, o2]
  exact hK _
theorem law8 (P : Program) (n : Int) (more : List UInt8) (t : Tok) (hm : more.length ≤ 1048576) (K : Kv) (hK : ∀ H, K.ap (.bool true) H) : @xF ⟨Gh, P, tE⟩ f8 [.int .i64 n, .sl (bytesAV more) t] [] K := by
  have hn : (Heap.keys []).Nodup := List.nodup_nil
  simp (implicitDefEqProofs := false) only [sB, simprocAttr, f8]
  refine ⟨n, rfl, hn, fun h => ?_, fun h0 h1 tk => ?_⟩
  · simp (implicitDefEqProofs := false) only [sB, simprocAttr]
    refine ⟨rfl, hn, ?_⟩
    rcases h with h | h
    · simp (implicitDefEqProofs := false) only [sB, simprocAttr, h]
      exact hK _
    · have h' : ¬ n < 0 := by omega
      simp (implicitDefEqProofs := false) only [sB, simprocAttr, h, h']
      exact hK _
  by_cases c : (1000 : Int) < (more.length : Int)
  · simp (implicitDefEqProofs := false) only [sB, simprocAttr, by_len, c]
    refine ⟨rfl, hn, ?_⟩
    simp (implicitDefEqProofs := false) only [sB, simprocAttr]
    exact hK _
  simp (implicitDefEqProofs := false) only [sB, simprocAttr, by_len, c]
  refine i_emp hn fun id hid hn2 => ?_
  have hl := lineL_len n.toNat
  have hs := hexL_small (n := n.toNat) (by omega)
  simp (implicitDefEqProofs := false) only [sB, simprocAttr]
  refine i_app (A := []) (R := []) (tk := .at id 0 1) (xs := []) (ys := bytesAV (lineL n.toNat)) (.refl _) hn2 rfl (.inl ⟨_, rfl⟩) (allSz_bytes _) (by rw [allSz_nil]; trivial) ?_ ?_ fun t1 H1 g1 g2 g3 => ?_
  · simp only [by_len, List.length_nil, maxLen_eq]; omega
  · simp only [by_len, List.length_nil]; omega
  simp (implicitDefEqProofs := false) only [sB, simprocAttr]
  refine i_app (A := []) (R := []) (tk := t1) (xs := bytesAV (lineL n.toNat)) (ys := bytesAV more) g2 g3 g1 (.inl ⟨_, rfl⟩) (allSz_bytes _) (allSz_bytes _) ?_ ?_ fun t2 H2 q1 q2 q3 => ?_
  · simp only [by_len, maxLen_eq]; omega
  · simp only [by_len]; omega
  rw [by_app]
  simp (implicitDefEqProofs := false) only [sB, simprocAttr]
  refine ⟨_, _, rfl, by rw [List.length_append]; omega, ?_⟩
  have hp := parse_format (n := n.toNat) (by omega) more
  have e0 : lineL n.toNat ++ more = hexL n.toNat ++ 13 :: 10 :: more := by unfold lineL; rw [List.append_assoc]; rfl
  rw [e0, hp, ← hl]
  have tn : ((n.toNat : Nat) : Int) = n := by omega
  have hpre : ∀ i, i < (lineL n.toNat).length → parseP ((lineL n.toNat).take i) = (0, 0, 7) := fun i hi => parse_prefix (by omega) (by omega)
  have hL7 : (lineL n.toNat).length ≤ 7 := by omega
  generalize lineL n.toNat = L at *
  simp (implicitDefEqProofs := false) only [sB, simprocAttr, tup3, tn, by_len]
  refine i_loopJ (fun σ H1 => ∃ (i : Nat), H1 = H2 ∧ i ≤ L.length ∧ σ = [(5, .sl (bytesAV L) tk), (63, .int .i64 L.length), (64, .int .i64 i)])
    (fun σ _ => match σ.get 64 with | .int _ n => L.length - n.toNat | _ => 0)
    (fun e σ H1 => e = .exit 0 ∧ H1.keys.Nodup)
    ⟨_, .refl _, 0, rfl, by omega, rfl⟩ ?_ ?_
  · rintro e σ H1 ⟨rfl, h1⟩
    simp (implicitDefEqProofs := false) only [sB, simprocAttr]
    refine ⟨rfl, h1, ?_⟩
    simp (implicitDefEqProofs := false) only [sB, simprocAttr]
    exact hK _
  · rintro Q hQ σ H1 ⟨i, hH, hi, rfl⟩
    obtain rfl : H2 = H1 := hH.symm
    by_cases ci : i < L.length
    · have ci' : (i : Int) < (L.length : Int) := by omega
      have i0 : (0 : Int) ≤ (i : Int) := by omega
      have i1 : (i : Int) ≤ (L.length : Int) := by omega
      have hpi := hpre i ci
      have r9 := w_i64 ((i : Int) + 1) (by omega) (by omega)
      simp (implicitDefEqProofs := false) only [sB, simprocAttr, ci', i0, i1, by_len, by_take]
      refine ⟨_, _, rfl, by rw [List.length_take]; omega, ?_⟩
      rw [hpi]
      simp (implicitDefEqProofs := false) only [sB, simprocAttr, tup3, r9]
      exact ⟨_, .refl _, ⟨i + 1, rfl, by omega, by simp⟩, by omega⟩
    · have ci' : ¬ (i : Int) < (L.length : Int) := by omega
      simp (implicitDefEqProofs := false) only [sB, simprocAttr, ci']
      exact hQ _ _ _ ⟨rfl, q3⟩
end Go.AL.Fun
