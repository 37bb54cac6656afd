/- The escaped form of a rune, by the program: percent escapes; Rune. -/
import Derived.Test.YtijioomcpecdhaaDoorS10
set_option linter.unusedSimpArgs false
set_option linter.unusedVariables false
set_option maxRecDepth 100000
set_option maxHeartbeats 4000000
namespace Go.AL.Fun
open Go Go.AL

theorem hexL_4 {n : Nat} (h : n ≤ 65535) : (hexL n).length ≤ 4 := by
  have := hexL_len_le 65535 n 65535 (Nat.le_refl _) h
  have e : (hexL 65535).length = 4 := by
    rw [hexL_ge (by decide), hexL_ge (by decide), hexL_ge (by decide), hexL_lt (by decide)]; rfl
  omega
theorem sh16b : (2 : Int) ^ (if 4 ≤ IntKind.u8.bits then 4 else IntKind.u8.bits) = 16 := by decide
theorem and15f : ∀ c : Fin 256, intB .and .u8 ((c.val : Nat) : Int) 15 = ((c.val % 16 : Nat) : Int) := by decide +kernel
theorem and15u (c : UInt8) : intB .and .u8 ((c.toNat : Nat) : Int) 15 = ((c.toNat % 16 : Nat) : Int) := and15f ⟨c.toNat, c.toNat_lt⟩
def c43 (xs : List AV) (H : Heap) (K : Kv) : Prop := ∃ r : Int, xs = [.int .i32 r] ∧ -2147483648 ≤ r ∧ r < 2147483648 ∧ H.keys.Nodup ∧ K.ap (.str (pct (enc1 r))) H
theorem c43_of (P : Program) {G : Nat → Option (List AV)} {xs : List AV} {H : Heap} {K : Kv} (h : c43 xs H K) : @xF ⟨G, P, [(76, c76)]⟩ f43 xs H ⟨fun v H' => ∃ H0, Hle H0 H' ∧ K.ap v H0⟩ := by
  obtain ⟨r, rfl, lo, hi, hn, k⟩ := h
  simp (implicitDefEqProofs := false) only [sB, simprocAttr, f43]
  refine ⟨[], .nil, H, r, rfl, .refl _, hn, rfl, by simp, lo, hi, fun tk' H' g p n => ?_⟩
  obtain ⟨l4, _⟩ := enc1_len r
  rw [List.nil_append]
  generalize enc1 r = e at *
  have hle : Hle H H' := hle_sub p (List.sublist_append_right _ _)
  simp (implicitDefEqProofs := false) only [sB, simprocAttr, by_len]
  refine i_loopJ (fun σ H1 => ∃ (i : Nat) (t3 : Tok), GT (bytesAV (pct (e.take i))) t3 ∧ H1.Perm (tokH t3 ++ H') ∧ H1.keys.Nodup ∧ i ≤ e.length ∧ (pct (e.take i)).length ≤ 3 * i ∧ σ = [(3, .sl (bytesAV (pct (e.take i))) t3), (7, .sl (bytesAV e) tk'), (8, .int .i64 e.length), (9, .int .i64 i)])
    (fun σ _ => match σ.get 9 with | .int _ n => e.length - n.toNat | _ => 0)
    (fun ex σ H1 => ex = .exit 0 ∧ Hle H H1 ∧ ∃ t3, σ.get 3 = .sl (bytesAV (pct e)) t3)
    ⟨_, .refl _, 0, .nil, rfl, .refl _, n, by omega, by simp [pct], rfl⟩ ?_ ?_
  · rintro ex σ H1 ⟨rfl, h1, t3, h3⟩
    simp (implicitDefEqProofs := false) only [sB, simprocAttr, h3]
    exact ⟨H, h1, k⟩
  · rintro Q hQ σ H1 ⟨i, t3, g1, g2, g3, hi2, hl, rfl⟩
    by_cases ci : i < e.length
    · have ci' : (i : Int) < (e.length : Int) := by omega
      have i0 : (0 : Int) ≤ (i : Int) := by omega
      have hgi : e[i]? = some e[i] := List.getElem?_eq_getElem ci
      have r9 := w_i64 ((i : Int) + 1) (by omega) (by omega)
      have htk : pct (e.take (i + 1)) = pct (e.take i) ++ pct1 e[i] := by
        rw [List.take_add_one, hgi, pct, List.flatMap_append]; simp [pct]
      have hl2 : (pct (e.take (i + 1))).length ≤ 3 * (i + 1) := by rw [htk, List.length_append]; simp only [pct1, List.length_cons, List.length_nil]; omega
      generalize e[i] = c at *
      have b1 : byteAV c = .int .u8 (c.toNat : Nat) := rfl
      have hc := c.toNat_lt
      have q1 := up_get (d := c.toNat / 16) (by omega)
      have q2 := up_get (d := c.toNat % 16) (by omega)
      have z1 : (0 : Int) ≤ ((c.toNat / 16 : Nat) : Int) := by omega
      have z2 : (0 : Int) ≤ ((c.toNat % 16 : Nat) : Int) := by omega
      simp (implicitDefEqProofs := false) only [sB, simprocAttr, ci', i0, hgi, Option.map_some, b1, sh16b, fd16, and15u, q1, q2, z1, z2, by_c1]
      refine i_new fun z hz => ?_
      simp (implicitDefEqProofs := false) only [sB, simprocAttr]
      refine i_appX (A := [(z, .cells (bytesAV (pct1 c)))]) (R := H') (tk := t3) (xs := bytesAV (pct (e.take i))) (ys := bytesAV (pct1 c)) (g2.cons _) (List.nodup_cons.2 ⟨hz, g3⟩) g1 (src_cells (xs := bytesAV (pct1 c)) (by simp only [lookH, if_true]; rfl) (allSz_bytes _) rfl) (allSz_bytes _) ?_ ?_ fun t4 H2 q1 q2 q3 => ?_
      · simp only [by_len, pct1, List.length_cons, List.length_nil, maxLen_eq]; omega
      · simp only [by_len, pct1, List.length_cons, List.length_nil]; omega
      rw [by_app] at q1 ⊢
      simp (implicitDefEqProofs := false) only [sB, simprocAttr, r9]
      refine ⟨_, hle_sub q2 (List.sublist_cons_self _ _), ⟨i + 1, t4, by rw [htk]; exact q1, .refl _, ?_, by omega, hl2, by rw [htk]; simp⟩, by omega⟩
      exact (List.nodup_cons.1 ((q2.map Prod.fst).nodup_iff.1 q3)).2
    · have ci' : ¬ (i : Int) < (e.length : Int) := by omega
      simp (implicitDefEqProofs := false) only [sB, simprocAttr, ci']
      exact hQ _ _ _ ⟨rfl, hle.trans (hle_sub g2 (List.sublist_append_right _ _)), t3, by rw [List.take_of_length_le (by omega)]; rfl⟩
/-- strings.Repeat of a nought. -/
def c47 (xs : List AV) (H : Heap) (K : Kv) : Prop := ∃ c : Nat, xs = [.str [48], .int .i64 c] ∧ c ≤ 4 ∧ K.ap (.str (List.replicate c 48)) H
def c15 (xs : List AV) (H : Heap) (K : Kv) : Prop := ∃ (e r : Int), xs = [.int .i64 e, .int .i32 r] ∧ -2147483648 ≤ r ∧ r < 2147483648 ∧ H.keys.Nodup ∧
  (0 ≤ e → e ≤ 4 → K.ap (.tup [.str (runeP e r), .int .i64 0]) H) ∧ (e < 0 ∨ 4 < e → K.ap (.tup [.str [], .int .i64 2]) H)
theorem rq0 (q : Int) : runeQ 0 q = if q = 38 ∨ hasR txS q = true then htmlP q else enc1 q := by simp [runeQ]
theorem rq1 (q : Int) : runeQ 1 q = if q = 96 ∨ q = 61 then htmlP q else if q = 38 ∨ hasR txS q = true then htmlP q else enc1 q := by simp [runeQ]
theorem rq2 (q : Int) : runeQ 2 q = if letP q = false ∧ hasR unS q = false then pct (enc1 q) else enc1 q := by simp [runeQ]
theorem rq3 (q : Int) : runeQ 3 q = if ctlP q = true ∨ sepP q = true ∨ hasR jsS q = true then [92, 117] ++ hex4 q else enc1 q := by simp [runeQ]
theorem rq4 (q : Int) : runeQ 4 q = if ctlP q = true ∨ hasR csS q = true then [92] ++ hexL q.toNat ++ [32] else enc1 q := by simp [runeQ]
theorem hasR_tx {q : Int} (h : hasR txS q = true) : htmlR q := by
  unfold hasR at h
  have h := of_decide_eq_true h
  obtain ⟨h0, h1, h2⟩ := h
  obtain ⟨n, rfl⟩ : ∃ n : Nat, q = n := ⟨q.toNat, by omega⟩
  rw [Int.toNat_natCast] at h2
  have hn : n < 128 := by omega
  clear h0 h1
  revert h2
  have := (by decide : ∀ m : Fin 128, UInt8.ofNat m.val ∈ txS → m.val = 60 ∨ m.val = 62 ∨ m.val = 34 ∨ m.val = 39) ⟨n, hn⟩
  intro h2
  have := this h2
  unfold htmlR
  simp only at this
  omega
theorem hasR_lt {s : List UInt8} {q : Int} (h : hasR s q = true) : q < 128 := by
  unfold hasR at h
  exact (of_decide_eq_true h).2.1
theorem c15_of (P : Program) {G : Nat → Option (List AV)} {xs : List AV} {H : Heap} {K : Kv} (h : c15 xs H K) : @xF ⟨G, P, [(39, c39), (40, c40), (41, c41), (42, c42), (43, c43), (44, c44), (45, c45), (46, c46), (47, c47)]⟩ f15 xs H K := by
  obtain ⟨e, r, rfl, lo, hi, hn, k1, k2⟩ := h
  simp (implicitDefEqProofs := false) only [sB, simprocAttr, f15]
  refine ⟨e, r, rfl, ?_⟩
  have hok := normP_ok e r
  unfold runeP at k1
  generalize normP e r = q at *
  obtain ⟨hq0, hq1, _⟩ := hok
  have hok : okR q := ⟨hq0, hq1, by assumption⟩
  have henc := enc_utf8 hok
  by_cases e0 : e = 0
  · subst e0
    replace k1 := k1 (by decide) (by decide)
    rw [rq0] at k1
    by_cases q38 : q = 38
    · rw [if_pos (.inl q38)] at k1
      subst q38
      simp (implicitDefEqProofs := false) only [sB, simprocAttr]
      refine ⟨38, rfl, .inl rfl, ?_⟩
      simp (implicitDefEqProofs := false) only [sB, simprocAttr]
      exact k1
    · simp (implicitDefEqProofs := false) only [sB, simprocAttr, q38]
      refine ⟨txS, q, rfl, by decide, by decide, hok, ?_⟩
      cases hh : hasR txS q with
      | true =>
        rw [if_pos (.inr hh)] at k1
        simp (implicitDefEqProofs := false) only [sB, simprocAttr]
        refine ⟨q, rfl, hasR_tx hh, ?_⟩
        simp (implicitDefEqProofs := false) only [sB, simprocAttr]
        exact k1
      | false =>
        rw [if_neg (by rw [hh]; simp [q38])] at k1
        simp (implicitDefEqProofs := false) only [sB, simprocAttr, henc]
        exact k1
  by_cases e1 : e = 1
  · subst e1
    replace k1 := k1 (by decide) (by decide)
    rw [rq1] at k1
    by_cases q96 : q = 96
    · subst q96
      simp (implicitDefEqProofs := false) only [sB, simprocAttr]
      refine ⟨96, rfl, by unfold htmlR; omega, ?_⟩
      simp (implicitDefEqProofs := false) only [sB, simprocAttr]
      exact k1
    by_cases q61 : q = 61
    · subst q61
      simp (implicitDefEqProofs := false) only [sB, simprocAttr]
      refine ⟨61, rfl, by unfold htmlR; omega, ?_⟩
      simp (implicitDefEqProofs := false) only [sB, simprocAttr]
      exact k1
    rw [if_neg (by simp [q96, q61])] at k1
    by_cases q38 : q = 38
    · rw [if_pos (.inl q38)] at k1
      subst q38
      simp (implicitDefEqProofs := false) only [sB, simprocAttr]
      refine ⟨38, rfl, .inl rfl, ?_⟩
      simp (implicitDefEqProofs := false) only [sB, simprocAttr]
      exact k1
    · simp (implicitDefEqProofs := false) only [sB, simprocAttr, q38, q96, q61]
      refine ⟨txS, q, rfl, by decide, by decide, hok, ?_⟩
      cases hh : hasR txS q with
      | true =>
        rw [if_pos (.inr hh)] at k1
        simp (implicitDefEqProofs := false) only [sB, simprocAttr]
        refine ⟨q, rfl, hasR_tx hh, ?_⟩
        simp (implicitDefEqProofs := false) only [sB, simprocAttr]
        exact k1
      | false =>
        rw [if_neg (by rw [hh]; simp [q38])] at k1
        simp (implicitDefEqProofs := false) only [sB, simprocAttr, henc]
        exact k1
  by_cases e2 : e = 2
  · subst e2
    replace k1 := k1 (by decide) (by decide)
    rw [rq2] at k1
    simp (implicitDefEqProofs := false) only [sB, simprocAttr]
    refine ⟨q, rfl, ?_⟩
    cases hl : letP q with
    | true =>
      rw [if_neg (by rw [hl]; simp)] at k1
      simp (implicitDefEqProofs := false) only [sB, simprocAttr, henc]
      exact k1
    | false =>
      simp (implicitDefEqProofs := false) only [sB, simprocAttr]
      refine ⟨unS, q, rfl, by decide, by decide, hok, ?_⟩
      cases hh : hasR unS q with
      | true =>
        rw [if_neg (by rw [hh]; simp)] at k1
        simp (implicitDefEqProofs := false) only [sB, simprocAttr, henc]
        exact k1
      | false =>
        rw [if_pos ⟨hl, hh⟩] at k1
        simp (implicitDefEqProofs := false) only [sB, simprocAttr]
        refine ⟨q, rfl, by omega, by omega, hn, ?_⟩
        simp (implicitDefEqProofs := false) only [sB, simprocAttr]
        exact k1
  by_cases e3 : e = 3
  · subst e3
    replace k1 := k1 (by decide) (by decide)
    rw [rq3] at k1
    obtain ⟨n, rfl⟩ : ∃ n : Nat, q = n := ⟨q.toNat, by omega⟩
    have fin : (ctlP (n : Int) = true ∨ sepP (n : Int) = true ∨ hasR jsS (n : Int) = true) → n ≤ 65535 ∧ K.ap (.tup [.str (([92, 117] ++ List.replicate (4 - (hexL n).length) 48) ++ hexL n), .int .i64 0]) H := by
      intro h
      rw [if_pos h] at k1
      refine ⟨?_, by rw [List.append_assoc]; exact k1⟩
      rcases h with h | h | h
      · unfold ctlP at h; have := of_decide_eq_true h; omega
      · unfold sepP at h; have := of_decide_eq_true h; omega
      · have := hasR_lt h; omega
    have wn := w_i64 (n : Int) (by omega) (by omega)
    have esc : n ≤ 65535 ∧ K.ap (.tup [.str (([92, 117] ++ List.replicate (4 - (hexL n).length) 48) ++ hexL n), .int .i64 0]) H → n ≤ 65535 ∧ (hexL n).length ≤ 4 ∧ (4 : Int) - ((hexL n).length : Int) = ((4 - (hexL n).length : Nat) : Int) ∧ IntKind.wrap .i64 ((4 - (hexL n).length : Nat) : Int) = ((4 - (hexL n).length : Nat) : Int) ∧ K.ap (.tup [.str (([92, 117] ++ List.replicate (4 - (hexL n).length) 48) ++ hexL n), .int .i64 0]) H := fun ⟨a, b⟩ => by
      have := hexL_4 a
      exact ⟨a, this, by omega, w_i64 _ (by omega) (by omega), b⟩
    simp (implicitDefEqProofs := false) only [sB, simprocAttr]
    refine ⟨(n : Int), rfl, ?_⟩
    cases hc : ctlP (n : Int) with
    | true =>
      obtain ⟨a1, a2, a3, a4, a5⟩ := esc (fin (.inl hc))
      simp (implicitDefEqProofs := false) only [sB, simprocAttr, wn]
      refine ⟨n, rfl, by omega, hn, ?_⟩
      simp (implicitDefEqProofs := false) only [sB, simprocAttr, a3, a4]
      refine ⟨_, rfl, by omega, ?_⟩
      simp (implicitDefEqProofs := false) only [sB, simprocAttr]
      exact ⟨by omega, by omega, by simpa using a5⟩
    | false =>
      simp (implicitDefEqProofs := false) only [sB, simprocAttr]
      refine ⟨(n : Int), rfl, ?_⟩
      cases hp : sepP (n : Int) with
      | true =>
        obtain ⟨a1, a2, a3, a4, a5⟩ := esc (fin (.inr (.inl hp)))
        simp (implicitDefEqProofs := false) only [sB, simprocAttr, wn]
        refine ⟨n, rfl, by omega, hn, ?_⟩
        simp (implicitDefEqProofs := false) only [sB, simprocAttr, a3, a4]
        refine ⟨_, rfl, by omega, ?_⟩
        simp (implicitDefEqProofs := false) only [sB, simprocAttr]
        exact ⟨by omega, by omega, by simpa using a5⟩
      | false =>
        simp (implicitDefEqProofs := false) only [sB, simprocAttr]
        refine ⟨jsS, (n : Int), rfl, by decide, by decide, hok, ?_⟩
        cases hj : hasR jsS (n : Int) with
        | true =>
          obtain ⟨a1, a2, a3, a4, a5⟩ := esc (fin (.inr (.inr hj)))
          simp (implicitDefEqProofs := false) only [sB, simprocAttr, wn]
          refine ⟨n, rfl, by omega, hn, ?_⟩
          simp (implicitDefEqProofs := false) only [sB, simprocAttr, a3, a4]
          refine ⟨_, rfl, by omega, ?_⟩
          simp (implicitDefEqProofs := false) only [sB, simprocAttr]
          exact ⟨by omega, by omega, by simpa using a5⟩
        | false =>
          rw [if_neg (by rw [hc, hp, hj]; simp)] at k1
          simp (implicitDefEqProofs := false) only [sB, simprocAttr, henc]
          exact k1
  by_cases e4 : e = 4
  · subst e4
    replace k1 := k1 (by decide) (by decide)
    rw [rq4] at k1
    obtain ⟨n, rfl⟩ : ∃ n : Nat, q = n := ⟨q.toNat, by omega⟩
    have wn := w_i64 (n : Int) (by omega) (by omega)
    simp (implicitDefEqProofs := false) only [sB, simprocAttr]
    refine ⟨(n : Int), rfl, ?_⟩
    cases hc : ctlP (n : Int) with
    | true =>
      rw [if_pos (.inl hc)] at k1
      have hb : n ≤ 65535 := by unfold ctlP at hc; have := of_decide_eq_true hc; omega
      have h4 := hexL_4 hb
      simp (implicitDefEqProofs := false) only [sB, simprocAttr, wn]
      refine ⟨n, rfl, by omega, hn, ?_⟩
      simp (implicitDefEqProofs := false) only [sB, simprocAttr]
      exact ⟨by omega, by omega, by simpa using k1⟩
    | false =>
      simp (implicitDefEqProofs := false) only [sB, simprocAttr]
      refine ⟨csS, (n : Int), rfl, by decide, by decide, hok, ?_⟩
      cases hj : hasR csS (n : Int) with
      | true =>
        rw [if_pos (.inr hj)] at k1
        have hb : n ≤ 65535 := by have := hasR_lt hj; omega
        have h4 := hexL_4 hb
        simp (implicitDefEqProofs := false) only [sB, simprocAttr, wn]
        refine ⟨n, rfl, by omega, hn, ?_⟩
        simp (implicitDefEqProofs := false) only [sB, simprocAttr]
        exact ⟨by omega, by omega, by simpa using k1⟩
      | false =>
        rw [if_neg (by rw [hc, hj]; simp)] at k1
        simp (implicitDefEqProofs := false) only [sB, simprocAttr, henc]
        exact k1
  · simp (implicitDefEqProofs := false) only [sB, simprocAttr, e0, e1, e2, e3, e4]
    exact k2 (by omega)
end Go.AL.Fun
