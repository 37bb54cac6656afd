/- The reference's framer, the law's own helpers, the example. -/
import Derived.Test.YtcmgeflfapffoaaDoorFG
set_option linter.unusedSimpArgs false
set_option linter.unusedVariables false
set_option maxRecDepth 100000
set_option maxHeartbeats 4000000
namespace Go.AL.Fun
open Go Go.AL

def e17 (xs : List AV) (H : Heap) (K : Kv) : Prop := ∃ (x : AV) (b : List UInt8), xs = [x] ∧ BSrc H x b ∧ b.length ≤ 65536 ∧ H.keys.Nodup ∧ ∀ tk, tk ≠ .nil → K.ap (.sl (bytesAV (chunkP b)) tk) H
theorem e17_of (P : Program) {G : Nat → Option (List AV)} {xs : List AV} {H : Heap} {K : Kv} (h : e17 xs H K) : @xF ⟨G, P, [(39, c25)]⟩ f17 xs H ⟨fun v H' => ∃ H0, Hle H0 H' ∧ K.ap v H0⟩ := by
  obtain ⟨x, b, rfl, hx, hb, hn, k⟩ := h
  simp (implicitDefEqProofs := false) only [sB, simprocAttr, f17]
  refine bs_len hx _ ?_
  simp (implicitDefEqProofs := false) only [sB, simprocAttr]
  refine ⟨_, rfl, fun h => by omega, fun _ _ id hid => ?_⟩
  rw [Int.toNat_natCast]
  have hll := lineL_len hb
  simp (implicitDefEqProofs := false) only [sB, simprocAttr]
  have hn1 : (Heap.keys ((id, AObj.cells (bytesAV (lineL b.length))) :: H)).Nodup := List.nodup_cons.2 ⟨hid, hn⟩
  refine i_emp hn1 fun e he hn2 => ?_
  simp (implicitDefEqProofs := false) only [sB, simprocAttr]
  refine i_appX (A := []) (R := (id, .cells (bytesAV (lineL b.length))) :: H) (tk := .at e 0 1) (xs := []) (ys := bytesAV (lineL b.length)) (.refl _) hn2 rfl (src := fun K' k' => ?_) (by rw [allSz_nil]; trivial) ?_ ?_ fun t1 H1 q1 q2 q3 => ?_
  · have hne : ¬ id = e := fun h => he (by rw [← h]; exact List.mem_map.2 ⟨_, List.mem_cons_self, rfl⟩)
    have := src_cells (H := (e, .spare 0) :: (id, .cells (bytesAV (lineL b.length))) :: H) (id := id) (xs := bytesAV (lineL b.length)) (by simp [lookH, hne]) (allSz_bytes _) (by_flat _) K' k'
    rwa [by_len] at this
  · simp only [by_len, List.length_nil, maxLen_eq]; omega
  · simp only [by_len, List.length_nil]; omega
  rw [List.nil_append] at q1
  simp (implicitDefEqProofs := false) only [sB, simprocAttr]
  have hx1 : BSrc H1 x b := hx.mono fun i o h => by
    refine look_app (A := tokH t1 ++ [(id, .cells (bytesAV (lineL b.length)))]) (H := H) (q2.trans (.of_eq (by simp))) q3 i o h
  refine i_appX (A := []) (R := (id, .cells (bytesAV (lineL b.length))) :: H) (tk := t1) (xs := bytesAV (lineL b.length)) (ys := bytesAV b) q2 q3 q1 (src := bs_src hx1) (allSz_bytes _) ?_ ?_ fun t2 H2 p1 p2 p3 => ?_
  · simp only [by_len, maxLen_eq]; omega
  · simp only [by_len]; omega
  rw [by_app] at p1 ⊢
  simp (implicitDefEqProofs := false) only [sB, simprocAttr]
  refine i_new fun z hz => ?_
  simp (implicitDefEqProofs := false) only [sB, simprocAttr]
  have hn3 : (Heap.keys ((z, AObj.cells (bytesAV [13, 10])) :: H2)).Nodup := List.nodup_cons.2 ⟨hz, p3⟩
  have hz2 : BSrc ((z, AObj.cells (bytesAV [13, 10])) :: H2) (.msl z 0 2 1) [13, 10] := .msl z 0 (bytesAV [13, 10]) [13, 10] (by simp [lookH]) (by decide) rfl
  refine i_appX (A := [(z, .cells (bytesAV [13, 10]))]) (R := (id, .cells (bytesAV (lineL b.length))) :: H) (tk := t2) (xs := bytesAV (lineL b.length ++ b)) (ys := bytesAV [13, 10]) (p2.cons _) hn3 p1 (bs_src hz2) (allSz_bytes _) ?_ ?_ fun t3 H3 r1 r2 r3 => ?_
  · simp only [by_len, List.length_append, maxLen_eq, List.length_cons, List.length_nil]; omega
  · simp only [by_len, List.length_append, List.length_cons, List.length_nil]; omega
  rw [by_app, List.append_assoc] at r1 ⊢
  simp (implicitDefEqProofs := false) only [sB, simprocAttr]
  refine ⟨H, hle_sub r2 (.cons _ ((List.sublist_cons_self _ _).trans (List.sublist_append_right (tokH t3) _))), k t3 fun e => ?_⟩
  subst e
  have h0 : bytesAV (lineL b.length ++ (b ++ [13, 10])) = [] := r1
  have h1 : lineL b.length ++ (b ++ [13, 10]) = [] := by simp [bytesAV] at h0
  exact chunkP_ne b h1
theorem drop_part (k : Nat) (b : List UInt8) (j n : Nat) (hn : n = min k (b.drop (j * k)).length) : (b.drop (j * k)).take n = partP k b j ∧ (b.drop (j * k)).drop n = b.drop ((j + 1) * k) := by
  have h1 : (b.drop (j * k)).length = b.length - j * k := by simp
  rw [h1] at hn
  constructor
  · unfold partP
    rw [List.take_eq_take_iff, h1]
    omega
  · rw [List.drop_drop, Nat.add_mul, Nat.one_mul]
    by_cases h : k ≤ b.length - j * k
    · rw [hn, Nat.min_eq_left h]
    · rw [List.drop_eq_nil_of_le (by omega), List.drop_eq_nil_of_le (by omega)]
def e13 (xs : List AV) (H : Heap) (K : Kv) : Prop := ∃ (b : List UInt8) (t : Tok) (n : Int), xs = [.sl (bytesAV b) t, .int .i64 n] ∧ b.length ≤ 1048576 ∧ H.keys.Nodup ∧
  ((n < 1 ∨ 65536 < n) → K.ap (.tup [.sl [] .nil, .int .i64 3]) H) ∧ (1 ≤ n → n ≤ 65536 → ∀ tk, K.ap (.tup [.sl (bytesAV (bodyP n.toNat b)) tk, .int .i64 0]) H)
theorem e13_of (P : Program) {G : Nat → Option (List AV)} {xs : List AV} {H : Heap} {K : Kv} (h : e13 xs H K) : @xF ⟨G, P, [(17, e17)]⟩ f13 xs H ⟨fun v H' => ∃ H0, Hle H0 H' ∧ K.ap v H0⟩ := by
  obtain ⟨b, t, n, rfl, hl, hn, k1, k2⟩ := h
  by_cases c1 : n < 1
  · simp (implicitDefEqProofs := false) only [sB, simprocAttr, f13, c1]
    exact ⟨_, .refl _, k1 (.inl c1)⟩
  by_cases c2 : 65536 < n
  · simp (implicitDefEqProofs := false) only [sB, simprocAttr, f13, c1, c2]
    exact ⟨_, .refl _, k1 (.inr c2)⟩
  obtain ⟨k, rfl⟩ : ∃ k : Nat, n = k := ⟨n.toNat, by omega⟩
  have k3 := k2 (by omega) (by omega)
  rw [Int.toNat_natCast] at k3
  have hk1 : 1 ≤ k := by omega
  have hk2 : k ≤ 65536 := by omega
  have hcnt := cnt_small hk1 hk2 hl
  simp (implicitDefEqProofs := false) only [sB, simprocAttr, f13, c1, c2]
  refine i_loopJ (fun σ H1 => ∃ (j : Nat) (tk : Tok), j ≤ cntN k b.length ∧ GT (bytesAV (outP k b (List.range j))) tk ∧ H1.Perm (tokH tk ++ H) ∧ H1.keys.Nodup ∧
      σ = [(0, .sl (bytesAV (b.drop (j * k))) t), (1, .int .i64 k), (6, .sl (bytesAV (outP k b (List.range j))) tk)])
    (fun σ _ => match σ.get 0 with | .sl xs _ => xs.length | _ => 0)
    (fun ex σ H1 => ex = .exit 0 ∧ ∃ tk, GT (bytesAV (outP k b (List.range (cntN k b.length)))) tk ∧ H1.Perm (tokH tk ++ H) ∧ H1.keys.Nodup ∧ σ.get 6 = .sl (bytesAV (outP k b (List.range (cntN k b.length)))) tk)
    ⟨_, .refl _, 0, .nil, Nat.zero_le _, rfl, .refl _, hn, by rw [Nat.zero_mul, List.drop_zero]; rfl⟩ ?_ ?_
  · rintro ex σ H1 ⟨rfl, tk, hg, hp, hn1, q6⟩
    simp (implicitDefEqProofs := false) only [sB, simprocAttr, q6]
    refine ⟨_, [], rfl, .sl [] _, by decide, hn1, fun t2 _ => ?_⟩
    have ho := outP_len hk2 b (List.range (cntN k b.length))
    rw [List.length_range] at ho
    have hc0 := chunkP_len (b := []) (by decide)
    rw [List.length_nil] at hc0
    simp (implicitDefEqProofs := false) only [sB, simprocAttr]
    refine i_app (A := []) (R := H) (tk := tk) (xs := bytesAV (outP k b (List.range (cntN k b.length)))) (ys := bytesAV (chunkP [])) hp hn1 hg (.inl ⟨_, rfl⟩) (allSz_bytes _) (allSz_bytes _) ?_ ?_ fun t3 H3 r1 r2 r3 => ?_
    · simp only [by_len, maxLen_eq]; omega
    · simp only [by_len]; omega
    rw [by_app]
    simp (implicitDefEqProofs := false) only [sB, simprocAttr]
    exact ⟨H, hle_tok r2, k3 t3⟩
  · rintro Q hQ σ H1 ⟨j, tk, hj, hg, hp, hn1, rfl⟩
    have hdl : (b.drop (j * k)).length = b.length - j * k := by simp
    by_cases c : j * k < b.length
    · have c' : (0 : Int) < ((b.drop (j * k)).length : Int) := by omega
      have hjN : j + 1 ≤ cntN k b.length := by
        rcases Nat.lt_or_ge j (cntN k b.length) with h | h
        · exact h
        · have := Nat.mul_le_mul_right k h
          have := cntN_ge (len := b.length) hk1
          omega
      have ho := outP_len hk2 b (List.range j)
      rw [List.length_range] at ho
      have h3 : (j + 1) * (k + 104) ≤ cntN k b.length * (k + 104) := Nat.mul_le_mul_right _ hjN
      rw [Nat.add_mul] at h3
      have hpl := part_len k b j
      have hcl := chunkP_len (b := partP k b j) (by omega)
      have hdx0 : 0 < (b.drop (j * k)).length := by omega
      by_cases c3 : ((b.drop (j * k)).length : Int) < (k : Int)
      · obtain ⟨d1, d2⟩ := drop_part k b j (b.drop (j * k)).length (by omega)
        have d0 : (0 : Int) ≤ ((b.drop (j * k)).length : Int) := by omega
        have e0 : List.take (b.drop (j * k)).length (b.drop (j * k)) = partP k b j := d1
        rw [List.take_length] at e0
        generalize hdx : b.drop (j * k) = dx at *
        subst e0
        simp (implicitDefEqProofs := false) only [sB, simprocAttr, by_len, c', c3, d0]
        refine ⟨_, _, rfl, .sl _ _, by omega, hn1, fun t2 _ => ?_⟩
        simp (implicitDefEqProofs := false) only [sB, simprocAttr]
        refine i_app (A := []) (R := H) (tk := tk) (xs := bytesAV (outP k b (List.range j))) (ys := bytesAV (chunkP (partP k b j))) hp hn1 hg (.inl ⟨_, rfl⟩) (allSz_bytes _) (allSz_bytes _) ?_ ?_ fun t3 H3 r1 r2 r3 => ?_
        · simp only [by_len, maxLen_eq]; omega
        · simp only [by_len]; omega
        rw [by_app, ← outP_app, ← List.range_succ] at r1 ⊢
        simp (implicitDefEqProofs := false) only [sB, simprocAttr, by_len, d0]
        exact ⟨_, .refl _, ⟨j + 1, t3, hjN, r1, r2, r3, by rw [d2], rfl⟩, by omega⟩
      · obtain ⟨d1, d2⟩ := drop_part k b j k (by omega)
        have d0 : (0 : Int) ≤ (k : Int) := by omega
        have e0 : (k : Int) ≤ ((b.drop (j * k)).length : Int) := by omega
        generalize hdx : b.drop (j * k) = dx at *
        simp (implicitDefEqProofs := false) only [sB, simprocAttr, by_len, c', c3, d0, e0, d1]
        refine ⟨_, _, rfl, .sl _ _, by omega, hn1, fun t2 _ => ?_⟩
        simp (implicitDefEqProofs := false) only [sB, simprocAttr]
        refine i_app (A := []) (R := H) (tk := tk) (xs := bytesAV (outP k b (List.range j))) (ys := bytesAV (chunkP (partP k b j))) hp hn1 hg (.inl ⟨_, rfl⟩) (allSz_bytes _) (allSz_bytes _) ?_ ?_ fun t3 H3 r1 r2 r3 => ?_
        · simp only [by_len, maxLen_eq]; omega
        · simp only [by_len]; omega
        rw [by_app, ← outP_app, ← List.range_succ] at r1 ⊢
        simp (implicitDefEqProofs := false) only [sB, simprocAttr, by_len, d0, e0]
        exact ⟨_, .refl _, ⟨j + 1, t3, hjN, r1, r2, r3, by rw [d2], rfl⟩, by omega⟩
    · have c' : ¬ (0 : Int) < ((b.drop (j * k)).length : Int) := by omega
      have : j = cntN k b.length := by
        rcases Nat.lt_or_ge j (cntN k b.length) with h | h
        · exact absurd (cntN_lt hk1 h) c
        · omega
      subst this
      rw [hdl] at c'
      simp (implicitDefEqProofs := false) only [sB, simprocAttr, by_len, c']
      exact hQ _ _ _ ⟨rfl, tk, hg, hp, hn1, rfl⟩
def e23 (xs : List AV) (H : Heap) (K : Kv) : Prop := ∃ (p : Nat) (s : FS) (x : AV) (b : List UInt8) (R : Heap), xs = [.ptr p 0, x] ∧ FX p s H R ∧ BSrc R x b ∧ s.most ≤ 65536 ∧
  ((s.pend ≠ [] ∨ s.fin = true) → K.ap (.int .i64 4) H) ∧ (s.pend = [] → s.fin = false → (b = [] ∨ s.most < b.length) → K.ap (.int .i64 3) H) ∧
  (s.pend = [] → s.fin = false → b ≠ [] → (b.length : Int) ≤ s.most → ∀ H', FX p { s with pend := chunkP b } H' R → K.ap (.int .i64 0) H')
theorem e23_of (P : Program) {G : Nat → Option (List AV)} {xs : List AV} {H : Heap} {K : Kv} (h : e23 xs H K) : @xF ⟨G, P, [(17, e17)]⟩ f23 xs H ⟨fun v H' => ∃ H0, Hle H0 H' ∧ K.ap v H0⟩ := by
  obtain ⟨p, s, x, b, R, rfl, hX, hx, hm, k1, k2, k3⟩ := h
  have hxH : BSrc H x b := hx.mono fun id o h => hX.lookR h
  obtain ⟨tk, ht, hlk⟩ := hX.look
  by_cases c : s.pend = []
  · have c0 : ¬ (0 : Int) < (s.pend.length : Int) := by rw [c]; simp
    cases hf : s.fin with
    | true =>
      simp (implicitDefEqProofs := false) only [sB, simprocAttr, f23, hlk, by_len, c0, hf]
      exact ⟨_, .refl _, k1 (.inr hf)⟩
    | false =>
      simp (implicitDefEqProofs := false) only [sB, simprocAttr, f23, hlk, by_len, c0, hf]
      refine bs_len hxH _ ?_
      by_cases c1 : (b.length : Int) = 0
      · have cb : b = [] := List.length_eq_zero_iff.1 (by omega)
        simp (implicitDefEqProofs := false) only [sB, simprocAttr, c1]
        exact ⟨_, .refl _, k2 c hf (.inl cb)⟩
      have cb : b ≠ [] := fun e => c1 (by rw [e]; rfl)
      simp (implicitDefEqProofs := false) only [sB, simprocAttr, c1]
      refine bs_len hxH _ ?_
      by_cases c2 : s.most < (b.length : Int)
      · simp (implicitDefEqProofs := false) only [sB, simprocAttr, hlk, c2]
        exact ⟨_, .refl _, k2 c hf (.inr c2)⟩
      · simp (implicitDefEqProofs := false) only [sB, simprocAttr, hlk, c2]
        refine ⟨_, b, rfl, hxH, by omega, hX.1, fun t2 ht2 => ?_⟩
        obtain ⟨hn, tk2, _, hp⟩ := hX
        simp (implicitDefEqProofs := false) only [sB, simprocAttr, hlk]
        exact ⟨_, .refl _, k3 c hf cb (by omega) _ ⟨set_nodup (p := p) (fO ⟨s.most, chunkP b, s.fin⟩ t2) hn, t2, fun e => absurd e ht2, set_head (fO ⟨s.most, chunkP b, s.fin⟩ t2) hp hn⟩⟩
  · have c0 := len_pos_iff.2 c
    simp (implicitDefEqProofs := false) only [sB, simprocAttr, f23, hlk, by_len, c0]
    exact ⟨_, .refl _, k1 (.inl c)⟩
def e24 (xs : List AV) (H : Heap) (K : Kv) : Prop := ∃ (p : Nat) (s : FS) (R : Heap), xs = [.ptr p 0] ∧ FX p s H R ∧
  ((s.pend ≠ [] ∨ s.fin = true) → K.ap (.int .i64 4) H) ∧ (s.pend = [] → s.fin = false → ∀ H', FX p ⟨s.most, chunkP [], true⟩ H' R → K.ap (.int .i64 0) H')
theorem e24_of (P : Program) {G : Nat → Option (List AV)} {xs : List AV} {H : Heap} {K : Kv} (h : e24 xs H K) : @xF ⟨G, P, [(17, e17)]⟩ f24 xs H ⟨fun v H' => ∃ H0, Hle H0 H' ∧ K.ap v H0⟩ := by
  obtain ⟨p, s, R, rfl, hX, k1, k2⟩ := h
  obtain ⟨tk, ht, hlk⟩ := hX.look
  by_cases c : s.pend = []
  · have c0 : ¬ (0 : Int) < (s.pend.length : Int) := by rw [c]; simp
    cases hf : s.fin with
    | true =>
      simp (implicitDefEqProofs := false) only [sB, simprocAttr, f24, hlk, by_len, c0, hf]
      exact ⟨_, .refl _, k1 (.inr hf)⟩
    | false =>
      simp (implicitDefEqProofs := false) only [sB, simprocAttr, f24, hlk, by_len, c0, hf]
      refine ⟨_, [], rfl, .sl [] _, by decide, hX.1, fun t2 ht2 => ?_⟩
      obtain ⟨hn, tk2, _, hp⟩ := hX
      simp (implicitDefEqProofs := false) only [sB, simprocAttr, hlk]
      have hh := set_head (fO ⟨s.most, chunkP [], true⟩ t2) hp hn
      exact ⟨_, .refl _, k2 c hf _ ⟨set_nodup (p := p) (fO ⟨s.most, chunkP [], true⟩ t2) hn, t2, fun e => absurd e ht2, hh⟩⟩
  · have c0 := len_pos_iff.2 c
    simp (implicitDefEqProofs := false) only [sB, simprocAttr, f24, hlk, by_len, c0]
    exact ⟨_, .refl _, k1 (.inl c)⟩
def e25 (xs : List AV) (H : Heap) (K : Kv) : Prop := ∃ (p : Nat) (s : FS) (n : Int) (R : Heap), xs = [.ptr p 0, .int .i64 n] ∧ FX p s H R ∧
  ((n < 0 ∨ (s.pend.length : Int) < n) → K.ap (.int .i64 3) H) ∧ (0 ≤ n → n ≤ (s.pend.length : Int) → ∀ H', FX p { s with pend := s.pend.drop n.toNat } H' R → K.ap (.int .i64 0) H')
theorem e25_of (P : Program) {G : Nat → Option (List AV)} {xs : List AV} {H : Heap} {K : Kv} (h : e25 xs H K) : @xF ⟨G, P, []⟩ f25 xs H ⟨fun v H' => ∃ H0, Hle H0 H' ∧ K.ap v H0⟩ := by
  obtain ⟨p, s, n, R, rfl, hX, k1, k2⟩ := h
  obtain ⟨tk, ht, hlk⟩ := hX.look
  by_cases c1 : n < 0
  · simp (implicitDefEqProofs := false) only [sB, simprocAttr, f25, c1]
    exact ⟨_, .refl _, k1 (.inl c1)⟩
  by_cases c2 : (s.pend.length : Int) < n
  · simp (implicitDefEqProofs := false) only [sB, simprocAttr, f25, c1, hlk, by_len, c2]
    exact ⟨_, .refl _, k1 (.inr c2)⟩
  have n0 : 0 ≤ n := by omega
  have n1 : n ≤ (s.pend.length : Int) := by omega
  obtain ⟨hn, tk2, ht2, hp⟩ := hX
  obtain rfl : tk = tk2 := by have h3 := look_head hp hn; rw [hlk] at h3; simp only [fO, Option.some.injEq, AObj.cells.injEq, List.cons.injEq, AV.sl.injEq] at h3; exact h3.2.1.2
  simp (implicitDefEqProofs := false) only [sB, simprocAttr, f25, c1, hlk, by_len, c2, n0, n1]
  refine ⟨_, .refl _, k2 n0 n1 _ ⟨set_nodup _ hn, tk, fun e => by simp only [ht e, List.drop_nil], set_head (fO { s with pend := s.pend.drop n.toNat } tk) hp hn⟩⟩
/-- A limit out of any number. -/
def mostP (n : Int) : Int := 1 + (IntKind.u64.wrap n).tmod 65536
theorem u64_rng (n : Int) : 0 ≤ IntKind.u64.wrap n ∧ IntKind.u64.wrap n < 18446744073709551616 := by
  simp only [IntKind.wrap, IntKind.signed, IntKind.bits]
  constructor
  · exact Int.emod_nonneg _ (by decide)
  · exact Int.emod_lt_of_pos _ (by decide)
theorem mostP_rng (n : Int) : 1 ≤ mostP n ∧ mostP n ≤ 65536 := by
  have h := u64_rng n
  unfold mostP
  generalize IntKind.u64.wrap n = m at *
  have := Int.tmod_eq_emod_of_nonneg (a := m) (b := 65536) h.1
  omega
def e22 (xs : List AV) (H : Heap) (K : Kv) : Prop := ∃ n : Int, xs = [.int .i64 n] ∧ K.ap (.int .i64 (mostP n)) H
theorem e22_of (P : Program) {G : Nat → Option (List AV)} {xs : List AV} {H : Heap} {K : Kv} (h : e22 xs H K) : @xF ⟨G, P, []⟩ f22 xs H K := by
  obtain ⟨n, rfl, k⟩ := h
  have h := u64_rng n
  have h2 := mostP_rng n
  unfold mostP at k h2
  simp (implicitDefEqProofs := false) only [sB, simprocAttr, f22]
  generalize IntKind.u64.wrap n = m at *
  have h3 := Int.tmod_eq_emod_of_nonneg (a := m) (b := 65536) h.1
  have r1 := w_u64 (m.tmod 65536) (by omega) (by omega)
  have r2 := w_i64 (m.tmod 65536) (by omega) (by omega)
  have r3 := w_i64 (1 + m.tmod 65536) (by omega) (by omega)
  simp only [r1, r2, r3]
  exact k
theorem ex_body : bodyP 2 [97, 98, 99] = [50, 13, 10, 97, 98, 13, 10, 49, 13, 10, 99, 13, 10, 48, 13, 10, 13, 10] := by
  have h2 : lineL 2 = [50, 13, 10] := by unfold lineL; rw [hexL_lt (by decide)]; rfl
  have h1 : lineL 1 = [49, 13, 10] := by unfold lineL; rw [hexL_lt (by decide)]; rfl
  have h0 : lineL 0 = [48, 13, 10] := by unfold lineL; rw [hexL_lt (by decide)]; rfl
  have hc : List.range (cntN 2 ([97, 98, 99] : List UInt8).length) = [0, 1] := rfl
  have p0 : partP 2 [97, 98, 99] 0 = [97, 98] := rfl
  have p1 : partP 2 [97, 98, 99] 1 = [99] := rfl
  unfold bodyP outP
  rw [hc]
  simp only [List.flatMap_cons, List.flatMap_nil, p0, p1, chunkP, List.length_cons, List.length_nil, Nat.zero_add, Nat.reduceAdd, h0, h1, h2]
  rfl
def d11 (xs : List AV) (H : Heap) (K : Kv) : Prop := xs = [] ∧ H.keys.Nodup ∧ cellsOnly H ∧ K.ap (.bool true) H
theorem d11_of (P : Program) {G : Nat → Option (List AV)} {xs : List AV} {H : Heap} {K : Kv} (h : d11 xs H K) : @xF ⟨G, P, [(12, d12)]⟩ f11 xs H ⟨fun v H' => ∃ H0, Hle H0 H' ∧ K.ap v H0⟩ := by
  obtain ⟨rfl, hn, hc, k⟩ := h
  simp (implicitDefEqProofs := false) only [sB, simprocAttr, f11]
  refine i_new fun z hz => ?_
  simp (implicitDefEqProofs := false) only [sB, simprocAttr]
  refine ⟨[97, 98, 99], _, 2, rfl, by decide, List.nodup_cons.2 ⟨hz, hn⟩, hc.cons rfl, fun h => by omega, fun _ _ => ?_⟩
  rw [show (2 : Int).toNat = 2 from rfl, ex_body]
  simp (implicitDefEqProofs := false) only [sB, simprocAttr]
  exact ⟨_, .tail _ _, k⟩
def e18 (xs : List AV) (H : Heap) (K : Kv) : Prop := ∃ n : Nat, xs = [.int .i64 n] ∧ 1 ≤ n ∧ n ≤ 65536 ∧ K.ap (.int .i64 (hexL n).length) H
theorem e18_of (P : Program) {G : Nat → Option (List AV)} {xs : List AV} {H : Heap} {K : Kv} (h : e18 xs H K) : @xF ⟨G, P, []⟩ f18 xs H ⟨fun v H' => ∃ H0, Hle H0 H' ∧ K.ap v H0⟩ := by
  obtain ⟨n, rfl, h1, h2, k⟩ := h
  simp (implicitDefEqProofs := false) only [sB, simprocAttr, f18]
  have hp : ∀ m, 1 ≤ (hexL m).length := fun m => by rw [hexL]; split <;> simp
  have h5 : (hexL n).length ≤ 100 := by
    have := lineL_len h2
    unfold lineL at this
    rw [List.length_append] at this
    simp only [List.length_cons, List.length_nil] at this
    omega
  refine i_loopJ (fun σ H1 => ∃ (m c : Nat), H1 = H ∧ ((0 < m ∧ m ≤ n ∧ (hexL n).length = (hexL m).length + c) ∨ (m = 0 ∧ c = (hexL n).length)) ∧ σ = [(0, .int .i64 m), (3, .int .i64 c)])
    (fun σ _ => match σ.get 0 with | .int _ n => n.toNat | _ => 0)
    (fun e σ H1 => e = .exit 0 ∧ H1 = H ∧ σ.get 3 = .int .i64 (hexL n).length)
    ⟨_, .refl _, n, 0, rfl, .inl ⟨by omega, Nat.le_refl _, rfl⟩, rfl⟩ ?_ ?_
  · rintro e σ H1 ⟨rfl, rfl, q3⟩
    simp (implicitDefEqProofs := false) only [sB, simprocAttr, q3]
    exact ⟨_, .refl _, k⟩
  · rintro Q hQ σ H1 ⟨m, c, rfl, hor, rfl⟩
    by_cases c0 : (0 : Int) < (m : Int)
    · rcases hor with ⟨h3, h4, h6⟩ | ⟨rfl, _⟩
      · have hm := hp m
        have r1 := w_i64 ((c : Int) + 1) (by omega) (by omega)
        have td : (m : Int).tdiv 16 = ((m / 16 : Nat) : Int) := by rw [Int.tdiv_eq_ediv_of_nonneg (by omega)]; omega
        have r2 := w_i64 ((m / 16 : Nat) : Int) (by omega) (by omega)
        simp (implicitDefEqProofs := false) only [sB, simprocAttr, c0, r1, td, r2]
        refine ⟨_, .refl _, ⟨m / 16, c + 1, rfl, ?_, by simp⟩, by omega⟩
        by_cases c1 : m < 16
        · have e1 := congrArg List.length (hexL_lt c1)
          rw [List.length_singleton] at e1
          exact .inr ⟨by omega, by omega⟩
        · have e1 := congrArg List.length (hexL_ge c1)
          rw [List.length_append, List.length_singleton] at e1
          exact .inl ⟨by omega, by omega, by omega⟩
      · omega
    · rcases hor with ⟨h3, _⟩ | ⟨rfl, h4⟩
      · omega
      · simp (implicitDefEqProofs := false) only [sB, simprocAttr, c0]
        exact hQ _ _ _ ⟨rfl, rfl, by rw [← h4]; rfl⟩
theorem cO_nil : cellsOnly [] := fun _ h => by cases h
theorem alive_in {H : Heap} {K : Kv} (hn : H.keys.Nodup) (hc : cellsOnly H) (k : K.ap (.bool true) H) : d11 [] H K := ⟨rfl, hn, hc, k⟩
theorem FX.cells {p : Nat} {s : FS} {H R : Heap} (h : FX p s H R) (hR : cellsOnly R) : cellsOnly H := by
  obtain ⟨_, tk, _, hp⟩ := h
  exact (hR.cons rfl).perm hp
end Go.AL.Fun
