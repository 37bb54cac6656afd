/- The framer's methods. -/
import Derived.Test.YtcmgeflfapffoaaDoorFB
set_option linter.unusedSimpArgs false
set_option linter.unusedVariables false
set_option maxRecDepth 100000
set_option maxHeartbeats 4000000
namespace Go.AL.Fun
open Go Go.AL

/-- A chunk of some bytes. -/
def chunkP (b : List UInt8) : List UInt8 := lineL b.length ++ (b ++ [13, 10])
structure FS where
  most : Int
  pend : List UInt8
  fin : Bool
def fO (s : FS) (tk : Tok) : AObj := .cells [.int .i64 s.most, .sl (bytesAV s.pend) tk, .bool s.fin]
def FX (p : Nat) (s : FS) (H R : Heap) : Prop := H.keys.Nodup ∧ ∃ tk, (tk = .nil → s.pend = []) ∧ H.Perm ((p, fO s tk) :: R)
theorem FX.look {p : Nat} {s : FS} {H R : Heap} (h : FX p s H R) : ∃ tk, (tk = .nil → s.pend = []) ∧ lookH p H = some (.cells [.int .i64 s.most, .sl (bytesAV s.pend) tk, .bool s.fin]) := by
  obtain ⟨hn, tk, ht, hp⟩ := h
  exact ⟨tk, ht, look_head hp hn⟩
theorem FX.lookR {p : Nat} {s : FS} {H R : Heap} (h : FX p s H R) {id : Nat} {o : AObj} (hl : lookH id R = some o) : lookH id H = some o := by
  obtain ⟨hn, tk, ht, hp⟩ := h
  exact look_app (A := [(p, fO s tk)]) hp hn id o hl
theorem FX.push {p z : Nat} {s : FS} {o : AObj} {H R : Heap} (h : FX p s H R) (hz : z ∉ H.keys) : FX p s ((z, o) :: H) ((z, o) :: R) := by
  obtain ⟨hn, tk, ht, hp⟩ := h
  exact ⟨List.nodup_cons.2 ⟨hz, hn⟩, tk, ht, (hp.cons _).trans (.swap _ _ _)⟩
theorem FX.permR {p : Nat} {s : FS} {H R R' : Heap} (h : FX p s H R) (hr : R.Perm R') : FX p s H R' := by
  obtain ⟨hn, tk, ht, hp⟩ := h
  exact ⟨hn, tk, ht, hp.trans (hr.cons _)⟩
theorem FX.weak {p : Nat} {s : FS} {H R H' : Heap} (h : FX p s H R) (hp : H'.Perm H) : FX p s H' R := by
  obtain ⟨hn, tk, ht, hq⟩ := h
  exact ⟨(hp.map Prod.fst).nodup_iff.2 hn, tk, ht, hp.trans hq⟩
theorem len_pos_iff {l : List UInt8} : (0 : Int) < (l.length : Int) ↔ l ≠ [] := by
  cases l with
  | nil => simp
  | cons a l => simp
def d14 (xs : List AV) (H : Heap) (K : Kv) : Prop := ∃ n : Int, xs = [.int .i64 n] ∧ H.keys.Nodup ∧ ((n < 1 ∨ 65536 < n) → K.ap (.tup [.nilp, .int .i64 3]) H) ∧ (1 ≤ n → n ≤ 65536 → ∀ p H', FX p ⟨n, [], false⟩ H' H → K.ap (.tup [.ptr p 0, .int .i64 0]) H')
theorem d14_of (P : Program) {G : Nat → Option (List AV)} {xs : List AV} {H : Heap} {K : Kv} (h : d14 xs H K) : @xF ⟨G, P, []⟩ f14 xs H ⟨fun v H' => ∃ H0, Hle H0 H' ∧ K.ap v H0⟩ := by
  obtain ⟨n, rfl, hn, k1, k2⟩ := h
  by_cases c1 : n < 1
  · simp (implicitDefEqProofs := false) only [sB, simprocAttr, f14, c1]
    exact ⟨_, .refl _, k1 (.inl c1)⟩
  by_cases c2 : 65536 < n
  · simp (implicitDefEqProofs := false) only [sB, simprocAttr, f14, c1, c2]
    exact ⟨_, .refl _, k1 (.inr c2)⟩
  simp (implicitDefEqProofs := false) only [sB, simprocAttr, f14, c1, c2]
  refine i_new fun p hp => ?_
  simp (implicitDefEqProofs := false) only [sB, simprocAttr]
  exact ⟨_, .refl _, k2 (by omega) (by omega) p _ ⟨List.nodup_cons.2 ⟨hp, hn⟩, .nil, fun _ => rfl, .refl _⟩⟩
def d36 (xs : List AV) (H : Heap) (K : Kv) : Prop := (xs = [.nilp] ∧ K.ap (.int .i64 1) H) ∨ ∃ (p : Nat) (s : FS) (R : Heap), xs = [.ptr p 0] ∧ FX p s H R ∧ ((s.pend ≠ [] ∨ s.fin = true) → K.ap (.int .i64 4) H) ∧ (s.pend = [] → s.fin = false → K.ap (.int .i64 0) H)
theorem d36_of (P : Program) {G : Nat → Option (List AV)} {xs : List AV} {H : Heap} {K : Kv} (h : d36 xs H K) : @xF ⟨G, P, []⟩ f36 xs H ⟨fun v H' => ∃ H0, Hle H0 H' ∧ K.ap v H0⟩ := by
  rcases h with ⟨rfl, k⟩ | ⟨p, s, R, rfl, hX, k1, k2⟩
  · simp (implicitDefEqProofs := false) only [sB, simprocAttr, f36]
    exact ⟨_, .refl _, k⟩
  obtain ⟨tk, ht, hlk⟩ := hX.look
  by_cases c : s.pend = []
  · have c0 : ¬ (0 : Int) < (s.pend.length : Int) := by rw [c]; simp
    cases hf : s.fin with
    | true =>
      simp (implicitDefEqProofs := false) only [sB, simprocAttr, f36, hlk, by_len, c0, hf]
      exact ⟨_, .refl _, k1 (.inr hf)⟩
    | false =>
      simp (implicitDefEqProofs := false) only [sB, simprocAttr, f36, hlk, by_len, c0, hf]
      exact ⟨_, .refl _, k2 c hf⟩
  · have c0 := len_pos_iff.2 c
    simp (implicitDefEqProofs := false) only [sB, simprocAttr, f36, hlk, by_len, c0]
    exact ⟨_, .refl _, k1 (.inl c)⟩
def d37 (xs : List AV) (H : Heap) (K : Kv) : Prop := ∃ (p : Nat) (s : FS) (x : AV) (b : List UInt8) (R : Heap), xs = [.ptr p 0, x] ∧ FX p s H R ∧ BSrc R x b ∧ b.length ≤ 65536 ∧ ∀ H', FX p { s with pend := chunkP b } H' R → K.ap (.int .i64 0) H'
theorem lineL_len {n : Nat} (h : n ≤ 65536) : (lineL n).length ≤ 102 := by
  have h1 := hexL_len_le 65536 n 65536 (Nat.le_refl _) h
  have h2 : (hexL 65536).length = 5 := by
    rw [hexL_ge (by decide), hexL_ge (by decide), hexL_ge (by decide), hexL_ge (by decide), hexL_lt (by decide)]; rfl
  unfold lineL
  rw [List.length_append]
  simp only [List.length_cons, List.length_nil]
  omega
theorem d37_of (P : Program) {G : Nat → Option (List AV)} {xs : List AV} {H : Heap} {K : Kv} (h : d37 xs H K) : @xF ⟨G, P, [(42, c24), (43, d43)]⟩ f37 xs H ⟨fun v H' => ∃ H0, Hle H0 H' ∧ K.ap v H0⟩ := by
  obtain ⟨p, s, x, b, R, rfl, hX, hx, hb, k⟩ := h
  have hxc := hx.cells
  have hxH : BSrc H x b := hx.mono fun id o h => hX.lookR h
  simp (implicitDefEqProofs := false) only [sB, simprocAttr, f37]
  refine bs_len hxH _ ?_
  simp (implicitDefEqProofs := false) only [sB, simprocAttr]
  refine ⟨_, rfl, hX.1, fun h => by omega, fun _ _ tk => ?_⟩
  rw [Int.toNat_natCast]
  have hll := lineL_len hb
  generalize hline : lineL b.length = line at *
  simp (implicitDefEqProofs := false) only [sB, simprocAttr]
  refine i_new fun z hz => ?_
  simp (implicitDefEqProofs := false) only [sB, simprocAttr, hxc]
  refine i_sl ⟨⟨?_, rfl, ?_⟩, i_new fun z2 hz2 => ?_⟩
  · intro y hy
    simp only [List.mem_cons, List.not_mem_nil, or_false] at hy
    rcases hy with rfl | rfl | rfl
    · rfl
    · rw [hxc]; rfl
    · rfl
  · simp only [flat, List.flatMap_cons, List.flatMap_nil, hxc]
    rfl
  simp (implicitDefEqProofs := false) only [sB, simprocAttr]
  have hz2' : z2 ∉ Heap.keys ((z, AObj.spare 2) :: H) := hz2
  have hX2 := (hX.push (o := .spare 2) hz).push (o := .spare 3) hz2'
  have hxH2 : BSrc ((z2, .spare 3) :: (z, .spare 2) :: H) x b := hx.mono fun id o h => by
    have hlk := hX2.lookR (id := id) (o := o)
    refine hlk ?_
    have h1 := hX.lookR h
    have n1 : ¬ id = z2 := fun e => hz2 (by rw [← e]; exact List.mem_cons_of_mem _ (List.mem_map.2 ⟨_, lookH_mem h1, rfl⟩))
    have n2 : ¬ id = z := fun e => hz (by rw [← e]; exact List.mem_map.2 ⟨_, lookH_mem h1, rfl⟩)
    simp only [lookH, n1, n2, if_false]
    exact h
  refine ⟨_, _, _, line, b, [13, 10], _, rfl, hX2.1, .sl _ _, hxH2, .sl [13, 10] _, ?_, by decide, ?_⟩
  · simp only [List.length_cons, List.length_nil]; omega
  obtain ⟨tk2, ht2, hlk⟩ := hX2.look
  have hlk0 := hX.look.choose_spec.2
  have hpk : p ∈ Heap.keys H := List.mem_map.2 ⟨_, lookH_mem hlk0, rfl⟩
  have n1 : ¬ p = z2 := fun e => hz2 (by rw [← e]; exact List.mem_cons_of_mem _ hpk)
  have n2 : ¬ p = z := fun e => hz (by rw [← e]; exact hpk)
  simp (implicitDefEqProofs := false) only [sB, simprocAttr, hlk, n1, n2]
  obtain ⟨hn, tk3, ht3, hp⟩ := hX
  refine ⟨setH p (fO ⟨s.most, line ++ (b ++ [13, 10]), s.fin⟩ .no) H, Hle.right [_, _] _, k _ ⟨set_nodup _ hn, .no, (fun h => by cases h), ?_⟩⟩
  unfold chunkP
  rw [hline]
  exact set_head _ hp hn
def d15 (xs : List AV) (H : Heap) (K : Kv) : Prop := (∃ y, xs = [.nilp, y] ∧ K.ap (.int .i64 1) H) ∨ ∃ (p : Nat) (s : FS) (x : AV) (b : List UInt8) (R : Heap), xs = [.ptr p 0, x] ∧ FX p s H R ∧ BSrc R x b ∧ s.most ≤ 65536 ∧
  ((s.pend ≠ [] ∨ s.fin = true) → K.ap (.int .i64 4) H) ∧ (s.pend = [] → s.fin = false → (b = [] ∨ s.most < b.length) → K.ap (.int .i64 3) H) ∧
  (s.pend = [] → s.fin = false → b ≠ [] → (b.length : Int) ≤ s.most → ∀ H', FX p { s with pend := chunkP b } H' R → K.ap (.int .i64 0) H')
theorem d15_of (P : Program) {G : Nat → Option (List AV)} {xs : List AV} {H : Heap} {K : Kv} (h : d15 xs H K) : @xF ⟨G, P, [(36, d36), (37, d37)]⟩ f15 xs H ⟨fun v H' => ∃ H0, Hle H0 H' ∧ K.ap v H0⟩ := by
  rcases h with ⟨y, rfl, k⟩ | ⟨p, s, x, b, R, rfl, hX, hx, hm, k1, k2, k3⟩
  · simp (implicitDefEqProofs := false) only [sB, simprocAttr, f15]
    refine .inl ⟨rfl, ?_⟩
    simp (implicitDefEqProofs := false) only [sB, simprocAttr]
    exact ⟨_, .refl _, k⟩
  have hxH : BSrc H x b := hx.mono fun id o h => hX.lookR h
  obtain ⟨tk, ht, hlk⟩ := hX.look
  simp (implicitDefEqProofs := false) only [sB, simprocAttr, f15]
  refine .inr ⟨p, s, R, rfl, hX, fun h => ?_, fun h1 h2 => ?_⟩
  · simp (implicitDefEqProofs := false) only [sB, simprocAttr]
    exact ⟨_, .refl _, k1 h⟩
  · simp (implicitDefEqProofs := false) only [sB, simprocAttr]
    refine bs_len hxH _ ?_
    by_cases c : (b.length : Int) = 0
    · have cb : b = [] := List.length_eq_zero_iff.1 (by omega)
      simp (implicitDefEqProofs := false) only [sB, simprocAttr, c]
      exact ⟨_, .refl _, k2 h1 h2 (.inl cb)⟩
    have cb : b ≠ [] := fun e => c (by rw [e]; rfl)
    simp (implicitDefEqProofs := false) only [sB, simprocAttr, c]
    refine bs_len hxH _ ?_
    by_cases c2 : s.most < (b.length : Int)
    · simp (implicitDefEqProofs := false) only [sB, simprocAttr, hlk, c2]
      exact ⟨_, .refl _, k2 h1 h2 (.inr c2)⟩
    · simp (implicitDefEqProofs := false) only [sB, simprocAttr, hlk, c2]
      refine ⟨p, s, x, b, R, rfl, hX, hx, by omega, fun H' hX' => ?_⟩
      simp (implicitDefEqProofs := false) only [sB, simprocAttr]
      exact ⟨_, .refl _, k3 h1 h2 cb (by omega) _ hX'⟩
def d19 (xs : List AV) (H : Heap) (K : Kv) : Prop := (xs = [.nilp] ∧ K.ap (.int .i64 1) H) ∨ ∃ (p : Nat) (s : FS) (R : Heap), xs = [.ptr p 0] ∧ FX p s H R ∧
  ((s.pend ≠ [] ∨ s.fin = true) → K.ap (.int .i64 4) H) ∧ (s.pend = [] → s.fin = false → ∀ H', FX p ⟨s.most, chunkP [], true⟩ H' R → K.ap (.int .i64 0) H')
theorem d19_of (P : Program) {G : Nat → Option (List AV)} {xs : List AV} {H : Heap} {K : Kv} (h : d19 xs H K) : @xF ⟨G, P, [(36, d36), (37, d37)]⟩ f19 xs H ⟨fun v H' => ∃ H0, Hle H0 H' ∧ K.ap v H0⟩ := by
  rcases h with ⟨rfl, k⟩ | ⟨p, s, R, rfl, hX, k1, k2⟩
  · simp (implicitDefEqProofs := false) only [sB, simprocAttr, f19]
    refine .inl ⟨rfl, ?_⟩
    simp (implicitDefEqProofs := false) only [sB, simprocAttr]
    exact ⟨_, .refl _, k⟩
  simp (implicitDefEqProofs := false) only [sB, simprocAttr, f19]
  refine .inr ⟨p, s, R, rfl, hX, fun h => ?_, fun h1 h2 => ?_⟩
  · simp (implicitDefEqProofs := false) only [sB, simprocAttr]
    exact ⟨_, .refl _, k1 h⟩
  · obtain ⟨tk, ht, hlk⟩ := hX.look
    simp (implicitDefEqProofs := false) only [sB, simprocAttr, hlk]
    obtain ⟨hn, tk2, ht2, hp⟩ := hX
    obtain rfl : tk = tk2 := by have h3 := look_head hp hn; rw [hlk] at h3; simp only [fO, Option.some.injEq, AObj.cells.injEq, List.cons.injEq, AV.sl.injEq] at h3; exact h3.2.1.2
    refine ⟨p, ⟨s.most, s.pend, true⟩, _, [], R, rfl, ⟨set_nodup _ hn, tk, ht, set_head (fO ⟨s.most, s.pend, true⟩ tk) hp hn⟩, .sl [] _, by decide, fun H' hX' => ?_⟩
    simp (implicitDefEqProofs := false) only [sB, simprocAttr]
    exact ⟨_, .refl _, k2 h1 h2 _ hX'⟩
def d38 (xs : List AV) (H : Heap) (K : Kv) : Prop := ∃ (l : List UInt8) (t : Tok), xs = [.sl (bytesAV l) t] ∧ (t = .nil → l = []) ∧ l.length ≤ 1073741824 ∧ H.keys.Nodup ∧ ((∀ t', K.ap (.sl (bytesAV l) t') H) ∨ (l ≠ [] ∧ ∀ id H', H'.Perm ((id, .cells (bytesAV l)) :: H) → H'.keys.Nodup → K.ap (.msl id 0 l.length 1) H'))
theorem d38_of (P : Program) {G : Nat → Option (List AV)} {xs : List AV} {H : Heap} {K : Kv} (h : d38 xs H K) : @xF ⟨G, P, []⟩ f38 xs H ⟨fun v H' => ∃ H0, Hle H0 H' ∧ K.ap v H0⟩ := by
  obtain ⟨l, t, rfl, ht, hl, hn, k | ⟨hne, k⟩⟩ := h
  · by_cases c : t = .nil
    · have := ht c; subst this; subst c
      simp (implicitDefEqProofs := false) only [sB, simprocAttr, f38]
      exact ⟨_, .refl _, k _⟩
    · simp (implicitDefEqProofs := false) only [sB, simprocAttr, f38, c]
      refine i_emp hn fun id hid hn2 => ?_
      simp (implicitDefEqProofs := false) only [sB, simprocAttr]
      refine i_app (A := []) (R := H) (tk := .at id 0 1) (xs := []) (ys := bytesAV l) (.refl _) hn2 rfl (.inl ⟨_, rfl⟩) (allSz_bytes _) (by rw [allSz_nil]; trivial) ?_ ?_ fun t' H' h1 h2 h3 => ?_
      · simp only [by_len, List.length_nil, maxLen_eq]; omega
      · simp only [by_len, List.length_nil]; omega
      · simp (implicitDefEqProofs := false) only [sB, simprocAttr]
        exact ⟨H, hle_sub h2 (List.sublist_append_right (tokH t') H), k _⟩
  · have c : ¬ t = .nil := fun e => hne (ht e)
    simp (implicitDefEqProofs := false) only [sB, simprocAttr, f38, c]
    refine i_msl (i_new fun id hid => ?_)
    simp (implicitDefEqProofs := false) only [sB, simprocAttr]
    refine ⟨⟨by omega, by omega⟩, hid, i_otherM fun id2 hid2 => ?_⟩
    simp (implicitDefEqProofs := false) only [sB, simprocAttr, by_len]
    exact ⟨_, .refl _, k id2 _ (.refl _) (List.nodup_cons.2 ⟨hid2, hn⟩)⟩
def d16 (xs : List AV) (H : Heap) (K : Kv) : Prop := (xs = [.nilp] ∧ K.ap (.sl [] .nil) H) ∨ ∃ (p : Nat) (s : FS) (R : Heap), xs = [.ptr p 0] ∧ FX p s H R ∧ s.pend.length ≤ 1073741824 ∧
  ((∀ t', K.ap (.sl (bytesAV s.pend) t') H) ∨ (s.pend ≠ [] ∧ ∀ id H', FX p s H' ((id, .cells (bytesAV s.pend)) :: R) → K.ap (.msl id 0 s.pend.length 1) H'))
theorem d16_of (P : Program) {G : Nat → Option (List AV)} {xs : List AV} {H : Heap} {K : Kv} (h : d16 xs H K) : @xF ⟨G, P, [(38, d38)]⟩ f16 xs H ⟨fun v H' => ∃ H0, Hle H0 H' ∧ K.ap v H0⟩ := by
  rcases h with ⟨rfl, k⟩ | ⟨p, s, R, rfl, hX, hl, k⟩
  · simp (implicitDefEqProofs := false) only [sB, simprocAttr, f16]
    exact ⟨_, .refl _, k⟩
  obtain ⟨tk, ht, hlk⟩ := hX.look
  simp (implicitDefEqProofs := false) only [sB, simprocAttr, f16, hlk]
  rcases k with k | ⟨hne, k⟩
  · refine ⟨s.pend, tk, rfl, ht, hl, hX.1, .inl fun t' => ?_⟩
    simp (implicitDefEqProofs := false) only [sB, simprocAttr]
    exact ⟨_, .refl _, k t'⟩
  · refine ⟨s.pend, tk, rfl, ht, hl, hX.1, .inr ⟨hne, fun id H' h1 h2 => ?_⟩⟩
    obtain ⟨hn, tk2, ht2, hp⟩ := hX
    simp (implicitDefEqProofs := false) only [sB, simprocAttr]
    exact ⟨_, .refl _, k id H' ⟨h2, tk2, ht2, h1.trans ((hp.cons _).trans (.swap _ _ _))⟩⟩
def d20 (xs : List AV) (H : Heap) (K : Kv) : Prop := (∃ y, xs = [.nilp, y] ∧ K.ap (.int .i64 1) H) ∨ ∃ (p : Nat) (s : FS) (n : Int) (R : Heap), xs = [.ptr p 0, .int .i64 n] ∧ FX p s H R ∧
  ((n < 0 ∨ (s.pend.length : Int) < n) → K.ap (.int .i64 3) H) ∧ (0 ≤ n → n ≤ (s.pend.length : Int) → ∀ H', FX p { s with pend := s.pend.drop n.toNat } H' R → K.ap (.int .i64 0) H')
theorem d20_of (P : Program) {G : Nat → Option (List AV)} {xs : List AV} {H : Heap} {K : Kv} (h : d20 xs H K) : @xF ⟨G, P, []⟩ f20 xs H ⟨fun v H' => ∃ H0, Hle H0 H' ∧ K.ap v H0⟩ := by
  rcases h with ⟨y, rfl, k⟩ | ⟨p, s, n, R, rfl, hX, k1, k2⟩
  · simp (implicitDefEqProofs := false) only [sB, simprocAttr, f20]
    exact ⟨_, .refl _, k⟩
  obtain ⟨tk, ht, hlk⟩ := hX.look
  by_cases c1 : n < 0
  · simp (implicitDefEqProofs := false) only [sB, simprocAttr, f20, c1]
    exact ⟨_, .refl _, k1 (.inl c1)⟩
  by_cases c2 : (s.pend.length : Int) < n
  · simp (implicitDefEqProofs := false) only [sB, simprocAttr, f20, c1, hlk, by_len, c2]
    exact ⟨_, .refl _, k1 (.inr c2)⟩
  have n0 : 0 ≤ n := by omega
  have n1 : n ≤ (s.pend.length : Int) := by omega
  obtain ⟨hn, tk2, ht2, hp⟩ := hX
  obtain rfl : tk = tk2 := by have h3 := look_head hp hn; rw [hlk] at h3; simp only [fO, Option.some.injEq, AObj.cells.injEq, List.cons.injEq, AV.sl.injEq] at h3; exact h3.2.1.2
  simp (implicitDefEqProofs := false) only [sB, simprocAttr, f20, c1, hlk, by_len, c2, n0, n1]
  refine ⟨_, .refl _, k2 n0 n1 _ ⟨set_nodup _ hn, tk, fun e => by simp only [ht e, List.drop_nil], set_head (fO { s with pend := s.pend.drop n.toNat } tk) hp hn⟩⟩
def d21 (xs : List AV) (H : Heap) (K : Kv) : Prop := (xs = [.nilp] ∧ K.ap (.bool false) H) ∨ ∃ (p : Nat) (s : FS) (R : Heap), xs = [.ptr p 0] ∧ FX p s H R ∧ K.ap (.bool (s.fin && decide (s.pend = []))) H
theorem d21_of (P : Program) {G : Nat → Option (List AV)} {xs : List AV} {H : Heap} {K : Kv} (h : d21 xs H K) : @xF ⟨G, P, []⟩ f21 xs H ⟨fun v H' => ∃ H0, Hle H0 H' ∧ K.ap v H0⟩ := by
  rcases h with ⟨rfl, k⟩ | ⟨p, s, R, rfl, hX, k⟩
  · simp (implicitDefEqProofs := false) only [sB, simprocAttr, f21]
    exact ⟨_, .refl _, k⟩
  obtain ⟨tk, ht, hlk⟩ := hX.look
  cases hf : s.fin with
  | false =>
    rw [hf] at k
    simp (implicitDefEqProofs := false) only [sB, simprocAttr, f21, hlk, hf]
    exact ⟨_, .refl _, k⟩
  | true =>
    rw [hf] at k
    by_cases c : s.pend = []
    · have c0 : ((s.pend.length : Nat) : Int) = 0 := by rw [c]; rfl
      rw [decide_eq_true c] at k
      simp (implicitDefEqProofs := false) only [sB, simprocAttr, f21, hlk, hf, by_len, c0]
      exact ⟨_, .refl _, k⟩
    · have c0 : ¬ ((s.pend.length : Nat) : Int) = 0 := fun e => c (List.length_eq_zero_iff.1 (by omega))
      rw [decide_eq_false c] at k
      simp (implicitDefEqProofs := false) only [sB, simprocAttr, f21, hlk, hf, by_len, c0]
      exact ⟨_, .refl _, k⟩
end Go.AL.Fun
