/- The decoder of chunked bodies: a byte, walked. -/
import Derived.Test.YtcmgeflfapffoaaDoorY11
set_option linter.unusedSimpArgs false
set_option linter.unusedVariables false
set_option maxRecDepth 100000
set_option maxHeartbeats 4000000
namespace Go.AL.Fun
open Go Go.AL

def dC (s : DS) (t1 t2 t3 : Tok) : AObj := .cells [.int .i64 (s.st : Nat), .sl (bytesAV s.line) t1, .int .i64 (s.left : Nat), .sl (bytesAV s.out) t2, .sl (iAV s.sizes) t3, .int .i64 (s.off : Nat), .int .i64 s.err]
/-- A decoder in good order, beside R. -/
def DOk (p : Nat) (s : DS) (H R : Heap) : Prop := ∃ t1 t2 t3, GT (bytesAV s.line) t1 ∧ GT (bytesAV s.out) t2 ∧ GT (iAV s.sizes) t3 ∧ H.Perm ((p, dC s t1 t2 t3) :: (tokH t1 ++ (tokH t2 ++ (tokH t3 ++ R))))
/-- One that has failed. -/
def DErr (p : Nat) (s : DS) (H R : Heap) : Prop := ∃ t1 t2 t3, (t2 = .nil → s.out = []) ∧ (t3 = .nil → s.sizes = []) ∧ H.Perm ((p, dC s t1 t2 t3) :: R)
def DEc (p : Nat) (s : DS) (e : Int) (H R : Heap) : Prop := H.keys.Nodup ∧ (e = 0 → DOk p s H R) ∧ (e ≠ 0 → DErr p s H R)
theorem GT.nil_of {xs : List AV} {t : Tok} (h : GT xs t) (e : t = .nil) : xs = [] := by subst e; exact h
theorem by_nil {l : List UInt8} (h : bytesAV l = []) : l = [] := List.map_eq_nil_iff.1 h
theorem iAV_nil {l : List Int} (h : iAV l = []) : l = [] := List.map_eq_nil_iff.1 h

theorem sub3 (A B C R : Heap) : R.Sublist (A ++ (B ++ (C ++ R))) := (List.sublist_append_right C R).trans ((List.sublist_append_right B _).trans (List.sublist_append_right A _))
theorem sub_take {H Y X : Heap} {Q : Heap → Prop} (hp : H.Perm Y) (hn : H.keys.Nodup) (hs : X.Sublist Y) (k : X.keys.Nodup → Q X) : ∃ H0, Hle H0 H ∧ Q H0 := ⟨X, hle_sub hp hs, k (nodup_sub hp hs hn)⟩
def c40 (xs : List AV) (H : Heap) (K : Kv) : Prop := ∃ (p : Nat) (s : DS) (t1 t2 t3 : Tok) (c w : UInt8) (n : Nat), xs = [.ptr p 0, byteAV c, byteAV w, .int .i64 n] ∧ lookH p H = some (dC s t1 t2 t3) ∧
  (c = w → K.ap (.int .i64 0) (setH p (dC { s with st := n } t1 t2 t3) H)) ∧ (c ≠ w → K.ap (.int .i64 5) H)
theorem c40_of (P : Program) {G : Nat → Option (List AV)} {xs : List AV} {H : Heap} {K : Kv} (h : c40 xs H K) : @xF ⟨G, P, []⟩ f46 xs H ⟨fun v H' => ∃ H0, Hle H0 H' ∧ K.ap v H0⟩ := by
  obtain ⟨p, s, t1, t2, t3, c, w, n, rfl, hl, h1, h2⟩ := h
  obtain ⟨st, line, left, out, sizes, off, err⟩ := s
  simp only [dC] at hl h1
  by_cases cw : c = w
  · simp (implicitDefEqProofs := false) only [sB, simprocAttr, f46, byteAV_n8, n8_eq, cw, hl]
    exact ⟨_, .refl _, h1 cw⟩
  · simp (implicitDefEqProofs := false) only [sB, simprocAttr, f46, byteAV_n8, n8_eq, cw]
    exact ⟨_, .refl _, h2 cw⟩

def c39 (xs : List AV) (H : Heap) (K : Kv) : Prop := ∃ (p : Nat) (s : DS) (c : UInt8) (R : Heap), xs = [.ptr p 0, byteAV c] ∧ H.keys.Nodup ∧ DOk p s H R ∧ s.st = 0 ∧ s.line.length ≤ 1073741824 ∧ s.sizes.length ≤ 1073741824 ∧
  ∀ H', DEc p (s.step c).1 (s.step c).2 H' R → K.ap (.int .i64 (s.step c).2) H'
theorem c39_of (P : Program) {G : Nat → Option (List AV)} {xs : List AV} {H : Heap} {K : Kv} (h : c39 xs H K) : @xF ⟨G, P, [(49, c27)]⟩ f45 xs H ⟨fun v H' => ∃ H0, Hle H0 H' ∧ K.ap v H0⟩ := by
  obtain ⟨p, s, c, R, rfl, hn, ⟨t1, t2, t3, g1, g2, g3, hp⟩, h0, hl1, hl2, k⟩ := h
  obtain ⟨st, line, left, out, sizes, off, err⟩ := s
  simp only at h0 hl1 hl2 g1 g2 g3
  subst h0
  simp only [dC] at hp
  have hlk := look_head hp hn
  simp (implicitDefEqProofs := false) only [sB, simprocAttr, f45, hlk, byteAV_n8]
  refine i_new fun z hz => ?_
  simp (implicitDefEqProofs := false) only [sB, simprocAttr]
  refine i_appX (A := (z, .cells (bytesAV [c])) :: [(p, dC ⟨0, line, left, out, sizes, off, err⟩ t1 t2 t3)]) (R := tokH t2 ++ (tokH t3 ++ R)) (tk := t1) (xs := bytesAV line) (ys := bytesAV [c]) (hp.cons _) (List.nodup_cons.2 ⟨hz, hn⟩) g1 (src_cells (xs := bytesAV [c]) (by simp only [lookH, if_true]; rfl) (allSz_bytes _) rfl) (allSz_bytes _) ?_ ?_ fun t1' H1 q1 q2 q3 => ?_
  · simp only [by_len, List.length_singleton, maxLen_eq]; omega
  · simp only [by_len, List.length_singleton]; omega
  rw [by_app] at q1 ⊢
  simp only [dC, List.cons_append, List.nil_append] at q2
  have hp2 := q2.trans (.swap _ _ _)
  have hlk2 := look_head hp2 q3
  simp (implicitDefEqProofs := false) only [sB, simprocAttr]
  refine ⟨line ++ [c], t1', rfl, by rw [List.length_append, List.length_singleton]; omega, ?_⟩
  unfold DS.step at k
  simp only [if_true] at k
  obtain ⟨⟨n, kk, e⟩, hpp⟩ : ∃ x, parseP (line ++ [c]) = x := ⟨_, rfl⟩
  rw [hpp] at k ⊢
  simp only at k
  by_cases c7 : e = 7
  · subst c7
    simp (implicitDefEqProofs := false) only [sB, simprocAttr, tup3, hlk2]
    have h4 := set_head (dC ⟨0, line ++ [c], left, out, sizes, off, err⟩ t1' t2 t3) hp2 q3
    refine ⟨_, hle_sub h4 (.cons_cons _ (.cons _ (.refl _))), k _ ⟨?_, fun _ => ⟨t1', t2, t3, q1, g2, g3, .refl _⟩, fun h => absurd rfl h⟩⟩
    exact nodup_sub h4 (.cons_cons _ (.cons _ (.refl _))) (set_nodup _ q3)
  · by_cases ce : e = 0
    · subst ce
      have h4 := set_head (dC ⟨1, [], n, out, sizes, off, err⟩ .nil t2 t3) hp2 q3
      simp only [dC] at h4
      have n4 := set_nodup (p := p) (.cells [.int .i64 (1 : Nat), .sl (bytesAV []) .nil, .int .i64 (n : Nat), .sl (bytesAV out) t2, .sl (iAV sizes) t3, .int .i64 (off : Nat), .int .i64 err]) q3
      simp (implicitDefEqProofs := false) only [sB, simprocAttr, tup3, hlk2]
      refine i_sl ⟨⟨iAV_sz [(n : Int)], rfl, rfl⟩, i_new fun y hy => ?_⟩
      simp (implicitDefEqProofs := false) only [sB, simprocAttr]
      refine i_app (A := (y, .spare 1) :: (p, dC ⟨1, [], n, out, sizes, off, err⟩ .nil t2 t3) :: (z, .cells (bytesAV [c])) :: (tokH t1' ++ tokH t2)) (R := R) (tk := t3) (xs := iAV sizes) (ys := iAV [(n : Int)]) (show List.Perm _ ((y, AObj.spare 1) :: (p, dC ⟨1, [], n, out, sizes, off, err⟩ .nil t2 t3) :: (z, .cells (bytesAV [c])) :: ((tokH t1' ++ tokH t2) ++ (tokH t3 ++ R))) by rw [List.append_assoc]; exact h4.cons _) (List.nodup_cons.2 ⟨hy, n4⟩) g3 (.inl ⟨_, rfl⟩) (iAV_sz _) (iAV_sz _) ?_ ?_ fun t3' H2 r1 r2 r3 => ?_
      · simp only [iAV_len, List.length_singleton, maxLen_eq]; omega
      · simp only [iAV_len, List.length_singleton]; omega
      rw [iAV_app] at r1 ⊢
      simp only [dC, List.cons_append, List.append_assoc] at r2
      have r4 := r2.trans (.swap _ _ _)
      have hlk3 := look_head r4 r3
      have sb : (tokH .nil ++ (tokH t2 ++ (tokH t3' ++ R))).Sublist ((y, AObj.spare 1) :: (z, AObj.cells (bytesAV [c])) :: (tokH t1' ++ (tokH t2 ++ (tokH t3' ++ R)))) := .cons _ (.cons _ (List.sublist_append_right _ _))
      by_cases cn : n = 0
      · subst cn
        simp (implicitDefEqProofs := false) only [sB, simprocAttr, hlk3]
        have h5 := set_head (dC ⟨2, [], 0, out, sizes ++ [0], off, err⟩ .nil t2 t3') r4 r3
        exact sub_take (Q := fun X => K.ap _ X) h5 (set_nodup _ r3) (sb.cons_cons _) fun hx => k _ ⟨hx, fun _ => ⟨.nil, t2, t3', rfl, g2, r1, .refl _⟩, fun h => absurd rfl h⟩
      · have cn' : ¬ (n : Int) = 0 := by omega
        simp (implicitDefEqProofs := false) only [sB, simprocAttr, cn', hlk3]
        simp only [show ¬ (0 : Int) = 7 by decide, if_false, if_true, if_neg cn] at k
        have h5 := set_head (dC ⟨1, [], n, out, sizes ++ [(n : Int)], off, err⟩ .nil t2 t3') r4 r3
        exact sub_take (Q := fun X => K.ap _ X) h5 (set_nodup _ r3) (sb.cons_cons _) fun hx => k _ ⟨hx, fun _ => ⟨.nil, t2, t3', rfl, g2, r1, .refl _⟩, fun h => absurd rfl h⟩
    · have n1 : ¬ (7 : Int) = e := fun h => c7 h.symm
      simp (implicitDefEqProofs := false) only [sB, simprocAttr, tup3, c7, ce]
      simp only [c7, ce, if_false] at k
      exact sub_take (Q := fun X => K.ap _ X) hp2 q3 ((List.Sublist.cons _ (sub3 _ _ _ _)).cons_cons _) fun hx => k _ ⟨hx, fun h => absurd h ce, fun _ => ⟨t1, t2, t3, fun h => by_nil (GT.nil_of g2 h), fun h => iAV_nil (GT.nil_of g3 h), .refl _⟩⟩

theorem x_c40 {p : Nat} {s : DS} {t1 t2 t3 : Tok} {c w : UInt8} {n : Nat} {H : Heap} {K : Kv} (hl : lookH p H = some (dC s t1 t2 t3)) (h1 : c = w → K.ap (.int .i64 0) (setH p (dC { s with st := n } t1 t2 t3) H)) (h2 : c ≠ w → K.ap (.int .i64 5) H) : c40 [.ptr p 0, byteAV c, byteAV w, .int .i64 n] H K := ⟨p, s, t1, t2, t3, c, w, n, rfl, hl, h1, h2⟩
def c29 (xs : List AV) (H : Heap) (K : Kv) : Prop := ∃ (p : Nat) (s : DS) (c : UInt8) (R : Heap), xs = [.ptr p 0, byteAV c] ∧ H.keys.Nodup ∧ DOk p s H R ∧ s.Ok ∧ s.off ≤ 1073741824 ∧
  ∀ H', DEc p (s.step c).1 (s.step c).2 H' R → K.ap (.int .i64 (s.step c).2) H'
theorem c29_of (P : Program) {G : Nat → Option (List AV)} {xs : List AV} {H : Heap} {K : Kv} (h : c29 xs H K) : @xF ⟨G, P, [(45, c39), (46, c40)]⟩ f40 xs H ⟨fun v H' => ∃ H0, Hle H0 H' ∧ K.ap v H0⟩ := by
  obtain ⟨p, s, c, R, rfl, hn, hD, hs, ho, k⟩ := h
  obtain ⟨hlen, hleft, hlb, hsz⟩ := hs
  by_cases c0 : s.st = 0
  · obtain ⟨t1, t2, t3, g1, g2, g3, hp⟩ := id hD
    have hlk := look_head hp hn
    simp only [dC, c0] at hlk
    simp (implicitDefEqProofs := false) only [sB, simprocAttr, f40, hlk]
    refine ⟨p, s, c, R, rfl, hn, hD, c0, by omega, by omega, fun H' hE => ?_⟩
    simp (implicitDefEqProofs := false) only [sB, simprocAttr]
    exact ⟨_, .refl _, k _ hE⟩
  obtain ⟨t1, t2, t3, g1, g2, g3, hp⟩ := hD
  have hr := step_r s c
  obtain ⟨st, line, left, out, sizes, off, err⟩ := s
  simp only at c0 hlen hleft hlb hsz ho g1 g2 g3
  simp only [dC] at hp
  have hlk := look_head hp hn
  generalize DS.step ⟨st, line, left, out, sizes, off, err⟩ c = x at hr k
  cases hr with
  | line h0 _ => exact absurd h0 c0
  | size h0 _ _ _ => exact absurd h0 c0
  | bad h0 _ _ _ _ => exact absurd h0 c0
  | out h0 =>
    simp only at h0
    subst h0
    have hlf := hleft rfl
    simp (implicitDefEqProofs := false) only [sB, simprocAttr, f40, hlk, byteAV_n8]
    refine i_new fun z hz => ?_
    simp (implicitDefEqProofs := false) only [sB, simprocAttr]
    refine i_appX (A := (z, .cells (bytesAV [c])) :: (p, dC ⟨1, line, left, out, sizes, off, err⟩ t1 t2 t3) :: tokH t1) (R := tokH t3 ++ R) (tk := t2) (xs := bytesAV out) (ys := bytesAV [c]) (hp.cons _) (List.nodup_cons.2 ⟨hz, hn⟩) g2 (src_cells (xs := bytesAV [c]) (by simp only [lookH, if_true]; rfl) (allSz_bytes _) rfl) (allSz_bytes _) ?_ ?_ fun t2' H1 q1 q2 q3 => ?_
    · simp only [by_len, List.length_singleton, maxLen_eq]; omega
    · simp only [by_len, List.length_singleton]; omega
    rw [by_app] at q1 ⊢
    simp only [dC, List.cons_append, List.nil_append] at q2
    have hp2 := q2.trans (.swap _ _ _)
    have hlk2 := look_head hp2 q3
    have wl := w_i64 ((left : Int) - 1) (by omega) (by omega)
    have el : (left : Int) - 1 = ((left - 1 : Nat) : Int) := by omega
    by_cases c1 : left = 1
    · subst c1
      simp (implicitDefEqProofs := false) only [sB, simprocAttr, hlk2]
      have h5 := set_head (dC ⟨2, line, 0, out ++ [c], sizes, off, err⟩ t1 t2' t3) hp2 q3
      exact sub_take (Q := fun X => K.ap _ X) h5 (set_nodup _ q3) ((List.Sublist.cons _ (.refl _)).cons_cons _) fun hx => k _ ⟨hx, ⟨fun _ => ⟨t1, t2', t3, g1, q1, g3, .refl _⟩, fun h => absurd rfl h⟩⟩
    · have c1' : ¬ (left : Int) - 1 = 0 := by omega
      simp (implicitDefEqProofs := false) only [sB, simprocAttr, hlk2, wl, c1']
      rw [el]
      have h5 := set_head (dC ⟨1, line, left - 1, out ++ [c], sizes, off, err⟩ t1 t2' t3) hp2 q3
      simp only [if_neg c1] at k
      exact sub_take (Q := fun X => K.ap _ X) h5 (set_nodup _ q3) ((List.Sublist.cons _ (.refl _)).cons_cons _) fun hx => k _ ⟨hx, ⟨fun _ => ⟨t1, t2', t3, g1, q1, g3, .refl _⟩, fun h => absurd rfl h⟩⟩
  | cr h0 hc =>
    simp only at h0
    subst h0 hc
    simp (implicitDefEqProofs := false) only [sB, simprocAttr, f40, hlk]
    refine x_c40 (n := 3) (s := ⟨2, line, left, out, sizes, off, err⟩) hlk (fun _ => ?_) fun h => absurd rfl h
    simp (implicitDefEqProofs := false) only [sB, simprocAttr]
    have h5 := set_head (dC ⟨3, line, left, out, sizes, off, err⟩ t1 t2 t3) hp hn
    exact sub_take (Q := fun X => K.ap _ X) h5 (set_nodup _ hn) (.refl _) fun hx => k _ ⟨hx, ⟨fun _ => ⟨t1, t2, t3, g1, g2, g3, .refl _⟩, fun h => absurd rfl h⟩⟩
  | ncr h0 hc =>
    simp only at h0
    subst h0
    simp (implicitDefEqProofs := false) only [sB, simprocAttr, f40, hlk]
    refine x_c40 (n := 3) (w := 13) (s := ⟨2, line, left, out, sizes, off, err⟩) hlk (fun h => absurd h hc) fun _ => ?_
    simp (implicitDefEqProofs := false) only [sB, simprocAttr]
    exact sub_take (Q := fun X => K.ap _ X) hp hn ((sub3 _ _ _ _).cons_cons _) fun hx => k _ ⟨hx, ⟨fun h => absurd h (by simp), fun _ => ⟨t1, t2, t3, fun h => by_nil (GT.nil_of g2 h), fun h => iAV_nil (GT.nil_of g3 h), .refl _⟩⟩⟩
  | lf h0 hc =>
    simp only at h0
    subst h0 hc
    obtain ⟨a, x, rfl⟩ : ∃ a x, sizes = a ++ [x] := ⟨_, _, (List.dropLast_concat_getLast (hsz c0)).symm⟩
    have ln : (iAV (a ++ [x])).length = a.length + 1 := by rw [iAV_len, List.length_append]; rfl
    rw [List.length_append, List.length_singleton] at hlen
    have wa := w_i64 (((a.length + 1 : Nat) : Int) - 1) (by omega) (by omega)
    have ea : (((a.length + 1 : Nat) : Int) - 1).toNat = a.length := by omega
    have eg : (iAV (a ++ [x]))[a.length]? = some (.int .i64 x) := by rw [iAV_get, List.getElem?_append_right (Nat.le_refl _), Nat.sub_self]; rfl
    have e0 : (0 : Int) ≤ ((a.length + 1 : Nat) : Int) - 1 := by omega
    rw [List.getLast?_concat] at k
    by_cases cx : x = 0
    · subst cx
      simp (implicitDefEqProofs := false) only [sB, simprocAttr, f40, hlk, ln, wa, ea, eg, e0]
      refine x_c40 (n := 4) (s := ⟨3, line, left, out, a ++ [0], off, err⟩) hlk (fun _ => ?_) fun h => absurd rfl h
      simp (implicitDefEqProofs := false) only [sB, simprocAttr]
      have h5 := set_head (dC ⟨4, line, left, out, a ++ [0], off, err⟩ t1 t2 t3) hp hn
      exact sub_take (Q := fun X => K.ap _ X) h5 (set_nodup _ hn) (.refl _) fun hx => k _ ⟨hx, ⟨fun _ => ⟨t1, t2, t3, g1, g2, g3, .refl _⟩, fun h => absurd rfl h⟩⟩
    · simp (implicitDefEqProofs := false) only [sB, simprocAttr, f40, hlk, ln, wa, ea, eg, e0, cx]
      refine x_c40 (n := 0) (s := ⟨3, line, left, out, a ++ [x], off, err⟩) hlk (fun _ => ?_) fun h => absurd rfl h
      simp (implicitDefEqProofs := false) only [sB, simprocAttr]
      have h5 := set_head (dC ⟨0, line, left, out, a ++ [x], off, err⟩ t1 t2 t3) hp hn
      have cx' : ¬ some x = some (0 : Int) := fun h => cx (Option.some.inj h)
      simp only [if_neg cx'] at k
      exact sub_take (Q := fun X => K.ap _ X) h5 (set_nodup _ hn) (.refl _) fun hx => k _ ⟨hx, ⟨fun _ => ⟨t1, t2, t3, g1, g2, g3, .refl _⟩, fun h => absurd rfl h⟩⟩
  | nlf h0 hc =>
    simp only at h0
    subst h0
    obtain ⟨a, x, rfl⟩ : ∃ a x, sizes = a ++ [x] := ⟨_, _, (List.dropLast_concat_getLast (hsz c0)).symm⟩
    have ln : (iAV (a ++ [x])).length = a.length + 1 := by rw [iAV_len, List.length_append]; rfl
    rw [List.length_append, List.length_singleton] at hlen
    have wa := w_i64 (((a.length + 1 : Nat) : Int) - 1) (by omega) (by omega)
    have ea : (((a.length + 1 : Nat) : Int) - 1).toNat = a.length := by omega
    have eg : (iAV (a ++ [x]))[a.length]? = some (.int .i64 x) := by rw [iAV_get, List.getElem?_append_right (Nat.le_refl _), Nat.sub_self]; rfl
    have e0 : (0 : Int) ≤ ((a.length + 1 : Nat) : Int) - 1 := by omega
    by_cases cx : x = 0
    · subst cx
      simp (implicitDefEqProofs := false) only [sB, simprocAttr, f40, hlk, ln, wa, ea, eg, e0]
      refine x_c40 (n := 4) (w := 10) (s := ⟨3, line, left, out, a ++ [0], off, err⟩) hlk (fun h => absurd h hc) fun _ => ?_
      simp (implicitDefEqProofs := false) only [sB, simprocAttr]
      exact sub_take (Q := fun X => K.ap _ X) hp hn ((sub3 _ _ _ _).cons_cons _) fun hx => k _ ⟨hx, ⟨fun h => absurd h (by simp), fun _ => ⟨t1, t2, t3, fun h => by_nil (GT.nil_of g2 h), fun h => iAV_nil (GT.nil_of g3 h), .refl _⟩⟩⟩
    · simp (implicitDefEqProofs := false) only [sB, simprocAttr, f40, hlk, ln, wa, ea, eg, e0, cx]
      refine x_c40 (n := 0) (w := 10) (s := ⟨3, line, left, out, a ++ [x], off, err⟩) hlk (fun h => absurd h hc) fun _ => ?_
      simp (implicitDefEqProofs := false) only [sB, simprocAttr]
      exact sub_take (Q := fun X => K.ap _ X) hp hn ((sub3 _ _ _ _).cons_cons _) fun hx => k _ ⟨hx, ⟨fun h => absurd h (by simp), fun _ => ⟨t1, t2, t3, fun h => by_nil (GT.nil_of g2 h), fun h => iAV_nil (GT.nil_of g3 h), .refl _⟩⟩⟩
  | more g0 g1' g2' g3' =>
    simp only at g0 g1' g2' g3'
    have e0 : ¬ (st : Int) = 0 := by omega
    have e1 : ¬ (st : Int) = 1 := by omega
    have e2 : ¬ (st : Int) = 2 := by omega
    have e3 : ¬ (st : Int) = 3 := by omega
    simp (implicitDefEqProofs := false) only [sB, simprocAttr, f40, hlk, e0, e1, e2, e3]
    exact sub_take (Q := fun X => K.ap _ X) hp hn ((sub3 _ _ _ _).cons_cons _) fun hx => k _ ⟨hx, ⟨fun h => absurd h (by simp), fun _ => ⟨t1, t2, t3, fun h => by_nil (GT.nil_of g2 h), fun h => iAV_nil (GT.nil_of g3 h), .refl _⟩⟩⟩
end Go.AL.Fun
