/- The decoder of chunked bodies: its methods. -/
import Derived.Test.YtcmgeflfapffoaaDoorY12
set_option linter.unusedSimpArgs false
set_option linter.unusedVariables false
set_option maxRecDepth 100000
set_option maxHeartbeats 4000000
namespace Go.AL.Fun
open Go Go.AL

/-- A decoder, whatever its state. -/
def DX (p : Nat) (s : DS) (H R : Heap) : Prop := DEc p s s.err H R
theorem DX.look {p : Nat} {s : DS} {H R : Heap} (h : DX p s H R) : ∃ t1 t2 t3, (t2 = .nil → s.out = []) ∧ (t3 = .nil → s.sizes = []) ∧ lookH p H = some (dC s t1 t2 t3) := by
  obtain ⟨hn, h1, h2⟩ := h
  by_cases c : s.err = 0
  · obtain ⟨t1, t2, t3, g1, g2, g3, hp⟩ := h1 c
    exact ⟨t1, t2, t3, fun h => by_nil (GT.nil_of g2 h), fun h => iAV_nil (GT.nil_of g3 h), look_head hp hn⟩
  · obtain ⟨t1, t2, t3, g1, g2, hp⟩ := h2 c
    exact ⟨t1, t2, t3, g1, g2, look_head hp hn⟩
theorem DX.perm {p : Nat} {s : DS} {H H' R : Heap} (h : DX p s H R) (hp : H'.Perm H) : DX p s H' R := by
  obtain ⟨hn, h1, h2⟩ := h
  refine ⟨nodup_perm hp.symm hn, fun c => ?_, fun c => ?_⟩
  · obtain ⟨t1, t2, t3, g1, g2, g3, hq⟩ := h1 c
    exact ⟨t1, t2, t3, g1, g2, g3, hp.trans hq⟩
  · obtain ⟨t1, t2, t3, g1, g2, hq⟩ := h2 c
    exact ⟨t1, t2, t3, g1, g2, hp.trans hq⟩
theorem x_c29 {p : Nat} {s : DS} {c : UInt8} {R H : Heap} {K : Kv} (hD : DX p s H R) (h0 : s.err = 0) (hs : s.Ok) (ho : s.off ≤ 1073741824) (k : ∀ H', DEc p (s.step c).1 (s.step c).2 H' R → K.ap (.int .i64 (s.step c).2) H') : c29 [.ptr p 0, .int .u8 (n8 c)] H K :=
  ⟨p, s, c, R, rfl, hD.1, hD.2.1 h0, hs, ho, k⟩

def c14 (xs : List AV) (H : Heap) (K : Kv) : Prop := (∃ y, xs = [.nilp, y] ∧ K.ap (.int .i64 1) H) ∨ ∃ (p : Nat) (s : DS) (b : List UInt8) (t : Tok) (R : Heap), xs = [.ptr p 0, .sl (bytesAV b) t] ∧ DX p s H R ∧ s.Ok ∧ s.off + b.length ≤ 1073741824 ∧
  ∀ H', DX p (s.feed b) H' R → K.ap (.int .i64 (s.feed b).err) H'
theorem c14_of (P : Program) {G : Nat → Option (List AV)} {xs : List AV} {H : Heap} {K : Kv} (h : c14 xs H K) : @xF ⟨G, P, [(40, c29)]⟩ f29 xs H ⟨fun v H' => ∃ H0, Hle H0 H' ∧ K.ap v H0⟩ := by
  rcases h with ⟨y, rfl, k⟩ | ⟨p, s, b, t, R, rfl, hD, hs, hl, k⟩
  · simp (implicitDefEqProofs := false) only [sB, simprocAttr, f29]
    exact ⟨_, .refl _, k⟩
  simp (implicitDefEqProofs := false) only [sB, simprocAttr, f29]
  refine i_loopJ (fun σ H1 => ∃ (i : Nat), DX p (s.feed (b.take i)) H1 R ∧ i ≤ b.length ∧ σ = [(0, .ptr p 0), (9, .sl (bytesAV b) t), (10, .int .i64 b.length), (11, .int .i64 i)])
    (fun σ _ => match σ.get 11 with | .int _ n => b.length - n.toNat | _ => 0)
    (fun e σ H1 => e = .exit 0 ∧ DX p (s.feed b) H1 R ∧ σ.get 0 = .ptr p 0)
    ⟨_, .refl _, 0, hD, by omega, rfl⟩ ?_ ?_
  · rintro e σ H1 ⟨rfl, h1, q0⟩
    obtain ⟨t1, t2, t3, _, _, hlk⟩ := h1.look
    simp only [dC] at hlk
    simp (implicitDefEqProofs := false) only [sB, simprocAttr, q0, hlk]
    exact ⟨_, .refl _, k _ h1⟩
  · rintro Q hQ σ H1 ⟨i, hD1, hi, rfl⟩
    by_cases ci : i < b.length
    · have ci' : (i : Int) < (b.length : Int) := by omega
      have i0 : (0 : Int) ≤ (i : Int) := by omega
      have hg : b[i]? = some b[i] := List.getElem?_eq_getElem ci
      have htk : s.feed (b.take (i + 1)) = (s.feed (b.take i)).one b[i] := by
        rw [List.take_add_one, hg]
        show s.feed (b.take i ++ [b[i]]) = _
        rw [feed_app]; rfl
      have hs1 := feed_ok hs (b.take i)
      have ho1 := (feed_off s (b.take i)).2
      rw [List.length_take, Nat.min_eq_left hi] at ho1
      have hst : (s.feed (b.take i)).err ≠ 0 → s.feed b = s.feed (b.take i) := fun h => by
        have := feed_err h (b.drop i)
        rw [← feed_app, List.take_append_drop] at this
        exact this
      generalize s.feed (b.take i) = s1 at hD1 htk hs1 ho1 hst
      obtain ⟨t1, t2, t3, _, _, hlk⟩ := hD1.look
      simp only [dC] at hlk
      have r9 := w_i64 ((i : Int) + 1) (by omega) (by omega)
      by_cases ce : s1.err = 0
      · simp (implicitDefEqProofs := false) only [sB, simprocAttr, ci', i0, hg, hlk, ce, byteAV_n8]
        refine x_c29 hD1 ce hs1 (by omega) fun H2 hE => ?_
        have hse := step_err s1 b[i]
        have hone : s1.one b[i] = if (s1.step b[i]).2 = 0 then { (s1.step b[i]).1 with off := s1.off + 1, err := 0 } else { (s1.step b[i]).1 with err := (s1.step b[i]).2 } := by rw [DS.one, if_pos ce]
        generalize s1.step b[i] = x at hE hse hone
        obtain ⟨⟨st, line, left, out, sizes, off, err⟩, e⟩ := x
        simp only at hE hse hone
        obtain ⟨he1, he2⟩ := hse
        obtain ⟨hn2, hE1, hE2⟩ := hE
        by_cases c0 : e = 0
        · subst c0
          obtain ⟨u1, u2, u3, g1, g2, g3, hp⟩ := hE1 rfl
          simp only [dC] at hp
          have hlk2 := look_head hp hn2
          have r8 := w_i64 ((off : Int) + 1) (by omega) (by omega)
          simp (implicitDefEqProofs := false) only [sB, simprocAttr, hlk2, r8, r9]
          have h5 := set_head (dC ⟨st, line, left, out, sizes, off + 1, 0⟩ u1 u2 u3) hp hn2
          rw [if_pos rfl, ← he2] at hone
          exact ⟨_, .refl _, ⟨i + 1, ⟨set_nodup _ hn2, fun _ => by rw [htk, hone]; exact ⟨u1, u2, u3, g1, g2, g3, h5⟩, fun h => by rw [htk, hone] at h; exact absurd rfl h⟩, by omega, rfl⟩, by omega⟩
        · obtain ⟨u1, u2, u3, g1, g2, hp⟩ := hE2 c0
          simp only [dC] at hp
          have hlk2 := look_head hp hn2
          simp (implicitDefEqProofs := false) only [sB, simprocAttr, hlk2, r9, c0]
          have h5 := set_head (dC ⟨st, line, left, out, sizes, off, e⟩ u1 u2 u3) hp hn2
          rw [if_neg c0] at hone
          exact ⟨_, .refl _, ⟨i + 1, ⟨set_nodup _ hn2, fun h => by rw [htk, hone] at h; exact absurd h c0, fun _ => by rw [htk, hone]; exact ⟨u1, u2, u3, g1, g2, h5⟩⟩, by omega, rfl⟩, by omega⟩
      · simp (implicitDefEqProofs := false) only [sB, simprocAttr, ci', i0, hg, hlk, ce, byteAV_n8]
        exact hQ _ _ _ ⟨rfl, by rw [hst ce]; exact hD1, rfl⟩
    · have ci' : ¬ (i : Int) < (b.length : Int) := by omega
      simp (implicitDefEqProofs := false) only [sB, simprocAttr, ci']
      refine hQ _ _ _ ⟨rfl, ?_, rfl⟩
      rw [List.take_of_length_le (by omega)] at hD1
      exact hD1

def c30 (xs : List AV) (H : Heap) (K : Kv) : Prop := ∃ (l : List UInt8) (t : Tok), xs = [.sl (bytesAV l) t] ∧ (t = .nil → l = []) ∧ l.length ≤ 1073741824 ∧ H.keys.Nodup ∧ ∀ t', K.ap (.sl (bytesAV l) t') H
theorem c30_of (P : Program) {G : Nat → Option (List AV)} {xs : List AV} {H : Heap} {K : Kv} (h : c30 xs H K) : @xF ⟨G, P, []⟩ f38 xs H ⟨fun v H' => ∃ H0, Hle H0 H' ∧ K.ap v H0⟩ := by
  obtain ⟨l, t, rfl, ht, hl, hn, k⟩ := h
  by_cases c : t = .nil
  · have := ht c; subst this; subst c
    simp (implicitDefEqProofs := false) only [sB, simprocAttr, f38]
    exact ⟨_, .refl _, k _⟩
  · simp (implicitDefEqProofs := false) only [sB, simprocAttr, f38, c]
    refine i_emp hn fun id hid hn2 => ?_
    simp (implicitDefEqProofs := false) only [sB, simprocAttr]
    refine i_app (A := []) (R := H) (tk := .at id 0 1) (xs := []) (ys := bytesAV l) (.refl _) hn2 rfl (.inl ⟨_, rfl⟩) (allSz_bytes _) (by rw [allSz_nil]; trivial) ?_ ?_ fun t' H' h1 h2 h3 => ?_
    · simp only [by_len, List.length_nil, maxLen_eq]; omega
    · simp only [by_len, List.length_nil]; omega
    · simp (implicitDefEqProofs := false) only [sB, simprocAttr]
      exact ⟨H, hle_sub h2 (List.sublist_append_right (tokH t') H), k _⟩
def cM (xs : List AV) (H : Heap) (kn : Prop) (k : DS → Prop) : Prop := (xs = [.nilp] ∧ kn) ∨ ∃ (p : Nat) (s : DS) (R : Heap), xs = [.ptr p 0] ∧ DX p s H R ∧ s.Ok ∧ s.off ≤ 1073741824 ∧ k s
def c15 (xs : List AV) (H : Heap) (K : Kv) : Prop := cM xs H (K.ap (.sl [] .nil) H) fun s => ∀ t, K.ap (.sl (bytesAV s.out) t) H
def c17 (xs : List AV) (H : Heap) (K : Kv) : Prop := cM xs H (K.ap (.bool false) H) fun s => K.ap (.bool (decide (s.st = 4 ∨ s.st = 0 ∧ s.line = []))) H
def c18 (xs : List AV) (H : Heap) (K : Kv) : Prop := cM xs H (K.ap (.bool false) H) fun s => K.ap (.bool (decide (s.st = 4))) H
def c19 (xs : List AV) (H : Heap) (K : Kv) : Prop := cM xs H (K.ap (.int .i64 0) H) fun s => K.ap (.int .i64 (s.off : Nat)) H
theorem c15_of (P : Program) {G : Nat → Option (List AV)} {xs : List AV} {H : Heap} {K : Kv} (h : c15 xs H K) : @xF ⟨G, P, [(38, c30)]⟩ f32 xs H ⟨fun v H' => ∃ H0, Hle H0 H' ∧ K.ap v H0⟩ := by
  rcases h with ⟨rfl, k⟩ | ⟨p, s, R, rfl, hD, hs, ho, k⟩
  · simp (implicitDefEqProofs := false) only [sB, simprocAttr, f32]
    exact ⟨_, .refl _, k⟩
  · obtain ⟨t1, t2, t3, q2, q3, hlk⟩ := hD.look
    simp only [dC] at hlk
    have := hs.len
    simp (implicitDefEqProofs := false) only [sB, simprocAttr, f32, hlk]
    refine ⟨s.out, t2, rfl, q2, by omega, hD.1, fun t' => ?_⟩
    simp (implicitDefEqProofs := false) only [sB, simprocAttr]
    exact ⟨_, .refl _, k _⟩
theorem c17_of (P : Program) {G : Nat → Option (List AV)} {xs : List AV} {H : Heap} {K : Kv} (h : c17 xs H K) : @xF ⟨G, P, []⟩ f31 xs H ⟨fun v H' => ∃ H0, Hle H0 H' ∧ K.ap v H0⟩ := by
  rcases h with ⟨rfl, k⟩ | ⟨p, s, R, rfl, hD, hs, ho, k⟩
  · simp (implicitDefEqProofs := false) only [sB, simprocAttr, f31]
    exact ⟨_, .refl _, k⟩
  · obtain ⟨t1, t2, t3, q2, q3, hlk⟩ := hD.look
    simp only [dC] at hlk
    by_cases c4 : s.st = 4
    · have e4 : (s.st : Int) = 4 := by omega
      rw [decide_eq_true (.inl c4)] at k
      simp (implicitDefEqProofs := false) only [sB, simprocAttr, f31, hlk, e4]
      exact ⟨_, .refl _, k⟩
    · have e4 : ¬ (s.st : Int) = 4 := by omega
      by_cases c0 : s.st = 0
      · have e0 : (s.st : Int) = 0 := by omega
        by_cases cl : s.line = []
        · rw [decide_eq_true (.inr ⟨c0, cl⟩)] at k
          simp (implicitDefEqProofs := false) only [sB, simprocAttr, f31, hlk, e4, e0, cl]
          exact ⟨_, .refl _, k⟩
        · have hl : ¬ (s.line.length : Int) = 0 := by have := List.length_pos_iff.2 cl; omega
          rw [decide_eq_false (fun h => h.elim c4 fun h => cl h.2)] at k
          simp (implicitDefEqProofs := false) only [sB, simprocAttr, f31, hlk, e4, e0, hl]
          exact ⟨_, .refl _, k⟩
      · have e0 : ¬ (s.st : Int) = 0 := by omega
        rw [decide_eq_false (fun h => h.elim c4 fun h => c0 h.1)] at k
        simp (implicitDefEqProofs := false) only [sB, simprocAttr, f31, hlk, e4, e0]
        exact ⟨_, .refl _, k⟩
theorem c18_of (P : Program) {G : Nat → Option (List AV)} {xs : List AV} {H : Heap} {K : Kv} (h : c18 xs H K) : @xF ⟨G, P, []⟩ f30 xs H ⟨fun v H' => ∃ H0, Hle H0 H' ∧ K.ap v H0⟩ := by
  rcases h with ⟨rfl, k⟩ | ⟨p, s, R, rfl, hD, hs, ho, k⟩
  · simp (implicitDefEqProofs := false) only [sB, simprocAttr, f30]
    exact ⟨_, .refl _, k⟩
  · obtain ⟨t1, t2, t3, q2, q3, hlk⟩ := hD.look
    simp only [dC] at hlk
    by_cases c4 : s.st = 4
    · have e4 : (s.st : Int) = 4 := by omega
      rw [decide_eq_true c4] at k
      simp (implicitDefEqProofs := false) only [sB, simprocAttr, f30, hlk, e4]
      exact ⟨_, .refl _, k⟩
    · have e4 : ¬ (s.st : Int) = 4 := by omega
      rw [decide_eq_false c4] at k
      simp (implicitDefEqProofs := false) only [sB, simprocAttr, f30, hlk, e4]
      exact ⟨_, .refl _, k⟩
theorem c19_of (P : Program) {G : Nat → Option (List AV)} {xs : List AV} {H : Heap} {K : Kv} (h : c19 xs H K) : @xF ⟨G, P, []⟩ f33 xs H ⟨fun v H' => ∃ H0, Hle H0 H' ∧ K.ap v H0⟩ := by
  rcases h with ⟨rfl, k⟩ | ⟨p, s, R, rfl, hD, hs, ho, k⟩
  · simp (implicitDefEqProofs := false) only [sB, simprocAttr, f33]
    exact ⟨_, .refl _, k⟩
  · obtain ⟨t1, t2, t3, q2, q3, hlk⟩ := hD.look
    simp only [dC] at hlk
    simp (implicitDefEqProofs := false) only [sB, simprocAttr, f33, hlk]
    exact ⟨_, .refl _, k⟩
def c20 (xs : List AV) (H : Heap) (K : Kv) : Prop := xs = [] ∧ H.keys.Nodup ∧ ∀ p H', DX p .new H' H → K.ap (.ptr p 0) H'
theorem c20_of (P : Program) {G : Nat → Option (List AV)} {xs : List AV} {H : Heap} {K : Kv} (h : c20 xs H K) : @xF ⟨G, P, []⟩ f28 xs H ⟨fun v H' => ∃ H0, Hle H0 H' ∧ K.ap v H0⟩ := by
  obtain ⟨rfl, hn, k⟩ := h
  simp (implicitDefEqProofs := false) only [sB, simprocAttr, f28]
  refine i_new fun p hp => ?_
  simp (implicitDefEqProofs := false) only [sB, simprocAttr]
  exact ⟨_, .refl _, k _ _ ⟨List.nodup_cons.2 ⟨hp, hn⟩, fun _ => ⟨.nil, .nil, .nil, rfl, rfl, rfl, .refl _⟩, fun h => absurd rfl h⟩⟩
end Go.AL.Fun
