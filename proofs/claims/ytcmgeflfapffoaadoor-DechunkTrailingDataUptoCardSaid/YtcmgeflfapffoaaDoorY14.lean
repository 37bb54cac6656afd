/- DechunkSplitIrrelevant, walked. -/
import Derived.Test.YtcmgeflfapffoaaDoorY13
set_option linter.unusedSimpArgs false
set_option linter.unusedVariables false
set_option maxRecDepth 100000
set_option maxHeartbeats 4000000
namespace Go.AL.Fun
open Go Go.AL

/-- A decoder's cells. -/
def DP (p : Nat) (s : DS) (X : Heap) : Prop := (s.err = 0 → ∃ t1 t2 t3, GT (bytesAV s.line) t1 ∧ GT (bytesAV s.out) t2 ∧ GT (iAV s.sizes) t3 ∧ X = (p, dC s t1 t2 t3) :: (tokH t1 ++ (tokH t2 ++ tokH t3))) ∧
  (s.err ≠ 0 → ∃ t1 t2 t3, (t2 = .nil → s.out = []) ∧ (t3 = .nil → s.sizes = []) ∧ X = [(p, dC s t1 t2 t3)])
theorem DX.split {p : Nat} {s : DS} {H R : Heap} (h : DX p s H R) : ∃ X, DP p s X ∧ H.Perm (X ++ R) := by
  obtain ⟨hn, h1, h2⟩ := h
  by_cases c : s.err = 0
  · obtain ⟨t1, t2, t3, g1, g2, g3, hp⟩ := h1 c
    exact ⟨_, ⟨fun _ => ⟨t1, t2, t3, g1, g2, g3, rfl⟩, fun h => absurd c h⟩, by simpa only [List.cons_append, List.append_assoc] using hp⟩
  · obtain ⟨t1, t2, t3, g1, g2, hp⟩ := h2 c
    exact ⟨_, ⟨fun h => absurd h c, fun _ => ⟨t1, t2, t3, g1, g2, rfl⟩⟩, hp⟩
theorem DP.mk {p : Nat} {s : DS} {H R X : Heap} (h : DP p s X) (hp : H.Perm (X ++ R)) (hn : H.keys.Nodup) : DX p s H R := by
  refine ⟨hn, fun c => ?_, fun c => ?_⟩
  · obtain ⟨t1, t2, t3, g1, g2, g3, rfl⟩ := h.1 c
    exact ⟨t1, t2, t3, g1, g2, g3, by simpa only [List.cons_append, List.append_assoc] using hp⟩
  · obtain ⟨t1, t2, t3, g1, g2, rfl⟩ := h.2 c
    exact ⟨t1, t2, t3, g1, g2, hp⟩

theorem List.take_append_take_drop {α : Type} (b : List α) (k j : Nat) : b.take k ++ (b.drop k).take j = b.take (k + j) := by rw [List.take_add]
theorem x_c20 {H : Heap} {K : Kv} (hn : H.keys.Nodup) (k : ∀ p H', DX p .new H' H → K.ap (.ptr p 0) H') : c20 [] H K := ⟨rfl, hn, k⟩
theorem x_c14 {p : Nat} {s : DS} {b : List UInt8} {t : Tok} {R H : Heap} {K : Kv} (hD : DX p s H R) (hs : s.Ok) (hl : s.off + b.length ≤ 1073741824) (k : ∀ H', DX p (s.feed b) H' R → K.ap (.int .i64 (s.feed b).err) H') : c14 [.ptr p 0, .sl (bytesAV b) t] H K := .inr ⟨p, s, b, t, R, rfl, hD, hs, hl, k⟩
theorem x_c15 {p : Nat} {s : DS} {R H : Heap} {K : Kv} (hD : DX p s H R) (hs : s.Ok) (hl : s.off ≤ 1073741824) (k : ∀ t, K.ap (.sl (bytesAV s.out) t) H) : c15 [.ptr p 0] H K := .inr ⟨p, s, R, rfl, hD, hs, hl, k⟩
theorem x_c17 {p : Nat} {s : DS} {R H : Heap} {K : Kv} (hD : DX p s H R) (hs : s.Ok) (hl : s.off ≤ 1073741824) (k : K.ap (.bool (decide (s.st = 4 ∨ s.st = 0 ∧ s.line = []))) H) : c17 [.ptr p 0] H K := .inr ⟨p, s, R, rfl, hD, hs, hl, k⟩
theorem x_c18 {p : Nat} {s : DS} {R H : Heap} {K : Kv} (hD : DX p s H R) (hs : s.Ok) (hl : s.off ≤ 1073741824) (k : K.ap (.bool (decide (s.st = 4))) H) : c18 [.ptr p 0] H K := .inr ⟨p, s, R, rfl, hD, hs, hl, k⟩
theorem x_c19 {p : Nat} {s : DS} {R H : Heap} {K : Kv} (hD : DX p s H R) (hs : s.Ok) (hl : s.off ≤ 1073741824) (k : K.ap (.int .i64 (s.off : Nat)) H) : c19 [.ptr p 0] H K := .inr ⟨p, s, R, rfl, hD, hs, hl, k⟩
def c12 (xs : List AV) (H : Heap) (K : Kv) : Prop := ∃ (b : List UInt8) (t : Tok), xs = [.sl (bytesAV b) t] ∧ b.length ≤ 1073741824 ∧ H.keys.Nodup ∧
  ((DS.new.feed b).err ≠ 0 → K.ap (.tup [.sl [] .nil, .bool false, .int .i64 (DS.new.feed b).err]) H) ∧
  ((DS.new.feed b).err = 0 → ∀ t', K.ap (.tup [.sl (bytesAV (DS.new.feed b).out) t', .bool (decide ((DS.new.feed b).st = 4)), .int .i64 0]) H)
theorem c12_of (P : Program) {G : Nat → Option (List AV)} {xs : List AV} {H : Heap} {K : Kv} (h : c12 xs H K) : @xF ⟨G, P, [(29, c14), (30, c18), (28, c20)]⟩ f27 xs H ⟨fun v H' => ∃ H0, Hle H0 H' ∧ K.ap v H0⟩ := by
  obtain ⟨b, t, rfl, hl, hn, k1, k2⟩ := h
  have hfo := (feed_off .new b).2
  have hfk := feed_ok new_ok b
  have hno : DS.new.off = 0 := rfl
  simp (implicitDefEqProofs := false) only [sB, simprocAttr, f27]
  refine x_c20 hn fun p H1 hD => ?_
  simp (implicitDefEqProofs := false) only [sB, simprocAttr]
  refine x_c14 hD new_ok (by omega) fun H2 hD2 => ?_
  generalize DS.new.feed b = s at *
  obtain ⟨X, hX, hpX⟩ := hD2.split
  have hle : Hle H H2 := hle_sub hpX (List.sublist_append_right X H)
  by_cases ce : s.err = 0
  · obtain ⟨t1, t2, t3, _, _, hlk⟩ := hD2.look
    simp only [dC] at hlk
    simp (implicitDefEqProofs := false) only [sB, simprocAttr, hlk, ce]
    refine x_c18 hD2 hfk (by omega) ?_
    simp (implicitDefEqProofs := false) only [sB, simprocAttr, hlk]
    exact ⟨_, hle, k2 ce _⟩
  · simp (implicitDefEqProofs := false) only [sB, simprocAttr, ce]
    exact ⟨_, hle, k1 ce⟩
def c11 (xs : List AV) (H : Heap) (K : Kv) : Prop := xs = [] ∧ H.keys.Nodup ∧ K.ap (.bool true) H
theorem feed1 : DS.new.feed [49, 13, 10, 97] = ⟨2, [], 0, [97], [1], 4, 0⟩ := by rfl
theorem feed2 : (DS.new.feed [48, 13, 10, 13, 10, 120]).err = 8 := by rfl
theorem x_c12 {b : List UInt8} {t : Tok} {H : Heap} {K : Kv} (hl : b.length ≤ 1073741824) (hn : H.keys.Nodup) (k1 : (DS.new.feed b).err ≠ 0 → K.ap (.tup [.sl [] .nil, .bool false, .int .i64 (DS.new.feed b).err]) H)
  (k2 : (DS.new.feed b).err = 0 → ∀ t', K.ap (.tup [.sl (bytesAV (DS.new.feed b).out) t', .bool (decide ((DS.new.feed b).st = 4)), .int .i64 0]) H) : c12 [.sl (bytesAV b) t] H K := ⟨b, t, rfl, hl, hn, k1, k2⟩
theorem c11_of (P : Program) {G : Nat → Option (List AV)} {xs : List AV} {H : Heap} {K : Kv} (h : c11 xs H K) : @xF ⟨G, P, [(27, c12)]⟩ f26 xs H ⟨fun v H' => ∃ H0, Hle H0 H' ∧ K.ap v H0⟩ := by
  obtain ⟨rfl, hn, k⟩ := h
  simp (implicitDefEqProofs := false) only [sB, simprocAttr, f26]
  refine i_new fun z hz => ?_
  have n1 := List.nodup_cons.2 ⟨hz, hn⟩
  simp (implicitDefEqProofs := false) only [sB, simprocAttr]
  refine x_c12 (b := [49, 13, 10, 97]) (by decide) n1 (fun h => absurd (by rw [feed1]) h) fun _ t1 => ?_
  rw [feed1]
  simp (implicitDefEqProofs := false) only [sB, simprocAttr]
  refine i_new fun y hy => ?_
  have n2 := List.nodup_cons.2 ⟨hy, n1⟩
  simp (implicitDefEqProofs := false) only [sB, simprocAttr]
  refine x_c12 (b := [48, 13, 10, 13, 10, 120]) (by decide) n2 (fun _ => ?_) fun h => absurd h (by rw [feed2]; decide)
  rw [feed2]
  simp (implicitDefEqProofs := false) only [sB, simprocAttr, by_of]
  exact ⟨H, hle_sub (.refl _) (.cons _ (.cons _ (.refl _))), k⟩

end Go.AL.Fun
