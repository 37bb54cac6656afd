/- DechunkSplitIrrelevant, walked. -/
import Derived.Test.YtcaegdcldbggpaaDoorE13
set_option linter.unusedSimpArgs false
set_option linter.unusedVariables false
set_option maxRecDepth 100000
set_option maxHeartbeats 4000000
namespace Go.AL.Fun
open Go Go.AL

/-- A decoder's cells. -/
def DP (p : Nat) (s : DS) (X : Heap) : Prop := (s.err = 0 → ∃ t1 t2 t3, GT (bytesAV s.line) t1 ∧ GT (bytesAV s.out) t2 ∧ GT (iAV s.sizes) t3 ∧ X = (p, dC s t1 t2 t3) :: (tokH t1 ++ (tokH t2 ++ tokH t3))) ∧
  (s.err ≠ 0 → ∃ t1 t2 t3, (t2 = .nil → s.out = []) ∧ (t3 = .nil → s.sizes = []) ∧ X = [(p, dC s t1 t2 t3)])
theorem DX.split {p : Nat} {s : DS} {H R : Heap} (h : DX p s H R) : ∃ X, DP p s X ∧ H.Perm (X ++ R) := by
  obtain ⟨hn, h1, h2⟩ := h
  by_cases c : s.err = 0
  · obtain ⟨t1, t2, t3, g1, g2, g3, hp⟩ := h1 c
    exact ⟨_, ⟨fun _ => ⟨t1, t2, t3, g1, g2, g3, rfl⟩, fun h => absurd c h⟩, by simpa only [List.cons_append, List.append_assoc] using hp⟩
  · obtain ⟨t1, t2, t3, g1, g2, hp⟩ := h2 c
    exact ⟨_, ⟨fun h => absurd h c, fun _ => ⟨t1, t2, t3, g1, g2, rfl⟩⟩, hp⟩
theorem DP.mk {p : Nat} {s : DS} {H R X : Heap} (h : DP p s X) (hp : H.Perm (X ++ R)) (hn : H.keys.Nodup) : DX p s H R := by
  refine ⟨hn, fun c => ?_, fun c => ?_⟩
  · obtain ⟨t1, t2, t3, g1, g2, g3, rfl⟩ := h.1 c
    exact ⟨t1, t2, t3, g1, g2, g3, by simpa only [List.cons_append, List.append_assoc] using hp⟩
  · obtain ⟨t1, t2, t3, g1, g2, rfl⟩ := h.2 c
    exact ⟨t1, t2, t3, g1, g2, hp⟩

theorem List.take_append_take_drop {α : Type} (b : List α) (k j : Nat) : b.take k ++ (b.drop k).take j = b.take (k + j) := by rw [List.take_add]
theorem x_c20 {H : Heap} {K : Kv} (hn : H.keys.Nodup) (k : ∀ p H', DX p .new H' H → K.ap (.ptr p 0) H') : c20 [] H K := ⟨rfl, hn, k⟩
theorem x_c14 {p : Nat} {s : DS} {b : List UInt8} {t : Tok} {R H : Heap} {K : Kv} (hD : DX p s H R) (hs : s.Ok) (hl : s.off + b.length ≤ 1073741824) (k : ∀ H', DX p (s.feed b) H' R → K.ap (.int .i64 (s.feed b).err) H') : c14 [.ptr p 0, .sl (bytesAV b) t] H K := .inr ⟨p, s, b, t, R, rfl, hD, hs, hl, k⟩
theorem x_c15 {p : Nat} {s : DS} {R H : Heap} {K : Kv} (hD : DX p s H R) (hs : s.Ok) (hl : s.off ≤ 1073741824) (k : ∀ t, K.ap (.sl (bytesAV s.out) t) H) : c15 [.ptr p 0] H K := .inr ⟨p, s, R, rfl, hD, hs, hl, k⟩
theorem x_c16 {p : Nat} {s : DS} {R H : Heap} {K : Kv} (hD : DX p s H R) (hs : s.Ok) (hl : s.off ≤ 1073741824) (k : ∀ t, K.ap (.sl (iAV s.sizes) t) H) : c16 [.ptr p 0] H K := .inr ⟨p, s, R, rfl, hD, hs, hl, k⟩
theorem x_c17 {p : Nat} {s : DS} {R H : Heap} {K : Kv} (hD : DX p s H R) (hs : s.Ok) (hl : s.off ≤ 1073741824) (k : K.ap (.bool (decide (s.st = 4 ∨ s.st = 0 ∧ s.line = []))) H) : c17 [.ptr p 0] H K := .inr ⟨p, s, R, rfl, hD, hs, hl, k⟩
theorem x_c18 {p : Nat} {s : DS} {R H : Heap} {K : Kv} (hD : DX p s H R) (hs : s.Ok) (hl : s.off ≤ 1073741824) (k : K.ap (.bool (decide (s.st = 4))) H) : c18 [.ptr p 0] H K := .inr ⟨p, s, R, rfl, hD, hs, hl, k⟩
theorem x_c19 {p : Nat} {s : DS} {R H : Heap} {K : Kv} (hD : DX p s H R) (hs : s.Ok) (hl : s.off ≤ 1073741824) (k : K.ap (.int .i64 (s.off : Nat)) H) : c19 [.ptr p 0] H K := .inr ⟨p, s, R, rfl, hD, hs, hl, k⟩
theorem x_c23 {a b : List Int} {t1 t2 : Tok} {H : Heap} {K : Kv} (hl : a.length ≤ 1073741824) (k : K.ap (.bool (decide (a = b))) H) : c23 [.sl (iAV a) t1, .sl (iAV b) t2] H K := ⟨a, b, t1, t2, rfl, hl, k⟩

def c12 (xs : List AV) (H : Heap) (K : Kv) : Prop := ∃ (b : List UInt8) (t : Tok), xs = [.sl (bytesAV b) t] ∧ b.length ≤ 1073741824 ∧ H.keys.Nodup ∧
  ((DS.new.feed b).err ≠ 0 → K.ap (.tup [.sl [] .nil, .bool false, .int .i64 (DS.new.feed b).err]) H) ∧
  ((DS.new.feed b).err = 0 → ∀ t', K.ap (.tup [.sl (bytesAV (DS.new.feed b).out) t', .bool (decide ((DS.new.feed b).st = 4)), .int .i64 0]) H)
theorem c12_of (P : Program) {G : Nat → Option (List AV)} {xs : List AV} {H : Heap} {K : Kv} (h : c12 xs H K) : @xF ⟨G, P, [(14, c14), (18, c18), (20, c20)]⟩ f12 xs H ⟨fun v H' => ∃ H0, Hle H0 H' ∧ K.ap v H0⟩ := by
  obtain ⟨b, t, rfl, hl, hn, k1, k2⟩ := h
  have hfo := (feed_off .new b).2
  have hfk := feed_ok new_ok b
  have hno : DS.new.off = 0 := rfl
  simp (implicitDefEqProofs := false) only [sB, simprocAttr, f12]
  refine x_c20 hn fun p H1 hD => ?_
  simp (implicitDefEqProofs := false) only [sB, simprocAttr]
  refine x_c14 hD new_ok (by omega) fun H2 hD2 => ?_
  generalize DS.new.feed b = s at *
  obtain ⟨X, hX, hpX⟩ := hD2.split
  have hle : Hle H H2 := hle_sub hpX (List.sublist_append_right X H)
  by_cases ce : s.err = 0
  · obtain ⟨t1, t2, t3, _, _, hlk⟩ := hD2.look
    simp only [dC] at hlk
    simp (implicitDefEqProofs := false) only [sB, simprocAttr, hlk, ce]
    refine x_c18 hD2 hfk (by omega) ?_
    simp (implicitDefEqProofs := false) only [sB, simprocAttr, hlk]
    exact ⟨_, hle, k2 ce _⟩
  · simp (implicitDefEqProofs := false) only [sB, simprocAttr, ce]
    exact ⟨_, hle, k1 ce⟩
def c11 (xs : List AV) (H : Heap) (K : Kv) : Prop := xs = [] ∧ H.keys.Nodup ∧ K.ap (.bool true) H
theorem feed1 : DS.new.feed [49, 13, 10, 97] = ⟨2, [], 0, [97], [1], 4, 0⟩ := by rfl
theorem feed2 : (DS.new.feed [48, 13, 10, 13, 10, 120]).err = 8 := by rfl
theorem x_c12 {b : List UInt8} {t : Tok} {H : Heap} {K : Kv} (hl : b.length ≤ 1073741824) (hn : H.keys.Nodup) (k1 : (DS.new.feed b).err ≠ 0 → K.ap (.tup [.sl [] .nil, .bool false, .int .i64 (DS.new.feed b).err]) H)
  (k2 : (DS.new.feed b).err = 0 → ∀ t', K.ap (.tup [.sl (bytesAV (DS.new.feed b).out) t', .bool (decide ((DS.new.feed b).st = 4)), .int .i64 0]) H) : c12 [.sl (bytesAV b) t] H K := ⟨b, t, rfl, hl, hn, k1, k2⟩
theorem c11_of (P : Program) {G : Nat → Option (List AV)} {xs : List AV} {H : Heap} {K : Kv} (h : c11 xs H K) : @xF ⟨G, P, [(12, c12)]⟩ f11 xs H ⟨fun v H' => ∃ H0, Hle H0 H' ∧ K.ap v H0⟩ := by
  obtain ⟨rfl, hn, k⟩ := h
  simp (implicitDefEqProofs := false) only [sB, simprocAttr, f11]
  refine i_new fun z hz => ?_
  have n1 := List.nodup_cons.2 ⟨hz, hn⟩
  simp (implicitDefEqProofs := false) only [sB, simprocAttr]
  refine x_c12 (b := [49, 13, 10, 97]) (by decide) n1 (fun h => absurd (by rw [feed1]) h) fun _ t1 => ?_
  rw [feed1]
  simp (implicitDefEqProofs := false) only [sB, simprocAttr]
  refine i_new fun y hy => ?_
  have n2 := List.nodup_cons.2 ⟨hy, n1⟩
  simp (implicitDefEqProofs := false) only [sB, simprocAttr]
  refine x_c12 (b := [48, 13, 10, 13, 10, 120]) (by decide) n2 (fun _ => ?_) fun h => absurd h (by rw [feed2]; decide)
  rw [feed2]
  simp (implicitDefEqProofs := false) only [sB, simprocAttr, by_of]
  exact ⟨H, hle_sub (.refl _) (.cons _ (.cons _ (.refl _))), k⟩

@[reducible] def tF : XT := [(11, c11), (12, c12), (14, c14), (15, c15), (16, c16), (17, c17), (18, c18), (19, c19), (20, c20), (23, c23)]
theorem law5 (P : Program) (b ps : List UInt8) (tb tp : Tok) (hb : b.length ≤ 1048576) (hp : ps.length ≤ 1048576) (K : Kv) (hK : ∀ H, K.ap (.bool true) H) : @xF ⟨Gu, P, tF⟩ f5 [.sl (bytesAV b) tb, .sl (bytesAV ps) tp] [] K := by
  have hn : (Heap.keys []).Nodup := List.nodup_nil
  have alive : ∀ (H : Heap) (K' : Kv), H.keys.Nodup → K'.ap (.bool true) H → c11 [] H K' := fun H K' h k => ⟨rfl, h, k⟩
  by_cases q1 : (2000 : Int) < b.length
  · simp (implicitDefEqProofs := false) only [sB, simprocAttr, f5, q1, by_len]
    refine alive _ _ hn ?_
    simp (implicitDefEqProofs := false) only [sB, simprocAttr]
    exact hK _
  by_cases q2 : ps = []
  · subst q2
    simp (implicitDefEqProofs := false) only [sB, simprocAttr, f5, q1, by_len]
    refine alive _ _ hn ?_
    simp (implicitDefEqProofs := false) only [sB, simprocAttr]
    exact hK _
  have q2' : 0 < ps.length := List.length_pos_iff.2 q2
  have q3 : ¬ (ps.length : Int) = 0 := by omega
  by_cases q4 : (100 : Int) < ps.length
  · simp (implicitDefEqProofs := false) only [sB, simprocAttr, f5, q1, q3, q4, by_len]
    refine alive _ _ hn ?_
    simp (implicitDefEqProofs := false) only [sB, simprocAttr]
    exact hK _
  simp (implicitDefEqProofs := false) only [sB, simprocAttr, f5, q1, q3, q4, by_len]
  refine x_c20 hn fun p H1 hD => ?_
  simp (implicitDefEqProofs := false) only [sB, simprocAttr]
  refine x_c20 hD.1 fun q H2 hE => ?_
  simp (implicitDefEqProofs := false) only [sB, simprocAttr]
  refine x_c14 hE new_ok (by have : DS.new.off = 0 := rfl; omega) fun H3 hE3 => ?_
  obtain ⟨Y, hY, pY⟩ := hE3.split
  obtain ⟨X, hX, pX⟩ := hD.split
  rw [List.append_nil] at pX
  have hH3 : H3.Perm (X ++ Y) := pY.trans ((pX.append_left _).trans List.perm_append_comm)
  have n3 := hE3.1
  simp (implicitDefEqProofs := false) only [sB, simprocAttr]
  refine i_loopJ (fun σ H1 => ∃ (k i : Nat) (X Y : Heap) (t9 : Tok), DP p (DS.new.feed (b.take k)) X ∧ DP q (DS.new.feed b) Y ∧ H1.Perm (X ++ Y) ∧ H1.keys.Nodup ∧ k ≤ b.length ∧ i ≤ k ∧ σ = [(0, .sl (bytesAV b) tb), (1, .sl (bytesAV ps) tp), (5, .ptr p 0), (6, .ptr q 0), (7, .int .i64 (DS.new.feed b).err), (8, .int .i64 (DS.new.feed (b.take k)).err), (9, .sl (bytesAV (b.drop k)) t9), (10, .int .i64 i)])
    (fun σ _ => match σ.get 9 with | .sl l _ => l.length | _ => 0)
    (fun e σ H1 => e = .exit 0 ∧ ∃ (X Y : Heap), DP p (DS.new.feed b) X ∧ DP q (DS.new.feed b) Y ∧ H1.Perm (X ++ Y) ∧ H1.keys.Nodup ∧ σ.get 0 = .sl (bytesAV b) tb ∧ σ.get 5 = .ptr p 0 ∧ σ.get 6 = .ptr q 0 ∧ σ.get 7 = .int .i64 (DS.new.feed b).err ∧ σ.get 8 = .int .i64 (DS.new.feed b).err)
    ⟨_, .refl _, 0, 0, X, Y, tb, hX, hY, hH3, n3, by omega, by omega, rfl⟩ ?_ ?_
  · rintro e σ H1 ⟨rfl, X, Y, hX, hY, hp1, hn1, s0, s5, s6, s7, s8⟩
    have hfo := (feed_off .new b).2
    have hfk := feed_ok new_ok b
    have hno : DS.new.off = 0 := rfl
    have hlen := hfk.len
    have hDp : DX p (DS.new.feed b) H1 Y := hX.mk hp1 hn1
    have hDq : DX q (DS.new.feed b) H1 X := hY.mk (hp1.trans List.perm_append_comm) hn1
    simp (implicitDefEqProofs := false) only [sB, simprocAttr, s0, s5, s6, s7, s8]
    refine x_c12 (by omega) hn1 (fun ce => ?_) fun ce t' => ?_
    · simp (implicitDefEqProofs := false) only [sB, simprocAttr, s0, s5, s6, s7, s8, ce]
      refine alive _ _ hn1 ?_
      simp (implicitDefEqProofs := false) only [sB, simprocAttr, s0, s5, s6, s7, s8]
      refine x_c15 hDp hfk (by omega) fun t1 => ?_
      simp (implicitDefEqProofs := false) only [sB, simprocAttr, s0, s5, s6, s7, s8, by_of]
      refine x_c15 hDq hfk (by omega) fun t2 => ?_
      simp (implicitDefEqProofs := false) only [sB, simprocAttr, s0, s5, s6, s7, s8, by_of]
      refine x_c19 hDp hfk (by omega) ?_
      simp (implicitDefEqProofs := false) only [sB, simprocAttr, s0, s5, s6, s7, s8]
      refine x_c19 hDq hfk (by omega) ?_
      simp (implicitDefEqProofs := false) only [sB, simprocAttr, s0, s5, s6, s7, s8]
      refine x_c17 hDp hfk (by omega) ?_
      simp (implicitDefEqProofs := false) only [sB, simprocAttr, s0, s5, s6, s7, s8]
      refine x_c17 hDq hfk (by omega) ?_
      simp (implicitDefEqProofs := false) only [sB, simprocAttr, s0, s5, s6, s7, s8]
      refine x_c16 hDp hfk (by omega) fun t3 => ?_
      simp (implicitDefEqProofs := false) only [sB, simprocAttr, s0, s5, s6, s7, s8]
      refine x_c16 hDq hfk (by omega) fun t4 => ?_
      simp (implicitDefEqProofs := false) only [sB, simprocAttr, s0, s5, s6, s7, s8]
      refine x_c23 (by omega) ?_
      simp (implicitDefEqProofs := false) only [sB, simprocAttr, s0, s5, s6, s7, s8]
      exact hK _
    · rw [ce] at s7 s8
      simp (implicitDefEqProofs := false) only [sB, simprocAttr, s0, s5, s6, s7, s8]
      refine x_c15 hDq hfk (by omega) fun t0 => ?_
      simp (implicitDefEqProofs := false) only [sB, simprocAttr, s0, s5, s6, s7, s8, by_of]
      refine x_c18 hDq hfk (by omega) ?_
      simp (implicitDefEqProofs := false) only [sB, simprocAttr, s0, s5, s6, s7, s8]
      refine alive _ _ hn1 ?_
      simp (implicitDefEqProofs := false) only [sB, simprocAttr, s0, s5, s6, s7, s8]
      refine x_c15 hDp hfk (by omega) fun t1 => ?_
      simp (implicitDefEqProofs := false) only [sB, simprocAttr, s0, s5, s6, s7, s8, by_of]
      refine x_c15 hDq hfk (by omega) fun t2 => ?_
      simp (implicitDefEqProofs := false) only [sB, simprocAttr, s0, s5, s6, s7, s8, by_of]
      refine x_c19 hDp hfk (by omega) ?_
      simp (implicitDefEqProofs := false) only [sB, simprocAttr, s0, s5, s6, s7, s8]
      refine x_c19 hDq hfk (by omega) ?_
      simp (implicitDefEqProofs := false) only [sB, simprocAttr, s0, s5, s6, s7, s8]
      refine x_c17 hDp hfk (by omega) ?_
      simp (implicitDefEqProofs := false) only [sB, simprocAttr, s0, s5, s6, s7, s8]
      refine x_c17 hDq hfk (by omega) ?_
      simp (implicitDefEqProofs := false) only [sB, simprocAttr, s0, s5, s6, s7, s8]
      refine x_c16 hDp hfk (by omega) fun t3 => ?_
      simp (implicitDefEqProofs := false) only [sB, simprocAttr, s0, s5, s6, s7, s8]
      refine x_c16 hDq hfk (by omega) fun t4 => ?_
      simp (implicitDefEqProofs := false) only [sB, simprocAttr, s0, s5, s6, s7, s8]
      refine x_c23 (by omega) ?_
      simp (implicitDefEqProofs := false) only [sB, simprocAttr, s0, s5, s6, s7, s8]
      exact hK _
  · rintro Q hQ σ H1 ⟨k, i, X, Y, t9, hX, hY, hp1, hn1, hk, hik, rfl⟩
    by_cases c0 : k = b.length
    · subst c0
      rw [List.take_length] at *
      rw [List.drop_length]
      simp (implicitDefEqProofs := false) only [sB, simprocAttr]
      exact hQ _ _ _ ⟨rfl, X, Y, hX, hY, hp1, hn1, rfl, rfl, rfl, rfl, rfl⟩
    · have n0 : (0 : Int) < ((b.length - k : Nat) : Int) := by omega
      have m0 : 0 ≤ (i : Int).tmod ps.length := Int.tmod_nonneg _ (by omega)
      have m1 : (i : Int).tmod ps.length < ps.length := Int.tmod_lt_of_pos _ (by omega)
      have r9 := w_i64 ((i : Int) + 1) (by omega) (by omega)
      obtain ⟨m, hm⟩ := Int.eq_ofNat_of_zero_le m0
      rw [hm] at m0 m1
      have mlt : m < ps.length := by omega
      have hy : ps[m]? = some ps[m] := List.getElem?_eq_getElem mlt
      have hc8 := n8_lt ps[m]
      have r8 := w_i64 (1 + n8 ps[m]) (by omega) (by omega)
      have r7 := w_i64 (n8 ps[m]) (by omega) (by omega)
      simp (implicitDefEqProofs := false) only [sB, simprocAttr, n0, q3, hm, m0, by_get, hy, Option.map_some, byteAV_n8, r7, r8, by_len, List.length_drop]
      obtain ⟨j, hj, j1, j2⟩ : ∃ j : Nat, (if 1 + n8 ps[m] < ((b.length - k : Nat) : Int) then 1 + n8 ps[m] else ((b.length - k : Nat) : Int)) = (j : Int) ∧ 1 ≤ j ∧ j ≤ b.length - k := by
        split
        · exact ⟨(1 + n8 ps[m]).toNat, by omega, by omega, by omega⟩
        · exact ⟨b.length - k, rfl, by omega, by omega⟩
      simp only [hj, Int.toNat_natCast, r9]
      have hDp : DX p (DS.new.feed (b.take k)) H1 Y := hX.mk hp1 hn1
      have hfo := (feed_off .new (b.take k)).2
      rw [List.length_take, Nat.min_eq_left hk] at hfo
      have hno : DS.new.off = 0 := rfl
      refine ⟨⟨by omega, by omega⟩, x_c14 hDp (feed_ok new_ok _) (by rw [List.length_take, List.length_drop]; omega) fun H2 hD2 => ?_⟩
      rw [← feed_app, List.take_append_take_drop] at hD2 ⊢
      obtain ⟨X2, hX2, pX2⟩ := hD2.split
      exact ⟨⟨by omega, by omega⟩, H2, .refl _, ⟨k + j, i + 1, X2, Y, t9, hX2, hY, pX2, hD2.1, by omega, by omega, rfl, rfl, rfl⟩, by omega⟩
end Go.AL.Fun
