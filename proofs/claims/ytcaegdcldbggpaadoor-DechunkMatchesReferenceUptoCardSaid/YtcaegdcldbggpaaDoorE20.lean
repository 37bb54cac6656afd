/- DechunkDecodeMatchesReference and DechunkMatchesReference, walked. -/
import Derived.Test.YtcaegdcldbggpaaDoorE19
import Derived.Test.YtcaegdcldbggpaaDoorE15
set_option linter.unusedSimpArgs false
set_option linter.unusedVariables false
set_option maxRecDepth 100000
set_option maxHeartbeats 4000000
namespace Go.AL.Fun
open Go Go.AL

theorem ri_err {x : List UInt8 × Int} {s : DS} (h : RI x s) : x.2 = s.err := by obtain ⟨s0, _, _, _, rfl⟩ := h; rfl
theorem ri_off {x : List UInt8 × Int} {s : DS} (h : RI x s) : s.off = x.1.length := by obtain ⟨s0, _, _, h3, rfl⟩ := h; exact h3
theorem ri_dr {x : List UInt8 × Int} {s : DS} (h : RI x s) : ofP x.1 = s.dr := by
  obtain ⟨s0, h1, h2, _, rfl⟩ := h
  have := of_agree x.1
  rw [← h1] at this
  rw [this.2.1 h2]; rfl
theorem x_c21 {q : Nat} {x : List UInt8 × Int} {b : List UInt8} {t0 t : Tok} {R H : Heap} {K : Kv} (hp : H.Perm ((q, rC x t0) :: R)) (hn : H.keys.Nodup) (hl : x.1.length + b.length ≤ 1048576)
  (k : ∀ t1 H', H'.Perm ((q, rC (rfeed x b) t1) :: R) → H'.keys.Nodup → K.ap (.int .i64 (rfeed x b).2) H') : c21 [.ptr q 0, .sl (bytesAV b) t] H K := ⟨q, x, b, t0, t, R, rfl, hp, hn, hl, k⟩
def c13 (xs : List AV) (H : Heap) (K : Kv) : Prop := ∃ (b : List UInt8) (t : Tok), xs = [.sl (bytesAV b) t] ∧ b.length ≤ 1048576 ∧ H.keys.Nodup ∧
  ((DS.new.feed b).err ≠ 0 → K.ap (.tup [.sl [] .nil, .bool false, .int .i64 (DS.new.feed b).err]) H) ∧
  ((DS.new.feed b).err = 0 → ∀ t', K.ap (.tup [.sl (bytesAV (DS.new.feed b).out) t', .bool (decide ((DS.new.feed b).st = 4)), .int .i64 0]) H)
theorem c13_of (P : Program) {G : Nat → Option (List AV)} {xs : List AV} {H : Heap} {K : Kv} (h : c13 xs H K) : @xF ⟨G, P, [(21, c21), (22, c22)]⟩ f13 xs H ⟨fun v H' => ∃ H0, Hle H0 H' ∧ K.ap v H0⟩ := by
  obtain ⟨b, t, rfl, hl, hn, k1, k2⟩ := h
  have hag := of_agree b
  have hri := ri_err (ri_feed ri_new b)
  generalize DS.new.feed b = s at *
  simp (implicitDefEqProofs := false) only [sB, simprocAttr, f13]
  refine x_c22 hl hn fun tp ts => ?_
  simp (implicitDefEqProofs := false) only [sB, simprocAttr, drAV]
  refine i_new fun z hz => ?_
  have n1 := List.nodup_cons.2 ⟨hz, hn⟩
  by_cases ce : s.err = 0
  · have hr := hag.2.1 ce
    rw [hr]
    simp (implicitDefEqProofs := false) only [sB, simprocAttr, DS.dr, drAV]
    exact ⟨H, hle_sub (.refl _) (.cons _ (.refl _)), k2 ce tp⟩
  · have hv : (ofP b).valid = false := by
      cases hv : (ofP b).valid with
      | false => rfl
      | true => exact absurd (hag.1.1 hv) ce
    simp (implicitDefEqProofs := false) only [sB, simprocAttr, drAV, hv]
    refine i_new fun q hq => ?_
    simp (implicitDefEqProofs := false) only [sB, simprocAttr]
    refine x_c21 (x := ([], 0)) (t0 := .nil) (R := (z, .cells [.sl (bytesAV (ofP b).pay) tp, .sl (iAV (ofP b).sizes) ts, .bool (ofP b).whole, .bool (ofP b).comp, .bool false]) :: H) (.refl _) (List.nodup_cons.2 ⟨hq, n1⟩) (by simpa using hl) fun t1 H' g1 g2 => ?_
    rw [hri]
    simp (implicitDefEqProofs := false) only [sB, simprocAttr]
    exact ⟨H, hle_sub g1 (.cons _ (.cons _ (.refl _))), k1 ce⟩

@[reducible] def tG : XT := [(11, c11), (12, c12), (13, c13), (14, c14), (15, c15), (16, c16), (17, c17), (18, c18), (19, c19), (20, c20), (21, c21), (22, c22), (23, c23)]
theorem x_c13 {b : List UInt8} {t : Tok} {H : Heap} {K : Kv} (hl : b.length ≤ 1048576) (hn : H.keys.Nodup) (k1 : (DS.new.feed b).err ≠ 0 → K.ap (.tup [.sl [] .nil, .bool false, .int .i64 (DS.new.feed b).err]) H)
  (k2 : (DS.new.feed b).err = 0 → ∀ t', K.ap (.tup [.sl (bytesAV (DS.new.feed b).out) t', .bool (decide ((DS.new.feed b).st = 4)), .int .i64 0]) H) : c13 [.sl (bytesAV b) t] H K := ⟨b, t, rfl, hl, hn, k1, k2⟩
theorem law3 (P : Program) (b : List UInt8) (t : Tok) (hl : b.length ≤ 1048576) (K : Kv) (hK : ∀ H, K.ap (.bool true) H) : @xF ⟨Gu, P, tG⟩ f3 [.sl (bytesAV b) t] [] K := by
  have hn : (Heap.keys []).Nodup := List.nodup_nil
  have alive : ∀ (H : Heap) (K' : Kv), H.keys.Nodup → K'.ap (.bool true) H → c11 [] H K' := fun H K' h k => ⟨rfl, h, k⟩
  by_cases q1 : (800 : Int) < b.length
  · simp (implicitDefEqProofs := false) only [sB, simprocAttr, f3, q1, by_len]
    refine alive _ _ hn ?_
    simp (implicitDefEqProofs := false) only [sB, simprocAttr]
    exact hK _
  simp (implicitDefEqProofs := false) only [sB, simprocAttr, f3, q1, by_len]
  refine x_c12 (by omega) hn (fun ce => ?_) fun ce t1 => ?_
  · simp (implicitDefEqProofs := false) only [sB, simprocAttr]
    refine x_c13 (by omega) hn (fun _ => ?_) fun h => absurd h ce
    simp (implicitDefEqProofs := false) only [sB, simprocAttr]
    refine alive _ _ hn ?_
    simp (implicitDefEqProofs := false) only [sB, simprocAttr]
    exact hK _
  · simp (implicitDefEqProofs := false) only [sB, simprocAttr]
    refine x_c13 (by omega) hn (fun h => absurd ce h) fun _ t2 => ?_
    simp (implicitDefEqProofs := false) only [sB, simprocAttr]
    refine alive _ _ hn ?_
    simp (implicitDefEqProofs := false) only [sB, simprocAttr, by_of]
    exact hK _

def bbAV (l : List (List UInt8 × Tok)) : List AV := l.map fun p => .sl (bytesAV p.1) p.2
def bbSum (l : List (List UInt8 × Tok)) : Nat := (l.map fun p => p.1.length).sum
theorem bb_get (l : List (List UInt8 × Tok)) (i : Nat) : (bbAV l)[i]? = (l[i]?).map fun p => .sl (bytesAV p.1) p.2 := by simp [bbAV]
theorem bb_len (l : List (List UInt8 × Tok)) : (bbAV l).length = l.length := by simp [bbAV]
theorem bb_take {l : List (List UInt8 × Tok)} {i : Nat} {x : List UInt8 × Tok} (h : l[i]? = some x) : bbSum (l.take (i + 1)) = bbSum (l.take i) + x.1.length := by
  rw [List.take_add_one, h]; simp [bbSum]
theorem bb_le (l : List (List UInt8 × Tok)) (i : Nat) : bbSum (l.take i) ≤ bbSum l := by
  have : bbSum l = bbSum (l.take i) + bbSum (l.drop i) := by
    conv => lhs; rw [← List.take_append_drop i l]
    simp only [bbSum, List.map_append, List.sum_append]
  omega
theorem law4 (P : Program) (l : List (List UInt8 × Tok)) (t : Tok) (hl : l.length ≤ 1048576) (hb : bbSum l ≤ 1048576) (K : Kv) (hK : ∀ H, K.ap (.bool true) H) : @xF ⟨Gu, P, tG⟩ f4 [.sl (bbAV l) t] [] K := by
  have hn : (Heap.keys []).Nodup := List.nodup_nil
  have alive : ∀ (H : Heap) (K' : Kv), H.keys.Nodup → K'.ap (.bool true) H → c11 [] H K' := fun H K' h k => ⟨rfl, h, k⟩
  simp (implicitDefEqProofs := false) only [sB, simprocAttr, f4]
  refine .inl ⟨_, rfl, ?_⟩
  simp (implicitDefEqProofs := false) only [sB, simprocAttr]
  refine .inl ⟨rfl, ?_⟩
  simp (implicitDefEqProofs := false) only [sB, simprocAttr]
  refine .inl ⟨rfl, ?_⟩
  simp (implicitDefEqProofs := false) only [sB, simprocAttr]
  refine .inl ⟨rfl, ?_⟩
  simp (implicitDefEqProofs := false) only [sB, simprocAttr]
  refine .inl ⟨rfl, ?_⟩
  simp (implicitDefEqProofs := false) only [sB, simprocAttr]
  refine .inl ⟨rfl, ?_⟩
  simp (implicitDefEqProofs := false) only [sB, simprocAttr, bb_len]
  refine i_loopJ (fun σ H1 => ∃ (i : Nat), H1 = [] ∧ i ≤ l.length ∧ σ = [(0, .sl (bbAV l) t), (4, .int .i64 (bbSum (l.take i))), (42, .sl (bbAV l) t), (43, .int .i64 l.length), (44, .int .i64 i)])
    (fun σ _ => match σ.get 44 with | .int _ n => l.length - n.toNat | _ => 0)
    (fun e σ H1 => e = .exit 0 ∧ H1 = [] ∧ σ.get 0 = .sl (bbAV l) t ∧ σ.get 4 = .int .i64 (bbSum l))
    ⟨_, .refl _, 0, rfl, by omega, rfl⟩ ?_ ?_
  · rintro e σ H1 ⟨rfl, rfl, s0, s4⟩
    by_cases q1 : (800 : Int) < bbSum l
    · simp (implicitDefEqProofs := false) only [sB, simprocAttr, s0, s4, q1]
      refine alive _ _ hn ?_
      simp (implicitDefEqProofs := false) only [sB, simprocAttr]
      exact hK _
    by_cases q2 : (100 : Int) < l.length
    · simp (implicitDefEqProofs := false) only [sB, simprocAttr, s0, s4, q1, bb_len, q2]
      refine alive _ _ hn ?_
      simp (implicitDefEqProofs := false) only [sB, simprocAttr]
      exact hK _
    simp (implicitDefEqProofs := false) only [sB, simprocAttr, s0, s4, q1, bb_len, q2]
    refine x_c20 hn fun p H1 hD => ?_
    simp (implicitDefEqProofs := false) only [sB, simprocAttr, s0, s4]
    refine i_new fun q hq => ?_
    simp (implicitDefEqProofs := false) only [sB, simprocAttr, s0, s4, bb_len]
    obtain ⟨X, hX, pX⟩ := hD.split
    rw [List.append_nil] at pX
    refine i_loopJ (fun σ H1 => ∃ (i : Nat) (X : Heap) (t1 : Tok) (x : List UInt8 × Int) (s : DS), DP p s X ∧ H1.Perm ((q, rC x t1) :: X) ∧ H1.keys.Nodup ∧ RI x s ∧ s.Ok ∧ s.off ≤ bbSum (l.take i) ∧ i ≤ l.length ∧ σ = [(7, .ptr p 0), (8, .ptr q 0), (66, .sl (bbAV l) t), (67, .int .i64 l.length), (68, .int .i64 i)])
      (fun σ _ => match σ.get 68 with | .int _ n => l.length - n.toNat | _ => 0)
      (fun e σ H1 => e = .exit 2 ∧ H1.keys.Nodup)
      ⟨_, .refl _, 0, X, .nil, ([], 0), .new, hX, pX.cons _, List.nodup_cons.2 ⟨hq, hD.1⟩, ri_new, new_ok, Nat.zero_le _, by omega, rfl⟩ ?_ ?_
    · rintro e σ H1 ⟨rfl, h1⟩
      simp (implicitDefEqProofs := false) only [sB, simprocAttr]
      refine alive _ _ h1 ?_
      simp (implicitDefEqProofs := false) only [sB, simprocAttr]
      exact hK _
    · rintro Q hQ σ H1 ⟨i, X, t1, x, s, hX, hp1, hn1, hri, hok, hoff, hi, rfl⟩
      by_cases ci : i < l.length
      · have ci' : (i : Int) < (l.length : Int) := by omega
        have i0 : (0 : Int) ≤ (i : Int) := by omega
        have hg : l[i]? = some l[i] := List.getElem?_eq_getElem ci
        have r9 := w_i64 ((i : Int) + 1) (by omega) (by omega)
        have hs := bb_take hg
        have hs2 := bb_le l (i + 1)
        have hxo := ri_off hri
        generalize l[i] = e at hg hs
        obtain ⟨b, tb⟩ := e
        simp only at hs
        simp (implicitDefEqProofs := false) only [sB, simprocAttr, ci', i0, bb_get, hg, Option.map_some]
        refine x_c14 (hX.mk (hp1.trans (List.perm_append_comm (l₁ := [(q, rC x t1)]))) hn1) hok (by omega) fun H2 hD2 => ?_
        obtain ⟨X2, hX2, pX2⟩ := hD2.split
        have hri2 := ri_feed hri b
        have hok2 := feed_ok hok b
        have hof2 := (feed_off s b).2
        have he2 := ri_err hri2
        have hof := ri_off hri2
        have hdr := ri_dr hri2
        generalize s.feed b = s2 at *
        simp (implicitDefEqProofs := false) only [sB, simprocAttr]
        refine x_c21 (pX2.trans List.perm_append_comm) hD2.1 (by omega) fun t2 H3 g1 g2 => ?_
        have hln : (rfeed x b).1.length = s2.off := hof.symm
        generalize rfeed x b = x2 at *
        have hlk := look_head g1 g2
        simp only [rC] at hlk
        simp (implicitDefEqProofs := false) only [sB, simprocAttr, hlk]
        refine x_c22 (by omega) g2 fun tp ts => ?_
        rw [hdr]
        simp (implicitDefEqProofs := false) only [sB, simprocAttr, drAV, DS.dr]
        refine i_new fun z hz => ?_
        have n3 := List.nodup_cons.2 ⟨hz, g2⟩
        have zq : ¬ q = z := key_ne2 hlk hz
        have hD3 : DX p s2 ((z, .cells (drAV s2.dr tp ts)) :: H3) ([(z, .cells (drAV s2.dr tp ts)), (q, rC x2 t2)]) := hX2.mk ((g1.cons _).trans (List.perm_append_comm (l₁ := [(z, .cells (drAV s2.dr tp ts)), (q, rC x2 t2)]))) n3
        have hxl : s2.sizes.length ≤ 1073741824 := by have := hok2.len; omega
        have hx1 : s2.off ≤ 1073741824 := by omega
        rw [he2]
        simp only [drAV, DS.dr] at hD3
        simp (implicitDefEqProofs := false) only [sB, simprocAttr, hlk, zq, drAV, DS.dr]
        refine x_c19 hD3 hok2 hx1 ?_
        simp (implicitDefEqProofs := false) only [sB, simprocAttr, hlk, zq, hln]
        refine x_c15 hD3 hok2 hx1 fun t5 => ?_
        simp (implicitDefEqProofs := false) only [sB, simprocAttr, hlk, zq, by_of]
        refine x_c16 hD3 hok2 hx1 fun t6 => ?_
        simp (implicitDefEqProofs := false) only [sB, simprocAttr, hlk, zq]
        refine x_c23 hxl ?_
        simp (implicitDefEqProofs := false) only [sB, simprocAttr, hlk, zq]
        refine x_c17 hD3 hok2 hx1 ?_
        simp (implicitDefEqProofs := false) only [sB, simprocAttr, hlk, zq]
        refine x_c18 hD3 hok2 hx1 ?_
        simp (implicitDefEqProofs := false) only [sB, simprocAttr, hlk, zq, r9]
        exact ⟨H3, hle_sub (.refl _) (.cons _ (.refl _)), ⟨i + 1, X2, t2, x2, s2, hX2, g1, g2, hri2, hok2, by rw [hs]; omega, by omega, rfl⟩, by omega⟩
      · have ci' : ¬ (i : Int) < (l.length : Int) := by omega
        simp (implicitDefEqProofs := false) only [sB, simprocAttr, ci']
        exact hQ _ _ _ ⟨rfl, hn1⟩
  · rintro Q hQ σ H1 ⟨i, rfl, hi, rfl⟩
    by_cases ci : i < l.length
    · have ci' : (i : Int) < (l.length : Int) := by omega
      have i0 : (0 : Int) ≤ (i : Int) := by omega
      have hg : l[i]? = some l[i] := List.getElem?_eq_getElem ci
      have r9 := w_i64 ((i : Int) + 1) (by omega) (by omega)
      have hs := bb_take hg
      have hs2 := bb_le l (i + 1)
      have r8 := w_i64 (((bbSum (l.take i) : Nat) : Int) + (l[i].1.length : Int)) (by omega) (by omega)
      simp (implicitDefEqProofs := false) only [sB, simprocAttr, ci', i0, bb_get, hg, Option.map_some, by_len, r8, r9]
      exact ⟨_, .refl _, ⟨i + 1, rfl, by omega, by rw [hs, Int.natCast_add, Int.natCast_add]; exact ⟨rfl, rfl⟩⟩, by omega⟩
    · have ci' : ¬ (i : Int) < (l.length : Int) := by omega
      simp (implicitDefEqProofs := false) only [sB, simprocAttr, ci']
      rw [List.take_of_length_le (by omega)]
      exact hQ _ _ _ ⟨rfl, rfl, rfl, rfl⟩

/-- What is wanted of a program, for the decoder and its reference. -/
structure GOk (P : Program) : Prop extends FOk P where
  h13 : OkAt P 13 f13
  h21 : OkAt P 21 f21
  h22 : OkAt P 22 f22
section
variable {P : Program} (h : GOk P)
include h
theorem ok22 {G : Nat → Option (List AV)} (xs : List AV) (H : Heap) (K : AV → Heap → Prop) (c : c22 xs H ⟨K⟩) : ACalls G P 22 xs H K := okC h.hm (.consX (ok28 h.toEOk) .nilX) h.h22 _ _ _ (c22_of P (K := ⟨K⟩) c)
theorem ok21 {G : Nat → Option (List AV)} (xs : List AV) (H : Heap) (K : AV → Heap → Prop) (c : c21 xs H ⟨K⟩) : ACalls G P 21 xs H K := okC h.hm (.consX (ok22 h) .nilX) h.h21 _ _ _ (c21_of P (K := ⟨K⟩) c)
theorem ok13 {G : Nat → Option (List AV)} (xs : List AV) (H : Heap) (K : AV → Heap → Prop) (c : c13 xs H ⟨K⟩) : ACalls G P 13 xs H K := okC h.hm (.consX (ok21 h) (.consX (ok22 h) .nilX)) h.h13 _ _ _ (c13_of P (K := ⟨K⟩) c)
theorem tG_ok : TOk Gu P (plainT tG) := .consX (ok11 h.toFOk) (.consX (ok12 h.toFOk) (.consX (ok13 h) (.consX (ok14 h.toFOk) (.consX (ok15 h.toFOk) (.consX (ok16 h.toFOk) (.consX (ok17 h.toFOk) (.consX (ok18 h.toFOk) (.consX (ok19 h.toFOk) (.consX (ok20 h.toFOk) (.consX (ok21 h) (.consX (ok22 h) (.consX (ok23 h.toFOk) .nilX))))))))))))
end
end Go.AL.Fun
