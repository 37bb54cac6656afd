/- The end of the digits. -/
import Derived.Test.YtcmgeflfapffoaaDoorY3
set_option linter.unusedSimpArgs false
set_option linter.unusedVariables false
set_option maxRecDepth 100000
set_option maxHeartbeats 4000000
namespace Go.AL.Fun
open Go Go.AL

theorem val_range {s : List UInt8} {n : Nat} (h : Shape s n) : okR (val (s.take n)) ∧ (∀ c, s.head? = some c → 128 ≤ c.toNat → 128 ≤ val (s.take n)) := by
  unfold okR
  cases h with
  | one c t h1 =>
    rw [show (c :: t).take 1 = [c] from rfl]
    simp only [val, List.head?_cons, Option.some.injEq]
    refine ⟨by omega, ?_⟩
    rintro _ rfl h; omega
  | two c b t h1 h2 h3 h4 =>
    rw [show (c :: b :: t).take 2 = [c, b] from rfl]
    simp only [val, List.head?_cons, Option.some.injEq]
    have := b.toNat_lt
    refine ⟨by omega, ?_⟩
    rintro _ rfl h; omega
  | three c b d t h1 h2 h3 h4 h5 h6 =>
    rw [show (c :: b :: d :: t).take 3 = [c, b, d] from rfl]
    simp only [val, List.head?_cons, Option.some.injEq]
    have l1 := lo_ge c.toNat
    have l2 := hi_le c.toNat
    have hx : (c.toNat = 224 → 160 ≤ b.toNat) ∧ (c.toNat = 237 → b.toNat ≤ 159) := by
      unfold loOf at h3; unfold hiOf at h4
      constructor
      · intro e; rw [e] at h3; simpa using h3
      · intro e; rw [e] at h4; simpa using h4
    refine ⟨by omega, ?_⟩
    rintro _ rfl h; omega
  | four c b d e t h1 h2 h3 h4 h5 h6 h7 h8 =>
    rw [show (c :: b :: d :: e :: t).take 4 = [c, b, d, e] from rfl]
    simp only [val, List.head?_cons, Option.some.injEq]
    have l1 := lo_ge c.toNat
    have l2 := hi_le c.toNat
    have hx : (c.toNat = 240 → 144 ≤ b.toNat) ∧ (c.toNat = 244 → b.toNat ≤ 143) := by
      unfold loOf at h3; unfold hiOf at h4
      constructor
      · intro e; rw [e] at h3; simpa using h3
      · intro e; rw [e] at h4; simpa using h4
    refine ⟨by omega, ?_⟩
    rintro _ rfl h; omega
theorem dec1_okR (c : UInt8) (t : List UInt8) : okR (dec1 (c :: t)).1 ∧ (128 ≤ c.toNat → 128 ≤ (dec1 (c :: t)).1) ∧ (c.toNat < 128 → dec1 (c :: t) = (((c.toNat : Nat) : Int), 1)) := by
  refine ⟨?_, ?_, ?_⟩
  · unfold dec1
    split
    · exact ⟨by decide, by decide, by decide⟩
    · rename_i h; exact (val_range (fst_shape h)).1
  · intro hc
    unfold dec1
    split
    · show (128 : Int) ≤ 65533; decide
    · rename_i h; exact (val_range (fst_shape h)).2 c rfl hc
  · intro hc
    have hf : fst (c :: t) = (1, false) := by rw [fst, if_pos hc]
    unfold dec1; rw [hf]; rfl
theorem hexD_fin : ∀ i : Fin 256, (UInt8.ofNat i.val ∈ hexD ↔ isHx (UInt8.ofNat i.val) = true) := by decide +kernel
theorem hexD_iff (c : UInt8) : c ∈ hexD ↔ isHx c = true := by obtain ⟨i, rfl⟩ := u8_fin c; exact hexD_fin i
theorem isHx_lt {c : UInt8} (h : isHx c = true) : c.toNat < 128 := by
  unfold isHx at h
  have h := of_decide_eq_true h
  unfold hv at h
  split at h
  · omega
  · split at h
    · omega
    · omega
theorem hasR_dec (c : UInt8) (t : List UInt8) : hasR hexD (dec1 (c :: t)).1 = isHx c := by
  obtain ⟨h1, h2, h3⟩ := dec1_okR c t
  by_cases hc : c.toNat < 128
  · rw [h3 hc]
    unfold hasR
    simp only [Int.toNat_natCast, UInt8.ofNat_toNat]
    cases hx : isHx c with
    | true => exact decide_eq_true ⟨by omega, by omega, (hexD_iff c).2 hx⟩
    | false => exact decide_eq_false fun h => by rw [(hexD_iff c).1 h.2.2] at hx; cases hx
  · have h4 := h2 (by omega)
    have : isHx c = false := by
      cases hx : isHx c with
      | true => exact absurd (isHx_lt hx) hc
      | false => rfl
    rw [this]
    unfold hasR
    exact decide_eq_false fun h => by omega
def c36 (xs : List AV) (H : Heap) (K : Kv) : Prop := ∃ (s : List UInt8) (r : Int), xs = [.str s, .int .i32 r] ∧ (∀ x ∈ s, x.toNat < 128) ∧ s.length ≤ 1000 ∧ okR r ∧ K.ap (.bool (hasR s r)) H
theorem c36_of (P : Program) {G : Nat → Option (List AV)} {xs : List AV} {H : Heap} {K : Kv} (h : c36 xs H K) : @xF ⟨G, P, [(57, c43)]⟩ f53 xs H K := by
  obtain ⟨s, r, rfl, hs, hl, hr, k⟩ := h
  simp (implicitDefEqProofs := false) only [sB, simprocAttr, f53]
  refine ⟨s, r, rfl, hs, hl, hr, fun n hn => ?_⟩
  simp (implicitDefEqProofs := false) only [sB, simprocAttr]
  rw [hn]; exact k
def c35 (xs : List AV) (H : Heap) (K : Kv) : Prop := ∃ (r : Int), xs = [.int .i32 r] ∧ okR r ∧ K.ap (.bool (!hasR hexD r)) H
theorem c35_of (P : Program) {G : Nat → Option (List AV)} {xs : List AV} {H : Heap} {K : Kv} (h : c35 xs H K) : @xF ⟨G, P, [(53, c36)]⟩ f52 xs H K := by
  obtain ⟨r, rfl, hr, k⟩ := h
  simp (implicitDefEqProofs := false) only [sB, simprocAttr, f52]
  refine ⟨hexD, r, rfl, by decide, by decide, hr, ?_⟩
  simp (implicitDefEqProofs := false) only [sB, simprocAttr]
  exact k
theorem x_c46 {p : List UInt8} {t : Tok} {H : Heap} {K : Kv} (hne : p ≠ []) (hl : p.length ≤ 1099511627776) (k : K.ap (.tup [.int .i32 (dec1 p).1, .int .i64 (dec1 p).2]) H) : c46 [.sl (bytesAV p) t] H K := ⟨p, t, rfl, hne, hl, k⟩
/-- The place of the first byte that is no digit. -/
def endP (b : List UInt8) : Int := if (b.takeWhile isHx).length < b.length then ((b.takeWhile isHx).length : Nat) else -1
theorem tw_len {b : List UInt8} {i : Nat} (hi : i ≤ b.length) (h : ∀ c ∈ b.take i, isHx c = true) (hx : ∀ c, b[i]? = some c → isHx c = false) : b.takeWhile isHx = b.take i := by
  conv => lhs; rw [← List.take_append_drop i b]
  refine tw_app h fun c hc => hx c ?_
  have : (b.drop i).head? = b[i]? := by rw [List.head?_drop]
  rw [this] at hc; exact hc
def c42 (xs : List AV) (H : Heap) (K : Kv) : Prop := ∃ (b : List UInt8) (t : Tok), xs = [.sl (bytesAV b) t, .fn (.func 52) [] [], .bool true] ∧ b.length ≤ 1099511627776 ∧ K.ap (.int .i64 (endP b)) H
theorem c42_of (P : Program) {G : Nat → Option (List AV)} {xs : List AV} {H : Heap} {K : Kv} (h : c42 xs H K) : @xF ⟨G, P, [(63, c46), (52, c35)]⟩ f56 xs H ⟨fun v H' => ∃ H0, Hle H0 H' ∧ K.ap v H0⟩ := by
  obtain ⟨b, t, rfl, hl, k⟩ := h
  simp (implicitDefEqProofs := false) only [sB, simprocAttr, f56]
  refine i_loopJ (fun σ H1 => ∃ (i : Nat), H1 = H ∧ i ≤ b.length ∧ (∀ c ∈ b.take i, isHx c = true) ∧ σ = [(0, .sl (bytesAV b) t), (1, .fn (.func 52) [] []), (2, .bool true), (7, .int .i64 i)])
    (fun σ _ => match σ.get 7 with | .int _ n => b.length - n.toNat | _ => 0)
    (fun e σ H1 => H1 = H ∧ ((e = .exit 0 ∧ endP b = -1) ∨ (e = .ret ∧ σ.get 6 = .int .i64 (endP b))))
    ⟨_, .refl _, 0, rfl, by omega, by simp, rfl⟩ ?_ ?_
  · rintro e σ H1 ⟨rfl, ⟨rfl, e1⟩ | ⟨rfl, q6⟩⟩
    · rw [e1] at k
      simp (implicitDefEqProofs := false) only [sB, simprocAttr]
      exact ⟨_, .refl _, k⟩
    · simp (implicitDefEqProofs := false) only [sB, simprocAttr, q6]
      exact ⟨_, .refl _, k⟩
  · rintro Q hQ σ H1 ⟨i, rfl, hi, ha, rfl⟩
    by_cases c : i < b.length
    · have c' : (i : Int) < (b.length : Int) := by omega
      have i0 : (0 : Int) ≤ (i : Int) := by omega
      have i1 : (i : Int) ≤ (b.length : Int) := by omega
      have hne : b.drop i ≠ [] := by intro e; have := congrArg List.length e; rw [List.length_drop] at this; simp at this; omega
      simp (implicitDefEqProofs := false) only [sB, simprocAttr, by_len, c', i0, i1]
      refine x_c46 hne (by rw [List.length_drop]; omega) ?_
      have hdr : b.drop i = b[i] :: b.drop (i + 1) := List.drop_eq_getElem_cons c
      have hh := hasR_dec b[i] (b.drop (i + 1))
      obtain ⟨d1, d2, d3⟩ := dec1_okR b[i] (b.drop (i + 1))
      rw [hdr]
      have hx : b[i]? = some b[i] := List.getElem?_eq_getElem c
      generalize b[i] = x at hh d1 d2 d3 hx ⊢
      simp (implicitDefEqProofs := false) only [sB, simprocAttr]
      refine ⟨_, rfl, d1, ?_⟩
      rw [hh]
      cases hxx : isHx x with
      | true =>
        have d4 := d3 (isHx_lt hxx)
        have r9 := w_i64 ((i : Int) + 1) (by omega) (by omega)
        have e1 : (((dec1 (x :: b.drop (i + 1))).2 : Nat) : Int) = 1 := by rw [d4]; rfl
        simp (implicitDefEqProofs := false) only [sB, simprocAttr, e1, r9]
        refine ⟨_, .refl _, ⟨i + 1, rfl, by omega, fun c hc => ?_, by simp⟩, by omega⟩
        rw [List.take_add_one, hx] at hc
        rcases List.mem_append.1 hc with hc | hc
        · exact ha c hc
        · simp at hc; subst hc; exact hxx
      | false =>
        have htw := tw_len hi ha (fun c hc => by rw [hx] at hc; cases hc; exact hxx)
        simp (implicitDefEqProofs := false) only [sB, simprocAttr]
        refine hQ _ _ _ ⟨rfl, .inr ⟨rfl, ?_⟩⟩
        unfold endP
        rw [htw, List.length_take, Nat.min_eq_left hi, if_pos c]; rfl
    · have c' : ¬ (i : Int) < (b.length : Int) := by omega
      have htw := tw_len hi ha (fun c hc => by rw [List.getElem?_eq_none (by omega)] at hc; cases hc)
      simp (implicitDefEqProofs := false) only [sB, simprocAttr, by_len, c']
      refine hQ _ _ _ ⟨rfl, .inl ⟨rfl, ?_⟩⟩
      unfold endP
      rw [htw, List.length_take, if_neg (by omega)]
def c34 (xs : List AV) (H : Heap) (K : Kv) : Prop := ∃ (b : List UInt8) (t : Tok), xs = [.sl (bytesAV b) t, .fn (.func 52) [] []] ∧ b.length ≤ 1099511627776 ∧ K.ap (.int .i64 (endP b)) H
theorem c34_of (P : Program) {G : Nat → Option (List AV)} {xs : List AV} {H : Heap} {K : Kv} (h : c34 xs H K) : @xF ⟨G, P, [(56, c42)]⟩ f51 xs H K := by
  obtain ⟨b, t, rfl, hl, k⟩ := h
  simp (implicitDefEqProofs := false) only [sB, simprocAttr, f51]
  refine ⟨b, t, rfl, hl, ?_⟩
  simp (implicitDefEqProofs := false) only [sB, simprocAttr]
  exact k
end Go.AL.Fun
