/- The reference's Rune. Printed by gs13.py. -/
import Derived.Test.YtijioomcpecdhaaDoorS12
set_option linter.unusedSimpArgs false
set_option linter.unusedVariables false
set_option maxRecDepth 100000
set_option maxHeartbeats 4000000
namespace Go.AL.Fun
open Go Go.AL

theorem mem_txS : ∀ c : Fin 128, UInt8.ofNat c.val ∈ txS ↔ (c.val = 60 ∨ c.val = 62 ∨ c.val = 34 ∨ c.val = 39) := by decide
theorem hasR_tx_iff {q : Int} : hasR txS q = true ↔ (q = 60 ∨ q = 62 ∨ q = 34 ∨ q = 39) := by
  unfold hasR
  rw [decide_eq_true_iff]
  constructor
  · rintro ⟨h0, h1, h2⟩
    have := (mem_txS ⟨q.toNat, by omega⟩).1 h2
    simp only at this; omega
  · intro h
    refine ⟨by omega, by omega, (mem_txS ⟨q.toNat, by omega⟩).2 ?_⟩
    simp only; omega
theorem htmlP_ne (q : Int) : htmlP q ≠ [] := by unfold htmlP; repeat' split
                                                all_goals simp
def isE (q : Int) : Prop := q = 38 ∨ q = 60 ∨ q = 62 ∨ q = 34 ∨ q = 39
theorem htmlE_pos {q : Int} (h : isE q) : htmlE q = htmlP q := if_pos h
theorem htmlE_neg {q : Int} (h : ¬ isE q) : htmlE q = [] := if_neg h
theorem r0p {q : Int} (h : isE q) : runeQ 0 q = htmlP q := by
  rw [rq0, if_pos]; rw [hasR_tx_iff]; unfold isE at h; omega
theorem r0n {q : Int} (h : ¬ isE q) : runeQ 0 q = enc1 q := by
  rw [rq0, if_neg]; rw [hasR_tx_iff]; unfold isE at h; omega
theorem r1p {q : Int} (h : isE q) : runeQ 1 q = htmlP q := by
  rw [rq1, if_neg (by unfold isE at h; omega), if_pos]; rw [hasR_tx_iff]; unfold isE at h; omega
theorem r1a : runeQ 1 96 = [38, 35, 57, 54, 59] := by decide
theorem r1b : runeQ 1 61 = [38, 35, 54, 49, 59] := by decide
theorem r1n {q : Int} (h : ¬ isE q) (h1 : q ≠ 96) (h2 : q ≠ 61) : runeQ 1 q = enc1 q := by
  rw [rq1, if_neg (by omega), if_neg]; rw [hasR_tx_iff]; unfold isE at h; omega
theorem enc_hi {q : Int} (hok : okR q) (h : 128 ≤ q) : ∀ b ∈ enc1 q, 128 ≤ b.toNat := by
  obtain ⟨h0, h1, h2⟩ := hok
  have he : encC q = q.toNat := by unfold encC; rw [if_neg (by omega)]
  unfold enc1
  rw [he, if_neg (by omega)]
  repeat' split
  all_goals
    intro b hb
    simp only [List.mem_cons, List.not_mem_nil, or_false] at hb
    rcases hb with rfl | rfl | rfl | rfl <;> simp <;> omega
theorem enc_lo {q : Int} (h0 : 0 ≤ q) (h : q < 128) : enc1 q = [UInt8.ofNat q.toNat] := by
  have he : encC q = q.toNat := by unfold encC; rw [if_neg (by omega)]
  unfold enc1
  rw [he, if_pos (by omega)]
theorem unres_hi {b : UInt8} (h : 128 ≤ b.toNat) : unres b = false := by
  unfold unres letP hasR
  rw [decide_eq_false (by omega), decide_eq_false (by omega)]; rfl
theorem url_hi : ∀ (s : List UInt8), (∀ b ∈ s, 128 ≤ b.toNat) → urlP s = pct s
  | [], _ => rfl
  | b :: s, h => by
    have ih := url_hi s fun x hx => h x (List.mem_cons_of_mem _ hx)
    unfold urlP pct at ih ⊢
    rw [List.flatMap_cons, List.flatMap_cons, ih, unres_hi (h b List.mem_cons_self)]; rfl
theorem r2 {q : Int} (hok : okR q) : runeQ 2 q = urlP (enc1 q) := by
  have h0 := hok.1
  rw [rq2]
  by_cases h : q < 128
  · rw [enc_lo h0 h]
    have hu : unres (UInt8.ofNat q.toNat) = (letP q || hasR unS q) := by
      unfold unres
      have : (((UInt8.ofNat q.toNat).toNat : Nat) : Int) = q := by simp; omega
      rw [this]
    unfold urlP pct
    rw [List.flatMap_cons, List.flatMap_cons, hu]
    cases letP q <;> cases hasR unS q <;> simp
  · rw [url_hi _ (enc_hi hok (by omega)), if_pos]
    constructor
    · unfold letP; rw [decide_eq_false]; omega
    · unfold hasR; rw [decide_eq_false]; omega
theorem hexW_1 (n : Nat) : hexW 1 n = hexL n := by
  have := List.length_pos_iff.2 (hexL_ne n)
  unfold hexW
  rw [show 1 - (hexL n).length = 0 by omega]; rfl
theorem encP_one (q : Int) : encP [q] = enc1 q := by simp [encP]
theorem ctl_of {q : Int} {a b : Prop} [Decidable a] [Decidable b] (ha : a ↔ q < 32) (hb : b ↔ q = 127) : ctlP q = (decide a || decide b) := by
  unfold ctlP
  by_cases h1 : a <;> by_cases h2 : b <;> simp [h1, h2, ← ha, ← hb]
def c16 (xs : List AV) (H : Heap) (K : Kv) : Prop := ∃ (e r : Int), xs = [.int .i64 e, .int .i32 r] ∧ -2147483648 ≤ r ∧ r < 2147483648 ∧ H.keys.Nodup ∧
  (0 ≤ e → e ≤ 4 → K.ap (.tup [.str (runeP e r), .int .i64 0]) H) ∧ (e < 0 ∨ 4 < e → K.ap (.tup [.str [], .int .i64 2]) H)
theorem hexW_len {n : Nat} (h : n ≤ 65535) : (hexW 4 n).length = 4 := by
  have := hexL_4 h
  unfold hexW
  rw [List.length_append, List.length_replicate]; omega
theorem norm_bad {e r : Int} (h : okB r = false ∨ (r = 0 ∧ e ≠ 2 ∧ e ≠ 3)) : normP e r = 65533 := if_pos h
theorem norm_good {e r : Int} (h : okR r) (h2 : ¬ (r = 0 ∧ e ≠ 2 ∧ e ≠ 3)) : normP e r = r := if_neg (by rw [okB_iff.2 h]; simpa using h2)
theorem okB_no {r : Int} (h : ¬ okR r) : okB r = false := by rw [Bool.eq_false_iff]; exact fun e => h (okB_iff.1 e)
theorem c16_0 (P : Program) {G : Nat → Option (List AV)} {H : Heap} {K : Kv} (r : Int) (lo : -2147483648 ≤ r) (hi : r < 2147483648) (hn : H.keys.Nodup) (k : K.ap (.tup [.str (runeP 0 r), .int .i64 0]) H) : @xF ⟨G, P, [(48, c48), (49, c49), (50, c50), (51, c51), (52, c52)]⟩ f16 [.int .i64 0, .int .i32 r] H ⟨fun v H' => ∃ H0, Hle H0 H' ∧ K.ap v H0⟩ := by
  unfold runeP at k
  have hle : ∀ z o, Hle H ((z, o) :: H) := fun z o => .tail _ _
  have cls : r < 0 ∨ (¬ r < 0 ∧ 1114111 < r) ∨ (¬ r < 0 ∧ ¬ 1114111 < r ∧ 55296 ≤ r ∧ r ≤ 57343) ∨ (¬ r < 0 ∧ ¬ 1114111 < r ∧ 55296 ≤ r ∧ ¬ r ≤ 57343 ∧ ¬ r = 0) ∨ (¬ r < 0 ∧ ¬ 1114111 < r ∧ ¬ 55296 ≤ r ∧ r = 0) ∨ (¬ r < 0 ∧ ¬ 1114111 < r ∧ ¬ 55296 ≤ r ∧ ¬ r = 0) := by omega
  rcases cls with a1 | ⟨a1, a2⟩ | ⟨a1, a2, a3, a4⟩ | ⟨a1, a2, a3, a4, a5⟩ | ⟨a1, a2, a3, a5⟩ | ⟨a1, a2, a3, a5⟩
  rw [norm_bad (e := 0) (.inl (okB_no (by unfold okR; omega)))] at k
  have hok : okR 65533 := by unfold okR; omega
  simp (implicitDefEqProofs := false) only [sB, simprocAttr, f16, a1]
  generalize (65533 : Int) = q at *
  rotate_left
  rw [norm_bad (e := 0) (.inl (okB_no (by unfold okR; omega)))] at k
  have hok : okR 65533 := by unfold okR; omega
  simp (implicitDefEqProofs := false) only [sB, simprocAttr, f16, a1, a2]
  generalize (65533 : Int) = q at *
  rotate_left
  rw [norm_bad (e := 0) (.inl (okB_no (by unfold okR; omega)))] at k
  have hok : okR 65533 := by unfold okR; omega
  simp (implicitDefEqProofs := false) only [sB, simprocAttr, f16, a1, a2, a3, a4]
  generalize (65533 : Int) = q at *
  rotate_left
  have hok : okR r := by unfold okR; omega
  rw [norm_good (e := 0) hok (by omega)] at k
  simp (implicitDefEqProofs := false) only [sB, simprocAttr, f16, a1, a2, a3, a4, a5]
  clear lo hi
  generalize r = q at *
  rotate_left
  rw [norm_bad (e := 0) (.inr ⟨a5, by decide, by decide⟩)] at k
  have hok : okR 65533 := by unfold okR; omega
  simp (implicitDefEqProofs := false) only [sB, simprocAttr, f16, a1, a2, a3, a5]
  generalize (65533 : Int) = q at *
  rotate_left
  have hok : okR r := by unfold okR; omega
  rw [norm_good (e := 0) hok (by omega)] at k
  simp (implicitDefEqProofs := false) only [sB, simprocAttr, f16, a1, a2, a3, a5]
  clear lo hi
  generalize r = q at *
  rotate_left
  all_goals
    refine i_sl ⟨⟨i32_all [q], rfl, rfl⟩, i_new fun z hz => ?_⟩
    simp (implicitDefEqProofs := false) only [sB, simprocAttr]
    refine ⟨_, [q], rfl, .sl [q] _, by simp, fun x hx => by simp only [List.mem_singleton] at hx; subst hx; exact ⟨by have := hok.1; omega, by have := hok.2.1; omega⟩, ?_⟩
    rw [encP_one]
    have hq0 := hok.1
    clear a1
    rcases (by omega : q < 32 ∨ (¬ q < 32 ∧ q = 127) ∨ (¬ q < 32 ∧ ¬ q = 127)) with d1 | ⟨d1, d2⟩ | ⟨d1, d2⟩
    · simp (implicitDefEqProofs := false) only [sB, simprocAttr, d1]
      refine ⟨q, rfl, ?_⟩
      by_cases hE : isE q
      · rw [htmlE_pos hE]
        have hne := htmlP_ne q
        simp (implicitDefEqProofs := false) only [sB, simprocAttr, hne]
        refine ⟨q, rfl, ?_⟩
        rw [htmlE_pos hE]
        rw [r0p hE] at k
        simp (implicitDefEqProofs := false) only [sB, simprocAttr]
        exact ⟨_, hle _ _, k⟩
      · rw [htmlE_neg hE]
        rw [r0n hE] at k
        simp (implicitDefEqProofs := false) only [sB, simprocAttr]
        exact ⟨_, hle _ _, k⟩
    · have d2' := eq_true d2
      simp (implicitDefEqProofs := false) only [sB, simprocAttr, d1, d2']
      refine ⟨q, rfl, ?_⟩
      by_cases hE : isE q
      · rw [htmlE_pos hE]
        have hne := htmlP_ne q
        simp (implicitDefEqProofs := false) only [sB, simprocAttr, hne]
        refine ⟨q, rfl, ?_⟩
        rw [htmlE_pos hE]
        rw [r0p hE] at k
        simp (implicitDefEqProofs := false) only [sB, simprocAttr]
        exact ⟨_, hle _ _, k⟩
      · rw [htmlE_neg hE]
        rw [r0n hE] at k
        simp (implicitDefEqProofs := false) only [sB, simprocAttr]
        exact ⟨_, hle _ _, k⟩
    · simp (implicitDefEqProofs := false) only [sB, simprocAttr, d1, d2]
      refine ⟨q, rfl, ?_⟩
      by_cases hE : isE q
      · rw [htmlE_pos hE]
        have hne := htmlP_ne q
        simp (implicitDefEqProofs := false) only [sB, simprocAttr, hne]
        refine ⟨q, rfl, ?_⟩
        rw [htmlE_pos hE]
        rw [r0p hE] at k
        simp (implicitDefEqProofs := false) only [sB, simprocAttr]
        exact ⟨_, hle _ _, k⟩
      · rw [htmlE_neg hE]
        rw [r0n hE] at k
        simp (implicitDefEqProofs := false) only [sB, simprocAttr]
        exact ⟨_, hle _ _, k⟩
theorem c16_1 (P : Program) {G : Nat → Option (List AV)} {H : Heap} {K : Kv} (r : Int) (lo : -2147483648 ≤ r) (hi : r < 2147483648) (hn : H.keys.Nodup) (k : K.ap (.tup [.str (runeP 1 r), .int .i64 0]) H) : @xF ⟨G, P, [(48, c48), (49, c49), (50, c50), (51, c51), (52, c52)]⟩ f16 [.int .i64 1, .int .i32 r] H ⟨fun v H' => ∃ H0, Hle H0 H' ∧ K.ap v H0⟩ := by
  unfold runeP at k
  have hle : ∀ z o, Hle H ((z, o) :: H) := fun z o => .tail _ _
  have cls : r < 0 ∨ (¬ r < 0 ∧ 1114111 < r) ∨ (¬ r < 0 ∧ ¬ 1114111 < r ∧ 55296 ≤ r ∧ r ≤ 57343) ∨ (¬ r < 0 ∧ ¬ 1114111 < r ∧ 55296 ≤ r ∧ ¬ r ≤ 57343 ∧ ¬ r = 0) ∨ (¬ r < 0 ∧ ¬ 1114111 < r ∧ ¬ 55296 ≤ r ∧ r = 0) ∨ (¬ r < 0 ∧ ¬ 1114111 < r ∧ ¬ 55296 ≤ r ∧ ¬ r = 0) := by omega
  rcases cls with a1 | ⟨a1, a2⟩ | ⟨a1, a2, a3, a4⟩ | ⟨a1, a2, a3, a4, a5⟩ | ⟨a1, a2, a3, a5⟩ | ⟨a1, a2, a3, a5⟩
  rw [norm_bad (e := 1) (.inl (okB_no (by unfold okR; omega)))] at k
  have hok : okR 65533 := by unfold okR; omega
  simp (implicitDefEqProofs := false) only [sB, simprocAttr, f16, a1]
  generalize (65533 : Int) = q at *
  rotate_left
  rw [norm_bad (e := 1) (.inl (okB_no (by unfold okR; omega)))] at k
  have hok : okR 65533 := by unfold okR; omega
  simp (implicitDefEqProofs := false) only [sB, simprocAttr, f16, a1, a2]
  generalize (65533 : Int) = q at *
  rotate_left
  rw [norm_bad (e := 1) (.inl (okB_no (by unfold okR; omega)))] at k
  have hok : okR 65533 := by unfold okR; omega
  simp (implicitDefEqProofs := false) only [sB, simprocAttr, f16, a1, a2, a3, a4]
  generalize (65533 : Int) = q at *
  rotate_left
  have hok : okR r := by unfold okR; omega
  rw [norm_good (e := 1) hok (by omega)] at k
  simp (implicitDefEqProofs := false) only [sB, simprocAttr, f16, a1, a2, a3, a4, a5]
  clear lo hi
  generalize r = q at *
  rotate_left
  rw [norm_bad (e := 1) (.inr ⟨a5, by decide, by decide⟩)] at k
  have hok : okR 65533 := by unfold okR; omega
  simp (implicitDefEqProofs := false) only [sB, simprocAttr, f16, a1, a2, a3, a5]
  generalize (65533 : Int) = q at *
  rotate_left
  have hok : okR r := by unfold okR; omega
  rw [norm_good (e := 1) hok (by omega)] at k
  simp (implicitDefEqProofs := false) only [sB, simprocAttr, f16, a1, a2, a3, a5]
  clear lo hi
  generalize r = q at *
  rotate_left
  all_goals
    refine i_sl ⟨⟨i32_all [q], rfl, rfl⟩, i_new fun z hz => ?_⟩
    simp (implicitDefEqProofs := false) only [sB, simprocAttr]
    refine ⟨_, [q], rfl, .sl [q] _, by simp, fun x hx => by simp only [List.mem_singleton] at hx; subst hx; exact ⟨by have := hok.1; omega, by have := hok.2.1; omega⟩, ?_⟩
    rw [encP_one]
    have hq0 := hok.1
    clear a1
    rcases (by omega : q < 32 ∨ (¬ q < 32 ∧ q = 127) ∨ (¬ q < 32 ∧ ¬ q = 127)) with d1 | ⟨d1, d2⟩ | ⟨d1, d2⟩
    · simp (implicitDefEqProofs := false) only [sB, simprocAttr, d1]
      refine ⟨q, rfl, ?_⟩
      by_cases hE : isE q
      · rw [htmlE_pos hE]
        have hne := htmlP_ne q
        simp (implicitDefEqProofs := false) only [sB, simprocAttr, hne]
        refine ⟨q, rfl, ?_⟩
        rw [htmlE_pos hE]
        rw [r1p hE] at k
        simp (implicitDefEqProofs := false) only [sB, simprocAttr]
        exact ⟨_, hle _ _, k⟩
      · rw [htmlE_neg hE]
        by_cases q96 : q = 96
        · subst q96
          rw [r1a] at k
          simp (implicitDefEqProofs := false) only [sB, simprocAttr]
          exact ⟨_, hle _ _, k⟩
        by_cases q61 : q = 61
        · subst q61
          rw [r1b] at k
          simp (implicitDefEqProofs := false) only [sB, simprocAttr]
          exact ⟨_, hle _ _, k⟩
        rw [r1n hE q96 q61] at k
        simp (implicitDefEqProofs := false) only [sB, simprocAttr, q96, q61]
        exact ⟨_, hle _ _, k⟩
    · have d2' := eq_true d2
      simp (implicitDefEqProofs := false) only [sB, simprocAttr, d1, d2']
      refine ⟨q, rfl, ?_⟩
      by_cases hE : isE q
      · rw [htmlE_pos hE]
        have hne := htmlP_ne q
        simp (implicitDefEqProofs := false) only [sB, simprocAttr, hne]
        refine ⟨q, rfl, ?_⟩
        rw [htmlE_pos hE]
        rw [r1p hE] at k
        simp (implicitDefEqProofs := false) only [sB, simprocAttr]
        exact ⟨_, hle _ _, k⟩
      · rw [htmlE_neg hE]
        by_cases q96 : q = 96
        · subst q96
          rw [r1a] at k
          simp (implicitDefEqProofs := false) only [sB, simprocAttr]
          exact ⟨_, hle _ _, k⟩
        by_cases q61 : q = 61
        · subst q61
          rw [r1b] at k
          simp (implicitDefEqProofs := false) only [sB, simprocAttr]
          exact ⟨_, hle _ _, k⟩
        rw [r1n hE q96 q61] at k
        simp (implicitDefEqProofs := false) only [sB, simprocAttr, q96, q61]
        exact ⟨_, hle _ _, k⟩
    · simp (implicitDefEqProofs := false) only [sB, simprocAttr, d1, d2]
      refine ⟨q, rfl, ?_⟩
      by_cases hE : isE q
      · rw [htmlE_pos hE]
        have hne := htmlP_ne q
        simp (implicitDefEqProofs := false) only [sB, simprocAttr, hne]
        refine ⟨q, rfl, ?_⟩
        rw [htmlE_pos hE]
        rw [r1p hE] at k
        simp (implicitDefEqProofs := false) only [sB, simprocAttr]
        exact ⟨_, hle _ _, k⟩
      · rw [htmlE_neg hE]
        by_cases q96 : q = 96
        · subst q96
          rw [r1a] at k
          simp (implicitDefEqProofs := false) only [sB, simprocAttr]
          exact ⟨_, hle _ _, k⟩
        by_cases q61 : q = 61
        · subst q61
          rw [r1b] at k
          simp (implicitDefEqProofs := false) only [sB, simprocAttr]
          exact ⟨_, hle _ _, k⟩
        rw [r1n hE q96 q61] at k
        simp (implicitDefEqProofs := false) only [sB, simprocAttr, q96, q61]
        exact ⟨_, hle _ _, k⟩
theorem c16_2 (P : Program) {G : Nat → Option (List AV)} {H : Heap} {K : Kv} (r : Int) (lo : -2147483648 ≤ r) (hi : r < 2147483648) (hn : H.keys.Nodup) (k : K.ap (.tup [.str (runeP 2 r), .int .i64 0]) H) : @xF ⟨G, P, [(48, c48), (49, c49), (50, c50), (51, c51), (52, c52)]⟩ f16 [.int .i64 2, .int .i32 r] H ⟨fun v H' => ∃ H0, Hle H0 H' ∧ K.ap v H0⟩ := by
  unfold runeP at k
  have hle : ∀ z o, Hle H ((z, o) :: H) := fun z o => .tail _ _
  have cls : r < 0 ∨ (¬ r < 0 ∧ 1114111 < r) ∨ (¬ r < 0 ∧ ¬ 1114111 < r ∧ 55296 ≤ r ∧ r ≤ 57343) ∨ (¬ r < 0 ∧ ¬ 1114111 < r ∧ 55296 ≤ r ∧ ¬ r ≤ 57343 ∧ ¬ r = 0) ∨ (¬ r < 0 ∧ ¬ 1114111 < r ∧ ¬ 55296 ≤ r ∧ r = 0) ∨ (¬ r < 0 ∧ ¬ 1114111 < r ∧ ¬ 55296 ≤ r ∧ ¬ r = 0) := by omega
  rcases cls with a1 | ⟨a1, a2⟩ | ⟨a1, a2, a3, a4⟩ | ⟨a1, a2, a3, a4, a5⟩ | ⟨a1, a2, a3, a5⟩ | ⟨a1, a2, a3, a5⟩
  rw [norm_bad (e := 2) (.inl (okB_no (by unfold okR; omega)))] at k
  have hok : okR 65533 := by unfold okR; omega
  simp (implicitDefEqProofs := false) only [sB, simprocAttr, f16, a1]
  generalize (65533 : Int) = q at *
  rotate_left
  rw [norm_bad (e := 2) (.inl (okB_no (by unfold okR; omega)))] at k
  have hok : okR 65533 := by unfold okR; omega
  simp (implicitDefEqProofs := false) only [sB, simprocAttr, f16, a1, a2]
  generalize (65533 : Int) = q at *
  rotate_left
  rw [norm_bad (e := 2) (.inl (okB_no (by unfold okR; omega)))] at k
  have hok : okR 65533 := by unfold okR; omega
  simp (implicitDefEqProofs := false) only [sB, simprocAttr, f16, a1, a2, a3, a4]
  generalize (65533 : Int) = q at *
  rotate_left
  have hok : okR r := by unfold okR; omega
  rw [norm_good (e := 2) hok (by omega)] at k
  simp (implicitDefEqProofs := false) only [sB, simprocAttr, f16, a1, a2, a3, a4, a5]
  clear lo hi
  generalize r = q at *
  rotate_left
  have hok : okR r := by unfold okR; omega
  rw [norm_good (e := 2) hok (by omega)] at k
  have a5' := eq_true a5
  simp (implicitDefEqProofs := false) only [sB, simprocAttr, f16, a1, a2, a3, a5']
  clear lo hi
  generalize r = q at *
  rotate_left
  have hok : okR r := by unfold okR; omega
  rw [norm_good (e := 2) hok (by omega)] at k
  simp (implicitDefEqProofs := false) only [sB, simprocAttr, f16, a1, a2, a3, a5]
  clear lo hi
  generalize r = q at *
  rotate_left
  all_goals
    refine i_sl ⟨⟨i32_all [q], rfl, rfl⟩, i_new fun z hz => ?_⟩
    simp (implicitDefEqProofs := false) only [sB, simprocAttr]
    refine ⟨_, [q], rfl, .sl [q] _, by simp, fun x hx => by simp only [List.mem_singleton] at hx; subst hx; exact ⟨by have := hok.1; omega, by have := hok.2.1; omega⟩, ?_⟩
    rw [encP_one]
    have hq0 := hok.1
    clear a1
    rcases (by omega : q < 32 ∨ (¬ q < 32 ∧ q = 127) ∨ (¬ q < 32 ∧ ¬ q = 127)) with d1 | ⟨d1, d2⟩ | ⟨d1, d2⟩
    · simp (implicitDefEqProofs := false) only [sB, simprocAttr, d1]
      rw [r2 hok] at k
      refine ⟨enc1 q, rfl, by have := (enc1_len q).1; omega, List.nodup_cons.2 ⟨hz, hn⟩, ?_⟩
      simp (implicitDefEqProofs := false) only [sB, simprocAttr]
      exact ⟨_, hle _ _, k⟩
    · have d2' := eq_true d2
      simp (implicitDefEqProofs := false) only [sB, simprocAttr, d1, d2']
      rw [r2 hok] at k
      refine ⟨enc1 q, rfl, by have := (enc1_len q).1; omega, List.nodup_cons.2 ⟨hz, hn⟩, ?_⟩
      simp (implicitDefEqProofs := false) only [sB, simprocAttr]
      exact ⟨_, hle _ _, k⟩
    · simp (implicitDefEqProofs := false) only [sB, simprocAttr, d1, d2]
      rw [r2 hok] at k
      refine ⟨enc1 q, rfl, by have := (enc1_len q).1; omega, List.nodup_cons.2 ⟨hz, hn⟩, ?_⟩
      simp (implicitDefEqProofs := false) only [sB, simprocAttr]
      exact ⟨_, hle _ _, k⟩
theorem c16_3 (P : Program) {G : Nat → Option (List AV)} {H : Heap} {K : Kv} (r : Int) (lo : -2147483648 ≤ r) (hi : r < 2147483648) (hn : H.keys.Nodup) (k : K.ap (.tup [.str (runeP 3 r), .int .i64 0]) H) : @xF ⟨G, P, [(48, c48), (49, c49), (50, c50), (51, c51), (52, c52)]⟩ f16 [.int .i64 3, .int .i32 r] H ⟨fun v H' => ∃ H0, Hle H0 H' ∧ K.ap v H0⟩ := by
  unfold runeP at k
  have hle : ∀ z o, Hle H ((z, o) :: H) := fun z o => .tail _ _
  have cls : r < 0 ∨ (¬ r < 0 ∧ 1114111 < r) ∨ (¬ r < 0 ∧ ¬ 1114111 < r ∧ 55296 ≤ r ∧ r ≤ 57343) ∨ (¬ r < 0 ∧ ¬ 1114111 < r ∧ 55296 ≤ r ∧ ¬ r ≤ 57343 ∧ ¬ r = 0) ∨ (¬ r < 0 ∧ ¬ 1114111 < r ∧ ¬ 55296 ≤ r ∧ r = 0) ∨ (¬ r < 0 ∧ ¬ 1114111 < r ∧ ¬ 55296 ≤ r ∧ ¬ r = 0) := by omega
  rcases cls with a1 | ⟨a1, a2⟩ | ⟨a1, a2, a3, a4⟩ | ⟨a1, a2, a3, a4, a5⟩ | ⟨a1, a2, a3, a5⟩ | ⟨a1, a2, a3, a5⟩
  rw [norm_bad (e := 3) (.inl (okB_no (by unfold okR; omega)))] at k
  have hok : okR 65533 := by unfold okR; omega
  simp (implicitDefEqProofs := false) only [sB, simprocAttr, f16, a1]
  generalize (65533 : Int) = q at *
  rotate_left
  rw [norm_bad (e := 3) (.inl (okB_no (by unfold okR; omega)))] at k
  have hok : okR 65533 := by unfold okR; omega
  simp (implicitDefEqProofs := false) only [sB, simprocAttr, f16, a1, a2]
  generalize (65533 : Int) = q at *
  rotate_left
  rw [norm_bad (e := 3) (.inl (okB_no (by unfold okR; omega)))] at k
  have hok : okR 65533 := by unfold okR; omega
  simp (implicitDefEqProofs := false) only [sB, simprocAttr, f16, a1, a2, a3, a4]
  generalize (65533 : Int) = q at *
  rotate_left
  have hok : okR r := by unfold okR; omega
  rw [norm_good (e := 3) hok (by omega)] at k
  simp (implicitDefEqProofs := false) only [sB, simprocAttr, f16, a1, a2, a3, a4, a5]
  clear lo hi
  generalize r = q at *
  rotate_left
  have hok : okR r := by unfold okR; omega
  rw [norm_good (e := 3) hok (by omega)] at k
  have a5' := eq_true a5
  simp (implicitDefEqProofs := false) only [sB, simprocAttr, f16, a1, a2, a3, a5']
  clear lo hi
  generalize r = q at *
  rotate_left
  have hok : okR r := by unfold okR; omega
  rw [norm_good (e := 3) hok (by omega)] at k
  simp (implicitDefEqProofs := false) only [sB, simprocAttr, f16, a1, a2, a3, a5]
  clear lo hi
  generalize r = q at *
  rotate_left
  all_goals
    refine i_sl ⟨⟨i32_all [q], rfl, rfl⟩, i_new fun z hz => ?_⟩
    simp (implicitDefEqProofs := false) only [sB, simprocAttr]
    refine ⟨_, [q], rfl, .sl [q] _, by simp, fun x hx => by simp only [List.mem_singleton] at hx; subst hx; exact ⟨by have := hok.1; omega, by have := hok.2.1; omega⟩, ?_⟩
    rw [encP_one]
    have hq0 := hok.1
    clear a1
    rcases (by omega : q < 32 ∨ (¬ q < 32 ∧ q = 127) ∨ (¬ q < 32 ∧ ¬ q = 127)) with d1 | ⟨d1, d2⟩ | ⟨d1, d2⟩
    · simp (implicitDefEqProofs := false) only [sB, simprocAttr, d1]
      rw [rq3, if_pos (.inl (by unfold ctlP; rw [decide_eq_true_iff]; omega))] at k
      obtain ⟨n, rfl⟩ : ∃ n : Nat, q = n := ⟨q.toNat, by have := hok.1; omega⟩
      refine ⟨n, 4, rfl, by omega, by decide, by decide, ?_⟩
      have hl := hexW_len (n := n) (by omega)
      simp (implicitDefEqProofs := false) only [sB, simprocAttr]
      exact ⟨by omega, _, hle _ _, k⟩
    · have d2' := eq_true d2
      simp (implicitDefEqProofs := false) only [sB, simprocAttr, d1, d2']
      rw [rq3, if_pos (.inl (by unfold ctlP; rw [decide_eq_true_iff]; omega))] at k
      obtain ⟨n, rfl⟩ : ∃ n : Nat, q = n := ⟨q.toNat, by have := hok.1; omega⟩
      refine ⟨n, 4, rfl, by omega, by decide, by decide, ?_⟩
      have hl := hexW_len (n := n) (by omega)
      simp (implicitDefEqProofs := false) only [sB, simprocAttr]
      exact ⟨by omega, _, hle _ _, k⟩
    · simp (implicitDefEqProofs := false) only [sB, simprocAttr, d1, d2]
      by_cases s1 : q = 8232
      · rw [rq3, if_pos (.inr (.inl (by unfold sepP; rw [decide_eq_true_iff]; omega)))] at k
        have s1' := eq_true s1
        obtain ⟨n, rfl⟩ : ∃ n : Nat, q = n := ⟨q.toNat, by have := hok.1; omega⟩
        simp (implicitDefEqProofs := false) only [sB, simprocAttr, s1']
        refine ⟨n, 4, rfl, by omega, by decide, by decide, ?_⟩
        have hl := hexW_len (n := n) (by omega)
        simp (implicitDefEqProofs := false) only [sB, simprocAttr]
        exact ⟨by omega, _, hle _ _, k⟩
      by_cases s2 : q = 8233
      · rw [rq3, if_pos (.inr (.inl (by unfold sepP; rw [decide_eq_true_iff]; omega)))] at k
        have s2' := eq_true s2
        obtain ⟨n, rfl⟩ : ∃ n : Nat, q = n := ⟨q.toNat, by have := hok.1; omega⟩
        simp (implicitDefEqProofs := false) only [sB, simprocAttr, s1, s2']
        refine ⟨n, 4, rfl, by omega, by decide, by decide, ?_⟩
        have hl := hexW_len (n := n) (by omega)
        simp (implicitDefEqProofs := false) only [sB, simprocAttr]
        exact ⟨by omega, _, hle _ _, k⟩
      by_cases l8 : q < 128
      · simp (implicitDefEqProofs := false) only [sB, simprocAttr, s1, s2, l8]
        refine ⟨jsS, q, rfl, by decide, by decide, ?_⟩
        cases hj : hasR jsS q with
        | true =>
          rw [rq3, if_pos (.inr (.inr hj))] at k
          obtain ⟨n, rfl⟩ : ∃ n : Nat, q = n := ⟨q.toNat, by have := hok.1; omega⟩
          simp (implicitDefEqProofs := false) only [sB, simprocAttr]
          refine ⟨n, 4, rfl, by omega, by decide, by decide, ?_⟩
          have hl := hexW_len (n := n) (by omega)
          simp (implicitDefEqProofs := false) only [sB, simprocAttr]
          exact ⟨by omega, _, hle _ _, k⟩
        | false =>
          rw [rq3, if_neg (by rw [hj]; unfold ctlP sepP; simp; omega)] at k
          simp (implicitDefEqProofs := false) only [sB, simprocAttr]
          exact ⟨_, hle _ _, k⟩
      · have hj : hasR jsS q = false := by unfold hasR; rw [decide_eq_false]; omega
        rw [rq3, if_neg (by rw [hj]; unfold ctlP sepP; simp; omega)] at k
        simp (implicitDefEqProofs := false) only [sB, simprocAttr, s1, s2, l8]
        exact ⟨_, hle _ _, k⟩
theorem c16_4 (P : Program) {G : Nat → Option (List AV)} {H : Heap} {K : Kv} (r : Int) (lo : -2147483648 ≤ r) (hi : r < 2147483648) (hn : H.keys.Nodup) (k : K.ap (.tup [.str (runeP 4 r), .int .i64 0]) H) : @xF ⟨G, P, [(48, c48), (49, c49), (50, c50), (51, c51), (52, c52)]⟩ f16 [.int .i64 4, .int .i32 r] H ⟨fun v H' => ∃ H0, Hle H0 H' ∧ K.ap v H0⟩ := by
  unfold runeP at k
  have hle : ∀ z o, Hle H ((z, o) :: H) := fun z o => .tail _ _
  have cls : r < 0 ∨ (¬ r < 0 ∧ 1114111 < r) ∨ (¬ r < 0 ∧ ¬ 1114111 < r ∧ 55296 ≤ r ∧ r ≤ 57343) ∨ (¬ r < 0 ∧ ¬ 1114111 < r ∧ 55296 ≤ r ∧ ¬ r ≤ 57343 ∧ ¬ r = 0) ∨ (¬ r < 0 ∧ ¬ 1114111 < r ∧ ¬ 55296 ≤ r ∧ r = 0) ∨ (¬ r < 0 ∧ ¬ 1114111 < r ∧ ¬ 55296 ≤ r ∧ ¬ r = 0) := by omega
  rcases cls with a1 | ⟨a1, a2⟩ | ⟨a1, a2, a3, a4⟩ | ⟨a1, a2, a3, a4, a5⟩ | ⟨a1, a2, a3, a5⟩ | ⟨a1, a2, a3, a5⟩
  rw [norm_bad (e := 4) (.inl (okB_no (by unfold okR; omega)))] at k
  have hok : okR 65533 := by unfold okR; omega
  simp (implicitDefEqProofs := false) only [sB, simprocAttr, f16, a1]
  generalize (65533 : Int) = q at *
  rotate_left
  rw [norm_bad (e := 4) (.inl (okB_no (by unfold okR; omega)))] at k
  have hok : okR 65533 := by unfold okR; omega
  simp (implicitDefEqProofs := false) only [sB, simprocAttr, f16, a1, a2]
  generalize (65533 : Int) = q at *
  rotate_left
  rw [norm_bad (e := 4) (.inl (okB_no (by unfold okR; omega)))] at k
  have hok : okR 65533 := by unfold okR; omega
  simp (implicitDefEqProofs := false) only [sB, simprocAttr, f16, a1, a2, a3, a4]
  generalize (65533 : Int) = q at *
  rotate_left
  have hok : okR r := by unfold okR; omega
  rw [norm_good (e := 4) hok (by omega)] at k
  simp (implicitDefEqProofs := false) only [sB, simprocAttr, f16, a1, a2, a3, a4, a5]
  clear lo hi
  generalize r = q at *
  rotate_left
  rw [norm_bad (e := 4) (.inr ⟨a5, by decide, by decide⟩)] at k
  have hok : okR 65533 := by unfold okR; omega
  simp (implicitDefEqProofs := false) only [sB, simprocAttr, f16, a1, a2, a3, a5]
  generalize (65533 : Int) = q at *
  rotate_left
  have hok : okR r := by unfold okR; omega
  rw [norm_good (e := 4) hok (by omega)] at k
  simp (implicitDefEqProofs := false) only [sB, simprocAttr, f16, a1, a2, a3, a5]
  clear lo hi
  generalize r = q at *
  rotate_left
  all_goals
    refine i_sl ⟨⟨i32_all [q], rfl, rfl⟩, i_new fun z hz => ?_⟩
    simp (implicitDefEqProofs := false) only [sB, simprocAttr]
    refine ⟨_, [q], rfl, .sl [q] _, by simp, fun x hx => by simp only [List.mem_singleton] at hx; subst hx; exact ⟨by have := hok.1; omega, by have := hok.2.1; omega⟩, ?_⟩
    rw [encP_one]
    have hq0 := hok.1
    clear a1
    rcases (by omega : q < 32 ∨ (¬ q < 32 ∧ q = 127) ∨ (¬ q < 32 ∧ ¬ q = 127)) with d1 | ⟨d1, d2⟩ | ⟨d1, d2⟩
    · simp (implicitDefEqProofs := false) only [sB, simprocAttr, d1]
      rw [rq4, if_pos (.inl (by unfold ctlP; rw [decide_eq_true_iff]; omega))] at k
      obtain ⟨n, rfl⟩ : ∃ n : Nat, q = n := ⟨q.toNat, by have := hok.1; omega⟩
      refine ⟨n, 1, rfl, by omega, by decide, by decide, ?_⟩
      have hl := hexL_4 (n := n) (by omega)
      rw [hexW_1]
      simp (implicitDefEqProofs := false) only [sB, simprocAttr]
      exact ⟨by omega, by omega, _, hle _ _, by simpa using k⟩
    · have d2' := eq_true d2
      simp (implicitDefEqProofs := false) only [sB, simprocAttr, d1, d2']
      rw [rq4, if_pos (.inl (by unfold ctlP; rw [decide_eq_true_iff]; omega))] at k
      obtain ⟨n, rfl⟩ : ∃ n : Nat, q = n := ⟨q.toNat, by have := hok.1; omega⟩
      refine ⟨n, 1, rfl, by omega, by decide, by decide, ?_⟩
      have hl := hexL_4 (n := n) (by omega)
      rw [hexW_1]
      simp (implicitDefEqProofs := false) only [sB, simprocAttr]
      exact ⟨by omega, by omega, _, hle _ _, by simpa using k⟩
    · simp (implicitDefEqProofs := false) only [sB, simprocAttr, d1, d2]
      by_cases l8 : q < 128
      · simp (implicitDefEqProofs := false) only [sB, simprocAttr, l8]
        refine ⟨csS, q, rfl, by decide, by decide, ?_⟩
        cases hj : hasR csS q with
        | true =>
          rw [rq4, if_pos (.inr hj)] at k
          obtain ⟨n, rfl⟩ : ∃ n : Nat, q = n := ⟨q.toNat, by have := hok.1; omega⟩
          simp (implicitDefEqProofs := false) only [sB, simprocAttr]
          refine ⟨n, 1, rfl, by omega, by decide, by decide, ?_⟩
          have hl := hexL_4 (n := n) (by omega)
          rw [hexW_1]
          simp (implicitDefEqProofs := false) only [sB, simprocAttr]
          exact ⟨by omega, by omega, _, hle _ _, by simpa using k⟩
        | false =>
          rw [rq4, if_neg (by rw [hj]; unfold ctlP; simp; omega)] at k
          simp (implicitDefEqProofs := false) only [sB, simprocAttr]
          exact ⟨_, hle _ _, k⟩
      · have hj : hasR csS q = false := by unfold hasR; rw [decide_eq_false]; omega
        rw [rq4, if_neg (by rw [hj]; unfold ctlP; simp; omega)] at k
        simp (implicitDefEqProofs := false) only [sB, simprocAttr, l8]
        exact ⟨_, hle _ _, k⟩
theorem c16_of (P : Program) {G : Nat → Option (List AV)} {xs : List AV} {H : Heap} {K : Kv} (h : c16 xs H K) : @xF ⟨G, P, [(48, c48), (49, c49), (50, c50), (51, c51), (52, c52)]⟩ f16 xs H ⟨fun v H' => ∃ H0, Hle H0 H' ∧ K.ap v H0⟩ := by
  obtain ⟨e, r, rfl, lo, hi, hn, k1, k2⟩ := h
  by_cases h0 : e < 0
  · simp (implicitDefEqProofs := false) only [sB, simprocAttr, f16, h0]
    exact ⟨_, .refl _, k2 (.inl h0)⟩
  by_cases h4 : 4 < e
  · simp (implicitDefEqProofs := false) only [sB, simprocAttr, f16, h0, h4]
    exact ⟨_, .refl _, k2 (.inr h4)⟩
  have k := k1 (by omega) (by omega)
  rcases (by omega : e = 0 ∨ e = 1 ∨ e = 2 ∨ e = 3 ∨ e = 4) with rfl | rfl | rfl | rfl | rfl
  · exact c16_0 P r lo hi hn k
  · exact c16_1 P r lo hi hn k
  · exact c16_2 P r lo hi hn k
  · exact c16_3 P r lo hi hn k
  · exact c16_4 P r lo hi hn k
end Go.AL.Fun
