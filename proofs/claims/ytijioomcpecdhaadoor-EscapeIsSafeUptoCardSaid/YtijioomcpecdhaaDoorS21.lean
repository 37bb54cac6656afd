/- Runes decoded are in order; what is encoded is decoded. -/
import Derived.Test.YtijioomcpecdhaaDoorS18
set_option linter.unusedSimpArgs false
set_option linter.unusedVariables false
set_option maxRecDepth 100000
set_option maxHeartbeats 4000000
namespace Go.AL.Fun
open Go Go.AL

theorem shape_ok {s : List UInt8} {n : Nat} (h : Shape s n) : okR (val (s.take n)) := by
  unfold okR
  cases h with
  | one c t h => simp only [List.take_succ_cons, List.take_zero, val]; omega
  | two c b t h1 h2 h3 h4 => simp only [List.take_succ_cons, List.take_zero, val]; omega
  | three c b d t h1 h2 h3 h4 h5 h6 =>
    unfold loOf at h3; unfold hiOf at h4
    simp only [List.take_succ_cons, List.take_zero, val]
    repeat' split at h3
    all_goals repeat' split at h4
    all_goals omega
  | four c b d e t h1 h2 h3 h4 h5 h6 h7 h8 =>
    unfold loOf at h3; unfold hiOf at h4
    simp only [List.take_succ_cons, List.take_zero, val]
    repeat' split at h3
    all_goals repeat' split at h4
    all_goals omega
theorem dec1_ok (s : List UInt8) : okR (dec1 s).1 := by
  by_cases h : (fst s).1 = 0
  · rw [dec1_bad h]; unfold okR; omega
  · rw [dec1_two h]; exact shape_ok (fst_shape h)
theorem decP_ok : ∀ (n : Nat) (s : List UInt8), s.length ≤ n → ∀ r ∈ decP s, okR r
  | 0, s, h => by
    have : s = [] := List.length_eq_zero_iff.1 (by omega)
    subst this; simp [decP_nil]
  | n + 1, s, h => by
    intro r hr
    by_cases hs : s = []
    · subst hs; simp [decP_nil] at hr
    · rw [decP_step hs] at hr
      rcases List.mem_cons.1 hr with rfl | hr
      · exact dec1_ok s
      · exact decP_ok n _ (by have := dec1_pos s; have := dec1_le hs; rw [List.length_drop]; omega) r hr
theorem on (x : Nat) (h : x < 256) : (UInt8.ofNat x).toNat = x := by simp; omega
theorem enc_shape {q : Int} (hok : okR q) (a : List UInt8) : Shape (enc1 q ++ a) (enc1 q).length ∧ val (enc1 q) = q := by
  obtain ⟨h0, h1, h2⟩ := hok
  have he : encC q = q.toNat := enc_range h0 h1 h2
  obtain ⟨n, rfl⟩ : ∃ n : Nat, q = n := ⟨q.toNat, by omega⟩
  rw [Int.toNat_natCast] at he
  unfold enc1
  rw [he]
  split
  · rename_i c
    exact ⟨.one _ _ (by rw [on _ (by omega)]; exact c), by simp only [val]; rw [on _ (by omega)]⟩
  split
  · rename_i c1 c2
    refine ⟨.two _ _ _ ?_ ?_ ?_ ?_, ?_⟩
    · rw [on _ (by omega)]; omega
    · rw [on _ (by omega)]; omega
    · rw [on _ (by omega)]; omega
    · rw [on _ (by omega)]; omega
    · simp only [val]; rw [on _ (by omega), on _ (by omega)]; omega
  split
  · rename_i c1 c2 c3
    refine ⟨.three _ _ _ _ ?_ ?_ ?_ ?_ ?_ ?_, ?_⟩
    · rw [on _ (by omega)]; omega
    · rw [on _ (by omega)]; omega
    · rw [on _ (by omega), on _ (by omega)]; unfold loOf; repeat' split
      all_goals omega
    · rw [on _ (by omega), on _ (by omega)]; unfold hiOf; repeat' split
      all_goals omega
    · rw [on _ (by omega)]; omega
    · rw [on _ (by omega)]; omega
    · simp only [val]; rw [on _ (by omega), on _ (by omega), on _ (by omega)]; omega
  · rename_i c1 c2 c3
    refine ⟨.four _ _ _ _ _ ?_ ?_ ?_ ?_ ?_ ?_ ?_ ?_, ?_⟩
    · rw [on _ (by omega)]; omega
    · rw [on _ (by omega)]; omega
    · rw [on _ (by omega), on _ (by omega)]; unfold loOf; repeat' split
      all_goals omega
    · rw [on _ (by omega), on _ (by omega)]; unfold hiOf; repeat' split
      all_goals omega
    · rw [on _ (by omega)]; omega
    · rw [on _ (by omega)]; omega
    · rw [on _ (by omega)]; omega
    · rw [on _ (by omega)]; omega
    · simp only [val]; rw [on _ (by omega), on _ (by omega), on _ (by omega), on _ (by omega)]; omega
theorem fst_enc {q : Int} (hok : okR q) (a : List UInt8) : fst (enc1 q ++ a) = ((enc1 q).length, false) := shape_fst (enc_shape hok a).1
theorem enc_pos (q : Int) : 0 < (enc1 q).length := List.length_pos_iff.2 (enc1_len q).2
theorem dec1_enc {q : Int} (hok : okR q) (a : List UInt8) : dec1 (enc1 q ++ a) = (q, (enc1 q).length) := by
  have hf := fst_enc hok a
  have hp := enc_pos q
  rw [dec1_two (by rw [hf]; show (enc1 q).length ≠ 0; omega), hf]
  simp only
  rw [List.take_left' rfl, (enc_shape hok a).2]
theorem decP_enc {q : Int} (hok : okR q) (a : List UInt8) : decP (enc1 q ++ a) = q :: decP a := by
  have hne : enc1 q ++ a ≠ [] := by simp [(enc1_len q).2]
  rw [decP_step hne, dec1_enc hok a]
  simp only
  rw [List.drop_left' rfl]
theorem validP_enc {q : Int} (hok : okR q) (a : List UInt8) : validP (enc1 q ++ a) = validP a := by
  have hne : enc1 q ++ a ≠ [] := by simp [(enc1_len q).2]
  have hp := enc_pos q
  rw [validP_step hne, fst_enc hok a, if_neg (by show (enc1 q).length ≠ 0; omega)]
  simp only
  rw [List.drop_left' rfl]
theorem lo_dec : ∀ (s : List UInt8), (∀ b ∈ s, b.toNat < 128) → ∀ a, decP (s ++ a) = s.map (fun b => ((b.toNat : Nat) : Int)) ++ decP a ∧ validP (s ++ a) = validP a
  | [], _, a => ⟨rfl, rfl⟩
  | b :: s, h, a => by
    have hb := h b List.mem_cons_self
    have ih := lo_dec s (fun x hx => h x (List.mem_cons_of_mem _ hx)) a
    rw [List.cons_append, decP_step (by simp), dec1_lo hb, valid_lo hb]
    exact ⟨by simp only [List.drop_succ_cons, List.drop_zero, List.map_cons, List.cons_append]; rw [ih.1], ih.2⟩

/-- What the results of an escaper cannot hold. -/
def atS : List UInt8 := [60, 62, 34, 39, 96, 61]
def unsP (e q : Int) : Bool :=
  if e = 0 then decide (q = 0) || hasR txS q
  else if e = 1 then decide (q = 0) || hasR atS q
  else if e = 2 then !letP q && decide (q ≠ 37) && !hasR unS q
  else if e = 3 then ctlP q || sepP q || (decide (q ≠ 92) && hasR jsS q)
  else ctlP q || (decide (q ≠ 92) && hasR csS q)
def safeS (e : Int) (s : List UInt8) : Bool := decide (0 ≤ e ∧ e ≤ 4) && validP s && (decP s).all fun q => !unsP e q
def c60 (xs : List AV) (H : Heap) (K : Kv) : Prop := ∃ (e q : Int), xs = [.int .i64 e, .int .i32 q] ∧ okR q ∧ 0 ≤ e ∧ e ≤ 4 ∧ K.ap (.bool (unsP e q)) H
theorem c60_of (P : Program) {G : Nat → Option (List AV)} {xs : List AV} {H : Heap} {K : Kv} (h : c60 xs H K) : @xF ⟨G, P, [(41, c41), (42, c42), (44, c44), (45, c45)]⟩ f60 xs H K := by
  obtain ⟨e, q, rfl, hok, h0, h4, k⟩ := h
  have hq0 := hok.1
  rcases (by omega : e = 0 ∨ e = 1 ∨ e = 2 ∨ e = 3 ∨ e = 4) with rfl | rfl | rfl | rfl | rfl
  · by_cases z : q = 0
    · rw [show unsP 0 q = true by unfold unsP; simp [z]] at k
      have z' := eq_true z
      simp (implicitDefEqProofs := false) only [sB, simprocAttr, f60, z']
      exact k
    · rw [show unsP 0 q = hasR txS q by unfold unsP; simp [z]] at k
      simp (implicitDefEqProofs := false) only [sB, simprocAttr, f60, z]
      refine ⟨txS, q, rfl, by decide, by decide, hok, ?_⟩
      simp (implicitDefEqProofs := false) only [sB, simprocAttr]
      exact k
  · by_cases z : q = 0
    · rw [show unsP 1 q = true by unfold unsP; simp [z]] at k
      have z' := eq_true z
      simp (implicitDefEqProofs := false) only [sB, simprocAttr, f60, z']
      exact k
    · rw [show unsP 1 q = hasR atS q by unfold unsP; simp [z]] at k
      simp (implicitDefEqProofs := false) only [sB, simprocAttr, f60, z]
      refine ⟨atS, q, rfl, by decide, by decide, hok, ?_⟩
      simp (implicitDefEqProofs := false) only [sB, simprocAttr]
      exact k
  · have k2 : K.ap (.bool (!letP q && decide (q ≠ 37) && !hasR unS q)) H := k
    simp (implicitDefEqProofs := false) only [sB, simprocAttr, f60]
    refine ⟨q, rfl, ?_⟩
    cases hl : letP q with
    | true =>
      rw [hl] at k2
      simp (implicitDefEqProofs := false) only [sB, simprocAttr]
      exact k2
    | false =>
      rw [hl] at k2
      by_cases z : q = 37
      · rw [decide_eq_false (by simpa using z)] at k2
        have z' := eq_true z
        simp (implicitDefEqProofs := false) only [sB, simprocAttr, z']
        exact k2
      · rw [decide_eq_true z] at k2
        simp (implicitDefEqProofs := false) only [sB, simprocAttr, z]
        refine ⟨unS, q, rfl, by decide, by decide, hok, ?_⟩
        simp (implicitDefEqProofs := false) only [sB, simprocAttr]
        cases hh : hasR unS q <;> (rw [hh] at k2; simp (implicitDefEqProofs := false) only [sB, simprocAttr]; exact k2)
  · have k2 : K.ap (.bool (ctlP q || sepP q || (decide (q ≠ 92) && hasR jsS q))) H := k
    simp (implicitDefEqProofs := false) only [sB, simprocAttr, f60]
    refine ⟨q, rfl, ?_⟩
    cases hc : ctlP q with
    | true =>
      rw [hc] at k2
      simp (implicitDefEqProofs := false) only [sB, simprocAttr]
      exact k2
    | false =>
      rw [hc] at k2
      simp (implicitDefEqProofs := false) only [sB, simprocAttr]
      refine ⟨q, rfl, ?_⟩
      cases hp : sepP q with
      | true =>
        rw [hp] at k2
        simp (implicitDefEqProofs := false) only [sB, simprocAttr]
        exact k2
      | false =>
        rw [hp] at k2
        by_cases z : q = 92
        · rw [decide_eq_false (by simpa using z)] at k2
          have z' := eq_true z
          simp (implicitDefEqProofs := false) only [sB, simprocAttr, z']
          exact k2
        · rw [decide_eq_true z] at k2
          simp (implicitDefEqProofs := false) only [sB, simprocAttr, z]
          refine ⟨jsS, q, rfl, by decide, by decide, hok, ?_⟩
          simp (implicitDefEqProofs := false) only [sB, simprocAttr]
          cases hh : hasR jsS q <;> (rw [hh] at k2; exact k2)
  · have k2 : K.ap (.bool (ctlP q || (decide (q ≠ 92) && hasR csS q))) H := k
    simp (implicitDefEqProofs := false) only [sB, simprocAttr, f60]
    refine ⟨q, rfl, ?_⟩
    cases hc : ctlP q with
    | true =>
      rw [hc] at k2
      simp (implicitDefEqProofs := false) only [sB, simprocAttr]
      exact k2
    | false =>
      rw [hc] at k2
      by_cases z : q = 92
      · rw [decide_eq_false (by simpa using z)] at k2
        have z' := eq_true z
        simp (implicitDefEqProofs := false) only [sB, simprocAttr, z']
        exact k2
      · rw [decide_eq_true z] at k2
        simp (implicitDefEqProofs := false) only [sB, simprocAttr, z]
        refine ⟨csS, q, rfl, by decide, by decide, hok, ?_⟩
        simp (implicitDefEqProofs := false) only [sB, simprocAttr]
        cases hh : hasR csS q <;> (rw [hh] at k2; exact k2)
end Go.AL.Fun
