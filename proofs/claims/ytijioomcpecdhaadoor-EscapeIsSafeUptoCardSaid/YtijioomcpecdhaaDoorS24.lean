/- What an escaper makes is safe for it, plainly. -/
import Derived.Test.YtijioomcpecdhaaDoorS22p
set_option linter.unusedSimpArgs false
set_option linter.unusedVariables false
set_option maxRecDepth 100000
set_option maxHeartbeats 4000000
namespace Go.AL.Fun
open Go Go.AL

/-- Some bytes that are valid by themselves and hold no rune that is unsafe. -/
def GoodE (e : Int) (x : List UInt8) : Prop := ∀ a, validP (x ++ a) = validP a ∧ ∃ l : List Int, decP (x ++ a) = l ++ decP a ∧ ∀ q ∈ l, unsP e q = false
theorem good_lo {e : Int} {x : List UInt8} (h : ∀ b ∈ x, b.toNat < 128 ∧ unsP e ((b.toNat : Nat) : Int) = false) : GoodE e x := fun a => by
  have h1 := lo_dec x (fun b hb => (h b hb).1) a
  refine ⟨h1.2, _, h1.1, fun q hq => ?_⟩
  obtain ⟨b, hb, rfl⟩ := List.mem_map.1 hq
  exact (h b hb).2
theorem good_enc {e q : Int} (hok : okR q) (h : unsP e q = false) : GoodE e (enc1 q) := fun a =>
  ⟨validP_enc hok a, [q], decP_enc hok a, fun r hr => by rw [List.mem_singleton] at hr; subst hr; exact h⟩
theorem GoodE.app {e : Int} {x y : List UInt8} (hx : GoodE e x) (hy : GoodE e y) : GoodE e (x ++ y) := fun a => by
  rw [List.append_assoc]
  obtain ⟨h1, l, h2, h3⟩ := hx (y ++ a)
  obtain ⟨k1, m, k2, k3⟩ := hy a
  refine ⟨h1.trans k1, l ++ m, by rw [h2, k2, List.append_assoc], fun q hq => ?_⟩
  rcases List.mem_append.1 hq with hq | hq
  · exact h3 q hq
  · exact k3 q hq
theorem GoodE.nil (e : Int) : GoodE e [] := fun a => ⟨rfl, [], rfl, fun q hq => by cases hq⟩
theorem up_ok : ∀ d : Fin 16, (up d.val).toNat < 128 ∧ unsP 2 (((up d.val).toNat : Nat) : Int) = false := by decide +kernel
theorem hx_ok : ∀ d : Fin 16, (hx d.val).toNat < 128 ∧ unsP 3 (((hx d.val).toNat : Nat) : Int) = false ∧ unsP 4 (((hx d.val).toNat : Nat) : Int) = false := by decide +kernel
theorem html_ok (q : Int) : ∀ b ∈ htmlP q, b.toNat < 128 ∧ unsP 0 ((b.toNat : Nat) : Int) = false ∧ unsP 1 ((b.toNat : Nat) : Int) = false := by
  unfold htmlP
  repeat' split
  all_goals decide +kernel
theorem pct_good (s : List UInt8) : GoodE 2 (pct s) := by
  refine good_lo fun b hb => ?_
  unfold pct at hb
  obtain ⟨c, _, hc⟩ := List.mem_flatMap.1 hb
  have hc2 := c.toNat_lt
  simp only [pct1, List.mem_cons, List.not_mem_nil, or_false] at hc
  rcases hc with rfl | rfl | rfl
  · decide +kernel
  · exact up_ok ⟨c.toNat / 16, by omega⟩
  · exact up_ok ⟨c.toNat % 16, Nat.mod_lt _ (by decide)⟩
theorem hexL_mem : ∀ (k n : Nat), n ≤ k → ∀ b ∈ hexL n, ∃ d, d < 16 ∧ b = hx d
  | k, n, h, b, hb => by
    by_cases h16 : n < 16
    · rw [hexL_lt h16, List.mem_singleton] at hb; exact ⟨n, h16, hb⟩
    · rw [hexL_ge h16] at hb
      rcases List.mem_append.1 hb with hb | hb
      · cases k with
        | zero => omega
        | succ k => exact hexL_mem k (n / 16) (by omega) b hb
      · rw [List.mem_singleton] at hb; exact ⟨_, Nat.mod_lt _ (by decide), hb⟩
theorem norm_z {e r : Int} (h : e ≠ 2) (h3 : e ≠ 3) : normP e r ≠ 0 := by
  unfold normP
  split
  · decide
  · rename_i hh
    rw [not_or] at hh
    intro e; exact hh.2 ⟨e, h, h3⟩
theorem mem_atS : ∀ c : Fin 128, UInt8.ofNat c.val ∈ atS ↔ (c.val = 60 ∨ c.val = 62 ∨ c.val = 34 ∨ c.val = 39 ∨ c.val = 96 ∨ c.val = 61) := by decide
theorem hasR_at_iff {q : Int} : hasR atS q = true ↔ (q = 60 ∨ q = 62 ∨ q = 34 ∨ q = 39 ∨ q = 96 ∨ q = 61) := by
  unfold hasR
  rw [decide_eq_true_iff]
  constructor
  · rintro ⟨h0, h1, h2⟩
    have := (mem_atS ⟨q.toNat, by omega⟩).1 h2
    simp only at this; omega
  · intro h
    refine ⟨by omega, by omega, (mem_atS ⟨q.toNat, by omega⟩).2 ?_⟩
    simp only; omega
theorem good_rune {e : Int} (h0 : 0 ≤ e) (h4 : e ≤ 4) (r : Int) : GoodE e (runeP e r) := by
  have hok := normP_ok e r
  have hz : e ≠ 2 → e ≠ 3 → normP e r ≠ 0 := norm_z
  unfold runeP
  generalize normP e r = q at *
  rcases (by omega : e = 0 ∨ e = 1 ∨ e = 2 ∨ e = 3 ∨ e = 4) with rfl | rfl | rfl | rfl | rfl
  · rw [rq0]
    split
    · exact good_lo fun b hb => ⟨(html_ok q b hb).1, (html_ok q b hb).2.1⟩
    · rename_i h
      refine good_enc hok ?_
      have := hz (by decide) (by decide)
      rw [show unsP 0 q = (decide (q = 0) || hasR txS q) from rfl, decide_eq_false this, Bool.false_or]
      rw [not_or] at h; simpa using h.2
  · rw [rq1]
    split
    · exact good_lo fun b hb => ⟨(html_ok q b hb).1, (html_ok q b hb).2.2⟩
    · split
      · exact good_lo fun b hb => ⟨(html_ok q b hb).1, (html_ok q b hb).2.2⟩
      · rename_i h1 h2
        refine good_enc hok ?_
        have := hz (by decide) (by decide)
        rw [show unsP 1 q = (decide (q = 0) || hasR atS q) from rfl, decide_eq_false this, Bool.false_or, Bool.eq_false_iff]
        rw [not_or, hasR_tx_iff] at h2
        intro hh
        rw [hasR_at_iff] at hh
        omega
  · rw [rq2]
    split
    · exact pct_good _
    · rename_i h
      refine good_enc hok ?_
      rw [show unsP 2 q = (!letP q && decide (q ≠ 37) && !hasR unS q) from rfl]
      cases hl : letP q <;> cases hh : hasR unS q <;> simp_all
  · rw [rq3]
    split
    · refine good_lo fun b hb => ?_
      rcases List.mem_append.1 hb with hb | hb
      · have : ∀ b ∈ ([92, 117] : List UInt8), b.toNat < 128 ∧ unsP 3 ((b.toNat : Nat) : Int) = false := by decide +kernel
        exact this b hb
      · unfold hex4 at hb
        rcases List.mem_append.1 hb with hb | hb
        · rw [List.mem_replicate] at hb
          rw [hb.2]; decide +kernel
        · obtain ⟨d, hd, rfl⟩ := hexL_mem _ _ (Nat.le_refl _) b hb
          exact ⟨(hx_ok ⟨d, hd⟩).1, (hx_ok ⟨d, hd⟩).2.1⟩
    · rename_i h
      refine good_enc hok ?_
      rw [show unsP 3 q = (ctlP q || sepP q || (decide (q ≠ 92) && hasR jsS q)) from rfl]
      cases hc : ctlP q <;> cases hp : sepP q <;> cases hj : hasR jsS q <;> simp_all
  · rw [rq4]
    split
    · refine good_lo fun b hb => ?_
      rcases List.mem_append.1 hb with hb | hb
      · rcases List.mem_append.1 hb with hb | hb
        · rw [List.mem_singleton] at hb; subst hb; decide +kernel
        · obtain ⟨d, hd, rfl⟩ := hexL_mem _ _ (Nat.le_refl _) b hb
          exact ⟨(hx_ok ⟨d, hd⟩).1, (hx_ok ⟨d, hd⟩).2.2⟩
      · rw [List.mem_singleton] at hb; subst hb; decide +kernel
    · rename_i h
      refine good_enc hok ?_
      rw [show unsP 4 q = (ctlP q || (decide (q ≠ 92) && hasR csS q)) from rfl]
      cases hc : ctlP q <;> cases hj : hasR csS q <;> simp_all
theorem good_all {e : Int} (h0 : 0 ≤ e) (h4 : e ≤ 4) : ∀ l : List Int, GoodE e (l.flatMap (runeP e))
  | [] => GoodE.nil e
  | r :: l => by rw [List.flatMap_cons]; exact (good_rune h0 h4 r).app (good_all h0 h4 l)
theorem escP_safe {e : Int} (h0 : 0 ≤ e) (h4 : e ≤ 4) (s : List UInt8) : validP (escP e s) = true ∧ safeS e (escP e s) = true := by
  obtain ⟨h1, l, h2, h3⟩ := good_all h0 h4 (decP s) []
  rw [List.append_nil] at h1 h2
  have hv : validP (escP e s) = true := h1.trans validP_nil
  refine ⟨hv, ?_⟩
  unfold safeS
  rw [hv, decide_eq_true ⟨h0, h4⟩, Bool.true_and, Bool.true_and]
  rw [show decP (escP e s) = l ++ decP [] from h2, decP_nil, List.append_nil, List.all_eq_true]
  intro q hq
  rw [h3 q hq]; rfl
theorem escP_ge (e : Int) (l : List Int) : l.length ≤ (l.flatMap (runeP e)).length := by
  induction l with
  | nil => simp
  | cons r l ih => have := (runeP_len e r).1; rw [List.flatMap_cons, List.length_append, List.length_cons]; omega
end Go.AL.Fun
