/- What an escaper makes tells the runes, plainly. -/
import Derived.Test.YtijioomcpecdhaaDoorS21
set_option linter.unusedSimpArgs false
set_option linter.unusedVariables false
set_option maxRecDepth 100000
set_option maxHeartbeats 4000000
namespace Go.AL.Fun
open Go Go.AL

theorem up_inj : ∀ c d : Fin 16, up c.val = up d.val → c = d := by decide
theorem up_inj' {c d : Nat} (hc : c < 16) (hd : d < 16) (h : up c = up d) : c = d := congrArg Fin.val (up_inj ⟨c, hc⟩ ⟨d, hd⟩ h)
theorem pct_pre : ∀ (x y a b : List UInt8), pct x ++ a = pct y ++ b → (∃ z, x = y ++ z) ∨ (∃ z, y = x ++ z)
  | [], y, a, b, _ => .inr ⟨y, rfl⟩
  | c :: x, [], a, b, _ => .inl ⟨c :: x, rfl⟩
  | c :: x, d :: y, a, b, h => by
    unfold pct at h
    rw [List.flatMap_cons, List.flatMap_cons, List.append_assoc, List.append_assoc] at h
    simp only [pct1, List.cons_append, List.nil_append, List.cons.injEq, true_and] at h
    obtain ⟨h1, h2, h3⟩ := h
    have hc := c.toNat_lt
    have hd := d.toNat_lt
    have g1 := up_inj' (by omega) (by omega) h1
    have g2 := up_inj' (Nat.mod_lt _ (by decide)) (Nat.mod_lt _ (by decide)) h2
    obtain rfl : c = d := by
      apply UInt8.toNat_inj.1; omega
    rcases pct_pre x y a b h3 with ⟨z, rfl⟩ | ⟨z, rfl⟩
    · exact .inl ⟨z, rfl⟩
    · exact .inr ⟨z, rfl⟩
theorem enc_inj {q q' : Int} (h : okR q) (h' : okR q') {a b : List UInt8} (e : enc1 q ++ a = enc1 q' ++ b) : q = q' := by
  have h1 := dec1_enc h a
  rw [e, dec1_enc h' b] at h1
  exact (congrArg Prod.fst h1).symm
theorem foldl_rep : ∀ j : Nat, (List.replicate j (48 : UInt8)).foldl (fun n c => 16 * n + hv c) 0 = 0
  | 0 => rfl
  | j + 1 => by rw [List.replicate_succ, List.foldl_cons]; exact foldl_rep j
theorem hex4_val (n : Nat) : hvalL (hex4 (n : Int)) = n := by
  unfold hex4 hvalL
  rw [List.foldl_append, foldl_rep]
  exact hexL_val _ _ (Nat.le_refl _)
theorem html_inj {q q' : Int} (h : htmlR q) (h' : htmlR q') {a b : List UInt8} (e : htmlP q ++ a = htmlP q' ++ b) : q = q' := by
  rcases h with rfl | rfl | rfl | rfl | rfl | rfl | rfl <;> rcases h' with rfl | rfl | rfl | rfl | rfl | rfl | rfl <;>
    first
      | rfl
      | (exfalso; simp [htmlP] at e)
theorem html_head (q : Int) : ∃ r, htmlP q = 38 :: r := by
  unfold htmlP
  repeat' split
  all_goals exact ⟨_, rfl⟩
theorem enc_head {q : Int} (hok : okR q) {a r : List UInt8} {c : UInt8} (hc : c.toNat < 128) (e : enc1 q ++ a = c :: r) : q = ((c.toNat : Nat) : Int) := by
  have h1 := dec1_enc hok a
  rw [e, dec1_lo hc] at h1
  exact (congrArg Prod.fst h1).symm
instance htmlR_dec (x : Int) : Decidable (htmlR x) := by unfold htmlR; infer_instance
theorem rune_inj {e q q' : Int} (h0 : 0 ≤ e) (h4 : e ≤ 4) (hq : okR q) (hq' : okR q') {a b : List UInt8} (h : runeQ e q ++ a = runeQ e q' ++ b) : q = q' := by
  rcases (by omega : e = 0 ∨ e = 1 ∨ e = 2 ∨ e = 3 ∨ e = 4) with rfl | rfl | rfl | rfl | rfl
  · have hesc : ∀ x : Int, (x = 38 ∨ hasR txS x = true) → htmlR x := fun x hx => by
      rcases hx with rfl | hx
      · exact .inl rfl
      · exact hasR_tx hx
    rw [rq0, rq0] at h
    split at h <;> split at h <;> rename_i c1 c2
    · exact html_inj (hesc _ c1) (hesc _ c2) h
    · obtain ⟨r, hr⟩ := html_head q
      rw [hr, List.cons_append] at h
      have := enc_head hq' (by decide) h.symm
      exact absurd (.inl this) c2
    · obtain ⟨r, hr⟩ := html_head q'
      rw [hr, List.cons_append] at h
      have := enc_head hq (by decide) h
      exact absurd (.inl this) c1
    · exact enc_inj hq hq' h
  · have esc1 : ∀ x : Int, runeQ 1 x = if htmlR x then htmlP x else enc1 x := fun x => by
      have ht := hasR_tx_iff (q := x)
      rw [rq1]
      by_cases c : x = 96 ∨ x = 61
      · rw [if_pos c, if_pos (by unfold htmlR; omega)]
      · rw [if_neg c]
        by_cases d : x = 38 ∨ hasR txS x = true
        · rw [if_pos d, if_pos]
          rw [ht] at d; unfold htmlR; omega
        · rw [if_neg d, if_neg]
          rw [ht] at d; unfold htmlR; omega
    rw [esc1, esc1] at h
    split at h <;> split at h <;> rename_i c1 c2
    · exact html_inj c1 c2 h
    · obtain ⟨r, hr⟩ := html_head q
      rw [hr, List.cons_append] at h
      have := enc_head hq' (by decide) h.symm
      exact absurd (.inl this) c2
    · obtain ⟨r, hr⟩ := html_head q'
      rw [hr, List.cons_append] at h
      have := enc_head hq (by decide) h
      exact absurd (.inl this) c1
    · exact enc_inj hq hq' h
  · have p37 : letP 37 = false ∧ hasR unS 37 = false := by decide
    have ph : ∀ x : Int, ∃ r, pct (enc1 x) = 37 :: r := fun x => by
      obtain ⟨c, r, hc⟩ := List.exists_cons_of_ne_nil (enc1_len x).2
      rw [hc]; exact ⟨_, rfl⟩
    rw [rq2, rq2] at h
    split at h <;> split at h <;> rename_i c1 c2
    · rcases pct_pre _ _ _ _ h with ⟨z, hz⟩ | ⟨z, hz⟩
      · exact enc_inj (a := []) hq hq' (by rw [List.append_nil]; exact hz)
      · exact (enc_inj (a := []) hq' hq (by rw [List.append_nil]; exact hz)).symm
    · obtain ⟨r, hr⟩ := ph q
      rw [hr, List.cons_append] at h
      have := enc_head hq' (by decide) h.symm
      have e : q' = 37 := this
      subst e
      exact absurd p37 c2
    · obtain ⟨r, hr⟩ := ph q'
      rw [hr, List.cons_append] at h
      have := enc_head hq (by decide) h
      have e : q = 37 := this
      subst e
      exact absurd p37 c1
    · exact enc_inj hq hq' h
  · have j92 : hasR jsS 92 = true := by decide
    have lt : ∀ x : Int, (ctlP x = true ∨ sepP x = true ∨ hasR jsS x = true) → x ≤ 65535 := fun x h => by
      rcases h with h | h | h
      · unfold ctlP at h; have := of_decide_eq_true h; omega
      · unfold sepP at h; have := of_decide_eq_true h; omega
      · have := hasR_lt h; omega
    rw [rq3, rq3] at h
    split at h <;> split at h <;> rename_i c1 c2
    · obtain ⟨n, rfl⟩ : ∃ n : Nat, q = n := ⟨q.toNat, by have := hq.1; omega⟩
      obtain ⟨n', rfl⟩ : ∃ n' : Nat, q' = n' := ⟨q'.toNat, by have := hq'.1; omega⟩
      have l1 := lt _ c1
      have l2 := lt _ c2
      rw [List.append_assoc, List.append_assoc] at h
      have h2 := List.append_cancel_left h
      have g : ∀ m : Nat, m ≤ 65535 → (hex4 (m : Int)).length = 4 := fun m hm => by
        have := hexL_4 hm
        unfold hex4
        rw [List.length_append, List.length_replicate, Int.toNat_natCast]; omega
      have h3 := (List.append_inj h2 (by rw [g n (by omega), g n' (by omega)])).1
      have h5 := congrArg hvalL h3
      rw [hex4_val, hex4_val] at h5
      omega
    · have h : 92 :: ([117] ++ hex4 q ++ a) = enc1 q' ++ b := h
      have := enc_head hq' (by decide) h.symm
      have e : q' = 92 := this
      subst e
      exact absurd (.inr (.inr j92)) c2
    · have h : enc1 q ++ a = 92 :: ([117] ++ hex4 q' ++ b) := h
      have := enc_head hq (by decide) h
      have e : q = 92 := this
      subst e
      exact absurd (.inr (.inr j92)) c1
    · exact enc_inj hq hq' h
  · have j92 : hasR csS 92 = true := by decide
    rw [rq4, rq4] at h
    split at h <;> split at h <;> rename_i c1 c2
    · have h : 92 :: (hexL q.toNat ++ [32] ++ a) = 92 :: (hexL q'.toNat ++ [32] ++ b) := h
      have h2 := (List.cons.inj h).2
      rw [List.append_assoc, List.append_assoc] at h2
      have t : ∀ (n : Nat) (x : List UInt8), (hexL n ++ ([32] ++ x)).takeWhile isHx = hexL n := fun n x => tw_app (hexL_all n n (Nat.le_refl _)) (fun c hc => by simp at hc; subst hc; decide)
      have h3 := congrArg (List.takeWhile isHx) h2
      rw [t, t] at h3
      have h5 := congrArg hvalL h3
      rw [hexL_val _ _ (Nat.le_refl _), hexL_val _ _ (Nat.le_refl _)] at h5
      have := hq.1
      have := hq'.1
      omega
    · have h : 92 :: (hexL q.toNat ++ [32] ++ a) = enc1 q' ++ b := h
      have := enc_head hq' (by decide) h.symm
      have e : q' = 92 := this
      subst e
      exact absurd (.inr j92) c2
    · have h : enc1 q ++ a = 92 :: (hexL q'.toNat ++ [32] ++ b) := h
      have := enc_head hq (by decide) h
      have e : q = 92 := this
      subst e
      exact absurd (.inr j92) c1
    · exact enc_inj hq hq' h
theorem norm_nz {e r : Int} (h : okR r) (hz : r ≠ 0) : normP e r = r := norm_good h (fun c => hz c.1)
theorem list_inj {e : Int} (h0 : 0 ≤ e) (h4 : e ≤ 4) : ∀ l l' : List Int, (∀ r ∈ l, okR r ∧ r ≠ 0) → (∀ r ∈ l', okR r ∧ r ≠ 0) → l.flatMap (runeP e) = l'.flatMap (runeP e) → l = l'
  | [], [], _, _, _ => rfl
  | [], r :: l', _, _, h => by
    rw [List.flatMap_cons] at h
    have := congrArg List.length h
    have h1 := (runeP_len e r).1
    simp only [List.flatMap_nil, List.length_nil, List.length_append] at this; omega
  | r :: l, [], _, _, h => by
    rw [List.flatMap_cons] at h
    have := congrArg List.length h
    have h1 := (runeP_len e r).1
    simp only [List.flatMap_nil, List.length_nil, List.length_append] at this; omega
  | r :: l, r' :: l', hl, hl', h => by
    obtain ⟨o1, z1⟩ := hl r List.mem_cons_self
    obtain ⟨o2, z2⟩ := hl' r' List.mem_cons_self
    rw [List.flatMap_cons, List.flatMap_cons] at h
    have h2 := h
    unfold runeP at h2
    rw [norm_nz o1 z1, norm_nz o2 z2] at h2
    obtain rfl := rune_inj h0 h4 o1 o2 h2
    rw [list_inj h0 h4 l l' (fun x hx => hl x (List.mem_cons_of_mem _ hx)) (fun x hx => hl' x (List.mem_cons_of_mem _ hx)) (List.append_cancel_left h)]
theorem no_zero {s : List UInt8} (hv : validP s = true) (hz : (0 : UInt8) ∉ s) : ∀ r ∈ decP s, okR r ∧ r ≠ 0 := by
  intro r hr
  refine ⟨decP_ok _ s (Nat.le_refl _) r hr, ?_⟩
  rintro rfl
  have he := (round_trip _ s (Nat.le_refl _)).2.2.2 hv
  apply hz
  rw [← he]
  unfold encP
  exact List.mem_flatMap.2 ⟨0, hr, by decide⟩
theorem escP_inj {e : Int} (h0 : 0 ≤ e) (h4 : e ≤ 4) {s t : List UInt8} (hs : validP s = true) (ht : validP t = true) (zs : (0 : UInt8) ∉ s) (zt : (0 : UInt8) ∉ t) : escP e s = escP e t ↔ s = t := by
  constructor
  · intro h
    have hl := list_inj h0 h4 _ _ (no_zero hs zs) (no_zero ht zt) h
    have h1 := (round_trip _ s (Nat.le_refl _)).2.2.2 hs
    have h2 := (round_trip _ t (Nat.le_refl _)).2.2.2 ht
    rw [← h1, ← h2, hl]
  · rintro rfl; rfl
end Go.AL.Fun
