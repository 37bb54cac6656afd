/- The analysis: the table holds; the plain laws. -/
import Derived.Test.YtjlmonghelbihaaI8
set_option linter.unusedSimpArgs false
set_option linter.unusedVariables false
set_option maxRecDepth 100000
set_option maxHeartbeats 4000000
namespace Go.AL.Fun
open Go Go.AL

theorem aft_eq (s : St) (l : List Nd) : aftP s l = if (listF s l).err ≠ 0 then (St.zero, (listF s l).at_, (listF s l).err) else ((listF s l).st, 0, 0) := by
  have h := listA_F s l an0 rfl
  unfold Agr at h
  unfold aftP
  by_cases e : (listF s l).err = 0
  · rw [h.1 e]; simp [e, an0]
  · obtain ⟨h1, h2⟩ := h.2 e
    rw [if_pos e, if_pos (by rw [h1]; exact e), h1, h2]
/-- Two parts, one behind the other. -/
theorem aft_app (s : St) (l1 l2 : List Nd) : aftP s (l1 ++ l2) = if (aftP s l1).2.2 ≠ 0 then ((aftP s (l1 ++ l2)).1, (aftP s (l1 ++ l2)).2.1, (aftP s l1).2.2) else aftP (aftP s l1).1 l2 := by
  have h := listA_F s l1 an0 rfl
  unfold Agr at h
  have ha := listA_app s l1 l2 an0
  have e1 := aft_eq s l1
  by_cases e : (listF s l1).err = 0
  · rw [if_neg (by simp [e])] at e1
    have h1 := h.1 e
    have h2 := listA_F (listF s l1).st l2 ⟨an0.escs ++ (listF s l1).escs, an0.at_, an0.err⟩ rfl
    unfold Agr at h2
    rw [h1] at ha
    rw [e1]
    simp only [ne_eq, not_true_eq_false, if_false]
    rw [aft_eq (listF s l1).st l2]
    unfold aftP
    rw [ha]
    by_cases e2 : (listF (listF s l1).st l2).err = 0
    · rw [h2.1 e2]; simp [e2, an0]
    · obtain ⟨k1, k2⟩ := h2.2 e2
      rw [if_pos e2, if_pos (by rw [k1]; exact e2), k1, k2]
  · rw [if_pos e] at e1
    obtain ⟨h1, h2⟩ := h.2 e
    have h3 : (listA s l1 an0).2.err ≠ 0 := by rw [h1]; exact e
    rw [listA_err h3] at ha
    have e3 : aftP s (l1 ++ l2) = aftP s l1 := by unfold aftP; rw [ha, if_pos h3]
    rw [if_pos (by rw [e1]; exact e), e3]
theorem kwd_ne (w : List UInt8) : kwd w ≠ 0 := by
  unfold kwd
  repeat' split
  all_goals decide
theorem form_kind (ws : List (List UInt8)) (h : (formR ws).2.1 = true) : (formR ws).1.kind ≠ 0 := by
  cases ws with
  | nil => cases h
  | cons w0 r =>
    rw [formR] at h ⊢
    split
    · rename_i e; rw [e] at h; cases h
    · rename_i s v rest e
      rw [e] at h
      simp only at h ⊢
      split
      · rename_i e2; rw [e2] at h; cases h
      · exact kwd_ne w0
theorem lexG_len (src : List UInt8) : ∀ (f p : Nat) (out ts : List Tk) (a e : Int), lexG src f p out = (some ts, a, e) → p ≤ src.length → out.length + (if p < src.length then 1 else 0) ≤ ts.length
  | 0, _, _, _, _, _, h, _ => by cases h
  | f + 1, p, out, ts, a, e, h, hp => by
    rw [lexG] at h
    split at h
    · rename_i hlt
      rw [if_pos hlt]
      have key : ∀ p' (x : Tk), p' ≤ src.length → lexG src f p' (out ++ [x]) = (some ts, a, e) → out.length + 1 ≤ ts.length := by
        intro p' x hp' h'
        have := lexG_len src f p' _ _ _ _ h' hp'
        rw [List.length_append, List.length_singleton] at this; omega
      rcases findR_cases src 123 p hp with e1 | ⟨k, e1, k1, k2⟩
      · rw [e1, if_pos (by omega), if_pos (by decide)] at h
        exact key _ _ (Nat.le_refl _) h
      · by_cases e2 : (k : Int) = p
        · rw [e1, if_neg (by simp [e2])] at h
          rcases findR_cases src 125 (p + 2) (by omega) with e3 | ⟨j, e3, j1, j2⟩
          · rw [e3, if_pos (by decide)] at h; cases h
          · rw [e3, if_neg (by omega)] at h
            revert h
            generalize formR (wordsG ((src.take (j : Int).toNat).drop (p + 2)) []) = r
            obtain ⟨t, kn, va⟩ := r
            intro h
            simp only at h
            split at h
            · cases h
            · split at h
              · cases h
              · exact key _ _ (by omega) h
        · rw [e1, if_pos e2, if_neg (by omega)] at h
          exact key _ _ (by omega) h
    · rename_i hlt
      rw [if_neg hlt]
      cases h; exact Nat.le_refl _
/-- A source whose only token is text. -/
theorem lexR_text {src : List UInt8} {t : Tk} {a e : Int} (h : lexR src = (some [t], a, e)) (hk : t.kind = 0) : t.s = src ∧ t.at_ = 0 := by
  unfold lexR at h
  split at h
  · cases h
  · rw [lexG] at h
    split at h
    · rename_i hlt
      have one : ∀ f p' (x : Tk), p' ≤ src.length → lexG src f p' [x] = (some [t], a, e) → p' = src.length ∧ x = t := by
        intro f p' x hp' h'
        have := lexG_len src f p' _ _ _ _ h' hp'
        have h1 : ¬ p' < src.length := by
          intro hl; rw [if_pos hl] at this; simp at this
        cases f with
        | zero => cases h'
        | succ f =>
          rw [lexG, if_neg h1] at h'
          cases h'
          exact ⟨by omega, rfl⟩
      rcases findR_cases src 123 0 (Nat.zero_le _) with e1 | ⟨k, e1, k1, k2⟩
      · rw [e1, if_pos (by decide), if_pos (by decide)] at h
        obtain ⟨_, rfl⟩ := one _ _ _ (Nat.le_refl _) h
        exact ⟨by simp, rfl⟩
      · by_cases e2 : k = 0
        · subst e2
          rw [e1, if_neg (by simp)] at h
          rcases findR_cases src 125 (0 + 2) (by omega) with e3 | ⟨j, e3, j1, j2⟩
          · rw [e3, if_pos (by decide)] at h; cases h
          · rw [e3, if_neg (by omega)] at h
            have hf := form_kind (wordsG ((src.take (j : Int).toNat).drop (0 + 2)) [])
            revert h hf
            generalize formR (wordsG ((src.take (j : Int).toNat).drop (0 + 2)) []) = r
            obtain ⟨t0, kn, va⟩ := r
            intro h hf
            simp only at h hf
            split at h
            · cases h
            · rename_i hkn
              split at h
              · cases h
              · obtain ⟨_, rfl⟩ := one _ _ _ (by omega) h
                exact absurd hk (hf (by simpa using hkn))
        · rw [e1, if_pos (by omega), if_neg (by omega)] at h
          obtain ⟨hl, rfl⟩ := one _ _ _ (by omega) h
          simp only [Int.toNat_natCast] at hl
          subst hl
          exact ⟨by simp, rfl⟩
    · cases h
theorem listR_len (ts : List Tk) : ∀ (F : Nat) (d : Int) (i n : Nat) (out l : List Nd) (a e : Int) (i' n' : Nat), listR ts F (-1) false d i n out = (some l, a, e, i', n') → out.length + (if i < ts.length then 1 else 0) ≤ l.length
  | 0, _, _, _, _, _, _, _, _, _, h => by cases h
  | F + 1, d, i, n, out, l, a, e, i', n', h => by
    rw [listR] at h
    cases ht : ts[i]? with
    | none =>
      rw [ht] at h; cases h
      rw [if_neg (by have := List.getElem?_eq_none_iff.1 ht; omega)]; exact Nat.le_refl _
    | some t =>
      rw [ht] at h
      simp only at h
      split at h
      · rw [if_pos (.inl (by decide))] at h; cases h
      · split at h
        · rw [if_pos (by decide)] at h; cases h
        · revert h
          generalize nodeR ts F d i n t = r
          rcases r with ⟨_ | x, a1, e1, i1, n1⟩
          · intro h; cases h
          · intro h
            have := listR_len ts F d i1 n1 (out ++ [x]) l a e i' n' h
            rw [List.length_append, List.length_singleton] at this
            split <;> omega
theorem parse_text {src : List UInt8} {x : Nd} {a e : Int} (h : parseR src = (some [x], a, e)) (hk : x.cs[0]? = some (.int .i64 0)) : ∃ p q h1 h2 b el, x = .mk 0 0 src q h1 h2 b el ∧ p = (0 : Int) := by
  unfold parseR at h
  cases hl : lexR src with
  | mk o q =>
    obtain ⟨a1, e1⟩ := q
    rw [hl] at h
    cases o with
    | none => cases h
    | some ts =>
      simp only at h
      revert h
      generalize hr : listR ts (2 * ts.length + 2) (-1) false 0 0 0 [] = r
      rcases r with ⟨_ | l, a2, e2, i2, n2⟩
      · intro h; cases h
      · intro h
        cases h
        rw [listR] at hr
        cases ht : ts[0]? with
        | none => rw [ht] at hr; cases hr
        | some t =>
          rw [ht] at hr
          simp only at hr
          split at hr
          · rw [if_pos (.inl (by decide))] at hr; cases hr
          · split at hr
            · rw [if_pos (by decide)] at hr; cases hr
            · revert hr
              generalize hn : nodeR ts (2 * ts.length + 1) 0 0 0 t = r
              rcases r with ⟨_ | y, a3, e3, i3, n3⟩
              · intro hr; cases hr
              · intro hr
                have hlen := listR_len ts _ _ _ _ _ _ _ _ _ _ hr
                have hi3 : ¬ i3 < ts.length := by
                  intro hl; rw [if_pos hl] at hlen; simp at hlen
                have hy : [y] = [x] := by
                  simp only [List.nil_append] at hr
                  cases hF : 2 * ts.length + 1 with
                  | zero => omega
                  | succ F =>
                    rw [hF, listR, List.getElem?_eq_none (by omega)] at hr
                    cases hr; rfl
                cases hy
                rw [nodeR] at hn
                split at hn
                · cases hn
                · split at hn
                  · cases hn
                  · split at hn
                    · cases hn
                      simp only [Nd.cs, List.getElem?_cons_zero, Option.some.injEq, AV.int.injEq, true_and] at hk
                      have hts : ts = [t] := by
                        cases ts with
                        | nil => cases ht
                        | cons u r =>
                          simp at ht; subst ht
                          cases r with
                          | nil => rfl
                          | cons v r => simp at hi3
                      subst hts
                      obtain ⟨q1, q2⟩ := lexR_text hl hk
                      exact ⟨0, t.path, t.has, false, [], [], by rw [hk, q1, q2], rfl⟩
                    · rename_i hb
                      have hk2 : x.cs[0]? = some (.int .i64 t.kind) := by
                        revert hn
                        generalize listR ts (2 * ts.length) t.kind false (0 + 1) (0 + 1) (0 + 1) [] = r
                        rcases r with ⟨_ | body, a4, e4, i4, n4⟩
                        · intro hn; cases hn
                        · intro hn
                          simp only at hn
                          split at hn
                          · revert hn
                            generalize listR ts (2 * ts.length) t.kind true (0 + 1) (i4 + 1) n4 [] = r
                            rcases r with ⟨_ | els, a5, e5, i5, n5⟩
                            · intro hn; cases hn
                            · intro hn
                              simp only at hn
                              split at hn
                              · cases hn
                              · cases hn; rfl
                          · split at hn
                            · cases hn
                            · cases hn; rfl
                      rw [hk] at hk2
                      have hk0 : t.kind = 0 := by simpa using hk2.symm
                      rw [hk0] at hb
                      simp [blockB] at hb
end Go.AL.Fun
