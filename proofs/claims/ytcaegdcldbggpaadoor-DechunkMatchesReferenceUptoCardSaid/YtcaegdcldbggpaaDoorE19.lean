/- The reference's decoder of chunked bodies. -/
import Derived.Test.YtcaegdcldbggpaaDoorE18
set_option linter.unusedSimpArgs false
set_option linter.unusedVariables false
set_option maxRecDepth 100000
set_option maxHeartbeats 4000000
namespace Go.AL.Fun
open Go Go.AL

theorem one_st {s : DS} (h : s.st ≤ 4) (c : UInt8) : (s.one c).st ≤ 4 := by
  unfold DS.one
  by_cases he : s.err = 0
  · rw [if_pos he]
    have hr := step_r s c
    generalize s.step c = x at hr
    cases hr <;> simp only <;> (repeat' split) <;> first | exact h | omega | (simp only; omega)
  · rw [if_neg he]; exact h
theorem feed_st {s : DS} (h : s.st ≤ 4) (b : List UInt8) : (s.feed b).st ≤ 4 := by
  induction b generalizing s with
  | nil => exact h
  | cons c b ih => rw [feed_cons]; exact ih (one_st h c)
/-- A byte, as the reference takes it. -/
def rone (x : List UInt8 × Int) (c : UInt8) : List UInt8 × Int := if x.2 = 0 then (if (ofP (x.1 ++ [c])).valid = true then (x.1 ++ [c], 0) else (x.1, if (ofP x.1).comp = true then 8 else 5)) else x
def rfeed (x : List UInt8 × Int) (b : List UInt8) : List UInt8 × Int := b.foldl rone x
def RI (x : List UInt8 × Int) (s : DS) : Prop := ∃ s0, s0 = DS.new.feed x.1 ∧ s0.err = 0 ∧ s0.off = x.1.length ∧ s = { s0 with err := x.2 }
theorem rfeed_app (x : List UInt8 × Int) (a b : List UInt8) : rfeed x (a ++ b) = rfeed (rfeed x a) b := List.foldl_append ..
theorem rone_len (x : List UInt8 × Int) (c : UInt8) : (rone x c).1.length ≤ x.1.length + 1 := by
  unfold rone
  repeat' split
  all_goals simp
theorem rfeed_len (x : List UInt8 × Int) (b : List UInt8) : (rfeed x b).1.length ≤ x.1.length + b.length := by
  induction b generalizing x with
  | nil => exact Nat.le_refl _
  | cons c b ih =>
    have h1 := ih (rone x c)
    have h2 := rone_len x c
    show (rfeed (rone x c) b).1.length ≤ _
    rw [List.length_cons]; omega
theorem ri_one {x : List UInt8 × Int} {s : DS} (h : RI x s) (c : UInt8) : RI (rone x c) (s.one c) := by
  obtain ⟨s0, h0, he, ho, hs⟩ := h
  by_cases ex : x.2 = 0
  · have hss : s = s0 := by rw [hs, ex, ← he]
    subst hss
    have hag := of_agree (x.1 ++ [c])
    have hfo : DS.new.feed (x.1 ++ [c]) = s.one c := by rw [feed_app, ← h0]; rfl
    rw [hfo] at hag
    unfold rone
    rw [if_pos ex]
    by_cases hv : (ofP (x.1 ++ [c])).valid = true
    · rw [if_pos hv]
      have he1 := hag.1.1 hv
      refine ⟨s.one c, hfo.symm, he1, ?_, ?_⟩
      · unfold DS.one at he1 ⊢
        rw [if_pos he] at he1 ⊢
        split at he1
        · rename_i h1; rw [if_pos h1, List.length_append, List.length_singleton, ← ho]
        · rename_i h1; exact absurd he1 h1
      · rw [← he1]
    · rw [if_neg hv]
      have he1 : (s.one c).err ≠ 0 := fun h => hv (hag.1.2 h)
      have hc4 : (ofP x.1).comp = decide (s.st = 4) := by
        have hag0 := of_agree x.1
        rw [← h0] at hag0
        rw [hag0.2.1 he]; rfl
      have hst : s.st ≤ 4 := by rw [h0]; exact feed_st (by decide) _
      refine ⟨s, h0, he, ho, ?_⟩
      unfold DS.one at he1 ⊢
      rw [if_pos he] at he1 ⊢
      rw [hc4]
      have hr := step_r s c
      generalize s.step c = y at hr he1
      cases hr with
      | bad g0 e hp e1 e7 =>
        rw [if_neg e1]
        have h5 : e = 5 := by
          rcases parse_cls (s.line ++ [c]) with p | p | p
          · omega
          · rw [p] at hp; exact hp.symm
          · rw [p] at hp; exact absurd hp.symm e7
        rw [h5]; simp [g0]
      | ncr g0 hc => simp [g0]
      | nlf g0 hc => simp [g0]
      | more g0 g1 g2 g3 =>
        have : s.st = 4 := by omega
        simp [this]
      | _ => simp at he1
  · have hse : s.err ≠ 0 := by rw [hs]; exact ex
    unfold rone DS.one
    rw [if_neg ex, if_neg hse]
    exact ⟨s0, h0, he, ho, hs⟩
theorem ri_feed {x : List UInt8 × Int} {s : DS} (h : RI x s) (b : List UInt8) : RI (rfeed x b) (s.feed b) := by
  induction b generalizing x s with
  | nil => exact h
  | cons c b ih => exact ih (ri_one h c)
theorem ri_new : RI ([], 0) .new := ⟨.new, rfl, rfl, rfl, rfl⟩
theorem rfeed_err {x : List UInt8 × Int} (h : x.2 ≠ 0) (b : List UInt8) : rfeed x b = x := by
  induction b with
  | nil => rfl
  | cons c b ih => show rfeed (rone x c) b = x; rw [rone, if_neg h]; exact ih

theorem key_ne2 {pp q : Nat} {H : Heap} {o : AObj} (h : lookH pp H = some o) (hq : q ∉ Heap.keys H) : ¬ pp = q := fun e => hq (by rw [← e]; exact List.mem_map.2 ⟨_, lookH_mem h, rfl⟩)
theorem List.append_cons' {α : Type} (A : List α) (x : α) (l : List α) : (A ++ [x]) ++ l = A ++ x :: l := by simp
theorem x_c22 {b : List UInt8} {t : Tok} {H : Heap} {K : Kv} (hl : b.length ≤ 1048576) (hn : H.keys.Nodup) (k : ∀ tp ts, K.ap (.agg (drAV (ofP b) tp ts)) H) : c22 [.sl (bytesAV b) t] H K := ⟨b, t, rfl, hl, hn, k⟩
def rC (x : List UInt8 × Int) (t : Tok) : AObj := .cells [.sl (bytesAV x.1) t, .int .i64 x.2]
def c21 (xs : List AV) (H : Heap) (K : Kv) : Prop := ∃ (q : Nat) (x : List UInt8 × Int) (b : List UInt8) (t0 t : Tok) (R : Heap), xs = [.ptr q 0, .sl (bytesAV b) t] ∧ H.Perm ((q, rC x t0) :: R) ∧ H.keys.Nodup ∧ x.1.length + b.length ≤ 1048576 ∧
  ∀ t1 H', H'.Perm ((q, rC (rfeed x b) t1) :: R) → H'.keys.Nodup → K.ap (.int .i64 (rfeed x b).2) H'
theorem c21_of (P : Program) {G : Nat → Option (List AV)} {xs : List AV} {H : Heap} {K : Kv} (h : c21 xs H K) : @xF ⟨G, P, [(22, c22)]⟩ f21 xs H ⟨fun v H' => ∃ H0, Hle H0 H' ∧ K.ap v H0⟩ := by
  obtain ⟨q, x, b, t0, t, R, rfl, hp, hn, hl, k⟩ := h
  simp (implicitDefEqProofs := false) only [sB, simprocAttr, f21]
  refine i_loopJ (fun σ H1 => ∃ (i : Nat) (t1 : Tok), H1.Perm ((q, rC (rfeed x (b.take i)) t1) :: R) ∧ H1.keys.Nodup ∧ i ≤ b.length ∧ σ = [(0, .ptr q 0), (1, .sl (bytesAV b) t), (5, .int .i64 i)])
    (fun σ _ => match σ.get 5 with | .int _ n => b.length - n.toNat | _ => 0)
    (fun e σ H1 => e = .exit 0 ∧ ∃ (t1 : Tok), H1.Perm ((q, rC (rfeed x b) t1) :: R) ∧ H1.keys.Nodup ∧ σ.get 0 = .ptr q 0)
    ⟨_, .refl _, 0, t0, hp, hn, by omega, rfl⟩ ?_ ?_
  · rintro e σ H1 ⟨rfl, t1, hp1, hn1, s0⟩
    have hlk := look_head hp1 hn1
    simp only [rC] at hlk
    simp (implicitDefEqProofs := false) only [sB, simprocAttr, s0, hlk]
    exact ⟨_, .refl _, k t1 _ hp1 hn1⟩
  · rintro Q hQ σ H1 ⟨i, t1, hp1, hn1, hi, rfl⟩
    by_cases ci : i < b.length
    · have ci' : (i : Int) < (b.length : Int) := by omega
      have i0 : (0 : Int) ≤ (i : Int) := by omega
      have hg : b[i]? = some b[i] := List.getElem?_eq_getElem ci
      have htk : rfeed x (b.take (i + 1)) = rone (rfeed x (b.take i)) b[i] := by
        rw [List.take_add_one, hg]
        show rfeed x (b.take i ++ [b[i]]) = _
        rw [rfeed_app]; rfl
      have hst : (rfeed x (b.take i)).2 ≠ 0 → rfeed x b = rfeed x (b.take i) := fun h => by
        have := rfeed_err h (b.drop i)
        rw [← rfeed_app, List.take_append_drop] at this
        exact this
      have hln := rfeed_len x (b.take i)
      rw [List.length_take, Nat.min_eq_left hi] at hln
      generalize rfeed x (b.take i) = y at hp1 htk hst hln
      obtain ⟨B, E⟩ := y
      simp only at hst hln
      simp only [rC] at hp1
      have hlk := look_head hp1 hn1
      have r9 := w_i64 ((i : Int) + 1) (by omega) (by omega)
      by_cases ce : E = 0
      · subst ce
        simp (implicitDefEqProofs := false) only [sB, simprocAttr, ci', hlk, by_len, i0, by_get, hg, Option.map_some, byteAV_n8, x_runT, x_pll, x_plf]
        refine ⟨i_emp hn1 fun z hz n2 => ?_, i_new fun y hy => ?_⟩
        · have qz := key_ne2 hlk hz
          have hlz : lookH q ((z, AObj.spare 0) :: H1) = some (.cells [.sl (bytesAV B) t1, .int .i64 0]) := by simp only [lookH, if_neg qz]; exact hlk
          simp (implicitDefEqProofs := false) only [sB, simprocAttr, qz, hlk, x_pll, x_plf]
          refine ⟨?_, i_new fun y hy => ?_⟩
          · refine i_app (A := []) (R := H1) (tk := .at z 0 1) (xs := []) (ys := bytesAV B) (.refl _) n2 rfl (.inl ⟨_, rfl⟩) (allSz_bytes _) (by rw [allSz_nil]; trivial) ?_ ?_ fun t2 H2 g1 g2 g3 => ?_
            · simp only [by_len, List.length_nil, maxLen_eq]; omega
            · simp only [by_len, List.length_nil]; omega
            have hq2 : H2.Perm ((q, .cells [.sl (bytesAV B) t1, .int .i64 0]) :: (tokH t2 ++ R)) := (g2.trans (hp1.append_left _)).trans List.perm_middle
            have hlk1 := look_head hq2 g3
            rw [List.nil_append] at g1 ⊢
            simp (implicitDefEqProofs := false) only [sB, simprocAttr, hlk1, x_pll, x_plf]
            refine i_new fun y hy => ?_
            have qy := key_ne2 hlk1 hy
            simp (implicitDefEqProofs := false) only [sB, simprocAttr, qy, hlk1]
            refine i_appX (A := [(y, AObj.cells (bytesAV [b[i]]))]) (R := H1) (tk := t2) (xs := bytesAV B) (ys := bytesAV [b[i]]) (g2.cons _) (List.nodup_cons.2 ⟨hy, g3⟩) g1 (src_cells (xs := bytesAV [b[i]]) (by simp only [lookH, if_true]; rfl) (allSz_bytes _) rfl) (allSz_bytes _) ?_ ?_ fun t3 H3 u1 u2 u3 => ?_
            · simp only [by_len, List.length_singleton, maxLen_eq]; omega
            · simp only [by_len, List.length_singleton]; omega
            rw [by_app]
            have hq3 : H3.Perm ((q, .cells [.sl (bytesAV B) t1, .int .i64 0]) :: (((y, AObj.cells (bytesAV [b[i]])) :: tokH t3) ++ R)) := (u2.trans ((hp1.append_left _).append_left [(y, AObj.cells (bytesAV [b[i]]))])).trans (List.perm_middle (l₁ := (y, AObj.cells (bytesAV [b[i]])) :: tokH t3))
            have hlk2 := look_head hq3 u3
            simp (implicitDefEqProofs := false) only [sB, simprocAttr]
            refine x_c22 (b := B ++ [b[i]]) (by rw [List.length_append, List.length_singleton]; omega) u3 fun tp ts => ?_
            by_cases hv : (ofP (B ++ [b[i]])).valid = true
            · have hro : rone (B, 0) b[i] = (B ++ [b[i]], 0) := by rw [rone, if_pos rfl, if_pos hv]
              simp (implicitDefEqProofs := false) only [sB, simprocAttr, drAV, hv, hlk2, r9]
              have h5 := set_head (rC (B ++ [b[i]], 0) t3) hq3 u3
              exact ⟨_, hle_sub h5 (.cons_cons _ (List.sublist_append_right _ R)), ⟨i + 1, t3, by rw [htk, hro], nodup_sub h5 (.cons_cons _ (List.sublist_append_right _ R)) (set_nodup _ u3), by omega, rfl⟩, by omega⟩
            · have hv' : (ofP (B ++ [b[i]])).valid = false := by simpa using hv
              simp (implicitDefEqProofs := false) only [sB, simprocAttr, drAV, hv', hlk2]
              refine x_c22 (b := B) (by omega) (set_nodup _ u3) fun tp2 ts2 => ?_
              by_cases hw : (ofP B).comp = true
              · have hro : rone (B, 0) b[i] = (B, 8) := by rw [rone, if_pos rfl, if_neg hv, if_pos hw]
                simp (implicitDefEqProofs := false) only [sB, simprocAttr, drAV, hw, hlk2, r9]
                have h5 := set_head (rC (B, 8) t1) hq3 u3
                exact ⟨_, hle_sub h5 (.cons_cons _ (List.sublist_append_right _ R)), ⟨i + 1, t1, by rw [htk, hro], nodup_sub h5 (.cons_cons _ (List.sublist_append_right _ R)) (set_nodup _ u3), by omega, rfl⟩, by omega⟩
              · have hw' : (ofP B).comp = false := by simpa using hw
                have hro : rone (B, 0) b[i] = (B, 5) := by rw [rone, if_pos rfl, if_neg hv, if_neg hw]
                simp (implicitDefEqProofs := false) only [sB, simprocAttr, drAV, hw', hlk2, r9]
                have h5 := set_head (rC (B, 5) t1) hq3 u3
                exact ⟨_, hle_sub h5 (.cons_cons _ (List.sublist_append_right _ R)), ⟨i + 1, t1, by rw [htk, hro], nodup_sub h5 (.cons_cons _ (List.sublist_append_right _ R)) (set_nodup _ u3), by omega, rfl⟩, by omega⟩
          · have qy : ¬ q = y := fun h => hy (by rw [← h]; exact List.mem_map.2 ⟨_, lookH_mem hlz, rfl⟩)
            have n3 := List.nodup_cons.2 ⟨hy, n2⟩
            simp (implicitDefEqProofs := false) only [sB, simprocAttr, qy, qz, hlk, x_pll]
            refine i_app (A := [(y, AObj.cells (bytesAV [b[i]]))]) (R := H1) (tk := .at z 0 1) (xs := []) (ys := bytesAV B) (.refl _) n3 rfl (.inl ⟨_, rfl⟩) (allSz_bytes _) (by rw [allSz_nil]; trivial) ?_ ?_ fun t2 H2 g1 g2 g3 => ?_
            · simp only [by_len, List.length_nil, maxLen_eq]; omega
            · simp only [by_len, List.length_nil]; omega
            have hq2 : H2.Perm ((q, .cells [.sl (bytesAV B) t1, .int .i64 0]) :: (((y, AObj.cells (bytesAV [b[i]])) :: tokH t2) ++ R)) := (g2.trans ((hp1.append_left _).append_left [(y, AObj.cells (bytesAV [b[i]]))])).trans (List.perm_middle (l₁ := (y, AObj.cells (bytesAV [b[i]])) :: tokH t2))
            have hlk1 := look_head hq2 g3
            rw [List.nil_append] at g1 ⊢
            simp (implicitDefEqProofs := false) only [sB, simprocAttr, hlk1]
            refine i_appX (A := [(y, AObj.cells (bytesAV [b[i]]))]) (R := H1) (tk := t2) (xs := bytesAV B) (ys := bytesAV [b[i]]) g2 g3 g1 (src_cells (xs := bytesAV [b[i]]) (look_head g2 g3) (allSz_bytes _) rfl) (allSz_bytes _) ?_ ?_ fun t3 H3 u1 u2 u3 => ?_
            · simp only [by_len, List.length_singleton, maxLen_eq]; omega
            · simp only [by_len, List.length_singleton]; omega
            rw [by_app]
            have hq3 : H3.Perm ((q, .cells [.sl (bytesAV B) t1, .int .i64 0]) :: (((y, AObj.cells (bytesAV [b[i]])) :: tokH t3) ++ R)) := (u2.trans ((hp1.append_left _).append_left [(y, AObj.cells (bytesAV [b[i]]))])).trans (List.perm_middle (l₁ := (y, AObj.cells (bytesAV [b[i]])) :: tokH t3))
            have hlk2 := look_head hq3 u3
            simp (implicitDefEqProofs := false) only [sB, simprocAttr]
            refine x_c22 (b := B ++ [b[i]]) (by rw [List.length_append, List.length_singleton]; omega) u3 fun tp ts => ?_
            by_cases hv : (ofP (B ++ [b[i]])).valid = true
            · have hro : rone (B, 0) b[i] = (B ++ [b[i]], 0) := by rw [rone, if_pos rfl, if_pos hv]
              simp (implicitDefEqProofs := false) only [sB, simprocAttr, drAV, hv, hlk2, r9]
              have h5 := set_head (rC (B ++ [b[i]], 0) t3) hq3 u3
              exact ⟨_, hle_sub h5 (.cons_cons _ (List.sublist_append_right _ R)), ⟨i + 1, t3, by rw [htk, hro], nodup_sub h5 (.cons_cons _ (List.sublist_append_right _ R)) (set_nodup _ u3), by omega, rfl⟩, by omega⟩
            · have hv' : (ofP (B ++ [b[i]])).valid = false := by simpa using hv
              simp (implicitDefEqProofs := false) only [sB, simprocAttr, drAV, hv', hlk2]
              refine x_c22 (b := B) (by omega) (set_nodup _ u3) fun tp2 ts2 => ?_
              by_cases hw : (ofP B).comp = true
              · have hro : rone (B, 0) b[i] = (B, 8) := by rw [rone, if_pos rfl, if_neg hv, if_pos hw]
                simp (implicitDefEqProofs := false) only [sB, simprocAttr, drAV, hw, hlk2, r9]
                have h5 := set_head (rC (B, 8) t1) hq3 u3
                exact ⟨_, hle_sub h5 (.cons_cons _ (List.sublist_append_right _ R)), ⟨i + 1, t1, by rw [htk, hro], nodup_sub h5 (.cons_cons _ (List.sublist_append_right _ R)) (set_nodup _ u3), by omega, rfl⟩, by omega⟩
              · have hw' : (ofP B).comp = false := by simpa using hw
                have hro : rone (B, 0) b[i] = (B, 5) := by rw [rone, if_pos rfl, if_neg hv, if_neg hw]
                simp (implicitDefEqProofs := false) only [sB, simprocAttr, drAV, hw', hlk2, r9]
                have h5 := set_head (rC (B, 5) t1) hq3 u3
                exact ⟨_, hle_sub h5 (.cons_cons _ (List.sublist_append_right _ R)), ⟨i + 1, t1, by rw [htk, hro], nodup_sub h5 (.cons_cons _ (List.sublist_append_right _ R)) (set_nodup _ u3), by omega, rfl⟩, by omega⟩
        · have qy := key_ne2 hlk hy
          have n1 := List.nodup_cons.2 ⟨hy, hn1⟩
          have hly : lookH q ((y, AObj.cells (bytesAV [b[i]])) :: H1) = some (.cells [.sl (bytesAV B) t1, .int .i64 0]) := by simp only [lookH, if_neg qy]; exact hlk
          simp (implicitDefEqProofs := false) only [sB, simprocAttr, qy, hlk, x_pll]
          refine i_emp n1 fun z hz n2 => ?_
          have qz : ¬ q = z := fun h => hz (by rw [← h]; exact List.mem_map.2 ⟨_, lookH_mem hly, rfl⟩)
          simp (implicitDefEqProofs := false) only [sB, simprocAttr, qy, qz, hlk]
          refine i_app (A := []) (R := (y, AObj.cells (bytesAV [b[i]])) :: H1) (tk := .at z 0 1) (xs := []) (ys := bytesAV B) (.refl _) n2 rfl (.inl ⟨_, rfl⟩) (allSz_bytes _) (by rw [allSz_nil]; trivial) ?_ ?_ fun t2 H2 g1 g2 g3 => ?_
          · simp only [by_len, List.length_nil, maxLen_eq]; omega
          · simp only [by_len, List.length_nil]; omega
          have hq2 : H2.Perm ((q, .cells [.sl (bytesAV B) t1, .int .i64 0]) :: ((tokH t2 ++ [(y, AObj.cells (bytesAV [b[i]]))]) ++ R)) := (g2.trans ((hp1.cons _).append_left _)).trans (by rw [← List.append_cons']; exact List.perm_middle (l₁ := tokH t2 ++ [(y, AObj.cells (bytesAV [b[i]]))]))
          have hlk1 := look_head hq2 g3
          rw [List.nil_append] at g1 ⊢
          simp (implicitDefEqProofs := false) only [sB, simprocAttr, hlk1]
          refine i_appX (A := []) (R := (y, AObj.cells (bytesAV [b[i]])) :: H1) (tk := t2) (xs := bytesAV B) (ys := bytesAV [b[i]]) g2 g3 g1 (src_cells (xs := bytesAV [b[i]]) (look_head (g2.trans List.perm_middle) g3) (allSz_bytes _) rfl) (allSz_bytes _) ?_ ?_ fun t3 H3 u1 u2 u3 => ?_
          · simp only [by_len, List.length_singleton, maxLen_eq]; omega
          · simp only [by_len, List.length_singleton]; omega
          rw [by_app]
          have hq3 : H3.Perm ((q, .cells [.sl (bytesAV B) t1, .int .i64 0]) :: ((tokH t3 ++ [(y, AObj.cells (bytesAV [b[i]]))]) ++ R)) := (u2.trans ((hp1.cons _).append_left _)).trans (by rw [← List.append_cons']; exact List.perm_middle (l₁ := tokH t3 ++ [(y, AObj.cells (bytesAV [b[i]]))]))
          have hlk2 := look_head hq3 u3
          simp (implicitDefEqProofs := false) only [sB, simprocAttr]
          refine x_c22 (b := B ++ [b[i]]) (by rw [List.length_append, List.length_singleton]; omega) u3 fun tp ts => ?_
          by_cases hv : (ofP (B ++ [b[i]])).valid = true
          · have hro : rone (B, 0) b[i] = (B ++ [b[i]], 0) := by rw [rone, if_pos rfl, if_pos hv]
            simp (implicitDefEqProofs := false) only [sB, simprocAttr, drAV, hv, hlk2, r9]
            have h5 := set_head (rC (B ++ [b[i]], 0) t3) hq3 u3
            exact ⟨_, hle_sub h5 (.cons_cons _ (List.sublist_append_right _ R)), ⟨i + 1, t3, by rw [htk, hro], nodup_sub h5 (.cons_cons _ (List.sublist_append_right _ R)) (set_nodup _ u3), by omega, rfl⟩, by omega⟩
          · have hv' : (ofP (B ++ [b[i]])).valid = false := by simpa using hv
            simp (implicitDefEqProofs := false) only [sB, simprocAttr, drAV, hv', hlk2]
            refine x_c22 (b := B) (by omega) (set_nodup _ u3) fun tp2 ts2 => ?_
            by_cases hw : (ofP B).comp = true
            · have hro : rone (B, 0) b[i] = (B, 8) := by rw [rone, if_pos rfl, if_neg hv, if_pos hw]
              simp (implicitDefEqProofs := false) only [sB, simprocAttr, drAV, hw, hlk2, r9]
              have h5 := set_head (rC (B, 8) t1) hq3 u3
              exact ⟨_, hle_sub h5 (.cons_cons _ (List.sublist_append_right _ R)), ⟨i + 1, t1, by rw [htk, hro], nodup_sub h5 (.cons_cons _ (List.sublist_append_right _ R)) (set_nodup _ u3), by omega, rfl⟩, by omega⟩
            · have hw' : (ofP B).comp = false := by simpa using hw
              have hro : rone (B, 0) b[i] = (B, 5) := by rw [rone, if_pos rfl, if_neg hv, if_neg hw]
              simp (implicitDefEqProofs := false) only [sB, simprocAttr, drAV, hw', hlk2, r9]
              have h5 := set_head (rC (B, 5) t1) hq3 u3
              exact ⟨_, hle_sub h5 (.cons_cons _ (List.sublist_append_right _ R)), ⟨i + 1, t1, by rw [htk, hro], nodup_sub h5 (.cons_cons _ (List.sublist_append_right _ R)) (set_nodup _ u3), by omega, rfl⟩, by omega⟩
      · simp (implicitDefEqProofs := false) only [sB, simprocAttr, ci', hlk, by_len, ce]
        exact hQ _ _ _ ⟨rfl, t1, by rw [hst ce]; exact hp1, hn1, rfl⟩
    · have ci' : ¬ (i : Int) < (b.length : Int) := by omega
      simp (implicitDefEqProofs := false) only [sB, simprocAttr, ci', by_len]
      rw [List.take_of_length_le (by omega)] at hp1
      exact hQ _ _ _ ⟨rfl, t1, hp1, hn1, rfl⟩
end Go.AL.Fun
