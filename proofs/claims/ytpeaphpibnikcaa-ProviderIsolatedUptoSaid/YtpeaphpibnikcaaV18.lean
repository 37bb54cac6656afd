/- The provider: law 5. -/
import Derived.Test.YtpeaphpibnikcaaV16
set_option linter.unusedSimpArgs false
set_option linter.unusedVariables false
set_option maxRecDepth 100000
set_option maxHeartbeats 4000000
namespace Go.AL.Fun
open Go Go.AL

theorem refP_mem {pulls ns : List (List UInt8)} {s x : List UInt8} (hx : x ∈ refP pulls s) (h : ∀ x ∈ pulls, x ∈ ns) (hs : s ∈ ns) : x ∈ ns := by
  unfold refP at hx
  split at hx
  · exact h x hx
  · rcases List.mem_append.1 hx with hx | hx
    · exact h x hx
    · rw [List.mem_singleton.1 hx]; exact hs
theorem refP_nodup {pulls : List (List UInt8)} {s : List UInt8} (h : pulls.Nodup) : (refP pulls s).Nodup := by
  unfold refP
  split
  · exact h
  · rename_i hn
    exact List.nodup_append.2 ⟨h, List.nodup_cons.2 ⟨by simp, List.nodup_nil⟩, fun a ha b hb => by rw [List.mem_singleton.1 hb]; exact fun e => hn (e ▸ ha)⟩
theorem refP_two (pulls : List (List UInt8)) (s : List UInt8) : refP (refP pulls s) s = refP pulls s := by
  have h1 : s ∈ refP pulls s := by unfold refP; split <;> simp_all
  have h2 : ∀ l : List (List UInt8), s ∈ l → refP l s = l := fun l h => by unfold refP; rw [if_pos h]
  exact h2 _ h1
theorem law5 (P : Program) (fs : List Fld) (ft : Tok) (ns : List (List UInt8)) (nt : Tok) (hw : Val.wtf fs ≤ 1048576) (hnl : ns.length ≤ 1048576) (hns : ∀ s ∈ ns, s.length ≤ 1048576)
    (K : Kv) (hK : ∀ H, K.ap (.bool true) H) : @xF ⟨fun _ => none, P, (15, c15) :: (tL P).T⟩ f5 [.sl (Val.fvs fs) ft, .sl (strsAV ns) nt] [] K := by
  have wfl := Val.wtf_len fs
  have zc : zeroV.cs = [.int .i64 0, .str [], .int .i64 0, .bool false, .sl [] .nil, .sl [] .nil] := rfl
  simp (implicitDefEqProofs := false) only [sB, simprocAttr, f5]
  refine x_c8 (by omega) _ _ fun r r0 r1 => ?_
  have n1 : (Heap.keys ([] : Heap)).Nodup := List.nodup_nil
  by_cases big : 0 < r
  · simp (implicitDefEqProofs := false) only [sB, simprocAttr, big]
    refine ⟨rfl, n1, ?_⟩
    simp (implicitDefEqProofs := false) only [sB, simprocAttr]
    exact hK _
  · simp (implicitDefEqProofs := false) only [sB, simprocAttr, big, strs_len]
    refine ⟨fs, ft, [], .nil, rfl, n1, hw, by decide, by simp, fun e => ?_, fun e a => absurd a (by decide), fun e a p aa b hnp => ?_⟩
    · have e1 : ¬ chk (.mk 4 [] 0 false .nil [] ft fs) 1 = 0 := e
      simp (implicitDefEqProofs := false) only [sB, simprocAttr, e1]
      refine ⟨rfl, n1, ?_⟩
      simp (implicitDefEqProofs := false) only [sB, simprocAttr, e1]
      exact hK _
    · have fnd := chkM_nodup e
      simp (implicitDefEqProofs := false) only [sB, simprocAttr, strs_len]
      generalize hR0 : ([] : Heap) = R0 at hnp ⊢
      refine i_loopJ (fun σ H1 => ∃ (i : Nat) (D : RMap) (pulls : List (List UInt8)) (tk : Tok), H1 = pH p aa b D (provM fs []) pulls tk R0 ∧ H1.keys.Nodup ∧ DOk fs [] pulls D ∧ GT (strsAV pulls) tk ∧ pulls.length ≤ i ∧ i ≤ ns.length ∧ (∀ x ∈ pulls, x ∈ ns) ∧ pulls.Nodup ∧
          σ = [(1, .sl (strsAV ns) nt), (5, .ptr p 0), (38, .sl (strsAV ns) nt), (39, .int .i64 ns.length), (40, .int .i64 i)])
        (fun σ _ => match σ.get 40 with | .int _ n => ns.length - n.toNat | _ => 0)
        (fun e σ H1 => e = .exit 0 ∧ ∃ (D : RMap) (pulls : List (List UInt8)) (tk : Tok), H1 = pH p aa b D (provM fs []) pulls tk R0 ∧ H1.keys.Nodup ∧ GT (strsAV pulls) tk ∧ pulls.length ≤ ns.length ∧ (∀ x ∈ pulls, x ∈ ns) ∧ pulls.Nodup ∧ σ.get 1 = .sl (strsAV ns) nt ∧ σ.get 5 = .ptr p 0)
        ⟨_, .refl _, 0, [], [], .nil, rfl, hnp, dok_nil _ _, rfl, by decide, by omega, by simp, List.nodup_nil, rfl⟩ ?_ ?_
      · rintro e σ H1 ⟨rfl, D, pulls, tk, rfl, n5, g5, pl, pin, pnd, q1, q5⟩
        simp (implicitDefEqProofs := false) only [sB, simprocAttr, q1, q5]
        refine .inl ⟨_, .refl _, p, aa, b, D, _, pulls, tk, R0, rfl, rfl, n5, g5, by omega, fun t' => ?_⟩
        simp (implicitDefEqProofs := false) only [sB, simprocAttr, q1, q5, strs_len]
        refine i_loopJ (fun σ H1 => ∃ (i : Nat), H1.keys.Nodup ∧ i ≤ pulls.length ∧ σ = [(1, .sl (strsAV ns) nt), (14, .sl (strsAV pulls) t'), (77, .sl (strsAV pulls) t'), (78, .int .i64 pulls.length), (79, .int .i64 i)])
          (fun σ _ => match σ.get 79 with | .int _ n => pulls.length - n.toNat | _ => 0)
          (fun e σ H1 => e = .exit 2 ∧ H1.keys.Nodup)
          ⟨_, .refl _, 0, n5, by omega, rfl⟩ ?_ ?_
        · rintro e σ H1 ⟨rfl, n7⟩
          simp (implicitDefEqProofs := false) only [sB, simprocAttr]
          refine ⟨rfl, n7, ?_⟩
          simp (implicitDefEqProofs := false) only [sB, simprocAttr]
          exact hK _
        · rintro Q hQ σ H1 ⟨i, n7, hi, rfl⟩
          simp (implicitDefEqProofs := false) only [sB, simprocAttr]
          refine i_if (fun c => ?_) (fun c => ?_)
          · have c' : i < pulls.length := by simpa using c
            have hx2 : pulls[i]? = some pulls[i] := List.getElem?_eq_getElem c'
            have r9 := w_i64 ((i : Int) + 1) (by omega) (by omega)
            have i0 : (0 : Int) ≤ (i : Int) := by omega
            have smem : pulls[i] ∈ ns := pin _ (List.getElem_mem c')
            have snot : pulls[i] ∉ pulls.take i := by
              intro hm
              have pn := pnd
              rw [← List.take_append_drop i pulls, List.drop_eq_getElem_cons c'] at pn
              exact (List.nodup_append.1 pn).2.2 _ hm _ List.mem_cons_self rfl
            simp (implicitDefEqProofs := false) only [sB, simprocAttr, i0, strs_get, hx2, Option.map_some]
            refine x_c15 (by omega) _ _ ?_
            simp (implicitDefEqProofs := false) only [sB, simprocAttr, decide_eq_true smem, i0]
            refine ⟨strs_all _, by rw [strs_len]; omega, ?_⟩
            rw [show List.take i (strsAV pulls) = strsAV (pulls.take i) by simp [strsAV, List.map_take]]
            refine x_c15 (by rw [List.length_take]; omega) _ _ ?_
            simp (implicitDefEqProofs := false) only [sB, simprocAttr, decide_eq_false snot, r9]
            exact ⟨_, .refl _, ⟨i + 1, n7, by omega, by simp⟩, by omega⟩
          · simp (implicitDefEqProofs := false) only [sB, simprocAttr]
            exact hQ _ _ _ ⟨rfl, n7⟩
      · rintro Q hQ σ H1 ⟨i, D, pulls, tk, rfl, n5, dk, g5, pl, hi, pin, pnd, rfl⟩
        simp (implicitDefEqProofs := false) only [sB, simprocAttr]
        refine i_if (fun c => ?_) (fun c => ?_)
        · have c' : i < ns.length := by simpa using c
          have hx2 : ns[i]? = some ns[i] := List.getElem?_eq_getElem c'
          have r9 := w_i64 ((i : Int) + 1) (by omega) (by omega)
          have i0 : (0 : Int) ≤ (i : Int) := by omega
          have hsi := hns _ (List.getElem_mem c')
          have smem : ns[i] ∈ ns := List.getElem_mem c'
          simp (implicitDefEqProofs := false) only [sB, simprocAttr, i0, strs_get, hx2, Option.map_some]
          generalize ns[i] = s at hsi smem ⊢
          have refP2 := refP_two pulls s
          refine .inl ⟨p, aa, b, D, fs, [], pulls, tk, R0, s, rfl, .refl _, n5, g5, by omega, by omega, fnd, dk, fun nm => ?_, fun nm D' tk' d' g' n' => ?_⟩
          · simp only [zc]
            simp (implicitDefEqProofs := false) only [sB, simprocAttr]
            refine i_new fun v hv0 => ?_
            simp (implicitDefEqProofs := false) only [sB, simprocAttr]
            have pv := (List.perm_middle (a := (v, .cells [.int .i64 0, .str [], .int .i64 0, .bool false, .sl [] .nil, .sl [] .nil])) (l₁ := (p, .cells [.map aa, .map b, .sl (strsAV pulls) tk]) :: (b, .map (resM D)) :: (aa, .map (resM (provM fs []))) :: tokH tk) (l₂ := R0)).symm
            have nX : (pH p aa b D (provM fs []) pulls tk ((v, .cells [.int .i64 0, .str [], .int .i64 0, .bool false, .sl [] .nil, .sl [] .nil]) :: R0)).keys.Nodup := nodup_perm pv (List.nodup_cons.2 ⟨hv0, n5⟩)
            have hvn := hv0
            unfold pH at hvn
            simp only [Heap.keys, List.map_cons, List.mem_cons, not_or] at hvn
            have nvp : ¬ v = p := hvn.1
            have nvb : ¬ v = b := hvn.2.1
            have nva : ¬ v = aa := hvn.2.2.1
            refine .inl ⟨_, Hle.of_perm pv, p, aa, b, D, provM fs [], pulls, tk, _, rfl, rfl, nX, g5, by have := refP_len pulls s; omega, fun tt => ?_⟩
            simp (implicitDefEqProofs := false) only [sB, simprocAttr]
            refine .inl ⟨p, aa, b, D, fs, [], pulls, tk, (v, .cells [.int .i64 0, .str [], .int .i64 0, .bool false, .sl [] .nil, .sl [] .nil]) :: R0, s, rfl, .refl _, nX, g5, by have := refP_len pulls s; omega, by omega, fnd, dk, fun _ => ?_, fun nm' => absurd (nm.symm.trans nm') (by decide)⟩
            simp only [zc]
            simp (implicitDefEqProofs := false) only [sB, simprocAttr]
            refine i_new fun w hw0 => ?_
            have hwv : ¬ w = v := fun e => hw0 (by subst e; simp [pH, Heap.keys])
            have hvw : ¬ v = w := fun e => hwv e.symm
            have nT := (List.nodup_cons.1 (List.nodup_cons.1 (List.nodup_cons.1 nX).2).2).2
            have lv : lookH v (tokH tk ++ ((v, .cells [.int .i64 0, .str [], .int .i64 0, .bool false, .sl [] .nil, .sl [] .nil]) :: R0)) = some (.cells [.int .i64 0, .str [], .int .i64 0, .bool false, .sl [] .nil, .sl [] .nil]) := look_head (List.perm_middle (l₁ := tokH tk)) nT
            unfold pH
            simp (implicitDefEqProofs := false) only [sB, simprocAttr, hwv, hvw, nvp, nvb, nva, lv]
            refine x_c13 (is := []) (fs := []) (by simp only [Val.wt, Val.wts, Val.wtf, List.length_nil]; omega) (by decide) _ _ ?_
            simp (implicitDefEqProofs := false) only [sB, simprocAttr]
            refine .inl ⟨pH p aa b D (provM fs []) pulls tk ((v, .cells [.int .i64 0, .str [], .int .i64 0, .bool false, .sl [] .nil, .sl [] .nil]) :: R0), .tail _ _, p, aa, b, D, provM fs [], pulls, tk, _, rfl, rfl, nX, g5, by have := refP_len pulls s; omega, fun tt2 => ?_⟩
            simp (implicitDefEqProofs := false) only [sB, simprocAttr]
            refine x_c14 (by have := refP_len pulls s; omega) _ _ ?_
            simp (implicitDefEqProofs := false) only [sB, simprocAttr, r9]
            have sb : (pH p aa b D (provM fs []) pulls tk R0).Sublist (pH p aa b D (provM fs []) pulls tk ((v, .cells [.int .i64 0, .str [], .int .i64 0, .bool false, .sl [] .nil, .sl [] .nil]) :: R0)) := .cons_cons _ (.cons_cons _ (.cons_cons _ (List.Sublist.append (.refl _) (.cons _ (.refl _)))))
            exact ⟨_, .of_sub sb, ⟨i + 1, D, pulls, tk, rfl, (sb.map _).nodup nX, dk, g5, by have := refP_len pulls s; omega, by omega, pin, pnd, by simp⟩, by omega⟩
          · have rw5 := res_wt (fs := fs) (l := []) s hw
            generalize hr : refR fs [] s = r at rw5 ⊢
            obtain ⟨⟨k', s', n2, b', it', is', ft', fs'⟩, e'⟩ := r
            have rw6 : (Val.mk k' s' n2 b' it' is' ft' fs').wt ≤ 1048577 := rw5
            simp only [Val.cs]
            simp (implicitDefEqProofs := false) only [sB, simprocAttr]
            refine i_new fun v hv0 => ?_
            simp (implicitDefEqProofs := false) only [sB, simprocAttr]
            have pv := (List.perm_middle (a := (v, .cells [.int .i64 k', .str s', .int .i64 n2, .bool b', .sl (Val.avs is') it', .sl (Val.fvs fs') ft'])) (l₁ := (p, .cells [.map aa, .map b, .sl (strsAV (refP pulls s)) tk']) :: (b, .map (resM D')) :: (aa, .map (resM (provM fs []))) :: tokH tk') (l₂ := R0)).symm
            have nX : (pH p aa b D' (provM fs []) (refP pulls s) tk' ((v, .cells [.int .i64 k', .str s', .int .i64 n2, .bool b', .sl (Val.avs is') it', .sl (Val.fvs fs') ft']) :: R0)).keys.Nodup := nodup_perm pv (List.nodup_cons.2 ⟨hv0, n'⟩)
            have hvn := hv0
            unfold pH at hvn
            simp only [Heap.keys, List.map_cons, List.mem_cons, not_or] at hvn
            have nvp : ¬ v = p := hvn.1
            have nvb : ¬ v = b := hvn.2.1
            have nva : ¬ v = aa := hvn.2.2.1
            refine .inl ⟨_, Hle.of_perm pv, p, aa, b, D', provM fs [], (refP pulls s), tk', _, rfl, rfl, nX, g', by have := refP_len pulls s; omega, fun tt => ?_⟩
            simp (implicitDefEqProofs := false) only [sB, simprocAttr]
            refine .inl ⟨p, aa, b, D', fs, [], (refP pulls s), tk', (v, .cells [.int .i64 k', .str s', .int .i64 n2, .bool b', .sl (Val.avs is') it', .sl (Val.fvs fs') ft']) :: R0, s, rfl, .refl _, nX, g', by have := refP_len pulls s; omega, by omega, fnd, d', fun nm' => absurd (nm.symm.trans nm') (by decide), fun _ D2 tk2 dd2 gg2 nn2 => ?_⟩
            rw [refP2] at dd2 gg2 nn2 ⊢
            rw [hr]
            simp only [Val.cs]
            simp (implicitDefEqProofs := false) only [sB, simprocAttr]
            refine i_new fun w hw0 => ?_
            have hwv : ¬ w = v := fun e => hw0 (by subst e; simp [pH, Heap.keys])
            have hvw : ¬ v = w := fun e => hwv e.symm
            have nT := (List.nodup_cons.1 (List.nodup_cons.1 (List.nodup_cons.1 nn2).2).2).2
            have lv : lookH v (tokH tk2 ++ ((v, .cells [.int .i64 k', .str s', .int .i64 n2, .bool b', .sl (Val.avs is') it', .sl (Val.fvs fs') ft']) :: R0)) = some (.cells [.int .i64 k', .str s', .int .i64 n2, .bool b', .sl (Val.avs is') it', .sl (Val.fvs fs') ft']) := look_head (List.perm_middle (l₁ := tokH tk2)) nT
            unfold pH
            simp (implicitDefEqProofs := false) only [sB, simprocAttr, hwv, hvw, nvp, nvb, nva, lv]
            refine x_c13 (by omega) (by decide) _ _ ?_
            simp (implicitDefEqProofs := false) only [sB, simprocAttr]
            refine .inl ⟨pH p aa b D2 (provM fs []) (refP pulls s) tk2 ((v, .cells [.int .i64 k', .str s', .int .i64 n2, .bool b', .sl (Val.avs is') it', .sl (Val.fvs fs') ft']) :: R0), .tail _ _, p, aa, b, D2, provM fs [], (refP pulls s), tk2, _, rfl, rfl, nn2, gg2, by have := refP_len pulls s; omega, fun tt2 => ?_⟩
            simp (implicitDefEqProofs := false) only [sB, simprocAttr]
            refine x_c14 (by have := refP_len pulls s; omega) _ _ ?_
            simp (implicitDefEqProofs := false) only [sB, simprocAttr, r9]
            have sb : (pH p aa b D2 (provM fs []) (refP pulls s) tk2 R0).Sublist (pH p aa b D2 (provM fs []) (refP pulls s) tk2 ((v, .cells [.int .i64 k', .str s', .int .i64 n2, .bool b', .sl (Val.avs is') it', .sl (Val.fvs fs') ft']) :: R0)) := .cons_cons _ (.cons_cons _ (.cons_cons _ (List.Sublist.append (.refl _) (.cons _ (.refl _)))))
            exact ⟨_, .of_sub sb, ⟨i + 1, D2, (refP pulls s), tk2, rfl, (sb.map _).nodup nn2, dd2, gg2, by have := refP_len pulls s; omega, by omega, fun x hx => refP_mem hx pin smem, refP_nodup pnd, by simp⟩, by omega⟩
        · simp (implicitDefEqProofs := false) only [sB, simprocAttr]
          exact hQ _ _ _ ⟨rfl, D, pulls, tk, rfl, n5, g5, by omega, pin, pnd, rfl, rfl⟩
end Go.AL.Fun
