/- The provider: law 3. -/
import Derived.Test.YtpeaphpibnikcaaV15
set_option linter.unusedSimpArgs false
set_option linter.unusedVariables false
set_option maxRecDepth 100000
set_option maxHeartbeats 4000000
namespace Go.AL.Fun
open Go Go.AL

@[reducible] def tL (P : Program) : Th := ⟨fun _ => none, P, [(6, o6), (7, o7), (8, c8), (9, c9), (10, c10), (11, c11), (12, s12), (13, c13 1099511627776), (14, c14)]⟩
theorem res_wt {fs : List Fld} {l : List (List UInt8)} (name : List UInt8) (h : Val.wtf fs ≤ 1048576) : (refR fs l name).1.wt ≤ 1048577 := by
  unfold refR
  split
  · simp [zeroV, Val.wt, Val.wts, Val.wtf]
  · unfold fieldR
    split
    · rename_i f hf
      have := Val.wtf_le f (List.mem_of_find?_eq_some hf)
      show f.2.wt ≤ _; omega
    · simp [zeroV, Val.wt, Val.wts, Val.wtf]
theorem refP_len (pulls : List (List UInt8)) (name : List UInt8) : (refP pulls name).length ≤ pulls.length + 1 := by unfold refP; split <;> simp
theorem law3 (P : Program) (fs : List Fld) (ft : Tok) (l : List (List UInt8)) (lt : Tok) (ns : List (List UInt8)) (nt : Tok) (hw : Val.wtf fs ≤ 1048576) (hl : l.length ≤ 1048576) (hs : ∀ s ∈ l, s.length ≤ 1048576) (hns : ∀ s ∈ ns, s.length ≤ 1048576)
    (K : Kv) (hK : ∀ H, K.ap (.bool true) H) : @xF (tL P) f3 [.sl (Val.fvs fs) ft, .sl (strsAV l) lt, .sl (strsAV ns) nt] [] K := by
  have wfl := Val.wtf_len fs
  have zc : zeroV.cs = [.int .i64 0, .str [], .int .i64 0, .bool false, .sl [] .nil, .sl [] .nil] := rfl
  have hs' : ∀ s ∈ l, s.length ≤ 1099511627776 := fun s h => by have := hs s h; omega
  simp (implicitDefEqProofs := false) only [sB, simprocAttr, f3]
  refine .inr ⟨_, rfl, ?_⟩
  simp only [zc]
  simp (implicitDefEqProofs := false) only [sB, simprocAttr]
  refine i_new fun x hx => ?_
  simp (implicitDefEqProofs := false) only [sB, simprocAttr]
  refine .inr ⟨rfl, ?_⟩
  simp (implicitDefEqProofs := false) only [sB, simprocAttr]
  refine x_c8 (by omega) _ _ fun r r0 r1 => ?_
  have n1 : (Heap.keys ((x, .cells [.int .i64 0, .str [], .int .i64 0, .bool false, .sl [] .nil, .sl [] .nil]) :: [])).Nodup := List.nodup_cons.2 ⟨hx, List.nodup_nil⟩
  by_cases big : 0 < r
  · simp (implicitDefEqProofs := false) only [sB, simprocAttr, big]
    refine ⟨rfl, n1, ?_⟩
    simp (implicitDefEqProofs := false) only [sB, simprocAttr]
    exact hK _
  · by_cases big2 : (100 : Int) < ns.length
    · simp (implicitDefEqProofs := false) only [sB, simprocAttr, big, big2, strs_len]
      refine ⟨rfl, n1, ?_⟩
      simp (implicitDefEqProofs := false) only [sB, simprocAttr]
      exact hK _
    · simp (implicitDefEqProofs := false) only [sB, simprocAttr, big, big2, strs_len]
      refine ⟨fs, ft, l, lt, rfl, n1, hw, hl, hs', fun e => ?_, fun e a => ?_, fun e a p aa b hnp => ?_⟩
      · simp (implicitDefEqProofs := false) only [sB, simprocAttr]
        refine ⟨fs, ft, l, lt, rfl, n1, hw, hl, hs', fun _ => ?_, fun e' => absurd e' e, fun e' => absurd e' e⟩
        have e1 : ¬ chk (.mk 4 [] 0 false .nil [] ft fs) 1 = 0 := e
        simp (implicitDefEqProofs := false) only [sB, simprocAttr, e1]
        refine ⟨rfl, n1, ?_⟩
        simp (implicitDefEqProofs := false) only [sB, simprocAttr]
        exact hK _
      · simp (implicitDefEqProofs := false) only [sB, simprocAttr]
        refine ⟨fs, ft, l, lt, rfl, n1, hw, hl, hs', fun e' => absurd e e', fun _ _ => ?_, fun _ a' => absurd (a.symm.trans a') (by decide)⟩
        simp (implicitDefEqProofs := false) only [sB, simprocAttr]
        refine ⟨rfl, n1, ?_⟩
        simp (implicitDefEqProofs := false) only [sB, simprocAttr]
        exact hK _
      · simp (implicitDefEqProofs := false) only [sB, simprocAttr]
        refine ⟨fs, ft, l, lt, rfl, hnp, hw, hl, hs', fun e' => absurd e e', fun _ a' => absurd (a.symm.trans a') (by decide), fun _ _ m t1 t2 hnm => ?_⟩
        simp (implicitDefEqProofs := false) only [sB, simprocAttr, strs_len]
        generalize hR0 : ((x, AObj.cells [.int .i64 0, .str [], .int .i64 0, .bool false, .sl [] .nil, .sl [] .nil]) :: ([] : Heap)) = R0 at hnm hnp ⊢
        refine i_loopJ (fun σ H1 => ∃ (i : Nat) (D : RMap) (pulls : List (List UInt8)) (tk t3 : Tok), H1 = (m, .cells [.sl (Val.fvs fs) t1, .sl (strsAV l) t2, .sl (strsAV pulls) t3]) :: pH p aa b D (provM fs l) pulls tk R0 ∧ H1.keys.Nodup ∧ DOk fs l pulls D ∧ GT (strsAV pulls) tk ∧ pulls.length ≤ i ∧ i ≤ ns.length ∧
            σ = [(10, .ptr p 0), (12, .ptr m 0), (68, .sl (strsAV ns) nt), (69, .int .i64 ns.length), (70, .int .i64 i)])
          (fun σ _ => match σ.get 70 with | .int _ n => ns.length - n.toNat | _ => 0)
          (fun e σ H1 => (e = .exit 0 ∧ H1.keys.Nodup))
          ⟨_, .refl _, 0, [], [], .nil, .nil, rfl, hnm, dok_nil _ _, rfl, by decide, by omega, rfl⟩ ?_ ?_
        · rintro e σ H1 ⟨rfl, n5⟩
          simp (implicitDefEqProofs := false) only [sB, simprocAttr]
          refine ⟨rfl, n5, ?_⟩
          simp (implicitDefEqProofs := false) only [sB, simprocAttr]
          exact hK _
        · rintro Q hQ σ H1 ⟨i, D, pulls, tk, t3, rfl, n5, dk, g5, pl, hi, rfl⟩
          simp (implicitDefEqProofs := false) only [sB, simprocAttr]
          refine i_if (fun c => ?_) (fun c => ?_)
          · have c' : i < ns.length := by simpa using c
            have hx2 : ns[i]? = some ns[i] := List.getElem?_eq_getElem c'
            have r9 := w_i64 ((i : Int) + 1) (by omega) (by omega)
            have i0 : (0 : Int) ≤ (i : Int) := by omega
            have hsi := hns _ (List.getElem_mem c')
            have fnd := chkM_nodup e
            simp (implicitDefEqProofs := false) only [sB, simprocAttr, i0, strs_get, hx2, Option.map_some]
            generalize ns[i] = s at hsi ⊢
            have pm := (List.perm_middle (a := (m, .cells [.sl (Val.fvs fs) t1, .sl (strsAV l) t2, .sl (strsAV pulls) t3])) (l₁ := (p, .cells [.map aa, .map b, .sl (strsAV pulls) tk]) :: (b, .map (resM D)) :: (aa, .map (resM (provM fs l))) :: tokH tk) (l₂ := R0)).symm
            have n6 := nodup_perm pm n5
            have nmx := n5
            unfold pH at nmx
            simp only [Heap.keys, List.map_cons, List.nodup_cons, List.mem_cons, not_or] at nmx
            have nmp : ¬ m = p := nmx.1.1
            have nmb : ¬ m = b := nmx.1.2.1
            have nma : ¬ m = aa := nmx.1.2.2.1
            refine .inl ⟨p, aa, b, D, fs, l, pulls, tk, (m, .cells [.sl (Val.fvs fs) t1, .sl (strsAV l) t2, .sl (strsAV pulls) t3]) :: R0, s, rfl, Hle.of_perm pm, n6, g5, by omega, by omega, fnd, dk, fun nm => ?_, fun nm D' tk' d' g' n' => ?_⟩
            · simp only [zc]
              simp (implicitDefEqProofs := false) only [sB, simprocAttr]
              refine i_new fun v hv0 => ?_
              simp (implicitDefEqProofs := false) only [sB, simprocAttr]
              have nv := List.nodup_cons.2 ⟨hv0, n6⟩
              have pv := List.perm_middle (a := (m, .cells [.sl (Val.fvs fs) t1, .sl (strsAV l) t2, .sl (strsAV pulls) t3])) (l₁ := (v, .cells [.int .i64 0, .str [], .int .i64 0, .bool false, .sl [] .nil, .sl [] .nil]) :: (p, .cells [.map aa, .map b, .sl (strsAV pulls) tk]) :: (b, .map (resM D)) :: (aa, .map (resM (provM fs l))) :: tokH tk) (l₂ := R0)
              refine ⟨_, Hle.of_perm pv, m, fs, t1, l, t2, pulls, t3, _, s, rfl, rfl, nodup_perm pv nv, by omega, by omega, by omega, by omega, fun _ => ?_, fun nm' => absurd (nm.symm.trans nm') (by decide)⟩
              simp only [zc]
              simp only [List.cons_append, mH]
              simp (implicitDefEqProofs := false) only [sB, simprocAttr]
              refine i_new fun w hw0 => ?_
              have hvm : ¬ v = m := fun e => hv0 (by subst e; simp [pH, Heap.keys])
              have hwm : ¬ w = m := fun e => hw0 (by subst e; simp [Heap.keys])
              have hwv : ¬ w = v := fun e => hw0 (by subst e; simp [Heap.keys])
              have hmv : ¬ m = v := fun e => hvm e.symm
              have hmw : ¬ m = w := fun e => hwm e.symm
              have hvw : ¬ v = w := fun e => hwv e.symm
              simp (implicitDefEqProofs := false) only [sB, simprocAttr, hvm, hwm, hwv, hmv, hmw, hvw]
              have nn2 : (pH p aa b D (provM fs l) pulls tk ((m, .cells [.sl (Val.fvs fs) t1, .sl (strsAV l) t2, .sl (strsAV pulls) t3]) :: R0)).keys.Nodup := by
                have q := n6
                simp only [pH, Heap.keys, List.map_cons, List.map_append] at q ⊢
                exact q
              refine x_c13 (is := []) (fs := []) (by simp only [Val.wt, Val.wts, Val.wtf, List.length_nil]; omega) (by decide) _ _ ?_
              simp (implicitDefEqProofs := false) only [sB, simprocAttr, hvm, hwm, hwv, hmv, hmw, hvw]
              have pq := (List.perm_middle (a := (m, .cells [.sl (Val.fvs fs) t1, .sl (strsAV l) t2, .sl (strsAV pulls) t3])) (l₁ := (p, .cells [.map aa, .map b, .sl (strsAV pulls) tk]) :: (b, .map (resM D)) :: (aa, .map (resM (provM fs l))) :: tokH tk) (l₂ := R0)).symm
              refine .inl ⟨pH p aa b D (provM fs l) pulls tk ((m, .cells [.sl (Val.fvs fs) t1, .sl (strsAV l) t2, .sl (strsAV pulls) t3]) :: R0), (Hle.of_perm pq).trans (.of_sub (.cons _ (.cons_cons _ (.cons _ (.refl _))))), p, aa, b, D, provM fs l, pulls, tk, _, rfl, rfl, nn2, g5, by have := refP_len pulls s; omega, fun tt => ?_⟩
              have nX := nn2
              have nT := (List.nodup_cons.1 (List.nodup_cons.1 (List.nodup_cons.1 nX).2).2).2
              have lm : lookH m (tokH tk ++ ((m, .cells [.sl (Val.fvs fs) t1, .sl (strsAV l) t2, .sl (strsAV pulls) t3]) :: R0)) = some (.cells [.sl (Val.fvs fs) t1, .sl (strsAV l) t2, .sl (strsAV pulls) t3]) := look_head (List.perm_middle (l₁ := tokH tk)) nT
              unfold pH
              simp (implicitDefEqProofs := false) only [sB, simprocAttr, nmp, nmb, nma, lm]
              refine x_c14 (by have := refP_len pulls s; omega) _ _ ?_
              simp (implicitDefEqProofs := false) only [sB, simprocAttr, r9]
              have pr := List.perm_middle (a := (m, .cells [.sl (Val.fvs fs) t1, .sl (strsAV l) t2, .sl (strsAV pulls) t3])) (l₁ := (p, .cells [.map aa, .map b, .sl (strsAV pulls) tk]) :: (b, .map (resM D)) :: (aa, .map (resM (provM fs l))) :: tokH tk) (l₂ := R0)
              exact ⟨_, .of_perm pr, ⟨i + 1, D, pulls, tk, t3, rfl, nodup_perm pr nn2, dk, g5, by have := refP_len pulls s; omega, by omega, by simp⟩, by omega⟩
            · have rw5 := res_wt (fs := fs) (l := l) s hw
              generalize hr : refR fs l s = r at rw5 ⊢
              obtain ⟨⟨k', s', n2, b', it', is', ft', fs'⟩, e'⟩ := r
              have rw6 : (Val.mk k' s' n2 b' it' is' ft' fs').wt ≤ 1048577 := rw5
              simp only [Val.cs]
              simp (implicitDefEqProofs := false) only [sB, simprocAttr]
              refine i_new fun v hv0 => ?_
              simp (implicitDefEqProofs := false) only [sB, simprocAttr]
              have nv := List.nodup_cons.2 ⟨hv0, n'⟩
              have pv := List.perm_middle (a := (m, .cells [.sl (Val.fvs fs) t1, .sl (strsAV l) t2, .sl (strsAV pulls) t3])) (l₁ := (v, .cells [.int .i64 k', .str s', .int .i64 n2, .bool b', .sl (Val.avs is') it', .sl (Val.fvs fs') ft']) :: (p, .cells [.map aa, .map b, .sl (strsAV (refP pulls s)) tk']) :: (b, .map (resM D')) :: (aa, .map (resM (provM fs l))) :: tokH tk') (l₂ := R0)
              refine ⟨_, Hle.of_perm pv, m, fs, t1, l, t2, pulls, t3, _, s, rfl, rfl, nodup_perm pv nv, by omega, by omega, by omega, by omega, fun nm' => absurd (nm.symm.trans nm') (by decide), fun _ t3' => ?_⟩
              rw [hr]
              simp only [Val.cs]
              simp only [List.cons_append, mH]
              simp (implicitDefEqProofs := false) only [sB, simprocAttr]
              refine i_new fun w hw0 => ?_
              have hvm : ¬ v = m := fun e => hv0 (by subst e; simp [pH, Heap.keys])
              have hwm : ¬ w = m := fun e => hw0 (by subst e; simp [Heap.keys])
              have hwv : ¬ w = v := fun e => hw0 (by subst e; simp [Heap.keys])
              have hmv : ¬ m = v := fun e => hvm e.symm
              have hmw : ¬ m = w := fun e => hwm e.symm
              have hvw : ¬ v = w := fun e => hwv e.symm
              simp (implicitDefEqProofs := false) only [sB, simprocAttr, hvm, hwm, hwv, hmv, hmw, hvw]
              have nn2 : (pH p aa b D' (provM fs l) (refP pulls s) tk' ((m, .cells [.sl (Val.fvs fs) t1, .sl (strsAV l) t2, .sl (strsAV (refP pulls s)) t3']) :: R0)).keys.Nodup := by
                have q := n'
                simp only [pH, Heap.keys, List.map_cons, List.map_append] at q ⊢
                exact q
              refine x_c13 (by omega) (by decide) _ _ ?_
              simp (implicitDefEqProofs := false) only [sB, simprocAttr, hvm, hwm, hwv, hmv, hmw, hvw]
              have pq := (List.perm_middle (a := (m, .cells [.sl (Val.fvs fs) t1, .sl (strsAV l) t2, .sl (strsAV (refP pulls s)) t3'])) (l₁ := (p, .cells [.map aa, .map b, .sl (strsAV (refP pulls s)) tk']) :: (b, .map (resM D')) :: (aa, .map (resM (provM fs l))) :: tokH tk') (l₂ := R0)).symm
              refine .inl ⟨pH p aa b D' (provM fs l) (refP pulls s) tk' ((m, .cells [.sl (Val.fvs fs) t1, .sl (strsAV l) t2, .sl (strsAV (refP pulls s)) t3']) :: R0), (Hle.of_perm pq).trans (.of_sub (.cons _ (.cons_cons _ (.cons _ (.refl _))))), p, aa, b, D', provM fs l, (refP pulls s), tk', _, rfl, rfl, nn2, g', by have := refP_len pulls s; omega, fun tt => ?_⟩
              have nX := nn2
              have nT := (List.nodup_cons.1 (List.nodup_cons.1 (List.nodup_cons.1 nX).2).2).2
              have lm : lookH m (tokH tk' ++ ((m, .cells [.sl (Val.fvs fs) t1, .sl (strsAV l) t2, .sl (strsAV (refP pulls s)) t3']) :: R0)) = some (.cells [.sl (Val.fvs fs) t1, .sl (strsAV l) t2, .sl (strsAV (refP pulls s)) t3']) := look_head (List.perm_middle (l₁ := tokH tk')) nT
              unfold pH
              simp (implicitDefEqProofs := false) only [sB, simprocAttr, nmp, nmb, nma, lm]
              refine x_c14 (by have := refP_len pulls s; omega) _ _ ?_
              simp (implicitDefEqProofs := false) only [sB, simprocAttr, r9]
              have pr := List.perm_middle (a := (m, .cells [.sl (Val.fvs fs) t1, .sl (strsAV l) t2, .sl (strsAV (refP pulls s)) t3'])) (l₁ := (p, .cells [.map aa, .map b, .sl (strsAV (refP pulls s)) tk']) :: (b, .map (resM D')) :: (aa, .map (resM (provM fs l))) :: tokH tk') (l₂ := R0)
              exact ⟨_, .of_perm pr, ⟨i + 1, D', (refP pulls s), tk', t3', rfl, nodup_perm pr nn2, d', g', by have := refP_len pulls s; omega, by omega, by simp⟩, by omega⟩
          · simp (implicitDefEqProofs := false) only [sB, simprocAttr]
            exact hQ _ _ _ ⟨rfl, n5⟩
end Go.AL.Fun
