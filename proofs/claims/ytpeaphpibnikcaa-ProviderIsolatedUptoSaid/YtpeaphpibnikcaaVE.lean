/- The provider: law 4. -/
import Derived.Test.YtpeaphpibnikcaaVD
set_option linter.unusedSimpArgs false
set_option linter.unusedVariables false
set_option maxRecDepth 100000
set_option maxHeartbeats 4000000
namespace Go.AL.Fun
open Go Go.AL

/-- A literal of wide elements that may be written. -/
theorem i_bslm {t : Th} {sz n : Nat} {z : List AV} {pl : List (Nat × Nat)} {xs : List AV} {H : Heap} {K : Kv} (hs : sz ≠ 1) (cs : List AV) (h1 : fillL ((List.replicate n z).flatten) pl xs = some cs)
    (hK : ∀ id, id ∉ H.keys → K.ap (.msl id 0 n sz) ((id, .cells cs) :: H)) : xE (t := t) (.bslice sz n z pl) xs H (K := K) := by
  have : xE (t := t) (.bslice sz n z pl) xs H (K := K) = match fillL ((List.replicate n z).flatten) pl xs with
    | some cs => if sz = 1 then (if isU8 z && n != 0 then (∀ id, id ∉ H.keys → K.ap (.msl id 0 n 1) ((id, .cells cs) :: H))
          else (∀ id, id ∉ H.keys → K.ap (.msl id 0 n 1) ((id, .cells cs) :: H)) ∨ ((AllSz 1 cs ∧ cs.length = n ∧ flat cs = cs) ∧ ∀ id, id ∉ H.keys → K.ap (.sl cs (.at id n 1)) ((id, .spare n) :: H)))
        else (∀ id, id ∉ H.keys → K.ap (.msl id 0 n sz) ((id, .cells cs) :: H)) ∨
         (∃ ys, AllSz sz ys ∧ ys.length = n ∧ flat ys = cs ∧ ∀ id, id ∉ H.keys → K.ap (.sl ys (.at id (n * sz) sz)) ((id, .spare (n * sz)) :: H))
    | none => False := by cases xs <;> rfl
  rw [this, h1]
  simp only [if_neg hs]
  exact .inl hK
theorem chkM_tok (fs : List Fld) (t u : Tok) : chkM fs t = chkM fs u := by unfold chkM; rw [chk, chk]
theorem chkF_names : ∀ (l : List Fld) (seen : List (List UInt8)) (d : Int), chkF seen l d = 0 → ∀ f ∈ l, nameB f.1 = true
  | [], _, _, _, f, hf => by cases hf
  | g :: l, seen, d, h, f, hf => by
    rw [chkF] at h
    by_cases c1 : nameB g.1 = false
    · rw [if_pos c1] at h; cases h
    rw [if_neg c1] at h
    by_cases c2 : g.1 ∈ seen
    · rw [if_pos c2] at h; cases h
    rw [if_neg c2] at h
    by_cases c3 : chk1 g d ≠ 0
    · rw [if_pos c3] at h; exact absurd h c3
    rw [if_neg c3] at h
    rcases List.mem_cons.1 hf with rfl | hf
    · simpa using c1
    · exact chkF_names l _ d h f hf
theorem chkM_names {fs : List Fld} {t : Tok} (h : chkM fs t = 0) : ∀ f ∈ fs, nameB f.1 = true := by
  unfold chkM at h
  rw [chk] at h
  simp only [ownV, chkI] at h
  refine chkF_names fs [] 2 ?_
  simpa using h
theorem law4 (P : Program) (fs : List Fld) (ft : Tok) (l : List (List UInt8)) (lt : Tok) (hw : Val.wtf fs ≤ 1048576) (hl : l.length ≤ 1048576) (hs : ∀ s ∈ l, s.length ≤ 1048576)
    (K : Kv) (hK : ∀ H, K.ap (.bool true) H) : @xF (tI P) f4 [.sl (Val.fvs fs) ft, .sl (strsAV l) lt] [] K := by
  have wfl := Val.wtf_len fs
  have zc : zeroV.cs = [.int .i64 0, .str [], .int .i64 0, .bool false, .sl [] .nil, .sl [] .nil] := rfl
  have hs' : ∀ s ∈ l, s.length ≤ 1099511627776 := fun s h => by have := hs s h; omega
  have n0 : (Heap.keys []).Nodup := List.nodup_nil
  simp (implicitDefEqProofs := false) only [sB, simprocAttr, f4]
  refine x_c8 (by omega) _ _ fun r r0 r1 => ?_
  by_cases big : 0 < r
  · simp (implicitDefEqProofs := false) only [sB, simprocAttr, big]
    refine ⟨rfl, n0, ?_⟩
    simp (implicitDefEqProofs := false) only [sB, simprocAttr]
    exact hK _
  simp (implicitDefEqProofs := false) only [sB, simprocAttr, big]
  refine i_bslm (by decide) [] rfl fun u0 hu0 => ?_
  have fl7 : AllSz 7 (Val.fvs fs) := flds_all fs
  simp (implicitDefEqProofs := false) only [sB, simprocAttr, x_appm, fl7, Val.fvs_len]
  refine ⟨⟨by omega, by omega⟩, i_otherM fun u hu => ?_⟩
  simp (implicitDefEqProofs := false) only [sB, simprocAttr]
  refine i_msl (i_new fun v0 hv0 => ?_)
  simp (implicitDefEqProofs := false) only [sB, simprocAttr, x_appm, strs_all l, strs_len]
  have hvu0 : ¬ v0 = u := by simpa [Heap.keys] using hv0
  refine ⟨⟨by omega, by omega⟩, hvu0, i_otherM fun v hv => ?_⟩
  have hvu : ¬ v = u := by simpa using hv
  have huv : ¬ u = v := fun e => hvu e.symm
  simp (implicitDefEqProofs := false) only [sB, simprocAttr, strs_flat]
  have n2 : (Heap.keys [(v, AObj.cells (strsAV l)), (u, .cells (flat (Val.fvs fs)))]).Nodup := by simp [Heap.keys, hvu]
  have hlu : lookH u [(v, AObj.cells (strsAV l)), (u, .cells (flat (Val.fvs fs)))] = some (.cells (flat (Val.fvs fs))) := by simp [lookH, huv]
  have hlv : lookH v [(v, AObj.cells (strsAV l)), (u, .cells (flat (Val.fvs fs)))] = some (.cells (strsAV l)) := by simp [lookH]
  have ek := chkM_tok fs .no ft
  refine ⟨u, v, fs, l, by rw [Val.fvs_len, strs_len], n2, hw, hl, hs', hlu, hlv, fun e => ?_, fun e a => ?_, fun e a p aa b hnp => ?_⟩
  · rw [ek] at e ⊢
    simp (implicitDefEqProofs := false) only [sB, simprocAttr]
    refine ⟨fs, ft, l, lt, rfl, n2, hw, hl, hs', fun _ => ?_, fun e' => absurd e' e, fun e' => absurd e' e⟩
    have e1 : ¬ chk (.mk 4 [] 0 false .nil [] ft fs) 1 = 0 := e
    simp (implicitDefEqProofs := false) only [sB, simprocAttr, e1]
    refine ⟨rfl, n2, ?_⟩
    simp (implicitDefEqProofs := false) only [sB, simprocAttr]
    exact hK _
  · rw [ek] at e
    simp (implicitDefEqProofs := false) only [sB, simprocAttr]
    refine ⟨fs, ft, l, lt, rfl, n2, hw, hl, hs', fun e' => absurd e e', fun _ _ => ?_, fun _ a' => absurd (a.symm.trans a') (by decide)⟩
    simp (implicitDefEqProofs := false) only [sB, simprocAttr]
    refine ⟨rfl, n2, ?_⟩
    simp (implicitDefEqProofs := false) only [sB, simprocAttr]
    exact hK _
  · rw [ek] at e
    simp (implicitDefEqProofs := false) only [sB, simprocAttr]
    refine ⟨fs, ft, l, lt, rfl, hnp, hw, hl, hs', fun e' => absurd e e', fun _ a' => absurd (a.symm.trans a') (by decide), fun _ _ m t1 t2 hnm => ?_⟩
    simp (implicitDefEqProofs := false) only [sB, simprocAttr, strs_len, Val.fvs_len]
    have nmx := hnm
    simp only [mH, pH, tokH, List.nil_append, Heap.keys, List.map_cons, List.map_nil, List.nodup_cons, List.mem_cons, List.not_mem_nil, not_or, or_false] at nmx
    obtain ⟨⟨nmp, nmb, nma, nmv, nmu⟩, ⟨npb, npa, npv, npu⟩, ⟨nba, nbv, nbu⟩, ⟨nav, nau⟩, _⟩ := nmx
    have num : ¬ u = m := fun e => nmu e.symm
    have nup : ¬ u = p := fun e => npu e.symm
    have nub : ¬ u = b := fun e => nbu e.symm
    have nua : ¬ u = aa := fun e => nau e.symm
    have nvm : ¬ v = m := fun e => nmv e.symm
    have nvp : ¬ v = p := fun e => npv e.symm
    have nvb : ¬ v = b := fun e => nbv e.symm
    have nva : ¬ v = aa := fun e => nav e.symm
    have ffl : (flat (Val.fvs fs)).length = fs.length * 7 := by rw [flat_len (flds_all fs), Val.fvs_len]
    refine i_loopJ (fun σ H1 => ∃ (i : Nat) (vs : List AV), vs.length = fs.length * 7 ∧ i ≤ fs.length ∧ H1 = (m, .cells [.sl (Val.fvs fs) t1, .sl (strsAV l) t2, .sl [] .nil]) :: (p, .cells [.map aa, .map b, .sl [] .nil]) :: (b, .map []) :: (aa, .map (resM (provM fs l))) :: (v, .cells (strsAV l)) :: (u, .cells vs) :: [] ∧
        σ = [(0, .sl (Val.fvs fs) ft), (5, .msl u 0 fs.length 7), (6, .msl v 0 l.length 1), (7, .ptr p 0), (9, .ptr m 0), (62, .int .i64 fs.length), (63, .int .i64 i)])
      (fun σ _ => match σ.get 63 with | .int _ n => fs.length - n.toNat | _ => 0)
      (fun e σ H1 => e = .exit 0 ∧ ∃ vs, H1 = (m, .cells [.sl (Val.fvs fs) t1, .sl (strsAV l) t2, .sl [] .nil]) :: (p, .cells [.map aa, .map b, .sl [] .nil]) :: (b, .map []) :: (aa, .map (resM (provM fs l))) :: (v, .cells (strsAV l)) :: (u, .cells vs) :: [] ∧
        σ.get 0 = .sl (Val.fvs fs) ft ∧ σ.get 6 = .msl v 0 l.length 1 ∧ σ.get 7 = .ptr p 0 ∧ σ.get 9 = .ptr m 0)
      ⟨_, .refl _, 0, flat (Val.fvs fs), ffl, by omega, rfl, rfl⟩ ?_ ?_
    · rintro ex σ H1 ⟨rfl, vs, rfl, q0, q6, q7, q9⟩
      simp (implicitDefEqProofs := false) only [sB, simprocAttr, q0, q6, q7, q9]
      refine i_loopJ (fun σ H1 => ∃ (i : Nat) (ws : List AV), ws.length = l.length ∧ i ≤ l.length ∧ H1 = (m, .cells [.sl (Val.fvs fs) t1, .sl (strsAV l) t2, .sl [] .nil]) :: (p, .cells [.map aa, .map b, .sl [] .nil]) :: (b, .map []) :: (aa, .map (resM (provM fs l))) :: (v, .cells ws) :: (u, .cells vs) :: [] ∧
          σ = [(0, .sl (Val.fvs fs) ft), (6, .msl v 0 l.length 1), (7, .ptr p 0), (9, .ptr m 0), (72, .int .i64 l.length), (73, .int .i64 i)])
        (fun σ _ => match σ.get 73 with | .int _ n => l.length - n.toNat | _ => 0)
        (fun e σ H1 => e = .exit 2 ∧ ∃ R, H1 = (m, .cells [.sl (Val.fvs fs) t1, .sl (strsAV l) t2, .sl [] .nil]) :: (p, .cells [.map aa, .map b, .sl [] .nil]) :: (b, .map []) :: (aa, .map (resM (provM fs l))) :: R ∧ H1.keys.Nodup ∧
          σ.get 0 = .sl (Val.fvs fs) ft ∧ σ.get 7 = .ptr p 0 ∧ σ.get 9 = .ptr m 0)
        ⟨_, .refl _, 0, strsAV l, strs_len l, by omega, rfl, rfl⟩ ?_ ?_
      · rintro ex σ H1 ⟨rfl, R0, rfl, nR, q0, q7, q9⟩
        simp (implicitDefEqProofs := false) only [sB, simprocAttr, q0, q7, q9, Val.fvs_len]
        refine i_loopJ (fun σ H1 => ∃ (i : Nat) (D : RMap) (pulls : List (List UInt8)) (tk t3 : Tok), H1 = (m, .cells [.sl (Val.fvs fs) t1, .sl (strsAV l) t2, .sl (strsAV pulls) t3]) :: pH p aa b D (provM fs l) pulls tk R0 ∧ H1.keys.Nodup ∧ DOk fs l pulls D ∧ GT (strsAV pulls) tk ∧ pulls.length ≤ i ∧ i ≤ fs.length ∧
            σ = [(7, .ptr p 0), (9, .ptr m 0), (80, .sl (Val.fvs fs) ft), (81, .int .i64 fs.length), (82, .int .i64 i)])
          (fun σ _ => match σ.get 82 with | .int _ n => fs.length - n.toNat | _ => 0)
          (fun e σ H1 => (e = .exit 4 ∧ H1.keys.Nodup))
          ⟨_, .refl _, 0, [], [], .nil, .nil, rfl, nR, dok_nil _ _, rfl, by decide, by omega, rfl⟩ ?_ ?_
        · rintro e σ H1 ⟨rfl, n5⟩
          simp (implicitDefEqProofs := false) only [sB, simprocAttr]
          refine ⟨rfl, n5, ?_⟩
          simp (implicitDefEqProofs := false) only [sB, simprocAttr]
          exact hK _
        · rintro Q hQ σ H1 ⟨i, D, pulls, tk, t3, rfl, n5, dk, g5, pl, hi, rfl⟩
          by_cases c : i < fs.length
          · have c' : (i : Int) < (fs.length : Int) := by omega
            have hx : (Val.fvs fs)[i]? = some (.agg (.str (fs[i]).1 :: (fs[i]).2.cs)) := by rw [Val.fvs_map, List.getElem?_map, List.getElem?_eq_getElem c]; rfl
            have r9 := w_i64 ((i : Int) + 1) (by omega) (by omega)
            have i0 : (0 : Int) ≤ (i : Int) := by omega
            have fnd := chkM_nodup e
            have hsn := chkM_names e _ (List.getElem_mem c)
            have hsl : (fs[i]).1.length ≤ 1048576 := by
              have := Val.wtf_le _ (List.getElem_mem c)
              omega
            generalize fs[i] = fv at hx hsn hsl
            obtain ⟨s, kv, sv, nv9, bv, itv, isv, ftv, fsv⟩ := fv
            have hsl : s.length ≤ 1048576 := hsl
            simp only [Val.cs] at hx
            simp (implicitDefEqProofs := false) only [sB, simprocAttr, c', i0, hx]
            refine i_new fun q hq => ?_
            simp (implicitDefEqProofs := false) only [sB, simprocAttr]
            have nq := List.nodup_cons.2 ⟨hq, n5⟩
            have nmx := n5
            unfold pH at nmx
            simp only [Heap.keys, List.map_cons, List.nodup_cons, List.mem_cons, not_or] at nmx
            have nmp : ¬ m = p := nmx.1.1
            have nmb : ¬ m = b := nmx.1.2.1
            have nma : ¬ m = aa := nmx.1.2.2.1
            clear nmx
            obtain ⟨R1, hR1⟩ : ∃ R1, R1 = (q, AObj.cells [.str s, .int .i64 kv, .str sv, .int .i64 nv9, .bool bv, .sl (Val.avs isv) itv, .sl (Val.fvs fsv) ftv]) :: R0 := ⟨_, rfl⟩
            have pm : ((q, AObj.cells [.str s, .int .i64 kv, .str sv, .int .i64 nv9, .bool bv, .sl (Val.avs isv) itv, .sl (Val.fvs fsv) ftv]) :: (m, AObj.cells [.sl (Val.fvs fs) t1, .sl (strsAV l) t2, .sl (strsAV pulls) t3]) :: pH p aa b D (provM fs l) pulls tk R0).Perm
                (pH p aa b D (provM fs l) pulls tk ((m, AObj.cells [.sl (Val.fvs fs) t1, .sl (strsAV l) t2, .sl (strsAV pulls) t3]) :: R1)) := by
              have p1 := (List.perm_middle (a := (q, AObj.cells [.str s, .int .i64 kv, .str sv, .int .i64 nv9, .bool bv, .sl (Val.avs isv) itv, .sl (Val.fvs fsv) ftv])) (l₁ := (p, .cells [.map aa, .map b, .sl (strsAV pulls) tk]) :: (b, .map (resM D)) :: (aa, .map (resM (provM fs l))) :: tokH tk) (l₂ := R0)).symm
              have p2 := (List.perm_middle (a := (m, AObj.cells [.sl (Val.fvs fs) t1, .sl (strsAV l) t2, .sl (strsAV pulls) t3])) (l₁ := (p, .cells [.map aa, .map b, .sl (strsAV pulls) tk]) :: (b, .map (resM D)) :: (aa, .map (resM (provM fs l))) :: tokH tk) (l₂ := R1)).symm
              rw [← hR1] at p1
              exact (List.Perm.swap _ _ _).trans ((List.Perm.cons _ p1).trans p2)
            have n6 := nodup_perm pm nq
            refine .inl ⟨p, aa, b, D, fs, l, pulls, tk, (m, .cells [.sl (Val.fvs fs) t1, .sl (strsAV l) t2, .sl (strsAV pulls) t3]) :: R1, s, rfl, Hle.of_perm pm, n6, g5, by omega, by omega, fnd, dk, fun nm => absurd (nm.symm.trans hsn) (by decide), fun nm D' tk' d' g' n' => ?_⟩
            have rw5 := res_wt (fs := fs) (l := l) s hw
            generalize hr : refR fs l s = r at rw5 ⊢
            obtain ⟨⟨k', s', n2', b', it', is', ft', fs'⟩, e'⟩ := r
            have rw6 : (Val.mk k' s' n2' b' it' is' ft' fs').wt ≤ 1048577 := rw5
            simp only [Val.cs]
            simp (implicitDefEqProofs := false) only [sB, simprocAttr]
            refine i_new fun v' hv0 => ?_
            have hqv : ¬ q = v' := fun e => hv0 (by subst e; rw [hR1]; simp [pH, Heap.keys])
            have lq : lookH q (pH p aa b D' (provM fs l) (refP pulls s) tk' ((m, .cells [.sl (Val.fvs fs) t1, .sl (strsAV l) t2, .sl (strsAV pulls) t3]) :: R1)) = some (.cells [.str s, .int .i64 kv, .str sv, .int .i64 nv9, .bool bv, .sl (Val.avs isv) itv, .sl (Val.fvs fsv) ftv]) := by
              refine look_head (X := pH p aa b D' (provM fs l) (refP pulls s) tk' ((m, .cells [.sl (Val.fvs fs) t1, .sl (strsAV l) t2, .sl (strsAV pulls) t3]) :: R0)) ?_ n'
              rw [hR1]
              exact ((List.Perm.swap _ _ _).append_left ((p, AObj.cells [.map aa, .map b, .sl (strsAV (refP pulls s)) tk']) :: (b, .map (resM D')) :: (aa, .map (resM (provM fs l))) :: tokH tk')).trans List.perm_middle
            simp (implicitDefEqProofs := false) only [sB, simprocAttr, hqv, lq]
            have nv := List.nodup_cons.2 ⟨hv0, n'⟩
            have pv := List.perm_middle (a := (m, .cells [.sl (Val.fvs fs) t1, .sl (strsAV l) t2, .sl (strsAV pulls) t3])) (l₁ := (v', .cells [.int .i64 k', .str s', .int .i64 n2', .bool b', .sl (Val.avs is') it', .sl (Val.fvs fs') ft']) :: (p, .cells [.map aa, .map b, .sl (strsAV (refP pulls s)) tk']) :: (b, .map (resM D')) :: (aa, .map (resM (provM fs l))) :: tokH tk') (l₂ := R1)
            refine ⟨_, Hle.of_perm pv, m, fs, t1, l, t2, pulls, t3, _, s, rfl, rfl, nodup_perm pv nv, by omega, by omega, by omega, by omega, fun nm' => absurd (nm.symm.trans nm') (by decide), fun _ t3' => ?_⟩
            rw [hr]
            simp only [Val.cs]
            simp only [List.cons_append, mH]
            simp (implicitDefEqProofs := false) only [sB, simprocAttr]
            refine i_new fun w hw0 => ?_
            have hvm : ¬ v' = m := fun e => hv0 (by subst e; simp [pH, Heap.keys])
            have hwm : ¬ w = m := fun e => hw0 (by subst e; simp [Heap.keys])
            have hwv : ¬ w = v' := fun e => hw0 (by subst e; simp [Heap.keys])
            have hmv : ¬ m = v' := fun e => hvm e.symm
            have hmw : ¬ m = w := fun e => hwm e.symm
            have hvw : ¬ v' = w := fun e => hwv e.symm
            simp (implicitDefEqProofs := false) only [sB, simprocAttr, hvm, hwm, hwv, hmv, hmw, hvw]
            have hvp : ¬ v' = p := fun e => hv0 (by subst e; simp [pH, Heap.keys])
            have hwp : ¬ w = p := fun e => hw0 (by subst e; simp [pH, Heap.keys])
            have hpm : ¬ p = m := fun e => nmp e.symm
            have hpv : ¬ p = v' := fun e => hvp e.symm
            have hpw : ¬ p = w := fun e => hwp e.symm
            have srp : s ∈ refP pulls s := by unfold refP; split <;> simp_all
            have tkn : tk' ≠ .nil := fun e => by
              subst e
              have : strsAV (refP pulls s) = [] := g'
              have := congrArg List.length this
              rw [strs_len] at this
              rw [List.length_eq_zero_iff.1 this] at srp
              cases srp
            have nw := List.nodup_cons.2 ⟨hw0, by
              have q := nodup_perm pv (show Heap.keys ((v', .cells [.int .i64 k', .str s', .int .i64 n2', .bool b', .sl (Val.avs is') it', .sl (Val.fvs fs') ft']) :: (p, .cells [.map aa, .map b, .sl (strsAV (refP pulls s)) tk']) :: (b, .map (resM D')) :: (aa, .map (resM (provM fs l))) :: tokH tk' ++ (m, AObj.cells [.sl (Val.fvs fs) t1, .sl (strsAV l) t2, .sl (strsAV pulls) t3]) :: R1) |>.Nodup from nv)
              simp only [Heap.keys, List.map_cons, List.map_append, List.cons_append] at q ⊢
              exact q⟩
            have rpl := refP_len pulls s
            generalize hL : refP pulls s = L at *
            refine .inr ⟨p, .map aa, .map b, L, tk', rfl, by simp [lookH, hpm, hpv, hpw], tkn, by omega, ?_, fun id hid => ?_⟩
            · exact nw
            simp (implicitDefEqProofs := false) only [sB, simprocAttr, strs_len]
            have hiw : ¬ w = id := fun e => hid (by subst e; simp [Heap.keys])
            have hiv : ¬ v' = id := fun e => hid (by subst e; simp [Heap.keys])
            have him : ¬ m = id := fun e => hid (by subst e; simp [Heap.keys])
            refine i_loopJ (fun σ H1 => ∃ (j : Nat) (ws : List AV), ws.length = L.length ∧ j ≤ L.length ∧ H1 = (id, .cells ws) :: (w, .cells [.int .i64 k', .str s', .int .i64 n2', .bool b', .sl (Val.avs is') it', .sl (Val.fvs fs') ft']) :: (m, .cells [.sl (Val.fvs fs) t1, .sl (strsAV l) t2, .sl (strsAV L) t3']) :: (v', .cells [.int .i64 k', .str s', .int .i64 n2', .bool b', .sl (Val.avs is') it', .sl (Val.fvs fs') ft']) :: (p, .cells [.map aa, .map b, .sl (strsAV L) tk']) :: (b, .map (resM D')) :: (aa, .map (resM (provM fs l))) :: (tokH tk' ++ R1) ∧
                σ = [(7, .ptr p 0), (9, .ptr m 0), (15, .ptr v' 0), (16, .int .i64 e'), (17, .ptr w 0), (18, .int .i64 e'), (19, .msl id 0 L.length 1), (80, .sl (Val.fvs fs) ft), (81, .int .i64 fs.length), (82, .int .i64 i), (103, .int .i64 L.length), (104, .int .i64 j)])
              (fun σ _ => match σ.get 104 with | .int _ n => L.length - n.toNat | _ => 0)
              (fun e σ H1 => e = .exit 6 ∧ ∃ ws, H1 = (id, .cells ws) :: (w, .cells [.int .i64 k', .str s', .int .i64 n2', .bool b', .sl (Val.avs is') it', .sl (Val.fvs fs') ft']) :: (m, .cells [.sl (Val.fvs fs) t1, .sl (strsAV l) t2, .sl (strsAV L) t3']) :: (v', .cells [.int .i64 k', .str s', .int .i64 n2', .bool b', .sl (Val.avs is') it', .sl (Val.fvs fs') ft']) :: (p, .cells [.map aa, .map b, .sl (strsAV L) tk']) :: (b, .map (resM D')) :: (aa, .map (resM (provM fs l))) :: (tokH tk' ++ R1) ∧ ∃ y, σ = [(7, .ptr p 0), (9, .ptr m 0), (15, .ptr v' 0), (16, .int .i64 e'), (17, .ptr w 0), (18, .int .i64 e'), (19, y), (80, .sl (Val.fvs fs) ft), (81, .int .i64 fs.length), (82, .int .i64 i), (103, .int .i64 L.length), (104, .int .i64 L.length), (105, .bool false)])
              ⟨_, .refl _, 0, strsAV L, strs_len L, by omega, rfl, rfl⟩ ?_ ?_
            · rintro ex σ H1 ⟨rfl, ws, rfl, y, rfl⟩
              simp (implicitDefEqProofs := false) only [sB, simprocAttr, hvm, hwm, hwv, hmv, hmw, hvw, hiv, hiw, him]
              refine x_c13 (by omega) (by decide) _ _ ?_
              simp (implicitDefEqProofs := false) only [sB, simprocAttr, hvm, hwm, hwv, hmv, hmw, hvw, hiv, hiw, him]
              have nn2 : (pH p aa b D' (provM fs l) L tk' ((m, .cells [.sl (Val.fvs fs) t1, .sl (strsAV l) t2, .sl (strsAV L) t3']) :: R1)).keys.Nodup := by
                have q := n'
                simp only [pH, Heap.keys, List.map_cons, List.map_append] at q ⊢
                exact q
              have pq := (List.perm_middle (a := (m, .cells [.sl (Val.fvs fs) t1, .sl (strsAV l) t2, .sl (strsAV L) t3'])) (l₁ := (p, .cells [.map aa, .map b, .sl (strsAV L) tk']) :: (b, .map (resM D')) :: (aa, .map (resM (provM fs l))) :: tokH tk') (l₂ := R1)).symm
              refine .inl (.inl ⟨pH p aa b D' (provM fs l) L tk' ((m, .cells [.sl (Val.fvs fs) t1, .sl (strsAV l) t2, .sl (strsAV L) t3']) :: R1), (Hle.of_perm pq).trans (.of_sub (.cons _ (.cons _ (.cons_cons _ (.cons _ (.refl _)))))), p, aa, b, D', provM fs l, L, tk', _, rfl, rfl, nn2, g', by omega, fun tt => ?_⟩)
              have nX := nn2
              have nT := (List.nodup_cons.1 (List.nodup_cons.1 (List.nodup_cons.1 nX).2).2).2
              have lm : lookH m (tokH tk' ++ ((m, .cells [.sl (Val.fvs fs) t1, .sl (strsAV l) t2, .sl (strsAV L) t3']) :: R1)) = some (.cells [.sl (Val.fvs fs) t1, .sl (strsAV l) t2, .sl (strsAV L) t3']) := look_head (List.perm_middle (l₁ := tokH tk')) nT
              unfold pH
              simp (implicitDefEqProofs := false) only [sB, simprocAttr, nmp, nmb, nma, lm]
              refine x_c14 (by omega) _ _ ?_
              simp (implicitDefEqProofs := false) only [sB, simprocAttr, r9]
              have pr := List.perm_middle (a := (m, .cells [.sl (Val.fvs fs) t1, .sl (strsAV l) t2, .sl (strsAV L) t3'])) (l₁ := (p, .cells [.map aa, .map b, .sl (strsAV L) tk']) :: (b, .map (resM D')) :: (aa, .map (resM (provM fs l))) :: tokH tk') (l₂ := R1)
              have sb : ((m, AObj.cells [.sl (Val.fvs fs) t1, .sl (strsAV l) t2, .sl (strsAV L) t3']) :: pH p aa b D' (provM fs l) L tk' R0).Sublist ((m, AObj.cells [.sl (Val.fvs fs) t1, .sl (strsAV l) t2, .sl (strsAV L) t3']) :: pH p aa b D' (provM fs l) L tk' R1) := by
                rw [hR1]
                unfold pH
                exact .cons_cons _ (.cons_cons _ (.cons_cons _ (.cons_cons _ ((List.Sublist.refl _).append (.cons _ (.refl _))))))
              exact ⟨_, hle_sub pr sb, ⟨i + 1, D', L, tk', t3', rfl, (nodup_perm pr nn2).sublist (sb.map _), d', g', by omega, by omega, by simp⟩, by omega⟩
            · rintro Q hQ σ H1 ⟨j, ws, hws, hj, rfl, rfl⟩
              by_cases c2 : j < L.length
              · have c' : (j : Int) < (L.length : Int) := by omega
                have j0 : (0 : Int) ≤ (j : Int) := by omega
                have r8 := w_i64 ((j : Int) + 1) (by omega) (by omega)
                simp (implicitDefEqProofs := false) only [sB, simprocAttr, c', j0, r8]
                refine ⟨by omega, _, .refl _, ⟨j + 1, _, ?_, by omega, rfl, by simp⟩, by omega⟩
                simp only [List.length_append, List.length_cons, List.length_take, List.length_drop]
                omega
              · have c' : ¬ (j : Int) < (L.length : Int) := by omega
                have ej : (j : Int) = (L.length : Int) := by omega
                simp (implicitDefEqProofs := false) only [sB, simprocAttr, c']
                rw [ej]
                exact hQ _ _ _ ⟨rfl, ws, rfl, _, rfl⟩
          · have c' : ¬ (i : Int) < (fs.length : Int) := by omega
            simp (implicitDefEqProofs := false) only [sB, simprocAttr, c']
            exact hQ _ _ _ ⟨rfl, n5⟩
      · rintro Q hQ σ H1 ⟨i, ws, hws, hi, rfl, rfl⟩
        by_cases c : i < l.length
        · have c' : (i : Int) < (l.length : Int) := by omega
          have i0 : (0 : Int) ≤ (i : Int) := by omega
          have r9 := w_i64 ((i : Int) + 1) (by omega) (by omega)
          simp (implicitDefEqProofs := false) only [sB, simprocAttr, c', i0, nvm, nvp, nvb, nva, hvu, r9]
          refine ⟨by omega, _, .refl _, ⟨i + 1, _, ?_, by omega, rfl, by simp⟩, by omega⟩
          simp only [List.length_append, List.length_cons, List.length_take, List.length_drop]
          omega
        · have c' : ¬ (i : Int) < (l.length : Int) := by omega
          simp (implicitDefEqProofs := false) only [sB, simprocAttr, c']
          exact hQ _ _ _ ⟨rfl, _, rfl, by simp [Heap.keys, nmp, nmb, nma, nmv, nmu, npb, npa, npv, npu, nba, nbv, nbu, nav, nau, hvu], rfl, rfl, rfl⟩
    · rintro Q hQ σ H1 ⟨i, vs, hvs, hi, rfl, rfl⟩
      by_cases c : i < fs.length
      · have c' : (i : Int) < (fs.length : Int) := by omega
        have i0 : (0 : Int) ≤ (i : Int) := by omega
        have r9 := w_i64 ((i : Int) + 1) (by omega) (by omega)
        simp (implicitDefEqProofs := false) only [sB, simprocAttr, c', i0, num, nup, nub, nua, huv, r9]
        refine ⟨by omega, _, .refl _, ⟨i + 1, _, ?_, by omega, rfl, by simp⟩, by omega⟩
        simp only [List.length_append, List.length_cons, List.length_take, List.length_drop]
        omega
      · have c' : ¬ (i : Int) < (fs.length : Int) := by omega
        simp (implicitDefEqProofs := false) only [sB, simprocAttr, c']
        exact hQ _ _ _ ⟨rfl, vs, rfl, rfl, rfl, rfl, rfl⟩
end Go.AL.Fun
