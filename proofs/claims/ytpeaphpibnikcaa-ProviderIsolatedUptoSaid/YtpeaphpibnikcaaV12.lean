/- The providers made. -/
import Derived.Test.YtpeaphpibnikcaaV11
set_option linter.unusedSimpArgs false
set_option linter.unusedVariables false
set_option maxRecDepth 100000
set_option maxHeartbeats 2000000
namespace Go.AL.Fun
open Go Go.AL

/-- A literal of wide elements that never turns. -/
theorem i_bsl {t : Th} {sz n : Nat} {z : List AV} {pl : List (Nat × Nat)} {xs : List AV} {H : Heap} {K : Kv} (hs : sz ≠ 1) (ys : List AV) (h1 : fillL ((List.replicate n z).flatten) pl xs = some (flat ys)) (h2 : AllSz sz ys) (h3 : ys.length = n)
    (hK : ∀ id, id ∉ H.keys → K.ap (.sl ys (.at id (n * sz) sz)) ((id, .spare (n * sz)) :: H)) : xE (t := t) (.bslice sz n z pl) xs H (K := K) := by
  have : xE (t := t) (.bslice sz n z pl) xs H (K := K) = match fillL ((List.replicate n z).flatten) pl xs with
    | some cs => if sz = 1 then (if isU8 z && n != 0 then (∀ id, id ∉ H.keys → K.ap (.msl id 0 n 1) ((id, .cells cs) :: H))
          else (∀ id, id ∉ H.keys → K.ap (.msl id 0 n 1) ((id, .cells cs) :: H)) ∨ ((AllSz 1 cs ∧ cs.length = n ∧ flat cs = cs) ∧ ∀ id, id ∉ H.keys → K.ap (.sl cs (.at id n 1)) ((id, .spare n) :: H)))
        else (∀ id, id ∉ H.keys → K.ap (.msl id 0 n sz) ((id, .cells cs) :: H)) ∨
         (∃ ys, AllSz sz ys ∧ ys.length = n ∧ flat ys = cs ∧ ∀ id, id ∉ H.keys → K.ap (.sl ys (.at id (n * sz) sz)) ((id, .spare (n * sz)) :: H))
    | none => False := by cases xs <;> rfl
  rw [this, h1]
  simp only [if_neg hs]
  exact .inr ⟨ys, h2, h3, rfl, hK⟩
theorem flds_all (fs : List Fld) : AllSz 7 (Val.fvs fs) := by
  rw [Val.fvs_map]
  intro x hx; obtain ⟨f, _, rfl⟩ := List.mem_map.1 hx
  simp [Val.fav, AV.cells]
abbrev chkM (fs : List Fld) (ft : Tok) : Int := chk (.mk 4 [] 0 false .nil [] ft fs) 1
def c11 (xs : List AV) (H : Heap) (K : Kv) : Prop := ∃ (fs : List Fld) (ft : Tok) (l : List (List UInt8)) (t : Tok), xs = [.sl (Val.fvs fs) ft, .sl (strsAV l) t] ∧ H.keys.Nodup ∧ Val.wtf fs ≤ 1048576 ∧ l.length ≤ 1048576 ∧ (∀ s ∈ l, s.length ≤ 1099511627776) ∧
  (chkM fs ft ≠ 0 → K.ap (.tup [.nilp, .int .i64 (chkM fs ft)]) H) ∧ (chkM fs ft = 0 → l.all nameB = false → K.ap (.tup [.nilp, .int .i64 11]) H) ∧
  (chkM fs ft = 0 → l.all nameB = true → ∀ p t1 t2, (mH p fs t1 l t2 [] .nil H).keys.Nodup → K.ap (.tup [.ptr p 0, .int .i64 0]) (mH p fs t1 l t2 [] .nil H))
theorem c11_of (P : Program) {xs : List AV} {H : Heap} {K : Kv} (h : c11 xs H K) : @xF ⟨fun _ => none, P, [(22, c22), (23, c23)]⟩ f11 xs H ⟨fun v H' => ∃ H0, Hle H0 H' ∧ K.ap v H0⟩ := by
  obtain ⟨fs, ft, l, t, rfl, hn, hw, hl, hs, h1, h2, h3⟩ := h
  have wf := Val.wtf_len fs
  have e : Val.avs [] = [] := rfl
  simp (implicitDefEqProofs := false) only [sB, simprocAttr, f11]
  refine x_c22 (is := []) (by simp only [Val.wt, Val.wts, List.length_nil]; omega) _ _ ?_
  by_cases e0 : chkM fs ft = 0
  · have h4 := h2 e0
    have h5 := h3 e0
    simp (implicitDefEqProofs := false) only [sB, simprocAttr, show chk (.mk 4 [] 0 false .nil [] ft fs) 1 = 0 from e0, strs_len]
    refine i_loopJ (fun σ H1 => ∃ (i : Nat), H1 = H ∧ i ≤ l.length ∧ (∀ s ∈ l.take i, nameB s = true) ∧ σ = [(0, .sl (Val.fvs fs) ft), (1, .sl (strsAV l) t), (7, .int .i64 i)])
      (fun σ _ => match σ.get 7 with | .int _ n => l.length - n.toNat | _ => 0)
      (fun e σ H1 => H1 = H ∧ ((e = .exit 0 ∧ l.all nameB = true ∧ σ.get 0 = .sl (Val.fvs fs) ft ∧ σ.get 1 = .sl (strsAV l) t) ∨ (e = .ret ∧ σ.get 4 = .nilp ∧ σ.get 5 = .int .i64 11 ∧ l.all nameB = false)))
      ⟨_, .refl _, 0, rfl, by omega, by simp, rfl⟩ ?_ ?_
    · rintro e σ H1 ⟨rfl, ⟨rfl, ha, q0, q1⟩ | ⟨rfl, q4, q5, ha⟩⟩
      · simp (implicitDefEqProofs := false) only [sB, simprocAttr, q0, q1]
        refine i_bsl (by decide) [] rfl (by intro x hx; cases hx) rfl fun w hw0 => ?_
        have fl7 : AllSz 7 (Val.fvs fs) := flds_all fs
        simp (implicitDefEqProofs := false) only [sB, simprocAttr, q0, q1, x_appat, fl7, Val.fvs_len]
        refine ⟨by omega, hw0, i_other fun u e' hu => ?_⟩
        have hu' : u ∉ Heap.keys H1 := hu
        simp (implicitDefEqProofs := false) only [sB, simprocAttr, q0, q1]
        refine i_sl ⟨⟨by rw [allSz_nil]; trivial, rfl, rfl⟩, i_new fun v hv0 => ?_⟩
        have hv := hv0
        simp (implicitDefEqProofs := false) only [sB, simprocAttr] at hv
        have huv : ¬ u = v := fun e => hv.1 e.symm
        have hv2 : v ∉ Heap.keys H1 := hv.2
        simp (implicitDefEqProofs := false) only [sB, simprocAttr, q0, q1, x_appat, strs_all l, strs_len, hv, huv]
        refine ⟨by omega, i_other fun x e2 hx => ?_⟩
        simp (implicitDefEqProofs := false) only [sB, simprocAttr, q0, q1]
        refine i_new fun p hp => ?_
        simp (implicitDefEqProofs := false) only [sB, simprocAttr] at hp
        have hp2 : p ∉ Heap.keys H1 := hp.2.2
        simp (implicitDefEqProofs := false) only [sB, simprocAttr, q0, q1]
        exact ⟨_, .of_sub (.cons_cons _ (.cons _ (.cons _ (.refl _)))), h5 ha p _ _ (List.nodup_cons.2 ⟨hp2, hn⟩)⟩
      · simp (implicitDefEqProofs := false) only [sB, simprocAttr, q4, q5]
        exact ⟨_, .refl _, h4 ha⟩
    · rintro Q hQ σ H1 ⟨i, rfl, hi, hall, rfl⟩
      simp (implicitDefEqProofs := false) only [sB, simprocAttr, strs_len]
      refine i_if (fun c => ?_) (fun c => ?_)
      · have c' : i < l.length := by simpa using c
        have hx : l[i]? = some l[i] := List.getElem?_eq_getElem c'
        have r9 := w_i64 ((i : Int) + 1) (by omega) (by omega)
        have i0 : (0 : Int) ≤ (i : Int) := by omega
        have hsi := hs _ (List.getElem_mem c')
        by_cases nm : nameB l[i] = true
        · simp (implicitDefEqProofs := false) only [sB, simprocAttr, i0, strs_get, hx, Option.map_some, x_c23 hsi, nm, r9]
          refine ⟨_, .refl _, ⟨i + 1, rfl, by omega, ?_, by simp⟩, by omega⟩
          intro s hs'
          rw [List.take_add_one, hx] at hs'
          rcases List.mem_append.1 hs' with hs' | hs'
          · exact hall s hs'
          · simp at hs'; subst hs'; exact nm
        · simp (implicitDefEqProofs := false) only [sB, simprocAttr, i0, strs_get, hx, Option.map_some, x_c23 hsi, nm]
          refine hQ _ _ _ ⟨rfl, .inr ⟨rfl, rfl, rfl, ?_⟩⟩
          rw [Bool.eq_false_iff]; intro ha
          exact nm (List.all_eq_true.1 ha _ (List.getElem_mem c'))
      · have : i = l.length := by have : ¬ (i : Int) < l.length := by simpa using c
                                  omega
        subst this
        rw [List.take_length] at hall
        simp (implicitDefEqProofs := false) only [sB, simprocAttr]
        exact hQ _ _ _ ⟨rfl, .inl ⟨rfl, List.all_eq_true.2 hall, rfl, rfl⟩⟩
  · have h4 := h1 e0
    have e1 : ¬ chk (.mk 4 [] 0 false .nil [] ft fs) 1 = 0 := e0
    simp (implicitDefEqProofs := false) only [sB, simprocAttr, e1]
    exact ⟨_, .refl _, h4⟩
end Go.AL.Fun
