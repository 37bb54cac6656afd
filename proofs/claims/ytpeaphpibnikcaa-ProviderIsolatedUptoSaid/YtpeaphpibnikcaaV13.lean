/- The provider made. -/
import Derived.Test.YtpeaphpibnikcaaV12
set_option linter.unusedSimpArgs false
set_option linter.unusedVariables false
set_option maxRecDepth 100000
set_option maxHeartbeats 2000000
namespace Go.AL.Fun
open Go Go.AL

def addF (m : RMap) (f : Fld) : RMap := rupd f.1 (f.2, 0) m
def addS (m : RMap) (s : List UInt8) : RMap := rupd s (zeroV, 20) m
def mapF (fs : List Fld) : RMap := fs.foldl addF []
def provM (fs : List Fld) (l : List (List UInt8)) : RMap := l.foldl addS (mapF fs)
theorem foldl_take {α β : Type} (f : β → α → β) (b : β) {l : List α} {i : Nat} (h : i < l.length) : (l.take (i + 1)).foldl f b = f ((l.take i).foldl f b) l[i] := by
  rw [List.take_add_one, List.getElem?_eq_getElem h, List.foldl_append]; rfl
def c10 (xs : List AV) (H : Heap) (K : Kv) : Prop := ∃ (fs : List Fld) (ft : Tok) (l : List (List UInt8)) (t : Tok), xs = [.sl (Val.fvs fs) ft, .sl (strsAV l) t] ∧ H.keys.Nodup ∧ Val.wtf fs ≤ 1048576 ∧ l.length ≤ 1048576 ∧ (∀ s ∈ l, s.length ≤ 1099511627776) ∧
  (chkM fs ft ≠ 0 → K.ap (.tup [.nilp, .int .i64 (chkM fs ft)]) H) ∧ (chkM fs ft = 0 → l.all nameB = false → K.ap (.tup [.nilp, .int .i64 11]) H) ∧
  (chkM fs ft = 0 → l.all nameB = true → ∀ p a b, (pH p a b [] (provM fs l) [] .nil H).keys.Nodup → K.ap (.tup [.ptr p 0, .int .i64 0]) (pH p a b [] (provM fs l) [] .nil H))
theorem c10_of (P : Program) {xs : List AV} {H : Heap} {K : Kv} (h : c10 xs H K) : @xF ⟨fun _ => none, P, [(19, c19), (20, c20)]⟩ f10 xs H ⟨fun v H' => ∃ H0, Hle H0 H' ∧ K.ap v H0⟩ := by
  obtain ⟨fs, ft, l, t, rfl, hn, hw, hl, hs, h1, h2, h3⟩ := h
  have wf := Val.wtf_len fs
  simp (implicitDefEqProofs := false) only [sB, simprocAttr, f10]
  refine x_c19 (is := []) (by simp only [Val.wt, Val.wts, List.length_nil]; omega) _ _ ?_
  by_cases e0 : chkM fs ft = 0
  · have h4 := h2 e0
    have h5 := h3 e0
    simp (implicitDefEqProofs := false) only [sB, simprocAttr, show chk (.mk 4 [] 0 false .nil [] ft fs) 1 = 0 from e0]
    refine x_c20 (by omega) hs _ _ ?_
    by_cases ha : l.all nameB = true
    · have h6 := h5 ha
      simp (implicitDefEqProofs := false) only [sB, simprocAttr, ha]
      refine i_new fun a ha0 => ?_
      simp (implicitDefEqProofs := false) only [sB, simprocAttr]
      refine i_new fun b hb0 => ?_
      have hb := hb0
      simp (implicitDefEqProofs := false) only [sB, simprocAttr] at hb
      have hab : ¬ a = b := fun e => hb.1 e.symm
      simp (implicitDefEqProofs := false) only [sB, simprocAttr]
      refine i_new fun p hp0 => ?_
      have hp := hp0
      simp (implicitDefEqProofs := false) only [sB, simprocAttr] at hp
      have hbp : ¬ b = p := fun e => hp.1 e.symm
      have hap : ¬ a = p := fun e => hp.2.1 e.symm
      simp (implicitDefEqProofs := false) only [sB, simprocAttr, hb, hab, hp, hbp, hap, Val.fvs_len, strs_len]
      refine i_loopJ (fun σ H1 => ∃ (i : Nat), H1 = (p, .cells [.map a, .map b, .sl [] .nil]) :: (b, .map []) :: (a, .map (resM ((fs.take i).foldl addF []))) :: H ∧ i ≤ fs.length ∧
          σ = [(1, .sl (strsAV l) t), (7, .ptr p 0), (24, .sl (Val.fvs fs) ft), (25, .int .i64 fs.length), (26, .int .i64 i)])
        (fun σ _ => match σ.get 26 with | .int _ n => fs.length - n.toNat | _ => 0)
        (fun e σ H1 => e = .exit 0 ∧ H1 = (p, .cells [.map a, .map b, .sl [] .nil]) :: (b, .map []) :: (a, .map (resM (mapF fs))) :: H ∧ σ.get 1 = .sl (strsAV l) t ∧ σ.get 7 = .ptr p 0)
        ⟨_, .refl _, 0, rfl, by omega, rfl⟩ ?_ ?_
      · rintro e σ H1 ⟨rfl, rfl, q1, q7⟩
        simp (implicitDefEqProofs := false) only [sB, simprocAttr, q1, q7, hb, hab, hp, hbp, hap, Val.fvs_len, strs_len]
        refine i_loopJ (fun σ H1 => ∃ (i : Nat), H1 = (p, .cells [.map a, .map b, .sl [] .nil]) :: (b, .map []) :: (a, .map (resM ((l.take i).foldl addS (mapF fs)))) :: H ∧ i ≤ l.length ∧
            σ = [(7, .ptr p 0), (40, .sl (strsAV l) t), (41, .int .i64 l.length), (42, .int .i64 i)])
          (fun σ _ => match σ.get 42 with | .int _ n => l.length - n.toNat | _ => 0)
          (fun e σ H1 => e = .exit 2 ∧ H1 = (p, .cells [.map a, .map b, .sl [] .nil]) :: (b, .map []) :: (a, .map (resM (provM fs l))) :: H ∧ σ.get 7 = .ptr p 0)
          ⟨_, .refl _, 0, rfl, by omega, rfl⟩ ?_ ?_
        · rintro e σ H1 ⟨rfl, rfl, q7⟩
          simp (implicitDefEqProofs := false) only [sB, simprocAttr, q7]
          exact ⟨_, .refl _, h6 p a b (List.nodup_cons.2 ⟨hp0, List.nodup_cons.2 ⟨hb0, List.nodup_cons.2 ⟨ha0, hn⟩⟩⟩)⟩
        · rintro Q hQ σ H1 ⟨i, rfl, hi, rfl⟩
          simp (implicitDefEqProofs := false) only [sB, simprocAttr]
          refine i_if (fun c => ?_) (fun c => ?_)
          · have c' : i < l.length := by simpa using c
            have hx : l[i]? = some l[i] := List.getElem?_eq_getElem c'
            have r9 := w_i64 ((i : Int) + 1) (by omega) (by omega)
            have i0 : (0 : Int) ≤ (i : Int) := by omega
            have hup := res_upd l[i] (zeroV, 20) ((l.take i).foldl addS (mapF fs))
            simp only [resAV, zeroV, Val.cs, Val.avs, Val.fvs, List.cons_append, List.nil_append] at hup
            simp (implicitDefEqProofs := false) only [sB, simprocAttr, i0, strs_get, hx, Option.map_some, hb, hab, hp, hbp, hap, hup, r9]
            refine ⟨_, .refl _, ⟨i + 1, ?_, by omega, by simp⟩, by omega⟩
            rw [foldl_take _ _ c']; rfl
          · have : i = l.length := by have : ¬ (i : Int) < l.length := by simpa using c
                                      omega
            subst this
            simp (implicitDefEqProofs := false) only [sB, simprocAttr]
            exact hQ _ _ _ ⟨rfl, rfl, rfl⟩
      · rintro Q hQ σ H1 ⟨i, rfl, hi, rfl⟩
        simp (implicitDefEqProofs := false) only [sB, simprocAttr]
        refine i_if (fun c => ?_) (fun c => ?_)
        · have c' : i < fs.length := by simpa using c
          have hx : (Val.fvs fs)[i]? = some (.agg (.str (fs[i]).1 :: (fs[i]).2.cs)) := by rw [Val.fvs_map, List.getElem?_map, List.getElem?_eq_getElem c']; rfl
          have r9 := w_i64 ((i : Int) + 1) (by omega) (by omega)
          have i0 : (0 : Int) ≤ (i : Int) := by omega
          have hup := res_upd (fs[i]).1 ((fs[i]).2, 0) ((fs.take i).foldl addF [])
          have ft1 := foldl_take addF [] c'
          simp only [addF] at ft1
          generalize fs[i] = v at hx hup ft1
          obtain ⟨ky, k', s', n', b', it', is', ft', fs'⟩ := v
          simp only [resAV, Val.cs, List.cons_append, List.nil_append] at hx hup ft1
          simp (implicitDefEqProofs := false) only [sB, simprocAttr, i0, hx]
          refine i_new fun q hq => ?_
          simp (implicitDefEqProofs := false) only [sB, simprocAttr] at hq
          have hpq : ¬ p = q := fun e => hq.1 e.symm
          have hbq : ¬ b = q := fun e => hq.2.1 e.symm
          have haq : ¬ a = q := fun e => hq.2.2.1 e.symm
          simp (implicitDefEqProofs := false) only [sB, simprocAttr, hq, hpq, hbq, haq, hb, hab, hp, hbp, hap, hup, r9]
          refine ⟨_, .tail _ _, ⟨i + 1, ?_, by omega, by simp⟩, by omega⟩
          rw [show (fs.take (i + 1)).foldl addF [] = _ from ft1]
        · have : i = fs.length := by have : ¬ (i : Int) < fs.length := by simpa using c
                                     omega
          subst this
          simp (implicitDefEqProofs := false) only [sB, simprocAttr]
          exact hQ _ _ _ ⟨rfl, rfl, rfl, rfl⟩
    · have ha' : l.all nameB = false := by simpa using ha
      simp (implicitDefEqProofs := false) only [sB, simprocAttr, ha']
      exact ⟨_, .refl _, h4 ha'⟩
  · have h4 := h1 e0
    have e1 : ¬ chk (.mk 4 [] 0 false .nil [] ft fs) 1 = 0 := e0
    simp (implicitDefEqProofs := false) only [sB, simprocAttr, e1]
    exact ⟨_, .refl _, h4⟩
end Go.AL.Fun
