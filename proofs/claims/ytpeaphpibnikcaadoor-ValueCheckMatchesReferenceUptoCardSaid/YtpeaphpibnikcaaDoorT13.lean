/- Paths looked up. -/
import Derived.Test.YtpeaphpibnikcaaDoorT12
set_option linter.unusedSimpArgs false
set_option linter.unusedVariables false
set_option maxRecDepth 100000
set_option maxHeartbeats 4000000
namespace Go.AL.Fun
open Go Go.AL Go.Proofs

def lookR : Val → List (List UInt8) → Val × Int
  | v, [] => (v, 0)
  | .mk k _ _ _ _ _ _ fs, key :: l => if (fieldG k fs key).2 = 0 then lookR (fieldG k fs key).1 l else (zeroV, (fieldG k fs key).2)
def lookP (v : Val) (path : List UInt8) : Val × Int := if (splitR path).2 = 0 then lookR v (splitR path).1 else (zeroV, (splitR path).2)
theorem splitR_cases (s : List UInt8) : (splitR s).2 = 0 ∨ splitR s = ([], 11) := by
  unfold splitR
  split
  · exact .inl rfl
  · split
    · exact .inl rfl
    · exact .inr rfl
theorem splitR_len (s : List UInt8) : (splitR s).1.length ≤ 8 := by
  unfold splitR
  split
  · simp
  · split
    · rename_i h; exact h.1
    · simp
theorem zeroV_cs : zeroV.cs = [.int .i64 0, .str [], .int .i64 0, .bool false, .sl [] .nil, .sl [] .nil] := rfl
abbrev zeroL : List AV := [.int .i64 0, .str [], .int .i64 0, .bool false, .sl [] .nil, .sl [] .nil]
theorem fieldG_wt (k : Int) (s : List UInt8) (n : Int) (b : Bool) (it : Tok) (is : List Val) (ft : Tok) (fs : List Fld) (key : List UInt8) : (fieldG k fs key).1.wt ≤ (Val.mk k s n b it is ft fs).wt := by
  have hz : zeroV.wt = 1 := rfl
  have hp := Val.wt_pos (.mk k s n b it is ft fs)
  unfold fieldG
  split
  · rcases findN_cases fs key with ⟨_, e⟩ | ⟨i, f, hi, _, e⟩
    · rw [e, hz]; exact hp
    · rw [e]
      have := Val.wtf_le f (List.mem_of_getElem? hi)
      simp only [Val.wt]; omega
  · rw [hz]; exact hp
def c11 (xs : List AV) (H : Heap) (K : Kv) : Prop := ∃ (v : Val) (path : List UInt8), xs = [.agg v.cs, .str path] ∧ H.keys.Nodup ∧ path.length ≤ 1048576 ∧ v.wt ≤ 1099511627776 ∧ K.ap (.tup [.agg (lookP v path).1.cs, .int .i64 (lookP v path).2]) H
theorem c11_of (P : Program) {G : Nat → Option (List AV)} {xs : List AV} {H : Heap} {K : Kv} (h : c11 xs H K) : @xF ⟨G, P, [(14, c14), (29, c29)]⟩ f11 xs H ⟨fun v H' => ∃ H0, Hle H0 H' ∧ K.ap v H0⟩ := by
  obtain ⟨v, path, rfl, hn, hp, hw, h⟩ := h
  obtain ⟨k, s, n, b, it, is, ft, fs⟩ := v
  simp only [Val.cs]
  simp (implicitDefEqProofs := false) only [sB, simprocAttr, f11]
  refine i_new fun p hp1 => ?_
  simp (implicitDefEqProofs := false) only [sB, simprocAttr]
  refine i_new fun q hq => ?_
  simp (implicitDefEqProofs := false) only [sB, simprocAttr] at hq
  have hpq : ¬ p = q := fun e => hq.1 e.symm
  have hn1 : (Heap.keys ((q, AObj.cells zeroL) :: (p, .cells [.int .i64 k, .str s, .int .i64 n, .bool b, .sl (Val.avs is) it, .sl (Val.fvs fs) ft]) :: H)).Nodup := List.nodup_cons.2 ⟨by simpa [Heap.keys] using hq, List.nodup_cons.2 ⟨hp1, hn⟩⟩
  simp (implicitDefEqProofs := false) only [sB, simprocAttr, hq, hpq]
  refine ⟨path, rfl, hn1, hp, fun t => ?_⟩
  rcases splitR_cases path with e0 | e0
  · have hl : lookP (.mk k s n b it is ft fs) path = lookR (.mk k s n b it is ft fs) (splitR path).1 := by unfold lookP; rw [if_pos e0]
    rw [hl] at h
    rw [e0]
    have l8 := splitR_len path
    generalize (splitR path).1 = l at h l8 ⊢
    simp (implicitDefEqProofs := false) only [sB, simprocAttr, hq, hpq, strs_len]
    generalize hV : Val.mk k s n b it is ft fs = V at h hw
    refine i_loopJ (fun σ H1 => ∃ (i : Nat) (v' : Val), H1 = (q, .cells zeroL) :: (p, .cells v'.cs) :: H ∧ i ≤ l.length ∧ lookR V l = lookR v' (l.drop i) ∧ v'.wt ≤ 1099511627776 ∧
        σ = [(2, .ptr p 0), (4, .ptr q 0), (20, .sl (strsAV l) t), (21, .int .i64 l.length), (22, .int .i64 i)])
      (fun σ _ => match σ.get 22 with | .int _ n => l.length - n.toNat | _ => 0)
      (fun e σ H1 => (e = .exit 0 ∧ ∃ v', lookR V l = (v', 0) ∧ H1 = (q, .cells zeroL) :: (p, .cells v'.cs) :: H ∧ σ.get 2 = .ptr p 0 ∧ σ.get 4 = .ptr q 0) ∨
        (e = .ret ∧ ∃ c, lookR V l = (zeroV, c) ∧ Hle H H1 ∧ lookH q H1 = some (.cells zeroL) ∧ σ.get 4 = .ptr q 0 ∧ σ.get 5 = .int .i64 c))
      ⟨_, .refl _, 0, V, by rw [← hV]; rfl, by omega, rfl, hw, rfl⟩ ?_ ?_
    · rintro e σ H1 (⟨rfl, v', e1, rfl, q2, q4⟩ | ⟨rfl, c, e1, hle, hlq, q4, q5⟩)
      · rw [e1] at h
        obtain ⟨k', s', n', b', it', is', ft', fs'⟩ := v'
        simp only [Val.cs] at h ⊢
        simp (implicitDefEqProofs := false) only [sB, simprocAttr, q2, q4, hq, hpq]
        exact ⟨_, hle2, h⟩
      · rw [e1, zeroV_cs] at h
        simp (implicitDefEqProofs := false) only [sB, simprocAttr, q4, q5, hlq]
        exact ⟨_, hle, h⟩
    · rintro Q hQ σ H1 ⟨i, v', rfl, hi, hlk, hwt, rfl⟩
      simp (implicitDefEqProofs := false) only [sB, simprocAttr]
      refine i_if (fun c => ?_) (fun c => ?_)
      · have hlt : i < l.length := by simpa using c
        have hx : l[i]? = some l[i] := List.getElem?_eq_getElem hlt
        have r9 := w_i64 ((i : Int) + 1) (by omega) (by omega)
        have i0 : (0 : Int) ≤ (i : Int) := by omega
        rw [List.drop_eq_getElem_cons hlt] at hlk
        generalize l[i] = key at hx hlk
        obtain ⟨k', s', n', b', it', is', ft', fs'⟩ := v'
        have hgw := fieldG_wt k' s' n' b' it' is' ft' fs' key
        simp only [lookR] at hlk
        simp only [Val.cs]
        simp (implicitDefEqProofs := false) only [sB, simprocAttr, i0, hx, strs_len, strs_get, Option.map_some, c]
        refine i_new fun nm hnm => ?_
        simp (implicitDefEqProofs := false) only [sB, simprocAttr] at hnm
        have n1 : ¬ nm = q := fun e => hnm.1 e
        have n2 : ¬ nm = p := fun e => hnm.2.1 e
        have n1' : ¬ q = nm := fun e => n1 e.symm
        have n2' : ¬ p = nm := fun e => n2 e.symm
        by_cases k4 : k' = 4
        · subst k4
          have fw := Val.wtf_len fs'
          have fl : fs'.length ≤ 1099511627776 := by
            simp only [Val.wt] at hwt; omega
          have hG : fieldG 4 fs' key = fieldR fs' key := by unfold fieldG; rw [if_pos rfl]
          rw [hG] at hlk hgw
          simp (implicitDefEqProofs := false) only [sB, simprocAttr, hq, hpq, n1, n2, n1', n2']
          refine ⟨key, nm, ft', fs', rfl, by simp [lookH], fl, ?_⟩
          rcases findN_cases fs' key with ⟨e1, e2⟩ | ⟨j, f, hj, e1, e2⟩
          · rw [e2] at hlk
            rw [e1]
            simp (implicitDefEqProofs := false) only [sB, simprocAttr, hq, hpq, n1, n2, n1', n2']
            refine hQ _ _ _ (.inr ⟨rfl, 17, ?_, ?_, ?_, rfl, rfl⟩)
            · rw [hlk]; rfl
            · exact Hle.right [_, _, _] H
            · simp [lookH, n1']
          · rw [e2] at hlk hgw
            rw [e1]
            have hjl := (List.getElem?_eq_some_iff.1 hj).1
            have hfx : (Val.fvs fs')[j]? = some (.agg (.str f.1 :: f.2.cs)) := by rw [Val.fvs_map, List.getElem?_map, hj]; rfl
            have j0 : ¬ (j : Int) < 0 := by omega
            have j1 : (0 : Int) ≤ (j : Int) := by omega
            have j2 : (j : Int) < (fs'.length : Int) := by omega
            obtain ⟨ky, k2, s2, m2, b2, it2, is2, ft2, fs2⟩ := f
            simp only [Val.cs] at hfx
            simp (implicitDefEqProofs := false) only [sB, simprocAttr, hq, hpq, n1, n2, n1', n2', j0, j1, j2, Val.fvs_len, hfx, r9]
            exact ⟨_, .tail _ _, ⟨i + 1, .mk k2 s2 m2 b2 it2 is2 ft2 fs2, rfl, by omega, by rw [hlk]; rfl, Nat.le_trans hgw hwt, by simp⟩, by omega⟩
        · have hG : fieldG k' fs' key = (zeroV, 18) := by unfold fieldG; rw [if_neg k4]
          rw [hG] at hlk
          simp (implicitDefEqProofs := false) only [sB, simprocAttr, hq, hpq, n1, n2, n1', n2', k4]
          refine hQ _ _ _ (.inr ⟨rfl, 18, ?_, ?_, ?_, rfl, rfl⟩)
          · rw [hlk]; rfl
          · exact Hle.right [_, _, _] H
          · simp [lookH, n1']
      · have e1 : i = l.length := by have : ¬ (i : Int) < l.length := by simpa using c
                                     omega
        rw [e1, List.drop_length] at hlk
        simp (implicitDefEqProofs := false) only [sB, simprocAttr]
        refine hQ _ _ _ (.inl ⟨rfl, v', ?_, rfl, rfl, rfl⟩)
        rw [hlk]; unfold lookR; rfl
  · have hl : lookP (.mk k s n b it is ft fs) path = (zeroV, 11) := by unfold lookP; rw [e0]; rfl
    rw [hl, zeroV_cs] at h
    rw [e0]
    simp (implicitDefEqProofs := false) only [sB, simprocAttr, hq, hpq]
    exact ⟨_, hle2, h⟩
def c12 (xs : List AV) (H : Heap) (K : Kv) : Prop := ∃ (v : Val) (path : List UInt8), xs = [.agg v.cs, .str path] ∧ H.keys.Nodup ∧ path.length ≤ 1048576 ∧ v.wt ≤ 1099511627776 ∧ K.ap (.tup [.agg (lookP v path).1.cs, .int .i64 (lookP v path).2]) H
theorem c12_of (P : Program) {G : Nat → Option (List AV)} {xs : List AV} {H : Heap} {K : Kv} (h : c12 xs H K) : @xF ⟨G, P, [(15, c15), (31, c31g)]⟩ f12 xs H ⟨fun v H' => ∃ H0, Hle H0 H' ∧ K.ap v H0⟩ := by
  obtain ⟨v, path, rfl, hn, hp, hw, h⟩ := h
  obtain ⟨k, s, n, b, it, is, ft, fs⟩ := v
  simp only [Val.cs]
  simp (implicitDefEqProofs := false) only [sB, simprocAttr, f12]
  refine i_new fun p hp1 => ?_
  simp (implicitDefEqProofs := false) only [sB, simprocAttr]
  refine i_new fun q hq => ?_
  simp (implicitDefEqProofs := false) only [sB, simprocAttr] at hq
  have hpq : ¬ p = q := fun e => hq.1 e.symm
  have hn1 : (Heap.keys ((q, AObj.cells zeroL) :: (p, .cells [.int .i64 k, .str s, .int .i64 n, .bool b, .sl (Val.avs is) it, .sl (Val.fvs fs) ft]) :: H)).Nodup := List.nodup_cons.2 ⟨by simpa [Heap.keys] using hq, List.nodup_cons.2 ⟨hp1, hn⟩⟩
  simp (implicitDefEqProofs := false) only [sB, simprocAttr, hq, hpq]
  refine ⟨path, rfl, hn1, hp, fun t => ?_⟩
  rcases splitR_cases path with e0 | e0
  · have hl : lookP (.mk k s n b it is ft fs) path = lookR (.mk k s n b it is ft fs) (splitR path).1 := by unfold lookP; rw [if_pos e0]
    rw [hl] at h
    rw [e0]
    have l8 := splitR_len path
    generalize (splitR path).1 = l at h l8 ⊢
    simp (implicitDefEqProofs := false) only [sB, simprocAttr, hq, hpq, strs_len]
    generalize hV : Val.mk k s n b it is ft fs = V at h hw
    refine i_loopJ (fun σ H1 => ∃ (i : Nat) (v' : Val), H1 = (q, .cells zeroL) :: (p, .cells v'.cs) :: H ∧ i ≤ l.length ∧ lookR V l = lookR v' (l.drop i) ∧ v'.wt ≤ 1099511627776 ∧
        σ = [(2, .ptr p 0), (4, .ptr q 0), (6, .sl (strsAV l) t), (8, .int .i64 i)])
      (fun σ _ => match σ.get 8 with | .int _ n => l.length - n.toNat | _ => 0)
      (fun e σ H1 => (e = .exit 0 ∧ ∃ v', lookR V l = (v', 0) ∧ H1 = (q, .cells zeroL) :: (p, .cells v'.cs) :: H ∧ σ.get 2 = .ptr p 0 ∧ σ.get 4 = .ptr q 0) ∨
        (e = .ret ∧ ∃ c, lookR V l = (zeroV, c) ∧ Hle H H1 ∧ lookH q H1 = some (.cells zeroL) ∧ σ.get 4 = .ptr q 0 ∧ σ.get 5 = .int .i64 c))
      ⟨_, .refl _, 0, V, by rw [← hV]; rfl, by omega, rfl, hw, rfl⟩ ?_ ?_
    · rintro e σ H1 (⟨rfl, v', e1, rfl, q2, q4⟩ | ⟨rfl, c, e1, hle, hlq, q4, q5⟩)
      · rw [e1] at h
        obtain ⟨k', s', n', b', it', is', ft', fs'⟩ := v'
        simp only [Val.cs] at h ⊢
        simp (implicitDefEqProofs := false) only [sB, simprocAttr, q2, q4, hq, hpq]
        exact ⟨_, hle2, h⟩
      · rw [e1, zeroV_cs] at h
        simp (implicitDefEqProofs := false) only [sB, simprocAttr, q4, q5, hlq]
        exact ⟨_, hle, h⟩
    · rintro Q hQ σ H1 ⟨i, v', rfl, hi, hlk, hwt, rfl⟩
      simp (implicitDefEqProofs := false) only [sB, simprocAttr, strs_len]
      refine i_if (fun c => ?_) (fun c => ?_)
      · have hlt : i < l.length := by simpa using c
        have hx : l[i]? = some l[i] := List.getElem?_eq_getElem hlt
        have r9 := w_i64 ((i : Int) + 1) (by omega) (by omega)
        have i0 : (0 : Int) ≤ (i : Int) := by omega
        have c' : (i : Int) < (l.length : Int) := by omega
        rw [List.drop_eq_getElem_cons hlt] at hlk
        generalize l[i] = key at hx hlk
        obtain ⟨k', s', n', b', it', is', ft', fs'⟩ := v'
        have hgw := fieldG_wt k' s' n' b' it' is' ft' fs' key
        simp only [lookR] at hlk
        simp only [Val.cs]
        have fw := Val.wtf_len fs'
        have fl : fs'.length ≤ 1099511627776 := by
          simp only [Val.wt] at hwt; omega
        simp (implicitDefEqProofs := false) only [sB, simprocAttr, i0, hx, strs_len, strs_get, Option.map_some, c', hq, hpq]
        refine ⟨k', s', n', b', it', is', ft', fs', key, rfl, fl, ?_⟩
        generalize fieldG k' fs' key = r at hlk hgw
        obtain ⟨⟨k2, s2, m2, b2, it2, is2, ft2, fs2⟩, e2⟩ := r
        simp only [Val.cs] at hlk hgw ⊢
        by_cases ez : e2 = 0
        · rw [if_pos ez] at hlk
          simp (implicitDefEqProofs := false) only [sB, simprocAttr, hq, hpq, ez, r9]
          exact ⟨_, .refl _, ⟨i + 1, .mk k2 s2 m2 b2 it2 is2 ft2 fs2, rfl, by omega, hlk, by omega, by simp⟩, by omega⟩
        · rw [if_neg ez] at hlk
          simp (implicitDefEqProofs := false) only [sB, simprocAttr, hq, hpq, ez]
          refine hQ _ _ _ (.inr ⟨rfl, e2, hlk, Hle.right [_, _] H, by simp [lookH], rfl, rfl⟩)
      · have e1 : i = l.length := by have : ¬ (i : Int) < l.length := by simpa using c
                                     omega
        rw [e1, List.drop_length] at hlk
        simp (implicitDefEqProofs := false) only [sB, simprocAttr]
        refine hQ _ _ _ (.inl ⟨rfl, v', ?_, rfl, rfl, rfl⟩)
        rw [hlk]; unfold lookR; rfl
  · have hl : lookP (.mk k s n b it is ft fs) path = (zeroV, 11) := by unfold lookP; rw [e0]; rfl
    rw [hl, zeroV_cs] at h
    rw [e0]
    simp (implicitDefEqProofs := false) only [sB, simprocAttr, hq, hpq]
    exact ⟨_, hle2, h⟩
/-- The example. -/
def fiveV : Val := .mk 1 [] 5 false .nil [] .nil []
def exV (t1 t2 : Tok) : Val := .mk 4 [] 0 false .nil [] t1 [([97], .mk 4 [] 0 false .nil [] t2 [([98], fiveV)])]
theorem flds_all (l : List Fld) : AllSz 7 (Val.fvs l) := by
  intro x hx
  rw [Val.fvs_map] at hx
  obtain ⟨f, _, rfl⟩ := List.mem_map.1 hx
  show (AV.str f.1 :: f.2.cs).length = 7
  rw [List.length_cons, Val.cs_len]
def c28 (xs : List AV) (H : Heap) (K : Kv) : Prop := xs = [] ∧ ∀ t1 t2, K.ap (.agg (exV t1 t2).cs) H
theorem c28_of (P : Program) {G : Nat → Option (List AV)} {xs : List AV} {H : Heap} {K : Kv} (h : c28 xs H K) : @xF ⟨G, P, []⟩ f28 xs H ⟨fun v H' => ∃ H0, Hle H0 H' ∧ K.ap v H0⟩ := by
  obtain ⟨rfl, h⟩ := h
  simp (implicitDefEqProofs := false) only [sB, simprocAttr, f28]
  refine i_new fun p hp => ?_
  simp (implicitDefEqProofs := false) only [sB, simprocAttr]
  refine i_new fun q hq => ?_
  simp (implicitDefEqProofs := false) only [sB, simprocAttr] at hq
  have hpq : ¬ p = q := fun e => hq.1 e.symm
  simp (implicitDefEqProofs := false) only [sB, simprocAttr, hq, hpq]
  refine i_bslN (by decide) (Val.fvs [([98], fiveV)]) rfl (flds_all _) rfl fun x hx => ?_
  simp (implicitDefEqProofs := false) only [sB, simprocAttr, hq, hpq]
  refine i_bslN (by decide) (Val.fvs [([97], .mk 4 [] 0 false .nil [] _ [([98], fiveV)])]) rfl (flds_all _) rfl fun y hy => ?_
  simp (implicitDefEqProofs := false) only [sB, simprocAttr] at hx hy
  have n1 : ¬ p = x := fun e => by subst e; simp at hx
  have n2 : ¬ p = y := fun e => by subst e; simp at hy
  simp (implicitDefEqProofs := false) only [sB, simprocAttr, hq, hpq, n1, n2]
  exact ⟨_, Hle.right [_, _, _, _] H, h _ _⟩
end Go.AL.Fun
