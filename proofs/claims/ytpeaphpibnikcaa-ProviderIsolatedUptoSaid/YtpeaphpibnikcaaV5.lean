/- Values, checked. -/
import Derived.Test.YtpeaphpibnikcaaV4
set_option linter.unusedSimpArgs false
set_option linter.unusedVariables false
set_option maxRecDepth 100000
set_option maxHeartbeats 2000000
namespace Go.AL.Fun
open Go Go.AL

theorem hle2 {H : Heap} {x y : Nat × AObj} : Hle H (x :: y :: H) := .of_sub (.cons _ (.cons _ (.refl _)))
mutual
def chk : Val → Int → Int
  | .mk k s n b _ is _ fs, d => if 32 < d then 13 else if k < 0 ∨ 4 < k then 18 else if ownV k s n b is fs = false then 2 else if chkI is (d + 1) ≠ 0 then chkI is (d + 1) else chkF [] fs (d + 1)
def chkI : List Val → Int → Int
  | [], _ => 0
  | v :: l, d => if chk v d ≠ 0 then chk v d else chkI l d
def chkF : List (List UInt8) → List Fld → Int → Int
  | _, [], _ => 0
  | seen, f :: l, d => if nameB f.1 = false then 11 else if f.1 ∈ seen then 12 else if chk1 f d ≠ 0 then chk1 f d else chkF (seen ++ [f.1]) l d
def chk1 : Fld → Int → Int
  | (_, v), d => chk v d
end
theorem chkI_drop {l : List Val} {i : Nat} (h : i < l.length) (d : Int) : chkI (l.drop i) d = if chk l[i] d ≠ 0 then chk l[i] d else chkI (l.drop (i + 1)) d := by
  rw [List.drop_eq_getElem_cons h, chkI]
theorem chkF_drop {l : List Fld} {i : Nat} (h : i < l.length) (seen : List (List UInt8)) (d : Int) :
    chkF seen (l.drop i) d = if nameB l[i].1 = false then 11 else if l[i].1 ∈ seen then 12 else if chk l[i].2 d ≠ 0 then chk l[i].2 d else chkF (seen ++ [l[i].1]) (l.drop (i + 1)) d := by
  rw [List.drop_eq_getElem_cons h, chkF]
  have : chk1 l[i] d = chk l[i].2 d := by generalize l[i] = f; obtain ⟨k, v⟩ := f; rw [chk1]
  rw [this]
def keys (l : List Fld) (i : Nat) : List (List UInt8) := (l.take i).map (·.1)
theorem keys_succ {l : List Fld} {i : Nat} (h : i < l.length) : keys l (i + 1) = keys l i ++ [l[i].1] := by
  unfold keys; rw [List.take_add_one, List.getElem?_eq_getElem h, List.map_append]; rfl
/-- The map of what was seen. -/
def seenM (l : List (List UInt8)) : List (AV × AV) := l.map fun k => (.str k, .bool true)
theorem seen_look (k : List UInt8) (l : List (List UInt8)) : lookA (.str k) (seenM l) = some (if k ∈ l then some (.bool true) else none) := by
  induction l with
  | nil => rfl
  | cons a l ih =>
    show (match (some (decide (k = a)) : Option Bool) with | some true => _ | some false => _ | none => _) = _
    by_cases e : k = a
    · simp [e]
    · simp only [e, decide_false]
      have := ih
      unfold seenM at this
      simp only [List.mem_cons, e, false_or]
      exact this
theorem seen_upd {k : List UInt8} {l : List (List UInt8)} (h : k ∉ l) : updA (.str k) (.bool true) (seenM l) = some (seenM (l ++ [k])) := by
  induction l with
  | nil => rfl
  | cons a l ih =>
    simp only [List.mem_cons, not_or] at h
    show (match (some (decide (k = a)) : Option Bool) with | some true => _ | some false => _ | none => _) = _
    simp only [h.1, decide_false]
    have := ih h.2
    unfold seenM at this
    rw [this]; rfl

def c29 (N : Nat) (xs : List AV) (H : Heap) (K : Kv) : Prop := ∃ (k : Int) (s : List UInt8) (n : Int) (b : Bool) (it : Tok) (is : List Val) (ft : Tok) (fs : List Fld) (d : Int),
  xs = [.agg [.int .i64 k, .str s, .int .i64 n, .bool b, .sl (Val.avs is) it, .sl (Val.fvs fs) ft], .int .i64 d] ∧ (Val.mk k s n b it is ft fs).wt ≤ N ∧ N ≤ 1099511627776 ∧ 0 ≤ d ∧ d ≤ 33 ∧ K.ap (.int .i64 (chk (.mk k s n b it is ft fs) d)) H
theorem x_c29 {N : Nat} {k : Int} {s : List UInt8} {n : Int} {b : Bool} {it : Tok} {is : List Val} {ft : Tok} {fs : List Fld} {d : Int} (h1 : (Val.mk k s n b it is ft fs).wt ≤ N) (h2 : N ≤ 1099511627776) (h3 : 0 ≤ d) (h4 : d ≤ 33) (H : Heap) (K : Kv)
    (h : K.ap (.int .i64 (chk (.mk k s n b it is ft fs) d)) H) : c29 N [.agg [.int .i64 k, .str s, .int .i64 n, .bool b, .sl (Val.avs is) it, .sl (Val.fvs fs) ft], .int .i64 d] H K :=
  ⟨_, _, _, _, _, _, _, _, _, rfl, h1, h2, h3, h4, h⟩
theorem x_c33 (k : Int) (s : List UInt8) (n : Int) (b : Bool) (it : Tok) (is : List Val) (ft : Tok) (fs : List Fld) (H : Heap) (K : Kv) (h : K.ap (.bool (ownV k s n b is fs)) H) :
    c33 [.agg [.int .i64 k, .str s, .int .i64 n, .bool b, .sl (Val.avs is) it, .sl (Val.fvs fs) ft]] H K := ⟨_, _, _, _, _, _, _, _, rfl, h⟩
@[reducible] def t29 (N : Nat) (P : Program) : Th := ⟨fun _ => none, P, [(29, c29 N), (33, c33), (16, c16)]⟩
theorem c29_of (P : Program) {N : Nat} {xs : List AV} {H : Heap} {K : Kv} (h : c29 (N + 1) xs H K) : @xF (t29 N P) f29 xs H ⟨fun v H' => ∃ H0, Hle H0 H' ∧ K.ap v H0⟩ := by
  obtain ⟨k, s, n, b, it, is, ft, fs, d, rfl, hw, hN, hd0, hd, h⟩ := h
  simp only [Val.wt] at hw
  have wi := Val.wts_len is
  have wf := Val.wtf_len fs
  rw [chk] at h
  have r1 := w_i64 (d + 1) (by omega) (by omega)
  simp (implicitDefEqProofs := false) only [sB, simprocAttr, f29]
  refine i_new fun p hp => ?_
  by_cases d1 : 32 < d
  · simp (implicitDefEqProofs := false) only [sB, simprocAttr, d1]
    rw [if_pos d1] at h
    exact ⟨H, .tail _ _, h⟩
  · rw [if_neg d1] at h
    by_cases k1 : k < 0
    · simp (implicitDefEqProofs := false) only [sB, simprocAttr, d1, k1]
      rw [if_pos (.inl k1)] at h
      exact ⟨H, .tail _ _, h⟩
    · by_cases k2 : 4 < k
      · simp (implicitDefEqProofs := false) only [sB, simprocAttr, d1, k1, k2]
        rw [if_pos (.inr k2)] at h
        exact ⟨H, .tail _ _, h⟩
      · rw [if_neg (by omega)] at h
        simp (implicitDefEqProofs := false) only [sB, simprocAttr, d1, k1, k2]
        refine x_c33 _ _ _ _ _ _ _ _ _ _ ?_
        by_cases o1 : ownV k s n b is fs = true
        · rw [if_neg (by rw [o1]; decide)] at h
          simp (implicitDefEqProofs := false) only [sB, simprocAttr, o1, Val.avs_len, Val.fvs_len]
          refine i_loopJ (fun σ H1 => ∃ (i : Nat), H1 = (p, .cells [.int .i64 k, .str s, .int .i64 n, .bool b, .sl (Val.avs is) it, .sl (Val.fvs fs) ft]) :: H ∧ i ≤ is.length ∧ chkI is (d + 1) = chkI (is.drop i) (d + 1) ∧
              σ = [(1, .int .i64 d), (2, .ptr p 0), (29, .sl (Val.avs is) it), (30, .int .i64 is.length), (31, .int .i64 i)])
            (fun σ _ => match σ.get 31 with | .int _ n => is.length - n.toNat | _ => 0)
            (fun e σ H1 => (e = .exit 1 ∧ H1 = (p, .cells [.int .i64 k, .str s, .int .i64 n, .bool b, .sl (Val.avs is) it, .sl (Val.fvs fs) ft]) :: H ∧ chkI is (d + 1) = 0 ∧ σ.get 1 = .int .i64 d ∧ σ.get 2 = .ptr p 0) ∨
              (e = .ret ∧ Hle H H1 ∧ σ.get 4 = .int .i64 (chkI is (d + 1)) ∧ chkI is (d + 1) ≠ 0))
            ⟨_, .refl _, 0, rfl, by omega, rfl, rfl⟩ ?_ ?_
          · rintro e σ H1 (⟨rfl, rfl, e0, q1, q2⟩ | ⟨rfl, hl, q4, ne⟩)
            · rw [if_neg (by rw [e0]; decide)] at h
              simp (implicitDefEqProofs := false) only [sB, simprocAttr, q1, q2, Val.avs_len, Val.fvs_len]
              refine i_new fun m hm => ?_
              simp (implicitDefEqProofs := false) only [sB, simprocAttr] at hm
              have hpm : ¬ p = m := fun e => hm.1 e.symm
              simp (implicitDefEqProofs := false) only [sB, simprocAttr, hm, hpm, q1, q2, Val.avs_len, Val.fvs_len]
              refine i_loopJ (fun σ H1 => ∃ (i : Nat), H1 = (m, .map (seenM (keys fs i))) :: (p, .cells [.int .i64 k, .str s, .int .i64 n, .bool b, .sl (Val.avs is) it, .sl (Val.fvs fs) ft]) :: H ∧ i ≤ fs.length ∧ chkF [] fs (d + 1) = chkF (keys fs i) (fs.drop i) (d + 1) ∧
                  σ = [(1, .int .i64 d), (8, .map m), (45, .sl (Val.fvs fs) ft), (46, .int .i64 fs.length), (47, .int .i64 i)])
                (fun σ _ => match σ.get 47 with | .int _ n => fs.length - n.toNat | _ => 0)
                (fun e σ H1 => Hle H H1 ∧ ((e = .exit 3 ∧ chkF [] fs (d + 1) = 0) ∨ (e = .ret ∧ σ.get 4 = .int .i64 (chkF [] fs (d + 1)))))
                ⟨_, .refl _, 0, rfl, by omega, rfl, rfl⟩ ?_ ?_
              · rintro e σ H1 ⟨hl, ⟨rfl, e1⟩ | ⟨rfl, q4⟩⟩
                · rw [e1] at h
                  simp (implicitDefEqProofs := false) only [sB, simprocAttr]
                  exact ⟨_, hl, h⟩
                · simp (implicitDefEqProofs := false) only [sB, simprocAttr, q4]
                  exact ⟨_, hl, h⟩
              · rintro Q hQ σ H1 ⟨i, rfl, hi, hch, rfl⟩
                simp (implicitDefEqProofs := false) only [sB, simprocAttr]
                refine i_if (fun c => ?_) (fun c => ?_)
                · have c' : i < fs.length := by simpa using c
                  rw [chkF_drop c'] at hch
                  have wl := Val.wtf_le _ (List.getElem_mem c')
                  have hx : (Val.fvs fs)[i]? = some (.agg (.str (fs[i]).1 :: (fs[i]).2.cs)) := by rw [Val.fvs_map, List.getElem?_map, List.getElem?_eq_getElem c']; rfl
                  have r9 := w_i64 ((i : Int) + 1) (by omega) (by omega)
                  have i0 : (0 : Int) ≤ (i : Int) := by omega
                  have ks := keys_succ c'
                  generalize fs[i] = v at hch wl hx ks
                  obtain ⟨key, k', s', n', b', it', is', ft', fs'⟩ := v
                  simp only [Val.cs] at hx hch wl ks
                  simp (implicitDefEqProofs := false) only [sB, simprocAttr, i0, hx]
                  refine i_new fun q hq => ?_
                  simp (implicitDefEqProofs := false) only [sB, simprocAttr] at hq
                  have hmq : ¬ m = q := fun e => hq.1 e.symm
                  have hpq : ¬ p = q := fun e => hq.2.1 e.symm
                  have kl : key.length ≤ 1099511627776 := by omega
                  by_cases nm : nameB key = true
                  · rw [if_neg (by rw [nm]; decide)] at hch
                    by_cases sn : key ∈ keys fs i
                    · rw [if_pos sn] at hch
                      simp (implicitDefEqProofs := false) only [sB, simprocAttr, hm, hpm, hq, hmq, hpq, x_c16 kl, nm, seen_look, sn]
                      exact hQ _ _ _ ⟨.of_sub (.cons _ (.cons _ (.cons _ (.refl _)))), .inr ⟨rfl, by rw [hch]; rfl⟩⟩
                    · rw [if_neg sn] at hch
                      simp (implicitDefEqProofs := false) only [sB, simprocAttr, hm, hpm, hq, hmq, hpq, x_c16 kl, nm, seen_look, sn, seen_upd sn, r1]
                      refine x_c29 (by omega) (by omega) (by omega) (by omega) _ _ ?_
                      by_cases e0 : chk (.mk k' s' n' b' it' is' ft' fs') (d + 1) = 0
                      · simp (implicitDefEqProofs := false) only [sB, simprocAttr, e0, hm, hpm, hq, hmq, hpq, r9]
                        rw [if_neg (by rw [e0]; decide)] at hch
                        exact ⟨_, .tail _ _, ⟨i + 1, by rw [ks], by omega, by rw [ks]; exact hch, by simp⟩, by omega⟩
                      · rw [if_pos e0] at hch
                        simp (implicitDefEqProofs := false) only [sB, simprocAttr, e0, hm, hpm, hq, hmq, hpq]
                        exact hQ _ _ _ ⟨.of_sub (.cons _ (.cons _ (.cons _ (.refl _)))), .inr ⟨rfl, by rw [hch]; rfl⟩⟩
                  · rw [if_pos (by simpa using nm)] at hch
                    simp (implicitDefEqProofs := false) only [sB, simprocAttr, hm, hpm, hq, hmq, hpq, x_c16 kl, nm]
                    exact hQ _ _ _ ⟨.of_sub (.cons _ (.cons _ (.cons _ (.refl _)))), .inr ⟨rfl, by rw [hch]; rfl⟩⟩
                · have : i = fs.length := by have : ¬ (i : Int) < fs.length := by simpa using c
                                             omega
                  subst this
                  rw [List.drop_length] at hch
                  simp (implicitDefEqProofs := false) only [sB, simprocAttr]
                  exact hQ _ _ _ ⟨hle2, .inl ⟨rfl, hch⟩⟩
            · rw [if_pos ne] at h
              simp (implicitDefEqProofs := false) only [sB, simprocAttr, q4]
              exact ⟨_, hl, h⟩
          · rintro Q hQ σ H1 ⟨i, rfl, hi, hch, rfl⟩
            simp (implicitDefEqProofs := false) only [sB, simprocAttr]
            refine i_if (fun c => ?_) (fun c => ?_)
            · have c' : i < is.length := by simpa using c
              rw [chkI_drop c'] at hch
              have wl := Val.wts_le _ (List.getElem_mem c')
              have hx : (Val.avs is)[i]? = some (.agg (is[i]).cs) := by rw [Val.avs_map, List.getElem?_map, List.getElem?_eq_getElem c']; rfl
              have r9 := w_i64 ((i : Int) + 1) (by omega) (by omega)
              have i0 : (0 : Int) ≤ (i : Int) := by omega
              generalize is[i] = v at hch wl hx
              obtain ⟨k', s', n', b', it', is', ft', fs'⟩ := v
              simp only [Val.cs] at hx
              simp (implicitDefEqProofs := false) only [sB, simprocAttr, i0, hx]
              refine i_new fun q hq => ?_
              simp (implicitDefEqProofs := false) only [sB, simprocAttr] at hq
              have hpq : ¬ p = q := fun e => hq.1 e.symm
              simp (implicitDefEqProofs := false) only [sB, simprocAttr, hq, hpq, r1]
              refine x_c29 (by omega) (by omega) (by omega) (by omega) _ _ ?_
              by_cases e0 : chk (.mk k' s' n' b' it' is' ft' fs') (d + 1) = 0
              · simp (implicitDefEqProofs := false) only [sB, simprocAttr, e0, hq, hpq, r9]
                rw [if_neg (by rw [e0]; decide)] at hch
                exact ⟨_, .tail _ _, ⟨i + 1, rfl, by omega, hch, by simp⟩, by omega⟩
              · rw [if_pos e0] at hch
                simp (implicitDefEqProofs := false) only [sB, simprocAttr, e0, hq, hpq]
                exact hQ _ _ _ (.inr ⟨rfl, hle2, by rw [hch]; rfl, by rw [hch]; exact e0⟩)
            · have : i = is.length := by have : ¬ (i : Int) < is.length := by simpa using c
                                         omega
              subst this
              rw [List.drop_length] at hch
              simp (implicitDefEqProofs := false) only [sB, simprocAttr]
              exact hQ _ _ _ (.inl ⟨rfl, rfl, hch, rfl, rfl⟩)
        · rw [if_pos (by simpa using o1)] at h
          simp (implicitDefEqProofs := false) only [sB, simprocAttr, o1]
          exact ⟨H, .tail _ _, h⟩
end Go.AL.Fun
