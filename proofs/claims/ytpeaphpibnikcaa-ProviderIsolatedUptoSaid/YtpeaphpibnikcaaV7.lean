/- Values: their weight; equality with themselves. -/
import Derived.Test.YtpeaphpibnikcaaV6
set_option linter.unusedSimpArgs false
set_option linter.unusedVariables false
set_option maxRecDepth 100000
set_option maxHeartbeats 2000000
namespace Go.AL.Fun
open Go Go.AL

def c28 (N : Nat) (xs : List AV) (H : Heap) (K : Kv) : Prop := ∃ (k : Int) (s : List UInt8) (n : Int) (b : Bool) (it : Tok) (is : List Val) (ft : Tok) (fs : List Fld) (d : Int),
  xs = [.agg [.int .i64 k, .str s, .int .i64 n, .bool b, .sl (Val.avs is) it, .sl (Val.fvs fs) ft], .int .i64 d] ∧ (Val.mk k s n b it is ft fs).wt ≤ N ∧ N ≤ 1099511627776 ∧ 0 ≤ d ∧ d ≤ 201 ∧ ∀ r : Int, 0 ≤ r → r ≤ 100001 → K.ap (.int .i64 r) H
theorem x_c28 {N : Nat} {k : Int} {s : List UInt8} {n : Int} {b : Bool} {it : Tok} {is : List Val} {ft : Tok} {fs : List Fld} {d : Int} (h1 : (Val.mk k s n b it is ft fs).wt ≤ N) (h2 : N ≤ 1099511627776) (h3 : 0 ≤ d) (h4 : d ≤ 201) (H : Heap) (K : Kv)
    (h : ∀ r : Int, 0 ≤ r → r ≤ 100001 → K.ap (.int .i64 r) H) : c28 N [.agg [.int .i64 k, .str s, .int .i64 n, .bool b, .sl (Val.avs is) it, .sl (Val.fvs fs) ft], .int .i64 d] H K :=
  ⟨_, _, _, _, _, _, _, _, _, rfl, h1, h2, h3, h4, h⟩
@[reducible] def t28 (N : Nat) (P : Program) : Th := ⟨fun _ => none, P, [(28, c28 N)]⟩
theorem c28_of (P : Program) {N : Nat} {xs : List AV} {H : Heap} {K : Kv} (h : c28 (N + 1) xs H K) : @xF (t28 N P) f28 xs H ⟨fun v H' => ∃ H0, Hle H0 H' ∧ K.ap v H0⟩ := by
  obtain ⟨k, s, n, b, it, is, ft, fs, d, rfl, hw, hN, hd0, hd, h⟩ := h
  simp only [Val.wt] at hw
  have wi := Val.wts_len is
  have wf := Val.wtf_len fs
  have r0 := w_i64 ((is.length : Int) + fs.length) (by omega) (by omega)
  have r1 := w_i64 (1 + (s.length : Int)) (by omega) (by omega)
  simp (implicitDefEqProofs := false) only [sB, simprocAttr, f28]
  refine i_new fun p hp => ?_
  by_cases d1 : 200 < d
  · simp (implicitDefEqProofs := false) only [sB, simprocAttr, d1]
    exact ⟨H, .tail _ _, h 100001 (by decide) (by decide)⟩
  · have r2 := w_i64 (d + 1) (by omega) (by omega)
    by_cases d2 : 1000 < (is.length : Int) + fs.length
    · simp (implicitDefEqProofs := false) only [sB, simprocAttr, d1, Val.avs_len, Val.fvs_len, r0, d2]
      exact ⟨H, .tail _ _, h 100001 (by decide) (by decide)⟩
    · by_cases d3 : 10000 < (s.length : Int)
      · simp (implicitDefEqProofs := false) only [sB, simprocAttr, d1, Val.avs_len, Val.fvs_len, r0, d2, d3]
        exact ⟨H, .tail _ _, h 100001 (by decide) (by decide)⟩
      · simp (implicitDefEqProofs := false) only [sB, simprocAttr, d1, Val.avs_len, Val.fvs_len, r0, d2, d3, r1]
        refine i_loopJ (fun σ H1 => ∃ (i : Nat) (w : Int), H1 = (p, .cells [.int .i64 k, .str s, .int .i64 n, .bool b, .sl (Val.avs is) it, .sl (Val.fvs fs) ft]) :: H ∧ i ≤ is.length ∧ 0 ≤ w ∧ w ≤ 100000 ∧
            σ = [(1, .int .i64 d), (2, .ptr p 0), (5, .int .i64 w), (33, .sl (Val.avs is) it), (34, .int .i64 is.length), (35, .int .i64 i)])
          (fun σ _ => match σ.get 35 with | .int _ n => is.length - n.toNat | _ => 0)
          (fun e σ H1 => (e = .exit 0 ∧ ∃ w : Int, 0 ≤ w ∧ w ≤ 100000 ∧ H1 = (p, .cells [.int .i64 k, .str s, .int .i64 n, .bool b, .sl (Val.avs is) it, .sl (Val.fvs fs) ft]) :: H ∧ σ.get 1 = .int .i64 d ∧ σ.get 2 = .ptr p 0 ∧ σ.get 5 = .int .i64 w) ∨
            (e = .ret ∧ Hle H H1 ∧ σ.get 4 = .int .i64 100001))
          ⟨_, .refl _, 0, _, rfl, by omega, by omega, by omega, rfl⟩ ?_ ?_
        · rintro e σ H1 (⟨rfl, w, w0, w1, rfl, q1, q2, q5⟩ | ⟨rfl, hl, q4⟩)
          · simp (implicitDefEqProofs := false) only [sB, simprocAttr, q1, q2, q5, Val.avs_len, Val.fvs_len]
            refine i_loopJ (fun σ H1 => ∃ (i : Nat) (w : Int), Hle H H1 ∧ i ≤ fs.length ∧ 0 ≤ w ∧ w ≤ 100000 ∧
                σ = [(1, .int .i64 d), (5, .int .i64 w), (49, .sl (Val.fvs fs) ft), (50, .int .i64 fs.length), (51, .int .i64 i)])
              (fun σ _ => match σ.get 51 with | .int _ n => fs.length - n.toNat | _ => 0)
              (fun e σ H1 => Hle H H1 ∧ ((e = .exit 2 ∧ ∃ w : Int, 0 ≤ w ∧ w ≤ 100000 ∧ σ.get 5 = .int .i64 w) ∨
                (e = .ret ∧ σ.get 4 = .int .i64 100001)))
              ⟨_, .refl _, 0, _, .tail _ _, by omega, w0, w1, rfl⟩ ?_ ?_
            · rintro e σ H1 ⟨hl, ⟨rfl, w, w0, w1, q5⟩ | ⟨rfl, q4⟩⟩
              · simp (implicitDefEqProofs := false) only [sB, simprocAttr, q5]
                exact ⟨_, hl, h w w0 (by omega)⟩
              · simp (implicitDefEqProofs := false) only [sB, simprocAttr, q4]
                exact ⟨_, hl, h 100001 (by decide) (by decide)⟩
            · rintro Q hQ σ H1 ⟨i, w, hl, hi, w0, w1, rfl⟩
              simp (implicitDefEqProofs := false) only [sB, simprocAttr]
              refine i_if (fun c => ?_) (fun c => ?_)
              · have c' : i < fs.length := by simpa using c
                have wl := Val.wtf_le _ (List.getElem_mem c')
                have hx : (Val.fvs fs)[i]? = some (.agg (.str (fs[i]).1 :: (fs[i]).2.cs)) := by rw [Val.fvs_map, List.getElem?_map, List.getElem?_eq_getElem c']; rfl
                have r9 := w_i64 ((i : Int) + 1) (by omega) (by omega)
                have i0 : (0 : Int) ≤ (i : Int) := by omega
                generalize fs[i] = v at wl hx
                obtain ⟨key, k', s', n', b', it', is', ft', fs'⟩ := v
                simp only [Val.cs] at hx wl
                simp (implicitDefEqProofs := false) only [sB, simprocAttr, i0, hx]
                refine i_new fun q hq => ?_
                simp (implicitDefEqProofs := false) only [sB, simprocAttr, r2]
                refine x_c28 (by omega) (by omega) (by omega) (by omega) _ _ fun r hr0 hr1 => ?_
                have r3 := w_i64 (r + (key.length : Int)) (by omega) (by omega)
                have r4 := w_i64 (w + (r + (key.length : Int))) (by omega) (by omega)
                by_cases big : 100000 < w + (r + (key.length : Int))
                · simp (implicitDefEqProofs := false) only [sB, simprocAttr, r3, r4, big]
                  exact hQ _ _ _ ⟨hl.trans (.tail _ _), .inr ⟨rfl, rfl⟩⟩
                · simp (implicitDefEqProofs := false) only [sB, simprocAttr, r3, r4, big, r9]
                  exact ⟨_, .tail _ _, ⟨i + 1, w + (r + (key.length : Int)), hl, by omega, by omega, by omega, by simp⟩, by omega⟩
              · simp (implicitDefEqProofs := false) only [sB, simprocAttr]
                exact hQ _ _ _ ⟨hl, .inl ⟨rfl, _, w0, w1, rfl⟩⟩
          · simp (implicitDefEqProofs := false) only [sB, simprocAttr, q4]
            exact ⟨_, hl, h 100001 (by decide) (by decide)⟩
        · rintro Q hQ σ H1 ⟨i, w, rfl, hi, w0, w1, rfl⟩
          simp (implicitDefEqProofs := false) only [sB, simprocAttr]
          refine i_if (fun c => ?_) (fun c => ?_)
          · have c' : i < is.length := by simpa using c
            have wl := Val.wts_le _ (List.getElem_mem c')
            have hx : (Val.avs is)[i]? = some (.agg (is[i]).cs) := by rw [Val.avs_map, List.getElem?_map, List.getElem?_eq_getElem c']; rfl
            have r9 := w_i64 ((i : Int) + 1) (by omega) (by omega)
            have i0 : (0 : Int) ≤ (i : Int) := by omega
            generalize is[i] = v at wl hx
            obtain ⟨k', s', n', b', it', is', ft', fs'⟩ := v
            simp only [Val.cs] at hx
            simp (implicitDefEqProofs := false) only [sB, simprocAttr, i0, hx]
            refine i_new fun q hq => ?_
            simp (implicitDefEqProofs := false) only [sB, simprocAttr] at hq
            have hpq : ¬ p = q := fun e => hq.1 e.symm
            simp (implicitDefEqProofs := false) only [sB, simprocAttr, hq, hpq, r2]
            refine x_c28 (by omega) (by omega) (by omega) (by omega) _ _ fun r hr0 hr1 => ?_
            have r4 := w_i64 (w + r) (by omega) (by omega)
            by_cases big : 100000 < w + r
            · simp (implicitDefEqProofs := false) only [sB, simprocAttr, hq, hpq, r4, big]
              exact hQ _ _ _ (.inr ⟨rfl, hle2, rfl⟩)
            · simp (implicitDefEqProofs := false) only [sB, simprocAttr, hq, hpq, r4, big, r9]
              exact ⟨_, .tail _ _, ⟨i + 1, w + r, rfl, by omega, by omega, by omega, by simp⟩, by omega⟩
          · simp (implicitDefEqProofs := false) only [sB, simprocAttr]
            exact hQ _ _ _ (.inl ⟨rfl, _, w0, w1, rfl, rfl, rfl, rfl⟩)

/-- Equal to itself. -/
def c13 (N : Nat) (xs : List AV) (H : Heap) (K : Kv) : Prop := ∃ (k : Int) (s : List UInt8) (n : Int) (b : Bool) (it : Tok) (is : List Val) (ft : Tok) (fs : List Fld),
  xs = [.agg [.int .i64 k, .str s, .int .i64 n, .bool b, .sl (Val.avs is) it, .sl (Val.fvs fs) ft], .agg [.int .i64 k, .str s, .int .i64 n, .bool b, .sl (Val.avs is) it, .sl (Val.fvs fs) ft]] ∧ (Val.mk k s n b it is ft fs).wt ≤ N ∧ N ≤ 1099511627776 ∧ K.ap (.bool true) H
theorem x_c13 {N : Nat} {k : Int} {s : List UInt8} {n : Int} {b : Bool} {it : Tok} {is : List Val} {ft : Tok} {fs : List Fld} (h1 : (Val.mk k s n b it is ft fs).wt ≤ N) (h2 : N ≤ 1099511627776) (H : Heap) (K : Kv)
    (h : K.ap (.bool true) H) : c13 N [.agg [.int .i64 k, .str s, .int .i64 n, .bool b, .sl (Val.avs is) it, .sl (Val.fvs fs) ft], .agg [.int .i64 k, .str s, .int .i64 n, .bool b, .sl (Val.avs is) it, .sl (Val.fvs fs) ft]] H K :=
  ⟨_, _, _, _, _, _, _, _, rfl, h1, h2, h⟩
@[reducible] def t13 (N : Nat) (P : Program) : Th := ⟨fun _ => none, P, [(13, c13 N)]⟩
theorem c13_of (P : Program) {N : Nat} {xs : List AV} {H : Heap} {K : Kv} (h : c13 (N + 1) xs H K) : @xF (t13 N P) f13 xs H ⟨fun v H' => ∃ H0, Hle H0 H' ∧ K.ap v H0⟩ := by
  obtain ⟨k, s, n, b, it, is, ft, fs, rfl, hw, hN, h⟩ := h
  simp only [Val.wt] at hw
  have wi := Val.wts_len is
  have wf := Val.wtf_len fs
  simp (implicitDefEqProofs := false) only [sB, simprocAttr, f13]
  refine i_new fun p hp => ?_
  simp (implicitDefEqProofs := false) only [sB, simprocAttr]
  refine i_new fun q hq => ?_
  simp (implicitDefEqProofs := false) only [sB, simprocAttr] at hq
  have hpq : ¬ p = q := fun e => hq.1 e.symm
  simp (implicitDefEqProofs := false) only [sB, simprocAttr, hq, hpq, Val.avs_len, Val.fvs_len]
  refine i_loopJ (fun σ H1 => ∃ (i : Nat), H1 = (q, .cells [.int .i64 k, .str s, .int .i64 n, .bool b, .sl (Val.avs is) it, .sl (Val.fvs fs) ft]) :: (p, .cells [.int .i64 k, .str s, .int .i64 n, .bool b, .sl (Val.avs is) it, .sl (Val.fvs fs) ft]) :: H ∧ i ≤ is.length ∧ σ = [(2, .ptr p 0), (3, .ptr q 0), (5, .int .i64 i)])
    (fun σ _ => match σ.get 5 with | .int _ n => is.length - n.toNat | _ => 0)
    (fun e σ H1 => e = .exit 0 ∧ H1 = (q, .cells [.int .i64 k, .str s, .int .i64 n, .bool b, .sl (Val.avs is) it, .sl (Val.fvs fs) ft]) :: (p, .cells [.int .i64 k, .str s, .int .i64 n, .bool b, .sl (Val.avs is) it, .sl (Val.fvs fs) ft]) :: H ∧ σ.get 2 = .ptr p 0 ∧ σ.get 3 = .ptr q 0)
    ⟨_, .refl _, 0, rfl, by omega, rfl⟩ ?_ ?_
  · rintro e σ H1 ⟨rfl, rfl, q2, q3⟩
    simp (implicitDefEqProofs := false) only [sB, simprocAttr, q2, q3, hq, hpq, Val.avs_len, Val.fvs_len]
    refine i_loopJ (fun σ H1 => ∃ (i : Nat), H1 = (q, .cells [.int .i64 k, .str s, .int .i64 n, .bool b, .sl (Val.avs is) it, .sl (Val.fvs fs) ft]) :: (p, .cells [.int .i64 k, .str s, .int .i64 n, .bool b, .sl (Val.avs is) it, .sl (Val.fvs fs) ft]) :: H ∧ i ≤ fs.length ∧ σ = [(2, .ptr p 0), (3, .ptr q 0), (6, .int .i64 i)])
      (fun σ _ => match σ.get 6 with | .int _ n => fs.length - n.toNat | _ => 0)
      (fun e σ H1 => e = .exit 2 ∧ Hle H H1)
      ⟨_, .refl _, 0, rfl, by omega, rfl⟩ ?_ ?_
    · rintro e σ H1 ⟨rfl, hl⟩
      simp (implicitDefEqProofs := false) only [sB, simprocAttr]
      exact ⟨_, hl, h⟩
    · rintro Q hQ σ H1 ⟨i, rfl, hi, rfl⟩
      simp (implicitDefEqProofs := false) only [sB, simprocAttr, hq, hpq, Val.fvs_len]
      refine i_if (fun c => ?_) (fun c => ?_)
      · have c' : i < fs.length := by simpa using c
        have wl := Val.wtf_le _ (List.getElem_mem c')
        have hx : (Val.fvs fs)[i]? = some (.agg (.str (fs[i]).1 :: (fs[i]).2.cs)) := by rw [Val.fvs_map, List.getElem?_map, List.getElem?_eq_getElem c']; rfl
        have r9 := w_i64 ((i : Int) + 1) (by omega) (by omega)
        have i0 : (0 : Int) ≤ (i : Int) := by omega
        generalize fs[i] = v at wl hx
        obtain ⟨key, k', s', n', b', it', is', ft', fs'⟩ := v
        simp only [Val.cs] at hx wl
        simp (implicitDefEqProofs := false) only [sB, simprocAttr, i0, hx, hq, hpq]
        refine x_c13 (by omega) (by omega) _ _ ?_
        simp (implicitDefEqProofs := false) only [sB, simprocAttr, r9]
        exact ⟨_, .refl _, ⟨i + 1, rfl, by omega, by simp⟩, by omega⟩
      · simp (implicitDefEqProofs := false) only [sB, simprocAttr]
        exact hQ _ _ _ ⟨rfl, hle2⟩
  · rintro Q hQ σ H1 ⟨i, rfl, hi, rfl⟩
    simp (implicitDefEqProofs := false) only [sB, simprocAttr, hq, hpq, Val.avs_len]
    refine i_if (fun c => ?_) (fun c => ?_)
    · have c' : i < is.length := by simpa using c
      have wl := Val.wts_le _ (List.getElem_mem c')
      have hx : (Val.avs is)[i]? = some (.agg (is[i]).cs) := by rw [Val.avs_map, List.getElem?_map, List.getElem?_eq_getElem c']; rfl
      have r9 := w_i64 ((i : Int) + 1) (by omega) (by omega)
      have i0 : (0 : Int) ≤ (i : Int) := by omega
      generalize is[i] = v at wl hx
      obtain ⟨k', s', n', b', it', is', ft', fs'⟩ := v
      simp only [Val.cs] at hx
      simp (implicitDefEqProofs := false) only [sB, simprocAttr, i0, hx, hq, hpq]
      refine x_c13 (by omega) (by omega) _ _ ?_
      simp (implicitDefEqProofs := false) only [sB, simprocAttr, r9]
      exact ⟨_, .refl _, ⟨i + 1, rfl, by omega, by simp⟩, by omega⟩
    · simp (implicitDefEqProofs := false) only [sB, simprocAttr]
      exact hQ _ _ _ ⟨rfl, rfl, rfl, rfl⟩
end Go.AL.Fun
