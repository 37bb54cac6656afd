/- Values: the whole checks; lists of strings. -/
import Derived.Test.YtpeaphpibnikcaaV7
set_option linter.unusedSimpArgs false
set_option linter.unusedVariables false
set_option maxRecDepth 100000
set_option maxHeartbeats 2000000
namespace Go.AL.Fun
open Go Go.AL

def strsAV (l : List (List UInt8)) : List AV := l.map AV.str
theorem strs_len (l : List (List UInt8)) : (strsAV l).length = l.length := by simp [strsAV]
theorem strs_get (l : List (List UInt8)) (i : Nat) : (strsAV l)[i]? = (l[i]?).map AV.str := by simp [strsAV]
theorem strs_all (l : List (List UInt8)) : AllSz 1 (strsAV l) := by
  intro x hx; obtain ⟨s, _, rfl⟩ := List.mem_map.1 hx; rfl

def c18 (xs : List AV) (H : Heap) (K : Kv) : Prop := ∃ (k : Int) (s : List UInt8) (n : Int) (b : Bool) (it : Tok) (is : List Val) (ft : Tok) (fs : List Fld), xs = [.agg [.int .i64 k, .str s, .int .i64 n, .bool b, .sl (Val.avs is) it, .sl (Val.fvs fs) ft]] ∧ (Val.mk k s n b it is ft fs).wt ≤ 1099511627776 ∧ ∀ r : Int, 0 ≤ r → r ≤ 1 → K.ap (.int .i64 r) H
theorem x_c18 {k : Int} {s : List UInt8} {n : Int} {b : Bool} {it : Tok} {is : List Val} {ft : Tok} {fs : List Fld} (h1 : (Val.mk k s n b it is ft fs).wt ≤ 1099511627776) (H : Heap) (K : Kv) (h : ∀ r : Int, 0 ≤ r → r ≤ 1 → K.ap (.int .i64 r) H) : c18 [.agg [.int .i64 k, .str s, .int .i64 n, .bool b, .sl (Val.avs is) it, .sl (Val.fvs fs) ft]] H K := ⟨_, _, _, _, _, _, _, _, rfl, h1, h⟩
theorem c18_of (P : Program) {xs : List AV} {H : Heap} {K : Kv} (h : c18 xs H K) : @xF (t28 1099511627776 P) f18 xs H ⟨fun v H' => ∃ H0, Hle H0 H' ∧ K.ap v H0⟩ := by
  obtain ⟨k, s, n, b, it, is, ft, fs, rfl, hw, h⟩ := h
  simp (implicitDefEqProofs := false) only [sB, simprocAttr, f18]
  refine i_new fun p hp => ?_
  simp (implicitDefEqProofs := false) only [sB, simprocAttr]
  refine x_c28 hw (by decide) (by decide) (by decide) _ _ fun r r0 r1 => ?_
  by_cases c : 20000 < r
  · simp (implicitDefEqProofs := false) only [sB, simprocAttr, c]
    exact ⟨H, .tail _ _, h 1 (by decide) (by decide)⟩
  · simp (implicitDefEqProofs := false) only [sB, simprocAttr, c]
    exact ⟨H, .tail _ _, h 0 (by decide) (by decide)⟩
def c8 (xs : List AV) (H : Heap) (K : Kv) : Prop := ∃ (fs : List Fld) (ft : Tok) (l : List (List UInt8)) (t : Tok), xs = [.sl (Val.fvs fs) ft, .sl (strsAV l) t] ∧ Val.wtf fs ≤ 549755813888 ∧ ∀ r : Int, 0 ≤ r → r ≤ 1 → K.ap (.int .i64 r) H
theorem x_c8 {fs : List Fld} {ft : Tok} {l : List (List UInt8)} {t : Tok} (h1 : Val.wtf fs ≤ 549755813888) (H : Heap) (K : Kv) (h : ∀ r : Int, 0 ≤ r → r ≤ 1 → K.ap (.int .i64 r) H) : c8 [.sl (Val.fvs fs) ft, .sl (strsAV l) t] H K := ⟨_, _, _, _, rfl, h1, h⟩
theorem c8_of (P : Program) {xs : List AV} {H : Heap} {K : Kv} (h : c8 xs H K) : @xF ⟨fun _ => none, P, [(18, c18)]⟩ f8 xs H K := by
  obtain ⟨fs, ft, l, t, rfl, hw, h⟩ := h
  have e : Val.avs [] = [] := rfl
  by_cases c1 : (100 : Int) < fs.length
  · simp (implicitDefEqProofs := false) only [sB, simprocAttr, f8, Val.fvs_len, c1]
    exact h 1 (by decide) (by decide)
  · by_cases c2 : (100 : Int) < l.length
    · simp (implicitDefEqProofs := false) only [sB, simprocAttr, f8, Val.fvs_len, strs_len, c1, c2]
      exact h 1 (by decide) (by decide)
    · simp (implicitDefEqProofs := false) only [sB, simprocAttr, f8, Val.fvs_len, strs_len, c1, c2]
      refine x_c18 (is := []) (by simp only [Val.wt, Val.wts, List.length_nil]; omega) _ _ fun r r0 r1 => ?_
      simp (implicitDefEqProofs := false) only [sB, simprocAttr]
      exact h r r0 r1
def c19 (xs : List AV) (H : Heap) (K : Kv) : Prop := ∃ (k : Int) (s : List UInt8) (n : Int) (b : Bool) (it : Tok) (is : List Val) (ft : Tok) (fs : List Fld), xs = [.agg [.int .i64 k, .str s, .int .i64 n, .bool b, .sl (Val.avs is) it, .sl (Val.fvs fs) ft]] ∧ (Val.mk k s n b it is ft fs).wt ≤ 1099511627776 ∧ K.ap (.int .i64 (chk (.mk k s n b it is ft fs) 1)) H
theorem x_c19 {k : Int} {s : List UInt8} {n : Int} {b : Bool} {it : Tok} {is : List Val} {ft : Tok} {fs : List Fld} (h1 : (Val.mk k s n b it is ft fs).wt ≤ 1099511627776) (H : Heap) (K : Kv) (h : K.ap (.int .i64 (chk (.mk k s n b it is ft fs) 1)) H) : c19 [.agg [.int .i64 k, .str s, .int .i64 n, .bool b, .sl (Val.avs is) it, .sl (Val.fvs fs) ft]] H K := ⟨_, _, _, _, _, _, _, _, rfl, h1, h⟩
theorem c19_of (P : Program) {xs : List AV} {H : Heap} {K : Kv} (h : c19 xs H K) : @xF (t29 1099511627776 P) f19 xs H ⟨fun v H' => ∃ H0, Hle H0 H' ∧ K.ap v H0⟩ := by
  obtain ⟨k, s, n, b, it, is, ft, fs, rfl, hw, h⟩ := h
  simp (implicitDefEqProofs := false) only [sB, simprocAttr, f19]
  refine i_new fun p hp => ?_
  simp (implicitDefEqProofs := false) only [sB, simprocAttr]
  refine x_c29 hw (by decide) (by decide) (by decide) _ _ ?_
  simp (implicitDefEqProofs := false) only [sB, simprocAttr]
  exact ⟨H, .tail _ _, h⟩
def c22 (xs : List AV) (H : Heap) (K : Kv) : Prop := ∃ (k : Int) (s : List UInt8) (n : Int) (b : Bool) (it : Tok) (is : List Val) (ft : Tok) (fs : List Fld), xs = [.agg [.int .i64 k, .str s, .int .i64 n, .bool b, .sl (Val.avs is) it, .sl (Val.fvs fs) ft]] ∧ (Val.mk k s n b it is ft fs).wt ≤ 1099511627776 ∧ K.ap (.int .i64 (chk (.mk k s n b it is ft fs) 1)) H
theorem x_c22 {k : Int} {s : List UInt8} {n : Int} {b : Bool} {it : Tok} {is : List Val} {ft : Tok} {fs : List Fld} (h1 : (Val.mk k s n b it is ft fs).wt ≤ 1099511627776) (H : Heap) (K : Kv) (h : K.ap (.int .i64 (chk (.mk k s n b it is ft fs) 1)) H) : c22 [.agg [.int .i64 k, .str s, .int .i64 n, .bool b, .sl (Val.avs is) it, .sl (Val.fvs fs) ft]] H K := ⟨_, _, _, _, _, _, _, _, rfl, h1, h⟩
theorem c22_of (P : Program) {xs : List AV} {H : Heap} {K : Kv} (h : c22 xs H K) : @xF (t31 1099511627776 P) f22 xs H ⟨fun v H' => ∃ H0, Hle H0 H' ∧ K.ap v H0⟩ := by
  obtain ⟨k, s, n, b, it, is, ft, fs, rfl, hw, h⟩ := h
  simp (implicitDefEqProofs := false) only [sB, simprocAttr, f22]
  refine i_new fun p hp => ?_
  simp (implicitDefEqProofs := false) only [sB, simprocAttr]
  refine x_c29 hw (by decide) (by decide) (by decide) _ _ ?_
  simp (implicitDefEqProofs := false) only [sB, simprocAttr]
  exact ⟨H, .tail _ _, h⟩

/-- The index of the first that is no name. -/
def c21 (xs : List AV) (H : Heap) (K : Kv) : Prop := ∃ s, xs = [.str s] ∧ s.length ≤ 1099511627776 ∧ K.ap (.bool (!nameB s)) H
theorem x_c21 {s : List UInt8} (hs : s.length ≤ 1099511627776) (H : Heap) (K : Kv) : c21 [.str s] H K = K.ap (.bool (!nameB s)) H := by
  simp only [c21, List.cons.injEq, AV.str.injEq, and_true]
  exact propext ⟨fun ⟨_, e, _, h⟩ => e ▸ h, fun h => ⟨_, rfl, hs, h⟩⟩
theorem c21_of (P : Program) {xs : List AV} {H : Heap} {K : Kv} (h : c21 xs H K) : @xF ⟨fun _ => none, P, [(16, c16)]⟩ f21 xs H K := by
  obtain ⟨s, rfl, hs, h⟩ := h
  simp (implicitDefEqProofs := false) only [sB, simprocAttr, f21, x_c16 hs]
  exact h
def c30 (xs : List AV) (H : Heap) (K : Kv) : Prop := ∃ (l : List (List UInt8)) (t : Tok), xs = [.sl (strsAV l) t, .fn (.func 21) [] []] ∧ l.length ≤ 1099511627776 ∧ (∀ s ∈ l, s.length ≤ 1099511627776) ∧ ∀ r : Int, decide (0 ≤ r) = !(l.all nameB) → K.ap (.int .i64 r) H
theorem c30_of (P : Program) {xs : List AV} {H : Heap} {K : Kv} (h : c30 xs H K) : @xF ⟨fun _ => none, P, [(21, c21)]⟩ f30 xs H ⟨fun v H' => ∃ H0, Hle H0 H' ∧ K.ap v H0⟩ := by
  obtain ⟨l, t, rfl, hl, hs, h⟩ := h
  simp (implicitDefEqProofs := false) only [sB, simprocAttr, f30, strs_len]
  refine i_loopJ (fun σ H1 => ∃ (i : Nat), H1 = H ∧ i ≤ l.length ∧ (∀ s ∈ l.take i, nameB s = true) ∧ σ = [(0, .sl (strsAV l) t), (1, .fn (.func 21) [] []), (7, .int .i64 l.length), (8, .int .i64 i)])
    (fun σ _ => match σ.get 8 with | .int _ n => l.length - n.toNat | _ => 0)
    (fun e σ H1 => H1 = H ∧ ((e = .exit 0 ∧ l.all nameB = true) ∨ (e = .ret ∧ ∃ i : Nat, σ.get 4 = .int .i64 i ∧ l.all nameB = false)))
    ⟨_, .refl _, 0, rfl, by omega, by simp, rfl⟩ ?_ ?_
  · rintro e σ H1 ⟨rfl, ⟨rfl, ha⟩ | ⟨rfl, i, q4, ha⟩⟩
    · simp (implicitDefEqProofs := false) only [sB, simprocAttr]
      exact ⟨_, .refl _, h _ (by rw [ha]; rfl)⟩
    · simp (implicitDefEqProofs := false) only [sB, simprocAttr, q4]
      exact ⟨_, .refl _, h _ (by rw [ha]; simp)⟩
  · rintro Q hQ σ H1 ⟨i, rfl, hi, hall, rfl⟩
    simp (implicitDefEqProofs := false) only [sB, simprocAttr]
    refine i_if (fun c => ?_) (fun c => ?_)
    · have c' : i < l.length := by simpa using c
      have hx : l[i]? = some l[i] := List.getElem?_eq_getElem c'
      have r9 := w_i64 ((i : Int) + 1) (by omega) (by omega)
      have i0 : (0 : Int) ≤ (i : Int) := by omega
      have hsi := hs _ (List.getElem_mem c')
      by_cases nm : nameB l[i] = true
      · simp (implicitDefEqProofs := false) only [sB, simprocAttr, i0, strs_get, hx, Option.map_some, x_c21 hsi, nm, r9]
        refine ⟨_, .refl _, ⟨i + 1, rfl, by omega, ?_, by simp⟩, by omega⟩
        intro s hs'
        rw [List.take_add_one, hx] at hs'
        rcases List.mem_append.1 hs' with hs' | hs'
        · exact hall s hs'
        · simp at hs'; subst hs'; exact nm
      · simp (implicitDefEqProofs := false) only [sB, simprocAttr, i0, strs_get, hx, Option.map_some, x_c21 hsi, nm]
        refine hQ _ _ _ ⟨rfl, .inr ⟨rfl, i, rfl, ?_⟩⟩
        rw [Bool.eq_false_iff]; intro ha
        exact nm (List.all_eq_true.1 ha _ (List.getElem_mem c'))
    · have : i = l.length := by have : ¬ (i : Int) < l.length := by simpa using c
                                omega
      subst this
      rw [List.take_length] at hall
      simp (implicitDefEqProofs := false) only [sB, simprocAttr]
      exact hQ _ _ _ ⟨rfl, .inl ⟨rfl, List.all_eq_true.2 hall⟩⟩
def c20 (xs : List AV) (H : Heap) (K : Kv) : Prop := ∃ (l : List (List UInt8)) (t : Tok), xs = [.sl (strsAV l) t, .fn (.func 21) [] []] ∧ l.length ≤ 1099511627776 ∧ (∀ s ∈ l, s.length ≤ 1099511627776) ∧ K.ap (.bool (!(l.all nameB))) H
theorem x_c20 {l : List (List UInt8)} {t : Tok} (h1 : l.length ≤ 1099511627776) (h2 : ∀ s ∈ l, s.length ≤ 1099511627776) (H : Heap) (K : Kv) (h : K.ap (.bool (!(l.all nameB))) H) : c20 [.sl (strsAV l) t, .fn (.func 21) [] []] H K := ⟨_, _, rfl, h1, h2, h⟩
theorem c20_of (P : Program) {xs : List AV} {H : Heap} {K : Kv} (h : c20 xs H K) : @xF ⟨fun _ => none, P, [(30, c30)]⟩ f20 xs H K := by
  obtain ⟨l, t, rfl, hl, hs, h⟩ := h
  simp (implicitDefEqProofs := false) only [sB, simprocAttr, f20]
  refine ⟨l, t, rfl, hl, hs, fun r hr => ?_⟩
  simp (implicitDefEqProofs := false) only [sB, simprocAttr, hr]
  exact h
def c24 (xs : List AV) (H : Heap) (K : Kv) : Prop := ∃ (l : List (List UInt8)) (t : Tok) (v : List UInt8), xs = [.sl (strsAV l) t, .str v] ∧ l.length ≤ 1099511627776 ∧ K.ap (.bool (decide (v ∈ l))) H
theorem x_c24 {l : List (List UInt8)} {t : Tok} {v : List UInt8} (h1 : l.length ≤ 1099511627776) (H : Heap) (K : Kv) (h : K.ap (.bool (decide (v ∈ l))) H) : c24 [.sl (strsAV l) t, .str v] H K := ⟨_, _, _, rfl, h1, h⟩
theorem c24_of (P : Program) {xs : List AV} {H : Heap} {K : Kv} (h : c24 xs H K) : @xF (t0 P) f24 xs H ⟨fun v H' => ∃ H0, Hle H0 H' ∧ K.ap v H0⟩ := by
  obtain ⟨l, t, v, rfl, hl, h⟩ := h
  simp (implicitDefEqProofs := false) only [sB, simprocAttr, f24, strs_len]
  refine i_loopJ (fun σ H1 => ∃ (i : Nat), H1 = H ∧ i ≤ l.length ∧ v ∉ l.take i ∧ σ = [(0, .sl (strsAV l) t), (1, .str v), (5, .int .i64 i)])
    (fun σ _ => match σ.get 5 with | .int _ n => l.length - n.toNat | _ => 0)
    (fun e σ H1 => H1 = H ∧ ((e = .exit 0 ∧ v ∉ l) ∨ (e = .ret ∧ σ.get 4 = .bool true ∧ v ∈ l)))
    ⟨_, .refl _, 0, rfl, by omega, by simp, rfl⟩ ?_ ?_
  · rintro e σ H1 ⟨rfl, ⟨rfl, ha⟩ | ⟨rfl, q4, ha⟩⟩
    · rw [decide_eq_false ha] at h
      simp (implicitDefEqProofs := false) only [sB, simprocAttr]
      exact ⟨_, .refl _, h⟩
    · rw [decide_eq_true ha] at h
      simp (implicitDefEqProofs := false) only [sB, simprocAttr, q4]
      exact ⟨_, .refl _, h⟩
  · rintro Q hQ σ H1 ⟨i, rfl, hi, hall, rfl⟩
    simp (implicitDefEqProofs := false) only [sB, simprocAttr, strs_len]
    refine i_if (fun c => ?_) (fun c => ?_)
    · have c' : i < l.length := by simpa using c
      have hx : l[i]? = some l[i] := List.getElem?_eq_getElem c'
      have r9 := w_i64 ((i : Int) + 1) (by omega) (by omega)
      have i0 : (0 : Int) ≤ (i : Int) := by omega
      by_cases eq : l[i] = v
      · have mem : v ∈ l := eq ▸ List.getElem_mem c'
        have eq' : v = l[i] := eq.symm
        simp (implicitDefEqProofs := false) only [sB, simprocAttr, i0, strs_get, hx, Option.map_some, eq]
        exact hQ _ _ _ ⟨rfl, .inr ⟨rfl, rfl, mem⟩⟩
      · have eq' : ¬ v = l[i] := fun h => eq h.symm
        simp (implicitDefEqProofs := false) only [sB, simprocAttr, i0, strs_get, hx, Option.map_some, eq, eq', r9]
        refine ⟨_, .refl _, ⟨i + 1, rfl, by omega, ?_, by simp⟩, by omega⟩
        rw [List.take_add_one, hx]
        intro hm
        rcases List.mem_append.1 hm with hm | hm
        · exact hall hm
        · simp at hm; exact eq' hm
    · have : i = l.length := by have : ¬ (i : Int) < l.length := by simpa using c
                                omega
      subst this
      rw [List.take_length] at hall
      simp (implicitDefEqProofs := false) only [sB, simprocAttr]
      exact hQ _ _ _ ⟨rfl, .inl ⟨rfl, hall⟩⟩
def c26 (xs : List AV) (H : Heap) (K : Kv) : Prop := ∃ (l : List (List UInt8)) (t : Tok) (v : List UInt8), xs = [.sl (strsAV l) t, .str v] ∧ l.length ≤ 1099511627776 ∧ ∀ r : Int, decide (0 ≤ r) = decide (v ∈ l) → K.ap (.int .i64 r) H
theorem x_c26 {l : List (List UInt8)} {t : Tok} {v : List UInt8} (h1 : l.length ≤ 1099511627776) (H : Heap) (K : Kv) (h : ∀ r : Int, decide (0 ≤ r) = decide (v ∈ l) → K.ap (.int .i64 r) H) : c26 [.sl (strsAV l) t, .str v] H K := ⟨_, _, _, rfl, h1, h⟩
theorem c26_of (P : Program) {xs : List AV} {H : Heap} {K : Kv} (h : c26 xs H K) : @xF (t0 P) f26 xs H ⟨fun v H' => ∃ H0, Hle H0 H' ∧ K.ap v H0⟩ := by
  obtain ⟨l, t, v, rfl, hl, h⟩ := h
  simp (implicitDefEqProofs := false) only [sB, simprocAttr, f26, strs_len]
  refine i_loopJ (fun σ H1 => ∃ (i : Nat), H1 = H ∧ i ≤ l.length ∧ v ∉ l.take i ∧ σ = [(0, .sl (strsAV l) t), (1, .str v), (7, .int .i64 l.length), (8, .int .i64 i)])
    (fun σ _ => match σ.get 8 with | .int _ n => l.length - n.toNat | _ => 0)
    (fun e σ H1 => H1 = H ∧ ((e = .exit 0 ∧ v ∉ l) ∨ (e = .ret ∧ ∃ i : Nat, σ.get 4 = .int .i64 i ∧ v ∈ l)))
    ⟨_, .refl _, 0, rfl, by omega, by simp, rfl⟩ ?_ ?_
  · rintro e σ H1 ⟨rfl, ⟨rfl, ha⟩ | ⟨rfl, i, q4, ha⟩⟩
    · simp (implicitDefEqProofs := false) only [sB, simprocAttr]
      exact ⟨_, .refl _, h _ (by rw [decide_eq_false ha]; rfl)⟩
    · simp (implicitDefEqProofs := false) only [sB, simprocAttr, q4]
      exact ⟨_, .refl _, h _ (by rw [decide_eq_true ha]; simp)⟩
  · rintro Q hQ σ H1 ⟨i, rfl, hi, hall, rfl⟩
    simp (implicitDefEqProofs := false) only [sB, simprocAttr, strs_len]
    refine i_if (fun c => ?_) (fun c => ?_)
    · have c' : i < l.length := by simpa using c
      have hx : l[i]? = some l[i] := List.getElem?_eq_getElem c'
      have r9 := w_i64 ((i : Int) + 1) (by omega) (by omega)
      have i0 : (0 : Int) ≤ (i : Int) := by omega
      by_cases eq : l[i] = v
      · have mem : v ∈ l := eq ▸ List.getElem_mem c'
        have eq' : v = l[i] := eq.symm
        simp (implicitDefEqProofs := false) only [sB, simprocAttr, i0, strs_get, hx, Option.map_some, eq]
        exact hQ _ _ _ ⟨rfl, .inr ⟨rfl, i, rfl, mem⟩⟩
      · have eq' : ¬ v = l[i] := fun h => eq h.symm
        simp (implicitDefEqProofs := false) only [sB, simprocAttr, i0, strs_get, hx, Option.map_some, eq, eq', r9]
        refine ⟨_, .refl _, ⟨i + 1, rfl, by omega, ?_, by simp⟩, by omega⟩
        rw [List.take_add_one, hx]
        intro hm
        rcases List.mem_append.1 hm with hm | hm
        · exact hall hm
        · simp at hm; exact eq' hm
    · have : i = l.length := by have : ¬ (i : Int) < l.length := by simpa using c
                                omega
      subst this
      rw [List.take_length] at hall
      simp (implicitDefEqProofs := false) only [sB, simprocAttr]
      exact hQ _ _ _ ⟨rfl, .inl ⟨rfl, hall⟩⟩
def c15 (xs : List AV) (H : Heap) (K : Kv) : Prop := ∃ (l : List (List UInt8)) (t : Tok) (v : List UInt8), xs = [.sl (strsAV l) t, .str v] ∧ l.length ≤ 1099511627776 ∧ K.ap (.bool (decide (v ∈ l))) H
theorem x_c15 {l : List (List UInt8)} {t : Tok} {v : List UInt8} (h1 : l.length ≤ 1099511627776) (H : Heap) (K : Kv) (h : K.ap (.bool (decide (v ∈ l))) H) : c15 [.sl (strsAV l) t, .str v] H K := ⟨_, _, _, rfl, h1, h⟩
theorem c15_of (P : Program) {xs : List AV} {H : Heap} {K : Kv} (h : c15 xs H K) : @xF ⟨fun _ => none, P, [(26, c26)]⟩ f15 xs H K := by
  obtain ⟨l, t, v, rfl, hl, h⟩ := h
  simp (implicitDefEqProofs := false) only [sB, simprocAttr, f15]
  refine x_c26 hl _ _ fun r hr => ?_
  simp (implicitDefEqProofs := false) only [sB, simprocAttr, hr]
  exact h
/-- Two lists of strings compared. -/
def c14 (xs : List AV) (H : Heap) (K : Kv) : Prop := ∃ (l : List (List UInt8)) (t : Tok) (m : List (List UInt8)) (u : Tok), xs = [.sl (strsAV l) t, .sl (strsAV m) u] ∧ l.length ≤ 1099511627776 ∧ K.ap (.bool (decide (l = m))) H
theorem x_c14 {l m : List (List UInt8)} {t u : Tok} (h1 : l.length ≤ 1099511627776) (H : Heap) (K : Kv) (h : K.ap (.bool (decide (l = m))) H) : c14 [.sl (strsAV l) t, .sl (strsAV m) u] H K := ⟨_, _, _, _, rfl, h1, h⟩
theorem c14_of (P : Program) {xs : List AV} {H : Heap} {K : Kv} (h : c14 xs H K) : @xF (t0 P) f14 xs H ⟨fun v H' => ∃ H0, Hle H0 H' ∧ K.ap v H0⟩ := by
  obtain ⟨l, t, m, u, rfl, hl, h⟩ := h
  by_cases ln : (l.length : Int) = m.length
  · simp (implicitDefEqProofs := false) only [sB, simprocAttr, f14, strs_len, ln]
    refine i_loopJ (fun σ H1 => ∃ (i : Nat), H1 = H ∧ i ≤ l.length ∧ l.take i = m.take i ∧ σ = [(0, .sl (strsAV l) t), (1, .sl (strsAV m) u), (12, .int .i64 m.length), (13, .int .i64 i)])
      (fun σ _ => match σ.get 13 with | .int _ n => l.length - n.toNat | _ => 0)
      (fun e σ H1 => H1 = H ∧ ((e = .exit 0 ∧ l = m) ∨ (e = .ret ∧ σ.get 4 = .bool false ∧ l ≠ m)))
      ⟨_, .refl _, 0, rfl, by omega, by simp, rfl⟩ ?_ ?_
    · rintro e σ H1 ⟨rfl, ⟨rfl, ha⟩ | ⟨rfl, q4, ha⟩⟩
      · rw [decide_eq_true ha] at h
        simp (implicitDefEqProofs := false) only [sB, simprocAttr]
        exact ⟨_, .refl _, h⟩
      · rw [decide_eq_false ha] at h
        simp (implicitDefEqProofs := false) only [sB, simprocAttr, q4]
        exact ⟨_, .refl _, h⟩
    · rintro Q hQ σ H1 ⟨i, rfl, hi, hall, rfl⟩
      simp (implicitDefEqProofs := false) only [sB, simprocAttr, strs_len]
      refine i_if (fun c => ?_) (fun c => ?_)
      · have cm : i < m.length := by simpa using c
        have c' : i < l.length := by omega
        have hx : l[i]? = some l[i] := List.getElem?_eq_getElem c'
        have hy : m[i]? = some m[i] := List.getElem?_eq_getElem cm
        have r9 := w_i64 ((i : Int) + 1) (by omega) (by omega)
        have i0 : (0 : Int) ≤ (i : Int) := by omega
        by_cases eq : l[i] = m[i]
        · simp (implicitDefEqProofs := false) only [sB, simprocAttr, i0, strs_get, hx, hy, Option.map_some, eq, r9]
          exact ⟨_, .refl _, ⟨i + 1, rfl, by omega, by rw [List.take_add_one, List.take_add_one, hx, hy, hall, eq], by simp⟩, by omega⟩
        · simp (implicitDefEqProofs := false) only [sB, simprocAttr, i0, strs_get, hx, hy, Option.map_some, eq]
          exact hQ _ _ _ ⟨rfl, .inr ⟨rfl, rfl, fun h => eq (by subst h; rfl)⟩⟩
      · have e1 : i = l.length := by have : ¬ (i : Int) < m.length := by simpa using c
                                     omega
        have e2 : l = m := by
          rw [List.take_of_length_le (by omega), List.take_of_length_le (by omega)] at hall; exact hall
        simp (implicitDefEqProofs := false) only [sB, simprocAttr]
        exact hQ _ _ _ ⟨rfl, .inl ⟨rfl, e2⟩⟩
  · rw [decide_eq_false (fun e => ln (by rw [e]))] at h
    simp (implicitDefEqProofs := false) only [sB, simprocAttr, f14, strs_len, ln]
    exact ⟨H, .refl _, h⟩
end Go.AL.Fun
