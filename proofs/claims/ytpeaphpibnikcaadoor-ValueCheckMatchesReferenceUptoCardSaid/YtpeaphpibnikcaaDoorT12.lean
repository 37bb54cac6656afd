/- Fields looked up. -/
import Derived.Test.YtpeaphpibnikcaaDoorT11
set_option linter.unusedSimpArgs false
set_option linter.unusedVariables false
set_option maxRecDepth 100000
set_option maxHeartbeats 4000000
namespace Go.AL.Fun
open Go Go.AL Go.Proofs

theorem key_ne {pp q : Nat} {H : Heap} {o : AObj} (h : lookH pp H = some o) (hq : q ∉ Heap.keys H) : ¬ pp = q := by
  intro e
  subst e
  induction H with
  | nil => simp [lookH] at h
  | cons a H ih =>
    obtain ⟨j, o'⟩ := a
    simp only [Heap.keys, List.map_cons, List.mem_cons, not_or] at hq
    simp only [lookH, if_neg hq.1] at h
    exact ih h hq.2
def fieldG (k : Int) (fs : List Fld) (key : List UInt8) : Res := if k = 4 then fieldR fs key else (zeroV, 18)
theorem c31g4 (P : Program) {G : Nat → Option (List AV)} {H : Heap} {K : Kv} {s0 : List UInt8} {n0 : Int} {b0 : Bool} {it0 : Tok} {is0 : List Val} {ft : Tok} {fs : List Fld} {key : List UInt8} (hl : fs.length ≤ 1099511627776) (h : K.ap (.tup [.agg (fieldR fs key).1.cs, .int .i64 (fieldR fs key).2]) H) : @xF ⟨G, P, []⟩ f31 [.agg [.int .i64 4, .str s0, .int .i64 n0, .bool b0, .sl (Val.avs is0) it0, .sl (Val.fvs fs) ft], .str key] H ⟨fun v H' => ∃ H0, Hle H0 H' ∧ K.ap v H0⟩ := by
  simp (implicitDefEqProofs := false) only [sB, simprocAttr, f31]
  refine i_new fun p hp => ?_
  simp (implicitDefEqProofs := false) only [sB, simprocAttr]
  refine i_new fun q hq => ?_
  simp (implicitDefEqProofs := false) only [sB, simprocAttr] at hq
  have hpq : ¬ p = q := fun e => hq.1 e.symm
  simp (implicitDefEqProofs := false) only [sB, simprocAttr, hq, hpq]
  refine i_loopJ (fun σ H1 => ∃ (i : Nat), H1 = (q, .cells [.int .i64 0, .str [], .int .i64 0, .bool false, .sl [] .nil, .sl [] .nil]) :: (p, .cells [.int .i64 4, .str s0, .int .i64 n0, .bool b0, .sl (Val.avs is0) it0, .sl (Val.fvs fs) ft]) :: H ∧ i ≤ fs.length ∧
      (fs.find? fun f => decide (f.1 = key)) = ((fs.drop i).find? fun f => decide (f.1 = key)) ∧ σ = [(1, .str key), (2, .ptr p 0), (4, .ptr q 0), (6, .int .i64 i)])
    (fun σ _ => match σ.get 6 with | .int _ n => fs.length - n.toNat | _ => 0)
    (fun e σ H1 => (e = .exit 0 ∧ fieldR fs key = (zeroV, 17) ∧ H1 = (q, .cells [.int .i64 0, .str [], .int .i64 0, .bool false, .sl [] .nil, .sl [] .nil]) :: (p, .cells [.int .i64 4, .str s0, .int .i64 n0, .bool b0, .sl (Val.avs is0) it0, .sl (Val.fvs fs) ft]) :: H ∧ σ.get 4 = .ptr q 0) ∨
      (e = .ret ∧ H1 = (q, .cells (fieldR fs key).1.cs) :: (p, .cells [.int .i64 4, .str s0, .int .i64 n0, .bool b0, .sl (Val.avs is0) it0, .sl (Val.fvs fs) ft]) :: H ∧ σ.get 4 = .ptr q 0 ∧ σ.get 5 = .int .i64 (fieldR fs key).2))
    ⟨_, .refl _, 0, rfl, by omega, rfl, rfl⟩ ?_ ?_
  · rintro e σ H1 (⟨rfl, e1, rfl, q4⟩ | ⟨rfl, rfl, q4, q5⟩)
    · rw [e1] at h
      simp (implicitDefEqProofs := false) only [sB, simprocAttr, q4, hq, hpq]
      exact ⟨_, hle2, h⟩
    · generalize fieldR fs key = r at h q5 ⊢
      obtain ⟨⟨k', s', n', b', it', is', ft', fs'⟩, e'⟩ := r
      simp only [Val.cs] at h q5 ⊢
      simp (implicitDefEqProofs := false) only [sB, simprocAttr, q4, q5, hq, hpq]
      exact ⟨_, hle2, h⟩
  · rintro Q hQ σ H1 ⟨i, rfl, hi, hch, rfl⟩
    simp (implicitDefEqProofs := false) only [sB, simprocAttr, hq, hpq, Val.fvs_len]
    refine i_if (fun c => ?_) (fun c => ?_)
    · have c' : i < fs.length := by simpa using c
      rw [List.drop_eq_getElem_cons c', List.find?_cons] at hch
      have hx : (Val.fvs fs)[i]? = some (.agg (.str (fs[i]).1 :: (fs[i]).2.cs)) := by rw [Val.fvs_map, List.getElem?_map, List.getElem?_eq_getElem c']; rfl
      have r9 := w_i64 ((i : Int) + 1) (by omega) (by omega)
      have i0 : (0 : Int) ≤ (i : Int) := by omega
      generalize fs[i] = v at hch hx
      obtain ⟨ky, k', s', n', b', it', is', ft', fs'⟩ := v
      simp only [Val.cs] at hx hch
      by_cases eq : ky = key
      · have fr : fieldR fs key = (.mk k' s' n' b' it' is' ft' fs', 0) := by unfold fieldR; rw [hch]; simp [eq]
        simp (implicitDefEqProofs := false) only [sB, simprocAttr, i0, hx, hq, hpq, eq]
        exact hQ _ _ _ (.inr ⟨rfl, by rw [fr]; rfl, rfl, by rw [fr]; rfl⟩)
      · simp (implicitDefEqProofs := false) only [sB, simprocAttr, i0, hx, hq, hpq, eq, r9]
        refine ⟨_, .refl _, ⟨i + 1, rfl, by omega, ?_, by simp⟩, by omega⟩
        rw [hch]; simp [eq]
    · have e1 : i = fs.length := by have : ¬ (i : Int) < fs.length := by simpa using c
                                    omega
      subst e1
      rw [List.drop_length] at hch
      simp (implicitDefEqProofs := false) only [sB, simprocAttr]
      exact hQ _ _ _ (.inl ⟨rfl, by unfold fieldR; rw [hch]; rfl, rfl, rfl⟩)
def c31g (xs : List AV) (H : Heap) (K : Kv) : Prop := ∃ (k : Int) (s : List UInt8) (n : Int) (b : Bool) (it : Tok) (is : List Val) (ft : Tok) (fs : List Fld) (key : List UInt8), xs = [.agg [.int .i64 k, .str s, .int .i64 n, .bool b, .sl (Val.avs is) it, .sl (Val.fvs fs) ft], .str key] ∧ fs.length ≤ 1099511627776 ∧ K.ap (.tup [.agg (fieldG k fs key).1.cs, .int .i64 (fieldG k fs key).2]) H
theorem c31g_of (P : Program) {G : Nat → Option (List AV)} {xs : List AV} {H : Heap} {K : Kv} (h : c31g xs H K) : @xF ⟨G, P, []⟩ f31 xs H ⟨fun v H' => ∃ H0, Hle H0 H' ∧ K.ap v H0⟩ := by
  obtain ⟨k, s, n, b, it, is, ft, fs, key, rfl, hl, h⟩ := h
  by_cases k4 : k = 4
  · subst k4
    exact c31g4 P hl h
  · unfold fieldG at h
    rw [if_neg k4] at h
    simp (implicitDefEqProofs := false) only [sB, simprocAttr, f31]
    refine i_new fun p hp => ?_
    simp (implicitDefEqProofs := false) only [sB, simprocAttr]
    refine i_new fun q hq => ?_
    simp (implicitDefEqProofs := false) only [sB, simprocAttr] at hq
    have hpq : ¬ p = q := fun e => hq.1 e.symm
    simp (implicitDefEqProofs := false) only [sB, simprocAttr, hq, hpq, k4]
    exact ⟨_, hle2, h⟩
/-- The first field with a key. -/
def c30 (xs : List AV) (H : Heap) (K : Kv) : Prop := ∃ (key ky : List UInt8) (nm : Nat) (k : Int) (s : List UInt8) (n : Int) (b : Bool) (it : Tok) (is : List Val) (ft : Tok) (fs : List Fld),
  xs = [.agg [.str ky, .int .i64 k, .str s, .int .i64 n, .bool b, .sl (Val.avs is) it, .sl (Val.fvs fs) ft], .ptr nm 0] ∧ lookH nm H = some (.cells [.str key]) ∧ K.ap (.bool (decide (ky = key))) H
theorem c30_of (P : Program) {G : Nat → Option (List AV)} {xs : List AV} {H : Heap} {K : Kv} (h : c30 xs H K) : @xF ⟨G, P, []⟩ f30 xs H ⟨fun v H' => ∃ H0, Hle H0 H' ∧ K.ap v H0⟩ := by
  obtain ⟨key, ky, nm, k, s, n, b, it, is, ft, fs, rfl, hl, h⟩ := h
  simp (implicitDefEqProofs := false) only [sB, simprocAttr, f30]
  refine i_new fun p hp => ?_
  have hne : ¬ nm = p := key_ne hl hp
  simp (implicitDefEqProofs := false) only [sB, simprocAttr, hl, hne]
  exact ⟨_, .tail _ _, h⟩
def findN (fs : List Fld) (key : List UInt8) : Int := match fs.findIdx? fun f => decide (f.1 = key) with | some i => i | none => -1
theorem findN_none {fs : List Fld} {key : List UInt8} (h : ∀ f ∈ fs, f.1 ≠ key) : findN fs key = -1 ∧ fieldR fs key = (zeroV, 17) := by
  constructor
  · unfold findN
    rw [List.findIdx?_eq_none_iff.2 fun x hx => by simpa using h x hx]
  · unfold fieldR
    rw [List.find?_eq_none.2 fun x hx => by simpa using h x hx]
theorem findN_some {fs : List Fld} {key : List UInt8} {i : Nat} {f : Fld} (hi : fs[i]? = some f) (hf : f.1 = key) (h : ∀ j, j < i → ∀ f, fs[j]? = some f → f.1 ≠ key) : findN fs key = i ∧ fieldR fs key = (f.2, 0) := by
  obtain ⟨hlt, rfl⟩ := List.getElem?_eq_some_iff.1 hi
  constructor
  · unfold findN
    rw [List.findIdx?_eq_some_iff_getElem.2 ⟨hlt, by simpa using hf, fun j hj => by simpa using h j hj _ (List.getElem?_eq_getElem (by omega))⟩]
  · unfold fieldR
    rw [List.find?_eq_some_iff_getElem.2 ⟨by simpa using hf, i, hlt, rfl, fun j hj => by simpa using h j hj _ (List.getElem?_eq_getElem (by omega))⟩]
theorem findN_cases (fs : List Fld) (key : List UInt8) : (findN fs key = -1 ∧ fieldR fs key = (zeroV, 17)) ∨ ∃ (i : Nat) (f : Fld), fs[i]? = some f ∧ findN fs key = i ∧ fieldR fs key = (f.2, 0) := by
  by_cases h : ∃ f ∈ fs, f.1 = key
  · right
    cases hn : fs.findIdx? (fun f => decide (f.1 = key)) with
    | none =>
      obtain ⟨f, hf, e⟩ := h
      have := List.findIdx?_eq_none_iff.1 hn f hf
      simp [e] at this
    | some i =>
      obtain ⟨hlt, h1, h2⟩ := List.findIdx?_eq_some_iff_getElem.1 hn
      refine ⟨i, fs[i], List.getElem?_eq_getElem hlt, findN_some (List.getElem?_eq_getElem hlt) (by simpa using h1) fun j hj f hf => ?_⟩
      obtain ⟨hj', rfl⟩ := List.getElem?_eq_some_iff.1 hf
      simpa using h2 j hj
  · left
    exact findN_none fun f hf e => h ⟨f, hf, e⟩
def c29 (xs : List AV) (H : Heap) (K : Kv) : Prop := ∃ (key : List UInt8) (nm : Nat) (ft : Tok) (fs : List Fld),
  xs = [.sl (Val.fvs fs) ft, .fn (.func 30) [] [.ptr nm 0]] ∧ lookH nm H = some (.cells [.str key]) ∧ fs.length ≤ 1099511627776 ∧ K.ap (.int .i64 (findN fs key)) H
theorem c29_of (P : Program) {G : Nat → Option (List AV)} {xs : List AV} {H : Heap} {K : Kv} (h : c29 xs H K) : @xF ⟨G, P, [(30, c30)]⟩ f29 xs H ⟨fun v H' => ∃ H0, Hle H0 H' ∧ K.ap v H0⟩ := by
  obtain ⟨key, nm, ft, fs, rfl, hk, hl, h⟩ := h
  simp (implicitDefEqProofs := false) only [sB, simprocAttr, f29, Val.fvs_len]
  refine i_loopJ (fun σ H1 => ∃ (i : Nat), H1 = H ∧ i ≤ fs.length ∧ (∀ j, j < i → ∀ f, fs[j]? = some f → f.1 ≠ key) ∧ σ = [(0, .sl (Val.fvs fs) ft), (1, .fn (.func 30) [] [.ptr nm 0]), (7, .int .i64 fs.length), (8, .int .i64 i)])
    (fun σ _ => match σ.get 8 with | .int _ n => fs.length - n.toNat | _ => 0)
    (fun e σ H1 => H1 = H ∧ ((e = .exit 0 ∧ findN fs key = -1) ∨ (e = .ret ∧ σ.get 4 = .int .i64 (findN fs key))))
    ⟨_, .refl _, 0, rfl, by omega, by intro j hj; omega, rfl⟩ ?_ ?_
  · rintro e σ H1 ⟨rfl, ⟨rfl, e1⟩ | ⟨rfl, q4⟩⟩
    · rw [e1] at h
      simp (implicitDefEqProofs := false) only [sB, simprocAttr]
      exact ⟨_, .refl _, h⟩
    · simp (implicitDefEqProofs := false) only [sB, simprocAttr, q4]
      exact ⟨_, .refl _, h⟩
  · rintro Q hQ σ H1 ⟨i, rfl, hi, hno, rfl⟩
    simp (implicitDefEqProofs := false) only [sB, simprocAttr]
    refine i_if (fun c => ?_) (fun c => ?_)
    · have hlt : i < fs.length := by simpa using c
      have hx : (Val.fvs fs)[i]? = some (.agg (.str (fs[i]).1 :: (fs[i]).2.cs)) := by rw [Val.fvs_map, List.getElem?_map, List.getElem?_eq_getElem hlt]; rfl
      have hfi : fs[i]? = some fs[i] := List.getElem?_eq_getElem hlt
      have r9 := w_i64 ((i : Int) + 1) (by omega) (by omega)
      have i0 : (0 : Int) ≤ (i : Int) := by omega
      generalize fs[i] = v at hfi hx
      obtain ⟨ky, k', s', n', b', it', is', ft', fs'⟩ := v
      simp only [Val.cs] at hx
      simp (implicitDefEqProofs := false) only [sB, simprocAttr, i0, hx, Val.fvs_len, c]
      refine ⟨key, ky, nm, k', s', n', b', it', is', ft', fs', rfl, hk, ?_⟩
      by_cases eq : ky = key
      · have e1 := findN_some hfi eq hno
        simp (implicitDefEqProofs := false) only [sB, simprocAttr, eq]
        exact hQ _ _ _ ⟨rfl, .inr ⟨rfl, by rw [e1.1]; rfl⟩⟩
      · simp (implicitDefEqProofs := false) only [sB, simprocAttr, eq, r9]
        refine ⟨_, .refl _, ⟨i + 1, rfl, by omega, fun j hj f hf => ?_, by simp⟩, by omega⟩
        by_cases ej : j = i
        · subst ej; rw [hfi] at hf; cases hf; exact eq
        · exact hno j (by omega) f hf
    · have e1 : i = fs.length := by have : ¬ (i : Int) < fs.length := by simpa using c
                                    omega
      simp (implicitDefEqProofs := false) only [sB, simprocAttr]
      refine hQ _ _ _ ⟨rfl, .inl ⟨rfl, ?_⟩⟩
      refine (findN_none fun f hf => ?_).1
      obtain ⟨j, hj⟩ := List.getElem?_of_mem hf
      exact hno j (by have := (List.getElem?_eq_some_iff.1 hj).1; omega) f hj
end Go.AL.Fun
