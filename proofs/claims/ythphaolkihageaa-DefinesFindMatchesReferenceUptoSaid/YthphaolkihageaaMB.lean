/- Definitions of a template: Find of both sides, walked. -/
import Derived.Test.YthphaolkihageaaM9
set_option linter.unusedSimpArgs false
set_option linter.unusedVariables false
set_option maxRecDepth 100000
set_option maxHeartbeats 4000000
namespace Go.AL.Fun
open Go Go.AL

def c17 (xs : List AV) (H : Heap) (K : Kv) : Prop := ∃ (n : Nd) (nb : Nat) (name : List UInt8), xs = [.agg n.cs, .ptr nb 0] ∧ lookH nb H = some (.cells [.str name]) ∧ K.ap (.bool (hitB name n)) H
theorem c17_of (P : Program) {xs : List AV} {H : Heap} {K : Kv} (h : c17 xs H K) : @xF (t0 P) f17 xs H ⟨fun v H' => ∃ H0, Hle H0 H' ∧ K.ap v H0⟩ := by
  obtain ⟨⟨k, p, s, q, hp, he, b, e⟩, nb, name, rfl, hl, h⟩ := h
  simp only [Nd.cs, hitB, Nd.k, Nd.n] at h ⊢
  by_cases c : k = 6
  · by_cases c2 : s = name
    · simp (implicitDefEqProofs := false) only [sB, simprocAttr, f17]
      refine i_new fun z hz => ?_
      have e := key_ne hl hz
      simp (implicitDefEqProofs := false) only [sB, simprocAttr, c, c2, e, hl]
      simp only [c, c2, decide_true, Bool.and_self] at h
      exact ⟨_, .tail _ _, h⟩
    · simp (implicitDefEqProofs := false) only [sB, simprocAttr, f17]
      refine i_new fun z hz => ?_
      have e := key_ne hl hz
      simp (implicitDefEqProofs := false) only [sB, simprocAttr, c, c2, e, hl]
      simp only [c, c2, decide_true, decide_false, Bool.and_false] at h
      exact ⟨_, .tail _ _, h⟩
  · simp (implicitDefEqProofs := false) only [sB, simprocAttr, f17]
    refine i_new fun z hz => ?_
    simp (implicitDefEqProofs := false) only [sB, simprocAttr, c]
    simp only [c, decide_false, Bool.false_and] at h
    exact ⟨_, .tail _ _, h⟩
def c29 (xs : List AV) (H : Heap) (K : Kv) : Prop := ∃ (n : Nd), xs = [.agg n.cs] ∧ K.ap (.bool (dfn n)) H
theorem c29_of (P : Program) {xs : List AV} {H : Heap} {K : Kv} (h : c29 xs H K) : @xF (t0 P) f29 xs H ⟨fun v H' => ∃ H0, Hle H0 H' ∧ K.ap v H0⟩ := by
  obtain ⟨⟨k, p, s, q, hp, he, b, e⟩, rfl, h⟩ := h
  simp only [Nd.cs, dfn, Nd.k] at h ⊢
  by_cases c : k = 6
  · simp (implicitDefEqProofs := false) only [sB, simprocAttr, f29]
    refine i_new fun z hz => ?_
    simp (implicitDefEqProofs := false) only [sB, simprocAttr, c]
    simp only [c, decide_true] at h
    exact ⟨_, .tail _ _, h⟩
  · simp (implicitDefEqProofs := false) only [sB, simprocAttr, f29]
    refine i_new fun z hz => ?_
    simp (implicitDefEqProofs := false) only [sB, simprocAttr, c]
    simp only [c, decide_false] at h
    exact ⟨_, .tail _ _, h⟩
/-- Where the first lies. -/
def idxP (pr : Nd → Bool) (l : List Nd) : Int := match l.findIdx? pr with | some i => (i : Int) | none => -1
theorem idxP_none {pr : Nd → Bool} {l : List Nd} (h : ∀ j (hj : j < l.length), pr l[j] = false) : idxP pr l = -1 := by
  unfold idxP
  rw [List.findIdx?_eq_none_iff.2 fun x hx => by
    obtain ⟨j, hj, e⟩ := List.mem_iff_getElem.1 hx
    rw [← e]; exact h j hj]
theorem idxP_at {pr : Nd → Bool} {l : List Nd} {i : Nat} (hi : i < l.length) (h1 : pr l[i] = true) (h : ∀ j (hj : j < i), pr (l[j]'(by omega)) = false) : idxP pr l = i := by
  unfold idxP
  rw [List.findIdx?_eq_some_iff_getElem.2 ⟨hi, h1, fun j hj => by simpa using h j hj⟩]
theorem take8 (n : Nd) : n.cs.take 8 = n.cs := List.take_of_length_le (by rw [cs_len]; exact Nat.le_refl _)
/-- What is asked of a node. -/
def AskP (F : AV) (pr : Nd → Bool) (H : Heap) : Prop := (∃ nb name, F = .fn (.func 17) [] [.ptr nb 0] ∧ lookH nb H = some (.cells [.str name]) ∧ pr = hitB name) ∨ (F = .fn (.func 29) [] [] ∧ pr = dfn)
def c16 (xs : List AV) (H : Heap) (K : Kv) : Prop := ∃ (l : List Nd) (t : Tok) (F : AV) (pr : Nd → Bool), xs = [.sl (Nd.avs l) t, F] ∧ l.length ≤ 1099511627776 ∧ AskP F pr H ∧ K.ap (.int .i64 (idxP pr l)) H
theorem x_c16 {l : List Nd} {t : Tok} {F : AV} {pr : Nd → Bool} {H : Heap} {K : Kv} (h1 : l.length ≤ 1099511627776) (h2 : AskP F pr H) (k : K.ap (.int .i64 (idxP pr l)) H) : c16 [.sl (Nd.avs l) t, F] H K := ⟨l, t, F, pr, rfl, h1, h2, k⟩
@[reducible] def t16 (P : Program) : Th := ⟨fun _ => none, P, [(17, c17), (29, c29)]⟩
theorem ask_ap (P : Program) {F : AV} {pr : Nd → Bool} {H : Heap} {K : Kv} (h : AskP F pr H) (n : Nd) (k : K.ap (.bool (pr n)) H) : xE (t := t16 P) .callv [F, .agg n.cs] H (K := K) := by
  rcases h with ⟨nb, name, rfl, hl, rfl⟩ | ⟨rfl, rfl⟩
  · simp (implicitDefEqProofs := false) only [sB, simprocAttr]
    exact ⟨n, nb, name, rfl, hl, k⟩
  · simp (implicitDefEqProofs := false) only [sB, simprocAttr]
    exact ⟨n, rfl, k⟩
theorem c16_of (P : Program) {xs : List AV} {H : Heap} {K : Kv} (h : c16 xs H K) : @xF (t16 P) f16 xs H ⟨fun v H' => ∃ H0, Hle H0 H' ∧ K.ap v H0⟩ := by
  obtain ⟨l, t, F, pr, rfl, hl, ha, h⟩ := h
  simp (implicitDefEqProofs := false) only [sB, simprocAttr, f16, nds_len]
  refine i_loopJ (fun σ H1 => ∃ (i : Nat), H1 = H ∧ i ≤ l.length ∧ (∀ j (hj : j < i) (hj2 : j < l.length), pr l[j] = false) ∧ σ = [(0, .sl (Nd.avs l) t), (1, F), (7, .int .i64 l.length), (8, .int .i64 i)])
    (fun σ _ => match σ.get 8 with | .int _ n => l.length - n.toNat | _ => 0)
    (fun e σ H1 => H1 = H ∧ ((e = .exit 0 ∧ idxP pr l = -1) ∨ (e = .ret ∧ σ.get 4 = .int .i64 (idxP pr l))))
    ⟨_, .refl _, 0, rfl, by omega, fun j hj => by omega, rfl⟩ ?_ ?_
  · rintro e σ H1 ⟨rfl, ⟨rfl, e1⟩ | ⟨rfl, q4⟩⟩
    · simp (implicitDefEqProofs := false) only [sB, simprocAttr]
      rw [e1] at h
      exact ⟨_, .refl _, h⟩
    · simp (implicitDefEqProofs := false) only [sB, simprocAttr, q4]
      exact ⟨_, .refl _, h⟩
  · rintro Q hQ σ H1 ⟨i, rfl, hi, hj, rfl⟩
    by_cases c : i < l.length
    · have c' : (i : Int) < (l.length : Int) := by omega
      have i0 : (0 : Int) ≤ (i : Int) := by omega
      have r9 := w_i64 ((i : Int) + 1) (by omega) (by omega)
      have hx : (Nd.avs l)[i]? = some (.agg (l[i]).cs) := by rw [nds_get, List.getElem?_eq_getElem c]; rfl
      simp (implicitDefEqProofs := false) only [sB, simprocAttr, c', i0, hx, cs_len, take8]
      refine ask_ap P ha l[i] ?_
      cases hp : pr l[i] with
      | true =>
        simp (implicitDefEqProofs := false) only [sB, simprocAttr]
        exact hQ _ _ _ ⟨rfl, .inr ⟨rfl, by rw [idxP_at c hp fun j hj' => hj j hj' (by omega)]; rfl⟩⟩
      | false =>
        simp (implicitDefEqProofs := false) only [sB, simprocAttr, r9]
        refine ⟨_, .refl _, ⟨i + 1, rfl, by omega, fun j hj' hj2 => ?_, by simp⟩, by omega⟩
        by_cases e : j = i
        · subst e; exact hp
        · exact hj j (by omega) hj2
    · have c' : ¬ (i : Int) < (l.length : Int) := by omega
      simp (implicitDefEqProofs := false) only [sB, simprocAttr, c']
      exact hQ _ _ _ ⟨rfl, .inl ⟨rfl, idxP_none fun j hj' => hj j (by omega) hj'⟩⟩
def resD : Option Nd → AV
  | none => .tup [.agg zeroN, .bool false]
  | some d => .tup [.agg d.cs, .bool true]
theorem find_idx (l : List Nd) (name : List UInt8) : (findD l name = none ∧ idxP (hitB name) l = -1) ∨ ∃ i, ∃ h : i < l.length, findD l name = some l[i] ∧ idxP (hitB name) l = i := by
  cases hf : l.findIdx? (hitB name) with
  | none =>
    refine .inl ⟨List.find?_eq_none.2 fun x hx => ?_, by unfold idxP; rw [hf]⟩
    have := List.findIdx?_eq_none_iff.1 hf x hx
    simp [this]
  | some i =>
    obtain ⟨hi, h1, h2⟩ := List.findIdx?_eq_some_iff_getElem.1 hf
    refine .inr ⟨i, hi, ?_, by unfold idxP; rw [hf]⟩
    unfold findD
    rw [List.find?_eq_some_iff_getElem]
    exact ⟨h1, i, hi, rfl, fun j hj => by simpa using h2 j hj⟩
def c6 (xs : List AV) (H : Heap) (K : Kv) : Prop := ∃ (l : List Nd) (t : Tok) (name : List UInt8), xs = [.sl (Nd.avs l) t, .str name] ∧ l.length ≤ 1099511627776 ∧ K.ap (resD (findD l name)) H
theorem x_c6 {l : List Nd} {t : Tok} {name : List UInt8} {H : Heap} {K : Kv} (h1 : l.length ≤ 1099511627776) (k : K.ap (resD (findD l name)) H) : c6 [.sl (Nd.avs l) t, .str name] H K := ⟨l, t, name, rfl, h1, k⟩
theorem c6_of (P : Program) {xs : List AV} {H : Heap} {K : Kv} (h : c6 xs H K) : @xF ⟨fun _ => none, P, [(16, c16)]⟩ f6 xs H ⟨fun v H' => ∃ H0, Hle H0 H' ∧ K.ap v H0⟩ := by
  obtain ⟨l, t, name, rfl, hl, h⟩ := h
  simp (implicitDefEqProofs := false) only [sB, simprocAttr, f6]
  refine i_new fun nb hnb => ?_
  simp (implicitDefEqProofs := false) only [sB, simprocAttr]
  refine i_new fun z hz => ?_
  have e1 : ¬ nb = z := fun e => by subst e; simp [Heap.keys] at hz
  simp (implicitDefEqProofs := false) only [sB, simprocAttr, e1]
  refine x_c16 hl (.inl ⟨nb, name, rfl, by simp [lookH, e1], rfl⟩) ?_
  rcases find_idx l name with ⟨hf, hi⟩ | ⟨i, hlt, hf, hi⟩
  · rw [hf] at h
    simp (implicitDefEqProofs := false) only [sB, simprocAttr, hi, e1]
    exact ⟨_, .of_sub (.cons _ (.cons _ (.refl _))), h⟩
  · rw [hf] at h
    have i0 : (0 : Int) ≤ (i : Int) := by omega
    have i1 : ¬ (i : Int) < 0 := by omega
    have hx : (Nd.avs l)[i]? = some (.agg (l[i]).cs) := by rw [nds_get, List.getElem?_eq_getElem hlt]; rfl
    generalize l[i] = d at h hx
    obtain ⟨k, p, s, q, hp, he, b, e⟩ := d
    simp only [Nd.cs] at hx
    simp (implicitDefEqProofs := false) only [sB, simprocAttr, hi, e1, i0, i1, hx]
    exact ⟨_, .of_sub (.cons _ (.cons _ (.refl _))), h⟩
def c7 (xs : List AV) (H : Heap) (K : Kv) : Prop := ∃ (l : List Nd) (t : Tok) (name : List UInt8), xs = [.sl (Nd.avs l) t, .str name] ∧ l.length ≤ 1099511627776 ∧ K.ap (resD (findD l name)) H
theorem x_c7 {l : List Nd} {t : Tok} {name : List UInt8} {H : Heap} {K : Kv} (h1 : l.length ≤ 1099511627776) (k : K.ap (resD (findD l name)) H) : c7 [.sl (Nd.avs l) t, .str name] H K := ⟨l, t, name, rfl, h1, k⟩
theorem c7_of (P : Program) {xs : List AV} {H : Heap} {K : Kv} (h : c7 xs H K) : @xF (t0 P) f7 xs H ⟨fun v H' => ∃ H0, Hle H0 H' ∧ K.ap v H0⟩ := by
  obtain ⟨l, t, name, rfl, hl, h⟩ := h
  simp (implicitDefEqProofs := false) only [sB, simprocAttr, f7]
  refine i_new fun z hz => ?_
  simp (implicitDefEqProofs := false) only [sB, simprocAttr]
  refine i_loopJ (fun σ H1 => ∃ (i : Nat), H1 = (z, .cells zeroN) :: H ∧ i ≤ l.length ∧ (∀ j (hj : j < i) (hj2 : j < l.length), hitB name l[j] = false) ∧ σ = [(0, .sl (Nd.avs l) t), (1, .str name), (4, .ptr z 0), (6, .int .i64 i)])
    (fun σ _ => match σ.get 6 with | .int _ n => l.length - n.toNat | _ => 0)
    (fun e σ H1 => (e = .exit 0 ∧ findD l name = none ∧ H1 = (z, .cells zeroN) :: H ∧ σ.get 4 = .ptr z 0) ∨ (e = .ret ∧ ∃ d, findD l name = some d ∧ H1 = (z, .cells d.cs) :: H ∧ σ.get 4 = .ptr z 0 ∧ σ.get 5 = .bool true))
    ⟨_, .refl _, 0, rfl, by omega, fun j hj => by omega, rfl⟩ ?_ ?_
  · rintro e σ H1 (⟨rfl, e1, rfl, q4⟩ | ⟨rfl, d, e1, rfl, q4, q5⟩)
    · rw [e1] at h
      simp (implicitDefEqProofs := false) only [sB, simprocAttr, zeroN, q4]
      exact ⟨_, .tail _ _, h⟩
    · rw [e1] at h
      simp (implicitDefEqProofs := false) only [sB, simprocAttr, q4, q5, cs_len, take8]
      exact ⟨_, .tail _ _, h⟩
  · rintro Q hQ σ H1 ⟨i, rfl, hi, hj, rfl⟩
    by_cases c : i < l.length
    · have c' : (i : Int) < (l.length : Int) := by omega
      have i0 : (0 : Int) ≤ (i : Int) := by omega
      have r9 := w_i64 ((i : Int) + 1) (by omega) (by omega)
      have hx : (Nd.avs l)[i]? = some (.agg (l[i]).cs) := by rw [nds_get, List.getElem?_eq_getElem c]; rfl
      have next : hitB name l[i] = false → ∀ j (hj : j < i + 1) (hj2 : j < l.length), hitB name l[j] = false := fun hh j hj' hj2 => by
        by_cases e : j = i
        · subst e; exact hh
        · exact hj j (by omega) hj2
      have fnd : hitB name l[i] = true → findD l name = some l[i] := fun hh => by
        unfold findD
        rw [List.find?_eq_some_iff_getElem]
        exact ⟨hh, i, c, rfl, fun j hj' => by simpa using hj j hj' (by omega)⟩
      generalize l[i] = d at hx next fnd
      obtain ⟨k, p, s, q, hp, he, b, e⟩ := d
      simp only [Nd.cs] at hx
      by_cases c1 : k = 6
      · by_cases c2 : s = name
        · simp (implicitDefEqProofs := false) only [sB, simprocAttr, nds_len, c', i0, hx, c1, c2, zeroN]
          exact hQ _ _ _ (.inr ⟨rfl, _, fnd (by simp [hitB, Nd.k, Nd.n, c1, c2]), by simp [Nd.cs, c1, c2], rfl, rfl⟩)
        · simp (implicitDefEqProofs := false) only [sB, simprocAttr, nds_len, c', i0, hx, c1, c2, r9]
          exact ⟨_, .refl _, ⟨i + 1, rfl, by omega, next (by simp [hitB, Nd.k, Nd.n, c2]), by simp⟩, by omega⟩
      · simp (implicitDefEqProofs := false) only [sB, simprocAttr, nds_len, c', i0, hx, c1, r9]
        exact ⟨_, .refl _, ⟨i + 1, rfl, by omega, next (by simp [hitB, Nd.k, Nd.n, c1]), by simp⟩, by omega⟩
    · have c' : ¬ (i : Int) < (l.length : Int) := by omega
      simp (implicitDefEqProofs := false) only [sB, simprocAttr, nds_len, c']
      refine hQ _ _ _ (.inl ⟨rfl, List.find?_eq_none.2 fun x hx => ?_, rfl, rfl⟩)
      obtain ⟨j, hj', e⟩ := List.mem_iff_getElem.1 hx
      rw [← e, hj j (by omega) hj']; decide
end Go.AL.Fun
