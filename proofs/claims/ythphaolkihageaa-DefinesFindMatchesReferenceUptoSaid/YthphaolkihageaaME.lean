/- Definitions of a template: Main, walked. -/
import Derived.Test.YthphaolkihageaaMA
import Derived.Test.YthphaolkihageaaMD
set_option linter.unusedSimpArgs false
set_option linter.unusedVariables false
set_option maxRecDepth 100000
set_option maxHeartbeats 4000000
namespace Go.AL.Fun
open Go Go.AL

/-- A literal of wide elements that may be written. -/
theorem i_bslm {t : Th} {sz n : Nat} {z : List AV} {pl : List (Nat × Nat)} {xs : List AV} {H : Heap} {K : Kv} (hs : sz ≠ 1) (cs : List AV) (h1 : fillL ((List.replicate n z).flatten) pl xs = some cs)
    (hK : ∀ id, id ∉ H.keys → K.ap (.msl id 0 n sz) ((id, .cells cs) :: H)) : xE (t := t) (.bslice sz n z pl) xs H (K := K) := by
  have : xE (t := t) (.bslice sz n z pl) xs H (K := K) = match fillL ((List.replicate n z).flatten) pl xs with
    | some cs => if sz = 1 then (if isU8 z && n != 0 then (∀ id, id ∉ H.keys → K.ap (.msl id 0 n 1) ((id, .cells cs) :: H))
          else (∀ id, id ∉ H.keys → K.ap (.msl id 0 n 1) ((id, .cells cs) :: H)) ∨ ((AllSz 1 cs ∧ cs.length = n ∧ flat cs = cs) ∧ ∀ id, id ∉ H.keys → K.ap (.sl cs (.at id n 1)) ((id, .spare n) :: H)))
        else (∀ id, id ∉ H.keys → K.ap (.msl id 0 n sz) ((id, .cells cs) :: H)) ∨
         (∃ ys, AllSz sz ys ∧ ys.length = n ∧ flat ys = cs ∧ ∀ id, id ∉ H.keys → K.ap (.sl ys (.at id (n * sz) sz)) ((id, .spare (n * sz)) :: H))
    | none => False := by cases xs <;> rfl
  rw [this, h1]
  simp only [if_neg hs]
  exact .inl hK
/-- Clone. -/
def c28 (xs : List AV) (H : Heap) (K : Kv) : Prop := ∃ (l : List Nd) (t : Tok), xs = [.sl (Nd.avs l) t] ∧ l.length ≤ 1000000 ∧ (t = .nil → l = [] ∧ K.ap (.sl [] .nil) H) ∧ (t ≠ .nil → ∀ id, id ∉ H.keys → K.ap (.msl id 0 l.length 8) ((id, .cells (flat (Nd.avs l))) :: H))
theorem c28_of (P : Program) {xs : List AV} {H : Heap} {K : Kv} (h : c28 xs H K) : @xF (t0 P) f28 xs H ⟨fun v H' => ∃ H0, Hle H0 H' ∧ K.ap v H0⟩ := by
  obtain ⟨l, t, rfl, hl, h1, h2⟩ := h
  by_cases e : t = .nil
  · obtain ⟨rfl, h⟩ := h1 e
    subst e
    simp (implicitDefEqProofs := false) only [sB, simprocAttr, f28, Nd.avs]
    exact ⟨_, .refl _, h⟩
  · have h := h2 e
    simp (implicitDefEqProofs := false) only [sB, simprocAttr, f28, e]
    refine i_bslm (by decide) [] rfl fun u0 hu0 => ?_
    simp (implicitDefEqProofs := false) only [sB, simprocAttr, x_appm, nds_all, nds_len]
    refine ⟨⟨by omega, by omega⟩, by simpa [Heap.keys] using hu0, i_otherM fun u hu => ?_⟩
    simp (implicitDefEqProofs := false) only [sB, simprocAttr, nds_len]
    exact ⟨_, .refl _, h u hu⟩
/-- The search, in a list that may be written. -/
def m16 (xs : List AV) (H : Heap) (K : Kv) : Prop := ∃ (u : Nat) (l : List Nd), xs = [.msl u 0 l.length 8, .fn (.func 29) [] []] ∧ l.length ≤ 1000000 ∧ lookH u H = some (.cells (flat (Nd.avs l))) ∧ K.ap (.int .i64 (idxP dfn l)) H
theorem m16_ok {P : Program} (h : ∀ xs H K, c16 xs H ⟨K⟩ → ACalls (fun _ => none) P 16 xs H K) : ∀ xs H K, m16 xs H ⟨K⟩ → ACalls (fun _ => none) P 16 xs H K := by
  rintro xs H K ⟨u, l, rfl, hl1, hl, k⟩
  have hp := h [.sl (Nd.avs l) .no, .fn (.func 29) [] []] [] (fun v _ => v = .int .i64 (idxP dfn l)) (x_c16 (by omega) (.inr ⟨rfl, rfl⟩) rfl)
  refine ⟨hp.1, fun B w0 m w cargs hs hr => ?_⟩
  obtain ⟨c, r2, e2, g2, hr⟩ := hr.uncons
  obtain ⟨d, r3, e3, g4, hr⟩ := hr.uncons
  have e4 := hr.unnil
  subst e3 e4
  obtain rfl : cargs = #[c, d] := by cases cargs; simp_all
  have g3 : Rel (im0 w) (.sl (Nd.avs l) .no) c := Rel.thaw hs g2 (lookH_mem hl) (nds_all l) (nds_len l) (by decide)
  refine (hp.pureH hs (((RelL.nil _).cons (g4.mono hs.le_im0)).cons g3)).mono ?_
  rintro e w' ⟨cv, m1, rfl, hr1, hs'⟩
  refine ⟨_, cv, m, H, rfl, .refl m, hs', ?_, k⟩
  cases hr1
  exact .int _ _
def q16 (xs : List AV) (H : Heap) (K : Kv) : Prop := c16 xs H K ∨ m16 xs H K
theorem main_take {l : List Nd} {i : Nat} (h : i < l.length) : (dfn l[i] = true → mainR (l.take (i + 1)) = mainR (l.take i)) ∧ (dfn l[i] = false → mainR (l.take (i + 1)) = mainR (l.take i) ++ [l[i]]) := by
  rw [take_one h]
  unfold mainR
  rw [List.filter_append]
  exact ⟨fun c => by simp [c], fun c => by simp [c]⟩
theorem main_len (l : List Nd) : (mainR l).length ≤ l.length := List.length_filter_le _ _
theorem flat_app (a b : List AV) : flat (a ++ b) = flat a ++ flat b := by simp [flat]
/-- DeleteFunc of the definitions. -/
def c27 (xs : List AV) (H : Heap) (K : Kv) : Prop := (xs = [.sl [] .nil, .fn (.func 29) [] []] ∧ K.ap (.sl [] .nil) H) ∨ ∃ (u : Nat) (l : List Nd) (R : Heap), xs = [.msl u 0 l.length 8, .fn (.func 29) [] []] ∧ H = (u, .cells (flat (Nd.avs l))) :: R ∧ H.keys.Nodup ∧ l.length ≤ 1000000 ∧
  ∀ vs, vs.take ((mainR l).length * 8) = flat (Nd.avs (mainR l)) → K.ap (.msl u 0 (mainR l).length 8) ((u, .cells vs) :: R)
theorem c27_of (P : Program) {xs : List AV} {H : Heap} {K : Kv} (h : c27 xs H K) : @xF ⟨fun _ => none, P, [(16, q16), (29, c29)]⟩ f27 xs H ⟨fun v H' => ∃ H0, Hle H0 H' ∧ K.ap v H0⟩ := by
  rcases h with ⟨rfl, h⟩ | ⟨u, l, R, rfl, rfl, hn, hl, h⟩
  · simp (implicitDefEqProofs := false) only [sB, simprocAttr, f27]
    refine .inl (x_c16 (l := []) (by decide) (.inr ⟨rfl, rfl⟩) ?_)
    rw [idxP_none (fun j hj => by cases hj)]
    simp (implicitDefEqProofs := false) only [sB, simprocAttr]
    exact ⟨_, .refl _, h⟩
  simp (implicitDefEqProofs := false) only [sB, simprocAttr, f27]
  refine .inr ⟨u, l, rfl, hl, by simp [lookH], ?_⟩
  have fl : (flat (Nd.avs l)).length = l.length * 8 := by rw [flat_len (nds_all l), nds_len]
  cases hf : l.findIdx? dfn with
  | none =>
    have e : idxP dfn l = -1 := by unfold idxP; rw [hf]
    have e2 : mainR l = l := List.filter_eq_self.2 fun x hx => by simpa using List.findIdx?_eq_none_iff.1 hf x hx
    simp (implicitDefEqProofs := false) only [sB, simprocAttr, e]
    rw [e2] at h
    exact ⟨_, .refl _, h _ (by rw [List.take_of_length_le (by omega)])⟩
  | some i0 =>
    obtain ⟨hi0, p1, p2⟩ := List.findIdx?_eq_some_iff_getElem.1 hf
    have e : idxP dfn l = (i0 : Int) := by unfold idxP; rw [hf]
    have ne : ¬ (i0 : Int) = -1 := by omega
    have r0 := w_i64 ((i0 : Int) + 1) (by omega) (by omega)
    have e2 : mainR (l.take i0) = l.take i0 := List.filter_eq_self.2 fun x hx => by
      obtain ⟨j, hj, e⟩ := List.mem_iff_getElem.1 hx
      have hj' : j < i0 := by rw [List.length_take] at hj; omega
      rw [List.getElem_take] at e
      rw [← e]
      simpa using p2 j hj'
    have e3 : mainR (l.take (i0 + 1)) = l.take i0 := by rw [(main_take hi0).1 p1, e2]
    simp (implicitDefEqProofs := false) only [sB, simprocAttr, e, ne, r0]
    refine i_loopJ (fun σ H1 => ∃ (j : Nat) (vs : List AV), H1 = (u, .cells vs) :: R ∧ j ≤ l.length ∧ vs.length = l.length * 8 ∧ (mainR (l.take j)).length ≤ j ∧ vs.take ((mainR (l.take j)).length * 8) = flat (Nd.avs (mainR (l.take j))) ∧ vs.drop (j * 8) = (flat (Nd.avs l)).drop (j * 8) ∧
        σ = [(0, .msl u 0 l.length 8), (1, .fn (.func 29) [] []), (5, .int .i64 (mainR (l.take j)).length), (6, .int .i64 j)])
      (fun σ _ => match σ.get 6 with | .int _ n => l.length - n.toNat | _ => 0)
      (fun e σ H1 => e = .exit 0 ∧ ∃ vs, H1 = (u, .cells vs) :: R ∧ vs.length = l.length * 8 ∧ vs.take ((mainR l).length * 8) = flat (Nd.avs (mainR l)) ∧ σ.get 0 = .msl u 0 l.length 8 ∧ σ.get 5 = .int .i64 (mainR l).length)
      ⟨_, .refl _, i0 + 1, flat (Nd.avs l), rfl, by omega, fl, by rw [e3, List.length_take]; omega, ?_, rfl, ?_⟩ ?_ ?_
    · rw [e3]
      have e5 : Nd.avs l = Nd.avs (l.take i0) ++ Nd.avs (l.drop i0) := by rw [← nds_app, List.take_append_drop]
      rw [e5, flat_app, List.take_left' (by rw [flat_len (nds_all _), nds_len])]
    · have e4 : (mainR (l.take (i0 + 1))).length = i0 := by rw [e3, List.length_take]; omega
      rw [e4]
      rfl
    · rintro e σ H1 ⟨rfl, vs, rfl, hv, ht, q0, q5⟩
      have ml := main_len l
      have m0 : (0 : Int) ≤ ((mainR l).length : Int) := by omega
      have m1 : ((mainR l).length : Int) ≤ (l.length : Int) := by omega
      simp (implicitDefEqProofs := false) only [sB, simprocAttr, q0, q5, x_clrm, m0, m1]
      refine ⟨by omega, _, .refl _, h _ ?_⟩
      rw [List.take_append_of_le_length (by rw [List.length_take]; omega), List.take_take, Nat.min_self, ht]
    · rintro Q hQ σ H1 ⟨j, vs, rfl, hj, hv, hm, ht, hd, rfl⟩
      by_cases c : j < l.length
      · have c' : (j : Int) < (l.length : Int) := by omega
        have j0 : (0 : Int) ≤ (j : Int) := by omega
        have r9 := w_i64 ((j : Int) + 1) (by omega) (by omega)
        have rd : (vs.drop (j * 8)).take 8 = (l[j]).cs := by
          rw [hd]
          exact flat_get (nds_all l) (by rw [nds_get, List.getElem?_eq_getElem c]; rfl)
        have mt := main_take c
        simp (implicitDefEqProofs := false) only [sB, simprocAttr, c', j0, rd]
        refine ⟨by omega, i_new fun z hz => ?_⟩
        have huz : ¬ u = z := fun e => by subst e; simp [Heap.keys] at hz
        simp (implicitDefEqProofs := false) only [sB, simprocAttr, cs_len, take8]
        refine ⟨l[j], rfl, ?_⟩
        have hd1 : vs.drop ((j + 1) * 8) = (flat (Nd.avs l)).drop ((j + 1) * 8) := by
          rw [Nat.add_mul, ← List.drop_drop, hd, List.drop_drop]
        cases hp : dfn l[j] with
        | true =>
          have e5 := mt.1 hp
          simp (implicitDefEqProofs := false) only [sB, simprocAttr, r9]
          refine ⟨_, .tail _ _, ⟨j + 1, vs, rfl, by omega, hv, by rw [e5]; omega, by rw [e5]; exact ht, hd1, by rw [e5]; simp⟩, by omega⟩
        | false =>
          have e5 := mt.2 hp
          have e6 : (mainR (l.take (j + 1))).length = (mainR (l.take j)).length + 1 := by rw [e5]; simp
          have m0 : (0 : Int) ≤ ((mainR (l.take j)).length : Int) := by omega
          have m1 : ((mainR (l.take j)).length : Int) < (l.length : Int) := by omega
          have r8 := w_i64 (((mainR (l.take j)).length : Int) + 1) (by omega) (by omega)
          simp (implicitDefEqProofs := false) only [sB, simprocAttr, huz, cs_len, take8, m0, m1, r9, r8]
          have c8 := cs_len l[j]
          have hlen : (vs.take ((mainR (l.take j)).length * 8) ++ ((l[j]).cs ++ vs.drop ((mainR (l.take j)).length * 8 + 8))).length = l.length * 8 := by
            simp only [List.length_append, List.length_take, List.length_drop, c8]; omega
          refine ⟨by omega, _, .tail _ _, ⟨j + 1, _, rfl, by omega, hlen, by omega, ?_, ?_, by rw [e6]; simp⟩, by omega⟩
          · have e7 : flat (Nd.avs (mainR (l.take (j + 1)))) = flat (Nd.avs (mainR (l.take j))) ++ (l[j]).cs := by
              rw [e5, nds_app, flat_app, nds_one]; simp [flat, AV.cells]
            rw [e7, e6, ← List.append_assoc, List.take_left' (by simp only [List.length_append, List.length_take, c8]; omega), ht]
          · rw [← hd1]
            apply List.ext_getElem?
            intro q
            rw [List.getElem?_drop, List.getElem?_drop, List.getElem?_append_right (by simp only [List.length_take]; omega), List.getElem?_append_right (by simp only [List.length_take, c8]; omega), List.getElem?_drop]
            congr 1
            simp only [List.length_take, c8]
            omega
      · have c' : ¬ (j : Int) < (l.length : Int) := by omega
        have e : l.take j = l := List.take_of_length_le (by omega)
        rw [e] at ht ⊢
        simp (implicitDefEqProofs := false) only [sB, simprocAttr, c']
        exact hQ _ _ _ ⟨rfl, vs, rfl, hv, ht, rfl, rfl⟩
/-- Main. -/
def c19 (xs : List AV) (H : Heap) (K : Kv) : Prop := ∃ (l : List Nd) (t : Tok), xs = [.sl (Nd.avs l) t] ∧ H.keys.Nodup ∧ l.length ≤ 1000000 ∧ (t = .nil → l = []) ∧ ∀ t', K.ap (.sl (Nd.avs (mainR l)) t') H
theorem x_c19 {l : List Nd} {t : Tok} {H : Heap} {K : Kv} (hn : H.keys.Nodup) (h1 : l.length ≤ 1000000) (h2 : t = .nil → l = []) (k : ∀ t', K.ap (.sl (Nd.avs (mainR l)) t') H) : c19 [.sl (Nd.avs l) t] H K := ⟨l, t, rfl, hn, h1, h2, k⟩
theorem c19_of (P : Program) {xs : List AV} {H : Heap} {K : Kv} (h : c19 xs H K) : @xF ⟨fun _ => none, P, [(27, c27), (28, c28)]⟩ f19 xs H ⟨fun v H' => K.ap v H' ∨ ∃ (id sz : Nat) (ys vs : List AV) (R : Heap), v = .msl id 0 ys.length sz ∧ AllSz sz ys ∧ H'.Perm ((id, .cells vs) :: R) ∧ vs.take (ys.length * sz) = flat ys ∧ K.ap (.sl ys .no) R⟩ := by
  obtain ⟨l, t, rfl, hn, hl, h0, h⟩ := h
  simp (implicitDefEqProofs := false) only [sB, simprocAttr, f19]
  refine ⟨l, t, rfl, hl, fun e => ?_, fun e id hid => ?_⟩
  · have e' := h0 e
    subst e'
    refine ⟨rfl, ?_⟩
    simp (implicitDefEqProofs := false) only [sB, simprocAttr]
    refine .inl ⟨rfl, ?_⟩
    simp (implicitDefEqProofs := false) only [sB, simprocAttr]
    exact .inl (h _)
  · simp (implicitDefEqProofs := false) only [sB, simprocAttr]
    refine .inr ⟨id, l, H, rfl, rfl, List.nodup_cons.2 ⟨hid, hn⟩, hl, fun vs hv => ?_⟩
    simp (implicitDefEqProofs := false) only [sB, simprocAttr]
    exact .inr ⟨id, 8, Nd.avs (mainR l), vs, H, by rw [nds_len], nds_all _, .refl _, by rw [nds_len]; exact hv, h _⟩
end Go.AL.Fun
