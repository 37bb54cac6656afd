/- The escaped form of a string: the program's Escape over strings.Builder, the reference's, the examples. -/
import Derived.Test.YtijioomcpecdhaaDoorS13
import Derived.Test.YtijioomcpecdhaaDoorS9
set_option linter.unusedSimpArgs false
set_option linter.unusedVariables false
set_option maxRecDepth 100000
set_option maxHeartbeats 4000000
namespace Go.AL.Fun
open Go Go.AL

def escP (e : Int) (s : List UInt8) : List UInt8 := (decP s).flatMap (runeP e)
theorem escP_nil (e : Int) : escP e [] = [] := rfl
theorem escP_step (e : Int) {s : List UInt8} (hs : s ≠ []) : escP e s = runeP e (dec1 s).1 ++ escP e (s.drop (dec1 s).2) := by
  unfold escP; rw [decP_step hs, List.flatMap_cons]
theorem pct_len (s : List UInt8) : (pct s).length = 3 * s.length := by
  induction s with
  | nil => rfl
  | cons b s ih => unfold pct at ih ⊢; rw [List.flatMap_cons, List.length_append, ih]; simp only [pct1, List.length_cons, List.length_nil]; omega
theorem htmlP_len (q : Int) : (htmlP q).length ≤ 5 := by unfold htmlP; repeat' split
                                                         all_goals simp
theorem runeQ_len (e q : Int) (h : okR q) : 1 ≤ (runeQ e q).length ∧ (runeQ e q).length ≤ 12 := by
  have he := enc1_len q
  have he1 := List.length_pos_iff.2 he.2
  have hh := htmlP_len q
  have hh1 := List.length_pos_iff.2 (htmlP_ne q)
  have hp := pct_len (enc1 q)
  unfold runeQ
  split
  · omega
  split
  · omega
  split
  · omega
  split
  · rename_i h3
    have hn : q.toNat ≤ 65535 := by
      rcases h3.2 with h | h | h
      · unfold ctlP at h; have := of_decide_eq_true h; omega
      · unfold sepP at h; have := of_decide_eq_true h; omega
      · have := hasR_lt h; omega
    have := hexL_4 hn
    simp only [hex4, List.length_append, List.length_replicate, List.length_cons, List.length_nil]; omega
  split
  · rename_i h4
    have hn : q.toNat ≤ 65535 := by
      rcases h4.2 with h | h
      · unfold ctlP at h; have := of_decide_eq_true h; omega
      · have := hasR_lt h; omega
    have := hexL_4 hn
    simp only [List.length_append, List.length_cons, List.length_nil]; omega
  · omega
theorem runeP_len (e r : Int) : 1 ≤ (runeP e r).length ∧ (runeP e r).length ≤ 12 := runeQ_len e _ (normP_ok e r)
theorem runeP_ne (e r : Int) : runeP e r ≠ [] := List.length_pos_iff.1 (runeP_len e r).1
theorem runeF_len (e : Int) (l : List Int) : (l.flatMap (runeP e)).length ≤ 12 * l.length := by
  induction l with
  | nil => simp
  | cons r l ih => have := (runeP_len e r).2; rw [List.flatMap_cons, List.length_append, List.length_cons]; omega
theorem val_rng : ∀ l : List UInt8, -2147483648 ≤ val l ∧ val l < 2147483648
  | [] => by decide
  | [a] => by have := a.toNat_lt; simp only [val]; omega
  | [a, b] => by have := a.toNat_lt; have := b.toNat_lt; simp only [val]; omega
  | [a, b, c] => by have := a.toNat_lt; have := b.toNat_lt; have := c.toNat_lt; simp only [val]; omega
  | [a, b, c, d] => by have := a.toNat_lt; have := b.toNat_lt; have := c.toNat_lt; have := d.toNat_lt; simp only [val]; omega
  | _ :: _ :: _ :: _ :: _ :: _ => by simp only [val]; omega
theorem dec1_rng (s : List UInt8) : -2147483648 ≤ (dec1 s).1 ∧ (dec1 s).1 < 2147483648 := by
  unfold dec1
  split
  · decide
  · exact val_rng _
theorem decP_len : ∀ (n : Nat) (s : List UInt8), s.length ≤ n → (decP s).length ≤ s.length
  | 0, s, h => by
    have : s = [] := List.length_eq_zero_iff.1 (by omega)
    subst this; simp [decP_nil]
  | n + 1, s, h => by
    by_cases hs : s = []
    · subst hs; simp [decP_nil]
    · have d1 := dec1_pos s
      have d2 := dec1_le hs
      have := decP_len n (s.drop (dec1 s).2) (by rw [List.length_drop]; omega)
      rw [decP_step hs, List.length_cons]
      rw [List.length_drop] at this; omega
theorem decP_rng (n : Nat) : ∀ s : List UInt8, s.length ≤ n → ∀ r ∈ decP s, -2147483648 ≤ r ∧ r < 2147483648 := by
  induction n with
  | zero =>
    intro s h r hr
    have : s = [] := List.length_eq_zero_iff.1 (by omega)
    subst this; simp [decP_nil] at hr
  | succ n ih =>
    intro s h r hr
    by_cases hs : s = []
    · subst hs; simp [decP_nil] at hr
    · rw [decP_step hs] at hr
      rcases List.mem_cons.1 hr with rfl | hr
      · exact dec1_rng s
      · exact ih _ (by have := dec1_pos s; have := dec1_le hs; rw [List.length_drop]; omega) r hr
def c53 (xs : List AV) (H : Heap) (K : Kv) : Prop := ∃ e : Int, xs = [.int .i64 e] ∧ (0 ≤ e → e ≤ 4 → K.ap (.bool true) H) ∧ (e < 0 ∨ 4 < e → K.ap (.bool false) H)
theorem c53_of (P : Program) {G : Nat → Option (List AV)} {xs : List AV} {H : Heap} {K : Kv} (h : c53 xs H K) : @xF ⟨G, P, []⟩ f53 xs H K := by
  obtain ⟨e, rfl, k1, k2⟩ := h
  by_cases a : 0 ≤ e
  · by_cases b : e < 5
    · simp (implicitDefEqProofs := false) only [sB, simprocAttr, f53, a, b]
      exact k1 a (by omega)
    · simp (implicitDefEqProofs := false) only [sB, simprocAttr, f53, a, b]
      exact k2 (by omega)
  · simp (implicitDefEqProofs := false) only [sB, simprocAttr, f53, a]
    exact k2 (by omega)
def c18 (xs : List AV) (H : Heap) (K : Kv) : Prop := ∃ (e : Int) (s : List UInt8), xs = [.int .i64 e, .str s] ∧ H.keys.Nodup ∧ s.length ≤ 1000000 ∧
  (0 ≤ e → e ≤ 4 → K.ap (.tup [.str (escP e s), .int .i64 0]) H) ∧ (e < 0 ∨ 4 < e → K.ap (.tup [.str [], .int .i64 2]) H)
theorem c18_of (P : Program) {G : Nat → Option (List AV)} {xs : List AV} {H : Heap} {K : Kv} (h : c18 xs H K) : @xF ⟨G, P, [(15, c15), (53, c53), (54, c54), (55, c55)]⟩ f18 xs H ⟨fun v H' => ∃ H0, Hle H0 H' ∧ K.ap v H0⟩ := by
  obtain ⟨e, s, rfl, hn, hl, k1, k2⟩ := h
  simp (implicitDefEqProofs := false) only [sB, simprocAttr, f18]
  refine ⟨e, rfl, fun h0 h4 => ?_, fun h => ?_⟩
  rotate_left
  · simp (implicitDefEqProofs := false) only [sB, simprocAttr]
    exact ⟨_, .refl _, k2 h⟩
  have k := k1 h0 h4
  simp (implicitDefEqProofs := false) only [sB, simprocAttr, x_rawal, q_rawal]
  refine i_new fun b hb => ?_
  simp (implicitDefEqProofs := false) only [sB, simprocAttr]
  refine i_new fun it hit => ?_
  simp (implicitDefEqProofs := false) only [sB, simprocAttr]
  refine i_loopJ (fun σ H1 => ∃ (pos : Nat) (out : List UInt8) (A : Heap), Bld b out A ∧ H1.Perm ((it, .iter s pos) :: (A ++ H)) ∧ H1.keys.Nodup ∧ pos ≤ s.length ∧ out.length ≤ 12 * pos ∧ out ++ escP e (s.drop pos) = escP e s ∧ σ = [(0, .int .i64 e), (6, .ptr b 0), (15, .ptr it 0)])
    (fun _ H1 => match lookH it H1 with | some (.iter _ i) => s.length - i | _ => 0)
    (fun ex σ H1 => ex = .exit 0 ∧ σ.get 6 = .ptr b 0 ∧ ∃ A, Bld b (escP e s) A ∧ H1.Perm (A ++ ((it, .iter s s.length) :: H)))
    ⟨_, .refl _, 0, [], _, .fresh b, .refl _, ?_, by omega, by simp, rfl, rfl⟩ ?_ ?_
  · exact List.nodup_cons.2 ⟨hit, List.nodup_cons.2 ⟨hb, hn⟩⟩
  · rintro ex σ H1 ⟨rfl, h6, A, hA, hp⟩
    simp (implicitDefEqProofs := false) only [sB, simprocAttr, h6]
    refine ⟨b, _, A, _, rfl, hA, hp, fun hnd => ?_⟩
    simp (implicitDefEqProofs := false) only [sB, simprocAttr]
    exact ⟨_, .tail _ _, k⟩
  · rintro Q hQ σ H1 ⟨pos, out, A, hA, hp, hnd, hpos, hol, hout, rfl⟩
    have hlk := look_head hp hnd
    by_cases ci : pos < s.length
    · have hu := utf8_dec ci
      have hne : s.drop pos ≠ [] := by rw [← List.length_pos_iff, List.length_drop]; omega
      have hst := escP_step e hne
      have d1 := dec1_pos (s.drop pos)
      have d2 := dec1_le hne
      have hrng := dec1_rng (s.drop pos)
      rw [List.length_drop] at d2
      rw [List.drop_drop] at hst
      simp (implicitDefEqProofs := false) only [sB, simprocAttr, hlk, ci, hu.1, hu.2]
      generalize dec1 (s.drop pos) = d at *
      obtain ⟨r, k2⟩ := d
      simp only at d1 d2 hst hrng
      have h5 : (renH it it (.iter s (pos + k2)) H1).Perm _ := set_head (.iter s (pos + k2)) hp hnd
      have n5 : (renH it it (.iter s (pos + k2)) H1).keys.Nodup := set_nodup _ hnd
      have hrl := runeP_len e r
      refine ⟨e, r, rfl, hrng.1, hrng.2, n5, fun _ _ => ?_, fun h => by omega⟩
      simp (implicitDefEqProofs := false) only [sB, simprocAttr]
      refine ⟨b, out, runeP e r, A, (it, .iter s (pos + k2)) :: H, rfl, hA, h5.trans List.perm_middle.symm, runeP_ne e r, by omega, fun A' H2 hA2 hp2 hn2 => ?_⟩
      simp (implicitDefEqProofs := false) only [sB, simprocAttr]
      have hlk2 := look_head (hp2.trans List.perm_middle) hn2
      refine ⟨_, .refl _, ⟨pos + k2, _, A', hA2, hp2.trans List.perm_middle, hn2, by omega, by rw [List.length_append]; omega, by rw [List.append_assoc, ← hst]; exact hout⟩, ?_⟩
      simp only [hlk2, hlk]; omega
    · simp (implicitDefEqProofs := false) only [sB, simprocAttr, hlk, ci]
      rw [List.drop_of_length_le (by omega), escP_nil, List.append_nil] at hout
      subst hout
      obtain rfl : pos = s.length := by omega
      exact hQ _ _ _ ⟨rfl, rfl, A, hA, hp.trans List.perm_middle.symm⟩
def c20 (xs : List AV) (H : Heap) (K : Kv) : Prop := ∃ (e : Int) (s : List UInt8), xs = [.int .i64 e, .str s] ∧ H.keys.Nodup ∧ s.length ≤ 1000000 ∧
  (0 ≤ e → e ≤ 4 → K.ap (.tup [.str (escP e s), .int .i64 0]) H) ∧ (e < 0 ∨ 4 < e → K.ap (.tup [.str [], .int .i64 2]) H)
theorem c20_of (P : Program) {G : Nat → Option (List AV)} {xs : List AV} {H : Heap} {K : Kv} (h : c20 xs H K) : @xF ⟨G, P, [(16, c16), (57, c57)]⟩ f20 xs H ⟨fun v H' => ∃ H0, Hle H0 H' ∧ K.ap v H0⟩ := by
  obtain ⟨e, s, rfl, hn, hl, k1, k2⟩ := h
  by_cases h0 : e < 0
  · simp (implicitDefEqProofs := false) only [sB, simprocAttr, f20, h0]
    exact ⟨_, .refl _, k2 (.inl h0)⟩
  by_cases h4 : 4 < e
  · simp (implicitDefEqProofs := false) only [sB, simprocAttr, f20, h0, h4]
    exact ⟨_, .refl _, k2 (.inr h4)⟩
  have k := k1 (by omega) (by omega)
  simp (implicitDefEqProofs := false) only [sB, simprocAttr, f20, h0, h4]
  refine x_c57 hn (by omega) _ ?_
  have hdl := decP_len _ s (Nat.le_refl _)
  have hdr := decP_rng _ s (Nat.le_refl _)
  unfold escP at k
  generalize decP s = l at *
  simp (implicitDefEqProofs := false) only [sB, simprocAttr, i32_len]
  refine i_loopJ (fun σ H1 => ∃ (i : Nat), H1 = H ∧ i ≤ l.length ∧ σ = [(0, .int .i64 e), (6, .str ((l.take i).flatMap (runeP e))), (7, .sl (i32AV l) (tokc l)), (8, .int .i64 i)])
    (fun σ _ => match σ.get 8 with | .int _ n => l.length - n.toNat | _ => 0)
    (fun ex σ H1 => ex = .exit 0 ∧ Hle H H1 ∧ σ.get 6 = .str (l.flatMap (runeP e)))
    ⟨_, .refl _, 0, rfl, by omega, rfl⟩ ?_ ?_
  · rintro ex σ H1 ⟨rfl, h1, h6⟩
    simp (implicitDefEqProofs := false) only [sB, simprocAttr, h6]
    exact ⟨H, h1, k⟩
  · rintro Q hQ σ H1 ⟨i, rfl, hi, rfl⟩
    by_cases ci : i < l.length
    · have ci' : (i : Int) < (l.length : Int) := by omega
      have i0 : (0 : Int) ≤ (i : Int) := by omega
      have hgi : l[i]? = some l[i] := List.getElem?_eq_getElem ci
      have r9 := w_i64 ((i : Int) + 1) (by omega) (by omega)
      have hr := hdr l[i] (List.getElem_mem ci)
      have htk : (l.take (i + 1)).flatMap (runeP e) = (l.take i).flatMap (runeP e) ++ runeP e l[i] := by
        rw [List.take_add_one, hgi, List.flatMap_append]; simp
      have hl1 := runeF_len e (l.take i)
      rw [List.length_take] at hl1
      generalize l[i] = r at *
      have hrl := runeP_len e r
      simp (implicitDefEqProofs := false) only [sB, simprocAttr, i32_len, ci', i0, i32_get, hgi, Option.map_some]
      refine ⟨e, r, rfl, hr.1, hr.2, hn, fun _ _ => ?_, fun h => by omega⟩
      simp (implicitDefEqProofs := false) only [sB, simprocAttr, r9]
      exact ⟨by omega, _, .refl _, ⟨i + 1, rfl, by omega, by rw [htk], by simp⟩, by omega⟩
    · have ci' : ¬ (i : Int) < (l.length : Int) := by omega
      simp (implicitDefEqProofs := false) only [sB, simprocAttr, i32_len, ci']
      exact hQ _ _ _ ⟨rfl, .refl _, by rw [List.take_of_length_le (by omega)]; rfl⟩
theorem ex0 : escP 0 [97, 60, 98] = [97, 38, 108, 116, 59, 98] := by decide
theorem ex2 : escP 2 [97, 32, 98] = [97, 37, 50, 48, 98] := by decide
theorem ex3 : escP 3 [34] = [92, 117, 48, 48, 50, 50] := by
  have h : decP [34] = [34] := by decide
  have n : normP 3 34 = 34 := by decide
  have r : runeQ 3 34 = [92, 117] ++ hex4 34 := by rw [rq3, if_pos (by decide)]
  unfold escP
  rw [h, List.flatMap_cons, runeP, n, r, hex4, show ((34 : Int)).toNat = 34 from rfl, hexL_ge (by decide), hexL_lt (by decide)]; rfl
theorem ex4 : escP 4 [34] = [92, 50, 50, 32] := by
  have h : decP [34] = [34] := by decide
  have n : normP 4 34 = 34 := by decide
  unfold escP
  rw [h, List.flatMap_cons, runeP, n, rq4, if_pos (by decide), show ((34 : Int)).toNat = 34 from rfl, hexL_ge (by decide), hexL_lt (by decide)]; rfl
def c17 (xs : List AV) (H : Heap) (K : Kv) : Prop := xs = [] ∧ H.keys.Nodup ∧ K.ap (.bool true) H
theorem x_c18 {e : Int} {s : List UInt8} {H : Heap} {K : Kv} (h0 : 0 ≤ e) (h4 : e ≤ 4) (hn : H.keys.Nodup) (hl : s.length ≤ 1000000) (k : K.ap (.tup [.str (escP e s), .int .i64 0]) H) : c18 [.int .i64 e, .str s] H K :=
  ⟨e, s, rfl, hn, hl, fun _ _ => k, fun h => by omega⟩
theorem c17_of (P : Program) {G : Nat → Option (List AV)} {xs : List AV} {H : Heap} {K : Kv} (h : c17 xs H K) : @xF ⟨G, P, [(18, c18)]⟩ f17 xs H K := by
  obtain ⟨rfl, hn, k⟩ := h
  simp (implicitDefEqProofs := false) only [sB, simprocAttr, f17]
  refine x_c18 (by decide) (by decide) hn (by decide) ?_
  rw [ex0]
  simp (implicitDefEqProofs := false) only [sB, simprocAttr]
  refine x_c18 (by decide) (by decide) hn (by decide) ?_
  rw [ex2]
  simp (implicitDefEqProofs := false) only [sB, simprocAttr]
  refine x_c18 (by decide) (by decide) hn (by decide) ?_
  rw [ex3]
  simp (implicitDefEqProofs := false) only [sB, simprocAttr]
  refine x_c18 (by decide) (by decide) hn (by decide) ?_
  rw [ex4]
  simp (implicitDefEqProofs := false) only [sB, simprocAttr]
  exact k
end Go.AL.Fun
