/- Looking up in two parts. -/
import Derived.Test.YtpeaphpibnikcaaDoorT15
set_option linter.unusedSimpArgs false
set_option linter.unusedVariables false
set_option maxRecDepth 100000
set_option maxHeartbeats 4000000
namespace Go.AL.Fun
open Go Go.AL Go.Proofs

theorem lookR_app : ∀ (l m : List (List UInt8)) (v : Val), lookR v (l ++ m) = if (lookR v l).2 = 0 then lookR (lookR v l).1 m else lookR v l
  | [], m, v => by
    have e : lookR v [] = (v, 0) := by unfold lookR; rfl
    rw [e]; rfl
  | key :: l, m, .mk k s n b it is ft fs => by
    show lookR _ (key :: (l ++ m)) = _
    simp only [lookR]
    by_cases h : (fieldG k fs key).2 = 0
    · simp only [if_pos h]; exact lookR_app l m _
    · simp only [if_neg h]
theorem lookP_nil (v : Val) : lookP v [] = (v, 0) := by
  have e : splitR [] = ([], 0) := rfl
  unfold lookP; rw [e]; simp only [if_true]; unfold lookR; rfl
def pathC (p q : List UInt8) : List UInt8 := if q = [] then p else if p = [] then q else p ++ 46 :: q
theorem look_comp (v : Val) (p q : List UInt8) (h : (splitR (pathC p q)).2 = 0) : ((lookP v p).2 ≠ 0 → (lookP v (pathC p q)).2 = (lookP v p).2) ∧ ((lookP v p).2 = 0 → lookP (lookP v p).1 q = lookP v (pathC p q)) := by
  unfold pathC at h ⊢
  by_cases hq : q = []
  · subst hq
    rw [if_pos rfl]
    refine ⟨fun _ => rfl, fun h0 => ?_⟩
    rw [lookP_nil, ← h0]
  rw [if_neg hq] at h ⊢
  by_cases hp : p = []
  · subst hp
    rw [if_pos rfl, lookP_nil]
    exact ⟨fun h => absurd rfl h, fun _ => rfl⟩
  rw [if_neg hp] at h ⊢
  have hne : p ++ 46 :: q ≠ [] := by simp
  have e : splitR (p ++ 46 :: q) = (splitD p ++ splitD q, 0) ∧ (splitD p ++ splitD q).length ≤ 8 ∧ (splitD p ++ splitD q).all nameB = true := by
    unfold splitR at h ⊢
    rw [if_neg hne, splitD_app] at h ⊢
    by_cases c : (splitD p ++ splitD q).length ≤ 8 ∧ (splitD p ++ splitD q).all nameB = true
    · rw [if_pos c]; exact ⟨rfl, c⟩
    · rw [if_neg c] at h; exact absurd h (by decide)
  obtain ⟨e1, e2, e3⟩ := e
  rw [List.length_append] at e2
  rw [List.all_append, Bool.and_eq_true] at e3
  have ep : splitR p = (splitD p, 0) := by unfold splitR; rw [if_neg hp, if_pos ⟨by omega, e3.1⟩]
  have eq : splitR q = (splitD q, 0) := by unfold splitR; rw [if_neg hq, if_pos ⟨by omega, e3.2⟩]
  have lp : lookP v p = lookR v (splitD p) := by unfold lookP; rw [ep]; rfl
  have lq : ∀ w, lookP w q = lookR w (splitD q) := fun w => by unfold lookP; rw [eq]; rfl
  have lpq : lookP v (p ++ 46 :: q) = lookR v (splitD p ++ splitD q) := by unfold lookP; rw [e1]; rfl
  rw [lp, lq, lpq, lookR_app]
  by_cases h0 : (lookR v (splitD p)).2 = 0
  · rw [if_pos h0]; exact ⟨fun h => absurd h0 h, fun _ => rfl⟩
  · rw [if_neg h0]; exact ⟨fun _ => rfl, fun h => absurd h h0⟩
theorem law4 (P : Program) (v : Val) (a b : List UInt8) (hw : v.wt ≤ 1048576) (ha : a.length ≤ 1048576) (hb : b.length ≤ 1048576) (K : Kv) (hK : ∀ H, K.ap (.bool true) H) : @xF ⟨fun _ => none, P, tD⟩ f4 [.agg v.cs, .str a, .str b] [] K := by
  have hn : (Heap.keys []).Nodup := List.nodup_nil
  obtain ⟨k, s, n, bb, it, is, ft, fs⟩ := v
  simp only [Val.cs]
  simp (implicitDefEqProofs := false) only [sB, simprocAttr, f4]
  refine i_new fun p hp1 => ?_
  have hn1 := List.nodup_cons.2 ⟨hp1, hn⟩
  simp (implicitDefEqProofs := false) only [sB, simprocAttr]
  refine x_c9 (by omega) _ _ fun r r0 r1 => ?_
  by_cases c1 : 0 < r
  · simp (implicitDefEqProofs := false) only [sB, simprocAttr, c1]
    refine ⟨rfl, hn1, ?_⟩
    simp (implicitDefEqProofs := false) only [sB, simprocAttr]
    exact hK _
  have wl := w_i64 ((a.length : Int) + b.length) (by omega) (by omega)
  by_cases c2 : (1000 : Int) < (a.length : Int) + b.length
  · simp (implicitDefEqProofs := false) only [sB, simprocAttr, c1, wl, c2]
    refine ⟨rfl, hn1, ?_⟩
    simp (implicitDefEqProofs := false) only [sB, simprocAttr]
    exact hK _
  simp (implicitDefEqProofs := false) only [sB, simprocAttr, c1, wl, c2]
  refine ⟨by omega, by omega, ?_⟩
  by_cases eb : b = []
  · subst eb
    have hPX : a = pathC a [] := by unfold pathC; rw [if_pos rfl]
    by_cases ea : a = []
    · subst ea
      simp (implicitDefEqProofs := false) only [sB, simprocAttr]
      have hl : ([] : List UInt8).length ≤ 1048576 := by (try simp only [List.length_append, List.length_cons, List.length_nil]); omega
      refine ⟨[], rfl, hn1, hl, fun t => ?_⟩
      by_cases e0 : (splitR ([])).2 = 0
      · rw [e0]
        rw [hPX] at e0
        obtain ⟨q1, q2⟩ := look_comp (.mk k s n bb it is ft fs) [] [] e0
        have W1 := lookP_wt (.mk k s n bb it is ft fs) (pathC [] [])
        have W2 := lookP_wt (.mk k s n bb it is ft fs) []
        simp (implicitDefEqProofs := false) only [sB, simprocAttr]
        refine x_c11 (v := .mk k s n bb it is ft fs) hn1 hl (by omega) ?_
        rw [hPX]
        have C2 : ∀ (H : Heap) (K' : Kv), H.keys.Nodup → K'.ap (.tup [.agg (lookP (.mk k s n bb it is ft fs) []).1.cs, .int .i64 (lookP (.mk k s n bb it is ft fs) []).2]) H → c11 [.agg [.int .i64 k, .str s, .int .i64 n, .bool bb, .sl (Val.avs is) it, .sl (Val.fvs fs) ft], .str []] H K' :=
          fun H K' h k' => x_c11 (v := .mk k s n bb it is ft fs) h ha (by omega) k'
        have C3 : (lookP (.mk k s n bb it is ft fs) []).2 = 0 → ∀ (H : Heap) (K' : Kv), H.keys.Nodup → K'.ap (.tup [.agg (lookP (.mk k s n bb it is ft fs) (pathC [] [])).1.cs, .int .i64 (lookP (.mk k s n bb it is ft fs) (pathC [] [])).2]) H → c11 [.agg (lookP (.mk k s n bb it is ft fs) []).1.cs, .str []] H K' :=
          fun h0 H K' h k' => by rw [← q2 h0] at k'; exact x_c11 h hb (by omega) k'
        clear q2
        generalize lookP (.mk k s n bb it is ft fs) (pathC [] []) = A at *
        generalize lookP (.mk k s n bb it is ft fs) [] = M at *
        obtain ⟨⟨k2, s2, m2, b2, it2, is2, ft2, fs2⟩, e2⟩ := A
        obtain ⟨⟨k3, s3, m3, b3, it3, is3, ft3, fs3⟩, e3⟩ := M
        simp only [Val.cs] at q1 C2 C3 W1 W2 ⊢
        simp (implicitDefEqProofs := false) only [sB, simprocAttr]
        refine i_new fun x hx => ?_
        simp (implicitDefEqProofs := false) only [sB, simprocAttr] at hx
        have n1 : ¬ p = x := fun e => hx e.symm
        have hn2 := List.nodup_cons.2 ⟨by simpa [Heap.keys] using hx, hn1⟩
        simp (implicitDefEqProofs := false) only [sB, simprocAttr, n1]
        refine C2 _ _ ?_ ?_
        · exact hn2
        simp (implicitDefEqProofs := false) only [sB, simprocAttr, n1]
        refine i_new fun y hy => ?_
        simp (implicitDefEqProofs := false) only [sB, simprocAttr] at hy
        have n2 : ¬ x = y := fun e => hy.1 e.symm
        have n3 : ¬ p = y := fun e => hy.2 e.symm
        have hn3 := List.nodup_cons.2 ⟨by simpa [Heap.keys] using hy, hn2⟩
        by_cases ez : e3 = 0
        · subst ez
          simp (implicitDefEqProofs := false) only [sB, simprocAttr, n1, n2, n3]
          refine C3 rfl _ _ ?_ ?_
          · exact hn3
          simp (implicitDefEqProofs := false) only [sB, simprocAttr, n1, n2, n3]
          refine i_new fun z hz => ?_
          simp (implicitDefEqProofs := false) only [sB, simprocAttr] at hz
          have n4 : ¬ x = z := fun e => hz.2.1 e.symm
          have hn4 := List.nodup_cons.2 ⟨by simpa [Heap.keys] using hz, hn3⟩
          simp (implicitDefEqProofs := false) only [sB, simprocAttr, n1, n2, n3, n4]
          refine ⟨rfl, hn4, ?_⟩
          simp (implicitDefEqProofs := false) only [sB, simprocAttr, n1, n2, n3, n4]
          refine x_c13 (by omega) (Nat.le_refl _) _ _ ?_
          simp (implicitDefEqProofs := false) only [sB, simprocAttr]
          exact hK _
        · have q1' := q1 ez
          simp (implicitDefEqProofs := false) only [sB, simprocAttr, n1, n2, n3, ez]
          refine ⟨rfl, hn3, ?_⟩
          simp (implicitDefEqProofs := false) only [sB, simprocAttr, q1']
          exact hK _
      · have e1 := (splitR_cases ([])).resolve_left e0
        rw [e1]
        simp (implicitDefEqProofs := false) only [sB, simprocAttr]
        refine ⟨rfl, hn1, ?_⟩
        simp (implicitDefEqProofs := false) only [sB, simprocAttr]
        exact hK _
    · simp (implicitDefEqProofs := false) only [sB, simprocAttr, ea]
      have hl : (a).length ≤ 1048576 := by (try simp only [List.length_append, List.length_cons, List.length_nil]); omega
      refine ⟨a, rfl, hn1, hl, fun t => ?_⟩
      by_cases e0 : (splitR (a)).2 = 0
      · rw [e0]
        rw [hPX] at e0
        obtain ⟨q1, q2⟩ := look_comp (.mk k s n bb it is ft fs) a [] e0
        have W1 := lookP_wt (.mk k s n bb it is ft fs) (pathC a [])
        have W2 := lookP_wt (.mk k s n bb it is ft fs) a
        simp (implicitDefEqProofs := false) only [sB, simprocAttr]
        refine x_c11 (v := .mk k s n bb it is ft fs) hn1 hl (by omega) ?_
        rw [hPX]
        have C2 : ∀ (H : Heap) (K' : Kv), H.keys.Nodup → K'.ap (.tup [.agg (lookP (.mk k s n bb it is ft fs) a).1.cs, .int .i64 (lookP (.mk k s n bb it is ft fs) a).2]) H → c11 [.agg [.int .i64 k, .str s, .int .i64 n, .bool bb, .sl (Val.avs is) it, .sl (Val.fvs fs) ft], .str a] H K' :=
          fun H K' h k' => x_c11 (v := .mk k s n bb it is ft fs) h ha (by omega) k'
        have C3 : (lookP (.mk k s n bb it is ft fs) a).2 = 0 → ∀ (H : Heap) (K' : Kv), H.keys.Nodup → K'.ap (.tup [.agg (lookP (.mk k s n bb it is ft fs) (pathC a [])).1.cs, .int .i64 (lookP (.mk k s n bb it is ft fs) (pathC a [])).2]) H → c11 [.agg (lookP (.mk k s n bb it is ft fs) a).1.cs, .str []] H K' :=
          fun h0 H K' h k' => by rw [← q2 h0] at k'; exact x_c11 h hb (by omega) k'
        clear q2
        generalize lookP (.mk k s n bb it is ft fs) (pathC a []) = A at *
        generalize lookP (.mk k s n bb it is ft fs) a = M at *
        obtain ⟨⟨k2, s2, m2, b2, it2, is2, ft2, fs2⟩, e2⟩ := A
        obtain ⟨⟨k3, s3, m3, b3, it3, is3, ft3, fs3⟩, e3⟩ := M
        simp only [Val.cs] at q1 C2 C3 W1 W2 ⊢
        simp (implicitDefEqProofs := false) only [sB, simprocAttr]
        refine i_new fun x hx => ?_
        simp (implicitDefEqProofs := false) only [sB, simprocAttr] at hx
        have n1 : ¬ p = x := fun e => hx e.symm
        have hn2 := List.nodup_cons.2 ⟨by simpa [Heap.keys] using hx, hn1⟩
        simp (implicitDefEqProofs := false) only [sB, simprocAttr, n1]
        refine C2 _ _ ?_ ?_
        · exact hn2
        simp (implicitDefEqProofs := false) only [sB, simprocAttr, n1]
        refine i_new fun y hy => ?_
        simp (implicitDefEqProofs := false) only [sB, simprocAttr] at hy
        have n2 : ¬ x = y := fun e => hy.1 e.symm
        have n3 : ¬ p = y := fun e => hy.2 e.symm
        have hn3 := List.nodup_cons.2 ⟨by simpa [Heap.keys] using hy, hn2⟩
        by_cases ez : e3 = 0
        · subst ez
          simp (implicitDefEqProofs := false) only [sB, simprocAttr, n1, n2, n3]
          refine C3 rfl _ _ ?_ ?_
          · exact hn3
          simp (implicitDefEqProofs := false) only [sB, simprocAttr, n1, n2, n3]
          refine i_new fun z hz => ?_
          simp (implicitDefEqProofs := false) only [sB, simprocAttr] at hz
          have n4 : ¬ x = z := fun e => hz.2.1 e.symm
          have hn4 := List.nodup_cons.2 ⟨by simpa [Heap.keys] using hz, hn3⟩
          simp (implicitDefEqProofs := false) only [sB, simprocAttr, n1, n2, n3, n4]
          refine ⟨rfl, hn4, ?_⟩
          simp (implicitDefEqProofs := false) only [sB, simprocAttr, n1, n2, n3, n4]
          refine x_c13 (by omega) (Nat.le_refl _) _ _ ?_
          simp (implicitDefEqProofs := false) only [sB, simprocAttr]
          exact hK _
        · have q1' := q1 ez
          simp (implicitDefEqProofs := false) only [sB, simprocAttr, n1, n2, n3, ez]
          refine ⟨rfl, hn3, ?_⟩
          simp (implicitDefEqProofs := false) only [sB, simprocAttr, q1']
          exact hK _
      · have e1 := (splitR_cases (a)).resolve_left e0
        rw [e1]
        simp (implicitDefEqProofs := false) only [sB, simprocAttr]
        refine ⟨rfl, hn1, ?_⟩
        simp (implicitDefEqProofs := false) only [sB, simprocAttr]
        exact hK _
  · by_cases ea : a = []
    · subst ea
      have hPX : b = pathC [] b := by unfold pathC; rw [if_neg eb, if_pos rfl]
      simp (implicitDefEqProofs := false) only [sB, simprocAttr, eb]
      have hl : (b).length ≤ 1048576 := by (try simp only [List.length_append, List.length_cons, List.length_nil]); omega
      refine ⟨b, rfl, hn1, hl, fun t => ?_⟩
      by_cases e0 : (splitR (b)).2 = 0
      · rw [e0]
        rw [hPX] at e0
        obtain ⟨q1, q2⟩ := look_comp (.mk k s n bb it is ft fs) [] b e0
        have W1 := lookP_wt (.mk k s n bb it is ft fs) (pathC [] b)
        have W2 := lookP_wt (.mk k s n bb it is ft fs) []
        simp (implicitDefEqProofs := false) only [sB, simprocAttr]
        refine x_c11 (v := .mk k s n bb it is ft fs) hn1 hl (by omega) ?_
        rw [show lookP (.mk k s n bb it is ft fs) b = lookP (.mk k s n bb it is ft fs) (pathC [] b) by rw [← hPX]]
        have C2 : ∀ (H : Heap) (K' : Kv), H.keys.Nodup → K'.ap (.tup [.agg (lookP (.mk k s n bb it is ft fs) []).1.cs, .int .i64 (lookP (.mk k s n bb it is ft fs) []).2]) H → c11 [.agg [.int .i64 k, .str s, .int .i64 n, .bool bb, .sl (Val.avs is) it, .sl (Val.fvs fs) ft], .str []] H K' :=
          fun H K' h k' => x_c11 (v := .mk k s n bb it is ft fs) h (by decide) (by omega) k'
        have C3 : (lookP (.mk k s n bb it is ft fs) []).2 = 0 → ∀ (H : Heap) (K' : Kv), H.keys.Nodup → K'.ap (.tup [.agg (lookP (.mk k s n bb it is ft fs) (pathC [] b)).1.cs, .int .i64 (lookP (.mk k s n bb it is ft fs) (pathC [] b)).2]) H → c11 [.agg (lookP (.mk k s n bb it is ft fs) []).1.cs, .str b] H K' :=
          fun h0 H K' h k' => by rw [← q2 h0] at k'; exact x_c11 h hb (by omega) k'
        clear q2
        generalize lookP (.mk k s n bb it is ft fs) (pathC [] b) = A at *
        generalize lookP (.mk k s n bb it is ft fs) [] = M at *
        obtain ⟨⟨k2, s2, m2, b2, it2, is2, ft2, fs2⟩, e2⟩ := A
        obtain ⟨⟨k3, s3, m3, b3, it3, is3, ft3, fs3⟩, e3⟩ := M
        simp only [Val.cs] at q1 C2 C3 W1 W2 ⊢
        simp (implicitDefEqProofs := false) only [sB, simprocAttr]
        refine i_new fun x hx => ?_
        simp (implicitDefEqProofs := false) only [sB, simprocAttr] at hx
        have n1 : ¬ p = x := fun e => hx e.symm
        have hn2 := List.nodup_cons.2 ⟨by simpa [Heap.keys] using hx, hn1⟩
        simp (implicitDefEqProofs := false) only [sB, simprocAttr, n1]
        refine C2 _ _ ?_ ?_
        · exact hn2
        simp (implicitDefEqProofs := false) only [sB, simprocAttr, n1]
        refine i_new fun y hy => ?_
        simp (implicitDefEqProofs := false) only [sB, simprocAttr] at hy
        have n2 : ¬ x = y := fun e => hy.1 e.symm
        have n3 : ¬ p = y := fun e => hy.2 e.symm
        have hn3 := List.nodup_cons.2 ⟨by simpa [Heap.keys] using hy, hn2⟩
        by_cases ez : e3 = 0
        · subst ez
          simp (implicitDefEqProofs := false) only [sB, simprocAttr, n1, n2, n3]
          refine C3 rfl _ _ ?_ ?_
          · exact hn3
          simp (implicitDefEqProofs := false) only [sB, simprocAttr, n1, n2, n3]
          refine i_new fun z hz => ?_
          simp (implicitDefEqProofs := false) only [sB, simprocAttr] at hz
          have n4 : ¬ x = z := fun e => hz.2.1 e.symm
          have hn4 := List.nodup_cons.2 ⟨by simpa [Heap.keys] using hz, hn3⟩
          simp (implicitDefEqProofs := false) only [sB, simprocAttr, n1, n2, n3, n4]
          refine ⟨rfl, hn4, ?_⟩
          simp (implicitDefEqProofs := false) only [sB, simprocAttr, n1, n2, n3, n4]
          refine x_c13 (by omega) (Nat.le_refl _) _ _ ?_
          simp (implicitDefEqProofs := false) only [sB, simprocAttr]
          exact hK _
        · have q1' := q1 ez
          simp (implicitDefEqProofs := false) only [sB, simprocAttr, n1, n2, n3, ez]
          refine ⟨rfl, hn3, ?_⟩
          simp (implicitDefEqProofs := false) only [sB, simprocAttr, q1']
          exact hK _
      · have e1 := (splitR_cases (b)).resolve_left e0
        rw [e1]
        simp (implicitDefEqProofs := false) only [sB, simprocAttr]
        refine ⟨rfl, hn1, ?_⟩
        simp (implicitDefEqProofs := false) only [sB, simprocAttr]
        exact hK _
    · have hPX : a ++ 46 :: b = pathC a b := by unfold pathC; rw [if_neg eb, if_neg ea]
      simp (implicitDefEqProofs := false) only [sB, simprocAttr, ea, eb]
      have hl : (a ++ 46 :: b).length ≤ 1048576 := by (try simp only [List.length_append, List.length_cons, List.length_nil]); omega
      refine ⟨a ++ 46 :: b, rfl, hn1, hl, fun t => ?_⟩
      by_cases e0 : (splitR (a ++ 46 :: b)).2 = 0
      · rw [e0]
        rw [hPX] at e0
        obtain ⟨q1, q2⟩ := look_comp (.mk k s n bb it is ft fs) a b e0
        have W1 := lookP_wt (.mk k s n bb it is ft fs) (pathC a b)
        have W2 := lookP_wt (.mk k s n bb it is ft fs) a
        simp (implicitDefEqProofs := false) only [sB, simprocAttr]
        refine x_c11 (v := .mk k s n bb it is ft fs) hn1 hl (by omega) ?_
        rw [hPX]
        have C2 : ∀ (H : Heap) (K' : Kv), H.keys.Nodup → K'.ap (.tup [.agg (lookP (.mk k s n bb it is ft fs) a).1.cs, .int .i64 (lookP (.mk k s n bb it is ft fs) a).2]) H → c11 [.agg [.int .i64 k, .str s, .int .i64 n, .bool bb, .sl (Val.avs is) it, .sl (Val.fvs fs) ft], .str a] H K' :=
          fun H K' h k' => x_c11 (v := .mk k s n bb it is ft fs) h ha (by omega) k'
        have C3 : (lookP (.mk k s n bb it is ft fs) a).2 = 0 → ∀ (H : Heap) (K' : Kv), H.keys.Nodup → K'.ap (.tup [.agg (lookP (.mk k s n bb it is ft fs) (pathC a b)).1.cs, .int .i64 (lookP (.mk k s n bb it is ft fs) (pathC a b)).2]) H → c11 [.agg (lookP (.mk k s n bb it is ft fs) a).1.cs, .str b] H K' :=
          fun h0 H K' h k' => by rw [← q2 h0] at k'; exact x_c11 h hb (by omega) k'
        clear q2
        generalize lookP (.mk k s n bb it is ft fs) (pathC a b) = A at *
        generalize lookP (.mk k s n bb it is ft fs) a = M at *
        obtain ⟨⟨k2, s2, m2, b2, it2, is2, ft2, fs2⟩, e2⟩ := A
        obtain ⟨⟨k3, s3, m3, b3, it3, is3, ft3, fs3⟩, e3⟩ := M
        simp only [Val.cs] at q1 C2 C3 W1 W2 ⊢
        simp (implicitDefEqProofs := false) only [sB, simprocAttr]
        refine i_new fun x hx => ?_
        simp (implicitDefEqProofs := false) only [sB, simprocAttr] at hx
        have n1 : ¬ p = x := fun e => hx e.symm
        have hn2 := List.nodup_cons.2 ⟨by simpa [Heap.keys] using hx, hn1⟩
        simp (implicitDefEqProofs := false) only [sB, simprocAttr, n1]
        refine C2 _ _ ?_ ?_
        · exact hn2
        simp (implicitDefEqProofs := false) only [sB, simprocAttr, n1]
        refine i_new fun y hy => ?_
        simp (implicitDefEqProofs := false) only [sB, simprocAttr] at hy
        have n2 : ¬ x = y := fun e => hy.1 e.symm
        have n3 : ¬ p = y := fun e => hy.2 e.symm
        have hn3 := List.nodup_cons.2 ⟨by simpa [Heap.keys] using hy, hn2⟩
        by_cases ez : e3 = 0
        · subst ez
          simp (implicitDefEqProofs := false) only [sB, simprocAttr, n1, n2, n3]
          refine C3 rfl _ _ ?_ ?_
          · exact hn3
          simp (implicitDefEqProofs := false) only [sB, simprocAttr, n1, n2, n3]
          refine i_new fun z hz => ?_
          simp (implicitDefEqProofs := false) only [sB, simprocAttr] at hz
          have n4 : ¬ x = z := fun e => hz.2.1 e.symm
          have hn4 := List.nodup_cons.2 ⟨by simpa [Heap.keys] using hz, hn3⟩
          simp (implicitDefEqProofs := false) only [sB, simprocAttr, n1, n2, n3, n4]
          refine ⟨rfl, hn4, ?_⟩
          simp (implicitDefEqProofs := false) only [sB, simprocAttr, n1, n2, n3, n4]
          refine x_c13 (by omega) (Nat.le_refl _) _ _ ?_
          simp (implicitDefEqProofs := false) only [sB, simprocAttr]
          exact hK _
        · have q1' := q1 ez
          simp (implicitDefEqProofs := false) only [sB, simprocAttr, n1, n2, n3, ez]
          refine ⟨rfl, hn3, ?_⟩
          simp (implicitDefEqProofs := false) only [sB, simprocAttr, q1']
          exact hK _
      · have e1 := (splitR_cases (a ++ 46 :: b)).resolve_left e0
        rw [e1]
        simp (implicitDefEqProofs := false) only [sB, simprocAttr]
        refine ⟨rfl, hn1, ?_⟩
        simp (implicitDefEqProofs := false) only [sB, simprocAttr]
        exact hK _
end Go.AL.Fun
