/- The program's analysis walked: a node, a list. Printed by gi3.py. -/
import Derived.Test.YtjlmonghelbihaaI2
set_option linter.unusedSimpArgs false
set_option linter.unusedVariables false
set_option maxRecDepth 100000
set_option maxHeartbeats 4000000
namespace Go.AL.Fun
open Go Go.AL

theorem look_at {H L : Heap} {id : Nat} {x : AObj} (hp : H.Perm L) (hn : H.keys.Nodup) (h : (id, x) ∈ L) : lookH id H = some x := (lookH_iff hn).2 (hp.mem_iff.2 h)
theorem set_in {H A X : Heap} {pp : Nat} {o : AObj} (o' : AObj) (hp : H.Perm (A ++ ((pp, o) :: X))) (hn : H.keys.Nodup) : (setH pp o' H).Perm (A ++ ((pp, o') :: X)) :=
  (set_head o' (hp.trans List.perm_middle) hn).trans List.perm_middle.symm
theorem anH_push {pp : Nat} {a : An} {tk : Tok} {R H : Heap} (A : Heap) (hp : H.Perm (anH pp a tk R)) : (A ++ H).Perm (anH pp a tk (A ++ R)) :=
  (hp.append_left A).trans (List.perm_middle.trans (List.Perm.cons _ (List.perm_append_comm_assoc A (tokH tk) R)))
theorem anH_pop {pp : Nat} {a : An} {tk : Tok} {A R : Heap} : (anH pp a tk R).Sublist (anH pp a tk (A ++ R)) := .cons_cons _ (List.Sublist.append (.refl _) (List.sublist_append_right _ _))
theorem anH_setR {pp q : Nat} {a : An} {tk : Tok} {B C H : Heap} {x : AObj} (o : AObj) (hp : H.Perm (anH pp a tk (B ++ (q, x) :: C))) (hn : H.keys.Nodup) : (setH q o H).Perm ((q, o) :: anH pp a tk (B ++ C)) := by
  refine set_head (c := x) o (hp.trans ?_) hn
  have := List.perm_middle (l₁ := (pp, anO a tk) :: (tokH tk ++ B)) (l₂ := C) (a := (q, x))
  simpa [anH] using this
mutual
theorem nodeA_len (s : St) : ∀ (n : Nd) (a : An), (nodeA s n a).2.escs.length ≤ a.escs.length + n.cnt
  | .mk k p t q hp he b e, a => by
    have h1 := listA_len s b a
    have h2 := listA_len s e (listA s b a).2
    have h3 := listA_len St.zero b a
    rw [nodeA]
    simp only [Nd.cnt]
    split
    · simp only; omega
    · split
      · simp only [List.length_append, List.length_cons, List.length_nil]; split <;> (try simp only [fail_escs]) <;> omega
      · split
        · simp only; split <;> (try simp only [fail_escs]) <;> omega
        · split
          · simp only; split <;> (try simp only [fail_escs]) <;> omega
          · split
            · simp only; split <;> (try simp only [fail_escs]) <;> omega
            · split
              · simp only; split <;> (try simp only [fail_escs]) <;> omega
              · simp only; omega
theorem listA_len (s : St) : ∀ (l : List Nd) (a : An), (listA s l a).2.escs.length ≤ a.escs.length + Nd.cnts l
  | [], a => by rw [listA]; simp only; omega
  | n :: l, a => by
    have h1 := nodeA_len s n a
    have h2 := listA_len (nodeA s n a).1 l (nodeA s n a).2
    rw [listA]
    simp only [Nd.cnts]
    split
    · simp only; omega
    · omega
end
theorem invZ : Inv St.zero := inv_zero 0 (by decide) (by decide)
mutual
theorem nodeA_inv (s : St) : ∀ (n : Nd) (a : An), Inv s → Inv (nodeA s n a).1
  | .mk k p t q hp he b e, a, h => by
    have h1 := listA_inv s b a h
    rw [nodeA]
    split
    · exact inv_run h _
    · repeat' split
      all_goals first | exact h | exact h1
theorem listA_inv (s : St) : ∀ (l : List Nd) (a : An), Inv s → Inv (listA s l a).1
  | [], a, h => by rw [listA]; exact h
  | n :: l, a, h => by
    have h1 := nodeA_inv s n a h
    have h2 := listA_inv (nodeA s n a).1 l (nodeA s n a).2 h1
    rw [listA]
    split
    · exact h
    · exact h2
end
def c55 (N : Nat) (xs : List AV) (H : Heap) (K : Kv) : Prop := ∃ (pp : Nat) (a : An) (tk : Tok) (R : Heap) (s : St) (n : Nd), xs = [.ptr pp 0, stAV s, .agg n.cs] ∧ H.Perm (anH pp a tk R) ∧ H.keys.Nodup ∧ GC 1 (intsAV a.escs) tk ∧
  n.cnt ≤ N ∧ a.escs.length + n.cnt ≤ 1099511627776 ∧ Inv s ∧ n.le 1099511627776 ∧ (∀ tk' H', GC 1 (intsAV (nodeA s n a).2.escs) tk' → H'.Perm (anH pp (nodeA s n a).2 tk' R) → H'.keys.Nodup → K.ap (stAV (nodeA s n a).1) H')
def c35 (N : Nat) (xs : List AV) (H : Heap) (K : Kv) : Prop := ∃ (pp : Nat) (a : An) (tk : Tok) (R : Heap) (s : St) (l : List Nd) (tok : Tok), xs = [.ptr pp 0, stAV s, .sl (Nd.avs l) tok] ∧ H.Perm (anH pp a tk R) ∧ H.keys.Nodup ∧ GC 1 (intsAV a.escs) tk ∧
  Nd.cnts l ≤ N ∧ a.escs.length + Nd.cnts l ≤ 1099511627776 ∧ Inv s ∧ Nd.les 1099511627776 l ∧ (∀ tk' H', GC 1 (intsAV (listA s l a).2.escs) tk' → H'.Perm (anH pp (listA s l a).2 tk' R) → H'.keys.Nodup → K.ap (stAV (listA s l a).1) H')
@[reducible] def t55 (N : Nat) (P : Program) : Th := ⟨fun _ => none, P, [(35, c35 N), (36, c36), (56, c56), (17, c17), (14, c14)]⟩
theorem c55_of (P : Program) {N : Nat} {xs : List AV} {H : Heap} {K : Kv} (h : c55 (N + 1) xs H K) : @xF (t55 N P) f55 xs H ⟨fun v H' => ∃ H0, Hle H0 H' ∧ K.ap v H0⟩ := by
  obtain ⟨pp, a, tk, R, ⟨sc, sn, sa, sp⟩, ⟨k, p, t, q, hph, he, b, el⟩, rfl, hp, hn, hg, hN, hb, hi, hle, h⟩ := h
  have hl := anH_look hp hn
  have hlk : lookH pp H = some (.cells [.sl (intsAV a.escs) tk, .int .i64 a.at_, .int .i64 a.err]) := hl
  obtain ⟨l1, l2, l3, l4⟩ := hle
  simp only [Nd.cnt] at hN hb
  have hle4 : ∀ {x y z w : Nat × AObj} {G0 G1 : Heap}, Hle G0 G1 → Hle G0 (x :: y :: z :: w :: G1) := fun h => h.trans (.of_sub (.cons _ (.cons _ (.cons _ (.cons _ (.refl _))))))
  rw [nodeA] at h
  simp (implicitDefEqProofs := false) only [sB, simprocAttr, f55, Nd.cs, stAV]
  refine i_new fun p4 hp4 => ?_
  have hp4' := hp4
  simp (implicitDefEqProofs := false) only [sB, simprocAttr, Heap.keys] at hp4'
  have np4 : ¬ pp = p4 := key_ne hl hp4'
  have np4' : ¬ p4 = pp := fun e => np4 e.symm
  simp (implicitDefEqProofs := false) only [sB, simprocAttr]
  refine i_new fun p5 hp5 => ?_
  have hp5' := hp5
  simp (implicitDefEqProofs := false) only [sB, simprocAttr, Heap.keys] at hp5'
  have np5p4 : ¬ p5 = p4 := hp5'.1
  have np4p5 : ¬ p4 = p5 := fun e => np5p4 e.symm
  have np5 : ¬ pp = p5 := key_ne hl hp5'.2
  have np5' : ¬ p5 = pp := fun e => np5 e.symm
  simp (implicitDefEqProofs := false) only [sB, simprocAttr]
  refine i_new fun p6 hp6 => ?_
  have hp6' := hp6
  simp (implicitDefEqProofs := false) only [sB, simprocAttr, Heap.keys] at hp6'
  have np6p5 : ¬ p6 = p5 := hp6'.1
  have np5p6 : ¬ p5 = p6 := fun e => np6p5 e.symm
  have np6p4 : ¬ p6 = p4 := hp6'.2.1
  have np4p6 : ¬ p4 = p6 := fun e => np6p4 e.symm
  have np6 : ¬ pp = p6 := key_ne hl hp6'.2.2
  have np6' : ¬ p6 = pp := fun e => np6 e.symm
  simp (implicitDefEqProofs := false) only [sB, simprocAttr]
  refine i_new fun p7 hp7 => ?_
  have hp7' := hp7
  simp (implicitDefEqProofs := false) only [sB, simprocAttr, Heap.keys] at hp7'
  have np7p6 : ¬ p7 = p6 := hp7'.1
  have np6p7 : ¬ p6 = p7 := fun e => np7p6 e.symm
  have np7p5 : ¬ p7 = p5 := hp7'.2.1
  have np5p7 : ¬ p5 = p7 := fun e => np7p5 e.symm
  have np7p4 : ¬ p7 = p4 := hp7'.2.2.1
  have np4p7 : ¬ p4 = p7 := fun e => np7p4 e.symm
  have np7 : ¬ pp = p7 := key_ne hl hp7'.2.2.2
  have np7' : ¬ p7 = pp := fun e => np7 e.symm
  by_cases k0 : k = 0
  · rw [if_pos k0] at h
    simp (implicitDefEqProofs := false) only [sB, simprocAttr, np4, np4', np5, np5', np5p4, np4p5, np6, np6', np6p4, np4p6, np6p5, np5p6, np7, np7', np7p4, np4p7, np7p5, np5p7, np7p6, np6p7, hlk, k0, x_c17 hi (show t.length ≤ 1099511627776 from l1), stAV]
    exact ⟨H, hle4 (.refl _), h tk H hg hp hn⟩
  rw [if_neg k0] at h
  by_cases k1 : k = 1
  · rw [if_pos k1] at h
    subst k1
    by_cases es : (escP ⟨sc, sn, sa, sp⟩).2 = true
    · simp only [es, Bool.true_eq_false, if_false] at h
      simp (implicitDefEqProofs := false) only [sB, simprocAttr, np4, np4', np5, np5', np5p4, np4p5, np6, np6', np6p4, np4p6, np6p5, np5p6, np7, np7', np7p4, np4p7, np7p5, np5p7, np7p6, np6p7, hlk, x_c14, es]
      refine i_sl ⟨⟨ints_all [(escP ⟨sc, sn, sa, sp⟩).1], rfl, rfl⟩, i_new fun z hz => ?_⟩
      simp (implicitDefEqProofs := false) only [sB, simprocAttr]
      refine i_appC (by decide) (A := [(z, .spare 1), (p7, .cells [.int .i64 0, .str [], .str [], .str []]), (p6, .cells [.int .i64 0, .str [], .str [], .str []]), (p5, .cells [.int .i64 1, .int .i64 p, .str t, .str q, .bool hph, .bool he, .sl (Nd.avs b) (tokc b), .sl (Nd.avs el) (tokc el)]), (p4, .cells [.int .i64 sc, .str sn, .str sa, .str sp]), (pp, .cells [.sl (intsAV a.escs) tk, .int .i64 a.at_, .int .i64 a.err])]) (R := R) (tk := tk) (xs := intsAV a.escs) (ys := intsAV [(escP ⟨sc, sn, sa, sp⟩).1]) ((((((hp).cons _).cons _).cons _).cons _).cons _) (List.nodup_cons.2 ⟨hz, List.nodup_cons.2 ⟨hp7, List.nodup_cons.2 ⟨hp6, List.nodup_cons.2 ⟨hp5, List.nodup_cons.2 ⟨hp4, hn⟩⟩⟩⟩⟩) hg (src_sl_of _ _ (ints_all _)) (ints_all _) ?_ ?_ fun tk' H' g1 g2 g3 => ?_
      · simp only [ints_len, List.length_cons, List.length_nil, maxLen_eq]; omega
      · simp only [ints_len, List.length_cons, List.length_nil]; omega
      · have es : intsAV a.escs ++ intsAV [(escP ⟨sc, sn, sa, sp⟩).1] = intsAV (a.escs ++ [(escP ⟨sc, sn, sa, sp⟩).1]) := by simp [intsAV]
        rw [es] at g1 ⊢
        have kp : lookH pp H' = some (.cells [.sl (intsAV a.escs) tk, .int .i64 a.at_, .int .i64 a.err]) := look_at g2 g3 (by simp)
        have k4' : lookH p4 H' = some (.cells [.int .i64 sc, .str sn, .str sa, .str sp]) := look_at g2 g3 (by simp)
        have k6' : lookH p6 H' = some (.cells [.int .i64 0, .str [], .str [], .str []]) := look_at g2 g3 (by simp)
        simp (implicitDefEqProofs := false) only [sB, simprocAttr, np4, np4', np5, np5', np5p4, np4p5, np6, np6', np6p4, np4p6, np6p5, np5p6, np7, np7', np7p4, np4p7, np7p5, np5p7, np7p6, np6p7, kp, k4', k6']
        have hp3 := set_in (A := [(z, .spare 1), (p7, .cells [.int .i64 0, .str [], .str [], .str []]), (p6, .cells [.int .i64 0, .str [], .str [], .str []]), (p5, .cells [.int .i64 1, .int .i64 p, .str t, .str q, .bool hph, .bool he, .sl (Nd.avs b) (tokc b), .sl (Nd.avs el) (tokc el)]), (p4, .cells [.int .i64 sc, .str sn, .str sa, .str sp])]) (X := tokH tk' ++ R) (anO ⟨a.escs ++ [(escP ⟨sc, sn, sa, sp⟩).1], a.at_, a.err⟩ tk') g2 g3
        have hn3 := set_nodup (anO ⟨a.escs ++ [(escP ⟨sc, sn, sa, sp⟩).1], a.at_, a.err⟩ tk') g3 (p := pp)
        have p6z : ¬ p6 = z := fun e => hz (by subst e; simp [Heap.keys])
        have hn4 := set_nodup (.cells [.int .i64 sc, .str sn, .str sa, .str sp]) hn3 (p := p6)
        have hp4' := setH_perm (id := p6) (o := .cells [.int .i64 sc, .str sn, .str sa, .str sp]) hp3 hn3
        simp only [setH, renH, List.cons_append, List.nil_append, np4, np4', np5, np5', np5p4, np4p5, np6, np6', np6p4, np4p6, np6p5, np5p6, np7, np7', np7p4, np4p7, np7p5, np5p7, np7p6, np6p7, p6z, if_true, if_false] at hp4'
        refine ⟨anH pp ⟨a.escs ++ [(escP ⟨sc, sn, sa, sp⟩).1], a.at_, a.err⟩ tk' R, hle_sub hp4' (.cons _ (.cons _ (.cons _ (.cons _ (.cons _ (.refl _)))))), h tk' _ g1 (.refl _) (nodup_sub hp4' (.cons _ (.cons _ (.cons _ (.cons _ (.cons _ (.refl _)))))) hn4)⟩
    · have es' : (escP ⟨sc, sn, sa, sp⟩).2 = false := by simpa using es
      simp only [es', if_true] at h
      simp (implicitDefEqProofs := false) only [sB, simprocAttr, np4, np4', np5, np5', np5p4, np4p5, np6, np6', np6p4, np4p6, np6p5, np5p6, np7, np7', np7p4, np4p7, np7p5, np5p7, np7p6, np6p7, hlk, x_c14, es']
      refine ⟨pp, a, tk, .mk 1 p t q hph he b el, p, 15, rfl, rfl, by simp only [lookH, np4, np4', np5, np5', np5p4, np4p5, np6, np6', np6p4, np4p6, np6p5, np5p6, np7, np7', np7p4, np4p7, np7p5, np5p7, np7p6, np6p7, if_false, hlk]; rfl, ?_⟩
      generalize hf : a.fail p 15 = a1 at h ⊢
      have he1 : a1.escs = a.escs := by rw [← hf, fail_escs]
      obtain ⟨e1, p1, r1⟩ := a1
      simp only at he1
      subst he1
      simp (implicitDefEqProofs := false) only [sB, simprocAttr, np4, np4', np5, np5', np5p4, np4p5, np6, np6', np6p4, np4p6, np6p5, np5p6, np7, np7', np7p4, np4p7, np7p5, np5p7, np7p6, np6p7, hlk, anO]
      refine i_sl ⟨⟨ints_all [(escP ⟨sc, sn, sa, sp⟩).1], rfl, rfl⟩, i_new fun z hz => ?_⟩
      simp (implicitDefEqProofs := false) only [sB, simprocAttr]
      refine i_appC (by decide) (A := [(z, .spare 1), (p7, .cells [.int .i64 0, .str [], .str [], .str []]), (p6, .cells [.int .i64 0, .str [], .str [], .str []]), (p5, .cells [.int .i64 1, .int .i64 p, .str t, .str q, .bool hph, .bool he, .sl (Nd.avs b) (tokc b), .sl (Nd.avs el) (tokc el)]), (p4, .cells [.int .i64 sc, .str sn, .str sa, .str sp]), (pp, .cells [.sl (intsAV a.escs) tk, .int .i64 p1, .int .i64 r1])]) (R := R) (tk := tk) (xs := intsAV a.escs) (ys := intsAV [(escP ⟨sc, sn, sa, sp⟩).1]) ((((((anH_set (a' := ⟨a.escs, p1, r1⟩) (tk' := tk) hp hn).cons _).cons _).cons _).cons _).cons _) (List.nodup_cons.2 ⟨hz, List.nodup_cons.2 ⟨nk_cons np7p6 (nk_cons np7p5 (nk_cons np7p4 (nk_set hp7'.2.2.2))), List.nodup_cons.2 ⟨nk_cons np6p5 (nk_cons np6p4 (nk_set hp6'.2.2)), List.nodup_cons.2 ⟨nk_cons np5p4 (nk_set hp5'.2), List.nodup_cons.2 ⟨nk_set hp4', set_nodup _ hn⟩⟩⟩⟩⟩) hg (src_sl_of _ _ (ints_all _)) (ints_all _) ?_ ?_ fun tk' H' g1 g2 g3 => ?_
      · simp only [ints_len, List.length_cons, List.length_nil, maxLen_eq]; omega
      · simp only [ints_len, List.length_cons, List.length_nil]; omega
      · have es : intsAV a.escs ++ intsAV [(escP ⟨sc, sn, sa, sp⟩).1] = intsAV (a.escs ++ [(escP ⟨sc, sn, sa, sp⟩).1]) := by simp [intsAV]
        rw [es] at g1 ⊢
        have kp : lookH pp H' = some (.cells [.sl (intsAV a.escs) tk, .int .i64 p1, .int .i64 r1]) := look_at g2 g3 (by simp)
        have k4' : lookH p4 H' = some (.cells [.int .i64 sc, .str sn, .str sa, .str sp]) := look_at g2 g3 (by simp)
        have k6' : lookH p6 H' = some (.cells [.int .i64 0, .str [], .str [], .str []]) := look_at g2 g3 (by simp)
        simp (implicitDefEqProofs := false) only [sB, simprocAttr, np4, np4', np5, np5', np5p4, np4p5, np6, np6', np6p4, np4p6, np6p5, np5p6, np7, np7', np7p4, np4p7, np7p5, np5p7, np7p6, np6p7, kp, k4', k6']
        have hp3 := set_in (A := [(z, .spare 1), (p7, .cells [.int .i64 0, .str [], .str [], .str []]), (p6, .cells [.int .i64 0, .str [], .str [], .str []]), (p5, .cells [.int .i64 1, .int .i64 p, .str t, .str q, .bool hph, .bool he, .sl (Nd.avs b) (tokc b), .sl (Nd.avs el) (tokc el)]), (p4, .cells [.int .i64 sc, .str sn, .str sa, .str sp])]) (X := tokH tk' ++ R) (anO ⟨a.escs ++ [(escP ⟨sc, sn, sa, sp⟩).1], p1, r1⟩ tk') g2 g3
        have hn3 := set_nodup (anO ⟨a.escs ++ [(escP ⟨sc, sn, sa, sp⟩).1], p1, r1⟩ tk') g3 (p := pp)
        have p6z : ¬ p6 = z := fun e => hz (by subst e; simp [Heap.keys])
        have hn4 := set_nodup (.cells [.int .i64 sc, .str sn, .str sa, .str sp]) hn3 (p := p6)
        have hp4' := setH_perm (id := p6) (o := .cells [.int .i64 sc, .str sn, .str sa, .str sp]) hp3 hn3
        simp only [setH, renH, List.cons_append, List.nil_append, np4, np4', np5, np5', np5p4, np4p5, np6, np6', np6p4, np4p6, np6p5, np5p6, np7, np7', np7p4, np4p7, np7p5, np5p7, np7p6, np6p7, p6z, if_true, if_false] at hp4'
        refine ⟨anH pp ⟨a.escs ++ [(escP ⟨sc, sn, sa, sp⟩).1], p1, r1⟩ tk' R, hle_sub hp4' (.cons _ (.cons _ (.cons _ (.cons _ (.cons _ (.refl _)))))), h tk' _ g1 (.refl _) (nodup_sub hp4' (.cons _ (.cons _ (.cons _ (.cons _ (.cons _ (.refl _)))))) hn4)⟩
  rw [if_neg k1] at h
  by_cases k2 : k = 2
  · subst k2
    rw [if_pos rfl] at h
    simp (implicitDefEqProofs := false) only [sB, simprocAttr, np4, np4', np5, np5', np5p4, np4p5, np6, np6', np6p4, np4p6, np6p5, np5p6, np7, np7', np7p4, np4p7, np7p5, np5p7, np7p6, np6p7, hlk]
    refine ⟨pp, a, tk, _, ⟨sc, sn, sa, sp⟩, b, tokc b, rfl, anH_push [(p7, .cells [.int .i64 0, .str [], .str [], .str []]), (p6, .cells [.int .i64 0, .str [], .str [], .str []]), (p5, .cells [.int .i64 2, .int .i64 p, .str t, .str q, .bool hph, .bool he, .sl (Nd.avs b) (tokc b), .sl (Nd.avs el) (tokc el)]), (p4, .cells [.int .i64 sc, .str sn, .str sa, .str sp])] hp, List.nodup_cons.2 ⟨hp7, List.nodup_cons.2 ⟨hp6, List.nodup_cons.2 ⟨hp5, List.nodup_cons.2 ⟨hp4, hn⟩⟩⟩⟩, hg, by omega, by omega, hi, l3, fun tk1 H1 g1 g2 g3 => ?_⟩
    have lenb := listA_len ⟨sc, sn, sa, sp⟩ b a
    have invb := listA_inv ⟨sc, sn, sa, sp⟩ b a hi
    generalize listA ⟨sc, sn, sa, sp⟩ b a = r1 at h g1 g2 lenb invb ⊢
    obtain ⟨⟨c1, m1, u1, q1⟩, a1⟩ := r1
    simp only at h g1 g2 lenb invb
    have hpp1 := anH_look g2 g3
    have K4 : lookH p4 H1 = some (.cells [.int .i64 sc, .str sn, .str sa, .str sp]) := lkR g2 g3 (by simp only [List.cons_append, List.nil_append, lookH, np4, np4', np5, np5', np5p4, np4p5, np6, np6', np6p4, np4p6, np6p5, np5p6, np7, np7', np7p4, np4p7, np7p5, np5p7, np7p6, np6p7, if_true, if_false])
    have K5 : lookH p5 H1 = some (.cells [.int .i64 2, .int .i64 p, .str t, .str q, .bool hph, .bool he, .sl (Nd.avs b) (tokc b), .sl (Nd.avs el) (tokc el)]) := lkR g2 g3 (by simp only [List.cons_append, List.nil_append, lookH, np4, np4', np5, np5', np5p4, np4p5, np6, np6', np6p4, np4p6, np6p5, np5p6, np7, np7', np7p4, np4p7, np7p5, np5p7, np7p6, np6p7, if_true, if_false])
    have K6 : lookH p6 H1 = some (.cells [.int .i64 0, .str [], .str [], .str []]) := lkR g2 g3 (by simp only [List.cons_append, List.nil_append, lookH, np4, np4', np5, np5', np5p4, np4p5, np6, np6', np6p4, np4p6, np6p5, np5p6, np7, np7', np7p4, np4p7, np7p5, np5p7, np7p6, np6p7, if_true, if_false])
    have K7 : lookH p7 H1 = some (.cells [.int .i64 0, .str [], .str [], .str []]) := lkR g2 g3 (by simp only [List.cons_append, List.nil_append, lookH, np4, np4', np5, np5', np5p4, np4p5, np6, np6', np6p4, np4p6, np6p5, np5p6, np7, np7', np7p4, np4p7, np7p5, np5p7, np7p6, np6p7, if_true, if_false])
    simp (implicitDefEqProofs := false) only [sB, simprocAttr, stAV, np4, np4', np5, np5', np5p4, np4p5, np6, np6', np6p4, np4p6, np6p5, np5p6, np7, np7', np7p4, np4p7, np7p5, np5p7, np7p6, np6p7, K4, K5, K6, K7]
    refine i_new fun p10 hp10 => ?_
    have n10 : ¬ p10 = pp := fun e => key_ne hpp1 hp10 e.symm
    have n10' : ¬ pp = p10 := fun e => n10 e.symm
    have n10p4 : ¬ p4 = p10 := key_ne K4 hp10
    have m10p4 : ¬ p10 = p4 := fun e => n10p4 e.symm
    have n10p5 : ¬ p5 = p10 := key_ne K5 hp10
    have m10p5 : ¬ p10 = p5 := fun e => n10p5 e.symm
    have n10p6 : ¬ p6 = p10 := key_ne K6 hp10
    have m10p6 : ¬ p10 = p6 := fun e => n10p6 e.symm
    have n10p7 : ¬ p7 = p10 := key_ne K7 hp10
    have m10p7 : ¬ p10 = p7 := fun e => n10p7 e.symm
    simp (implicitDefEqProofs := false) only [sB, simprocAttr, np4, np4', np5, np5', np5p4, np4p5, np6, np6', np6p4, np4p6, np6p5, np5p6, np7, np7', np7p4, np4p7, np7p5, np5p7, np7p6, np6p7, K4, K5, K6, K7, n10, n10', n10p4, m10p4, n10p5, m10p5, n10p6, m10p6, n10p7, m10p7, stAV]
    refine ⟨pp, a1, tk1, _, ⟨sc, sn, sa, sp⟩, el, tokc el, rfl, anH_push [(p10, .cells [.int .i64 c1, .str m1, .str u1, .str q1])] g2, List.nodup_cons.2 ⟨hp10, g3⟩, g1, by omega, by omega, hi, l4, fun tk2 H2 o1 o2 o3 => ?_⟩
    generalize listA ⟨sc, sn, sa, sp⟩ el a1 = r2 at h o1 o2 ⊢
    obtain ⟨⟨c2, m2, u2, q2⟩, a2⟩ := r2
    simp only at h o1 o2
    have hpp2 := anH_look o2 o3
    have M4 : lookH p4 H2 = some (.cells [.int .i64 sc, .str sn, .str sa, .str sp]) := lkR o2 o3 (by simp only [List.cons_append, List.nil_append, lookH, n10p4, m10p4, n10p5, m10p5, n10p6, m10p6, n10p7, m10p7, np4, np4', np5, np5', np5p4, np4p5, np6, np6', np6p4, np4p6, np6p5, np5p6, np7, np7', np7p4, np4p7, np7p5, np5p7, np7p6, np6p7, if_true, if_false])
    have M5 : lookH p5 H2 = some (.cells [.int .i64 2, .int .i64 p, .str t, .str q, .bool hph, .bool he, .sl (Nd.avs b) (tokc b), .sl (Nd.avs el) (tokc el)]) := lkR o2 o3 (by simp only [List.cons_append, List.nil_append, lookH, n10p4, m10p4, n10p5, m10p5, n10p6, m10p6, n10p7, m10p7, np4, np4', np5, np5', np5p4, np4p5, np6, np6', np6p4, np4p6, np6p5, np5p6, np7, np7', np7p4, np4p7, np7p5, np5p7, np7p6, np6p7, if_true, if_false])
    have M6 : lookH p6 H2 = some (.cells [.int .i64 0, .str [], .str [], .str []]) := lkR o2 o3 (by simp only [List.cons_append, List.nil_append, lookH, n10p4, m10p4, n10p5, m10p5, n10p6, m10p6, n10p7, m10p7, np4, np4', np5, np5', np5p4, np4p5, np6, np6', np6p4, np4p6, np6p5, np5p6, np7, np7', np7p4, np4p7, np7p5, np5p7, np7p6, np6p7, if_true, if_false])
    have M7 : lookH p7 H2 = some (.cells [.int .i64 0, .str [], .str [], .str []]) := lkR o2 o3 (by simp only [List.cons_append, List.nil_append, lookH, n10p4, m10p4, n10p5, m10p5, n10p6, m10p6, n10p7, m10p7, np4, np4', np5, np5', np5p4, np4p5, np6, np6', np6p4, np4p6, np6p5, np5p6, np7, np7', np7p4, np4p7, np7p5, np5p7, np7p6, np6p7, if_true, if_false])
    have M10 : lookH p10 H2 = some (.cells [.int .i64 c1, .str m1, .str u1, .str q1]) := lkR o2 o3 (by simp only [List.cons_append, List.nil_append, lookH, n10p4, m10p4, n10p5, m10p5, n10p6, m10p6, n10p7, m10p7, np4, np4', np5, np5', np5p4, np4p5, np6, np6', np6p4, np4p6, np6p5, np5p6, np7, np7', np7p4, np4p7, np7p5, np5p7, np7p6, np6p7, if_true, if_false])
    simp (implicitDefEqProofs := false) only [sB, simprocAttr, stAV, np4, np4', np5, np5', np5p4, np4p5, np6, np6', np6p4, np4p6, np6p5, np5p6, np7, np7', np7p4, np4p7, np7p5, np5p7, np7p6, np6p7, M4, M5, M6, M10]
    refine ⟨pp, a2, tk2, .mk 2 p t q hph he b el, p, 16, ⟨c2, m2, u2, q2⟩, ⟨c1, m1, u1, q1⟩, rfl, rfl, hpp2, ?_⟩
    generalize ha3 : (if St.mk c2 m2 u2 q2 ≠ St.mk c1 m1 u1 q1 then a2.fail p 16 else a2) = a3 at h ⊢
    have he3 : a3.escs = a2.escs := by rw [← ha3]; split <;> simp only [fail_escs]
    have hp3 := anH_set (a' := a3) (tk' := tk2) o2 o3
    have hn3 := set_nodup (anO a3 tk2) o3 (p := pp)
    simp (implicitDefEqProofs := false) only [sB, simprocAttr, np4, np4', np5, np5', np5p4, np4p5, np6, np6', np6p4, np4p6, np6p5, np5p6, np7, np7', np7p4, np4p7, np7p5, np5p7, np7p6, np6p7, n10, n10', n10p4, m10p4, n10p5, m10p5, n10p6, m10p6, n10p7, m10p7, M4, M6, M10]
    have hp4' := anH_setR (B := [(p10, .cells [.int .i64 c1, .str m1, .str u1, .str q1]), (p7, .cells [.int .i64 0, .str [], .str [], .str []])]) (C := [(p5, .cells [.int .i64 2, .int .i64 p, .str t, .str q, .bool hph, .bool he, .sl (Nd.avs b) (tokc b), .sl (Nd.avs el) (tokc el)]), (p4, .cells [.int .i64 sc, .str sn, .str sa, .str sp])] ++ R) (.cells [.int .i64 c1, .str m1, .str u1, .str q1]) hp3 hn3
    exact ⟨anH pp a3 tk2 R, hle_sub hp4' (.cons _ (anH_pop (A := [(p10, .cells [.int .i64 c1, .str m1, .str u1, .str q1]), (p7, .cells [.int .i64 0, .str [], .str [], .str []]), (p5, .cells [.int .i64 2, .int .i64 p, .str t, .str q, .bool hph, .bool he, .sl (Nd.avs b) (tokc b), .sl (Nd.avs el) (tokc el)]), (p4, .cells [.int .i64 sc, .str sn, .str sa, .str sp])]))), h tk2 _ (by rw [he3]; exact o1) (.refl _) (nodup_sub hp4' (.cons _ (anH_pop (A := [(p10, .cells [.int .i64 c1, .str m1, .str u1, .str q1]), (p7, .cells [.int .i64 0, .str [], .str [], .str []]), (p5, .cells [.int .i64 2, .int .i64 p, .str t, .str q, .bool hph, .bool he, .sl (Nd.avs b) (tokc b), .sl (Nd.avs el) (tokc el)]), (p4, .cells [.int .i64 sc, .str sn, .str sa, .str sp])]))) (set_nodup _ hn3))⟩
  rw [if_neg k2] at h
  by_cases k3 : k = 3
  · subst k3
    rw [if_pos rfl] at h
    simp (implicitDefEqProofs := false) only [sB, simprocAttr, np4, np4', np5, np5', np5p4, np4p5, np6, np6', np6p4, np4p6, np6p5, np5p6, np7, np7', np7p4, np4p7, np7p5, np5p7, np7p6, np6p7, hlk]
    refine ⟨pp, a, tk, _, ⟨sc, sn, sa, sp⟩, b, tokc b, rfl, anH_push [(p7, .cells [.int .i64 0, .str [], .str [], .str []]), (p6, .cells [.int .i64 0, .str [], .str [], .str []]), (p5, .cells [.int .i64 3, .int .i64 p, .str t, .str q, .bool hph, .bool he, .sl (Nd.avs b) (tokc b), .sl (Nd.avs el) (tokc el)]), (p4, .cells [.int .i64 sc, .str sn, .str sa, .str sp])] hp, List.nodup_cons.2 ⟨hp7, List.nodup_cons.2 ⟨hp6, List.nodup_cons.2 ⟨hp5, List.nodup_cons.2 ⟨hp4, hn⟩⟩⟩⟩, hg, by omega, by omega, hi, l3, fun tk1 H1 g1 g2 g3 => ?_⟩
    have lenb := listA_len ⟨sc, sn, sa, sp⟩ b a
    generalize listA ⟨sc, sn, sa, sp⟩ b a = r1 at h g1 g2 lenb ⊢
    obtain ⟨⟨c1, m1, u1, q1⟩, a1⟩ := r1
    simp only at h g1 g2 lenb
    have hpp1 := anH_look g2 g3
    have K4 : lookH p4 H1 = some (.cells [.int .i64 sc, .str sn, .str sa, .str sp]) := lkR g2 g3 (by simp only [List.cons_append, List.nil_append, lookH, np4, np4', np5, np5', np5p4, np4p5, np6, np6', np6p4, np4p6, np6p5, np5p6, np7, np7', np7p4, np4p7, np7p5, np5p7, np7p6, np6p7, if_true, if_false])
    have K5 : lookH p5 H1 = some (.cells [.int .i64 3, .int .i64 p, .str t, .str q, .bool hph, .bool he, .sl (Nd.avs b) (tokc b), .sl (Nd.avs el) (tokc el)]) := lkR g2 g3 (by simp only [List.cons_append, List.nil_append, lookH, np4, np4', np5, np5', np5p4, np4p5, np6, np6', np6p4, np4p6, np6p5, np5p6, np7, np7', np7p4, np4p7, np7p5, np5p7, np7p6, np6p7, if_true, if_false])
    have K6 : lookH p6 H1 = some (.cells [.int .i64 0, .str [], .str [], .str []]) := lkR g2 g3 (by simp only [List.cons_append, List.nil_append, lookH, np4, np4', np5, np5', np5p4, np4p5, np6, np6', np6p4, np4p6, np6p5, np5p6, np7, np7', np7p4, np4p7, np7p5, np5p7, np7p6, np6p7, if_true, if_false])
    have K7 : lookH p7 H1 = some (.cells [.int .i64 0, .str [], .str [], .str []]) := lkR g2 g3 (by simp only [List.cons_append, List.nil_append, lookH, np4, np4', np5, np5', np5p4, np4p5, np6, np6', np6p4, np4p6, np6p5, np5p6, np7, np7', np7p4, np4p7, np7p5, np5p7, np7p6, np6p7, if_true, if_false])
    simp (implicitDefEqProofs := false) only [sB, simprocAttr, stAV, np4, np4', np5, np5', np5p4, np4p5, np6, np6', np6p4, np4p6, np6p5, np5p6, np7, np7', np7p4, np4p7, np7p5, np5p7, np7p6, np6p7, K4, K5, K6, K7]
    refine ⟨pp, a1, tk1, .mk 3 p t q hph he b el, p, 16, ⟨c1, m1, u1, q1⟩, ⟨sc, sn, sa, sp⟩, rfl, rfl, hpp1, ?_⟩
    generalize ha3 : (if St.mk c1 m1 u1 q1 ≠ ⟨sc, sn, sa, sp⟩ then a1.fail p 16 else a1) = a3 at h ⊢
    have he3 : a3.escs = a1.escs := by rw [← ha3]; split <;> simp only [fail_escs]
    have hp3 := anH_set (a' := a3) (tk' := tk1) g2 g3
    have hn3 := set_nodup (anO a3 tk1) g3 (p := pp)
    simp (implicitDefEqProofs := false) only [sB, simprocAttr, np4, np4', np5, np5', np5p4, np4p5, np6, np6', np6p4, np4p6, np6p5, np5p6, np7, np7', np7p4, np4p7, np7p5, np5p7, np7p6, np6p7, K4, K6]
    have hp4' := anH_setR (B := [(p7, .cells [.int .i64 0, .str [], .str [], .str []])]) (C := [(p5, .cells [.int .i64 3, .int .i64 p, .str t, .str q, .bool hph, .bool he, .sl (Nd.avs b) (tokc b), .sl (Nd.avs el) (tokc el)]), (p4, .cells [.int .i64 sc, .str sn, .str sa, .str sp])] ++ R) (.cells [.int .i64 sc, .str sn, .str sa, .str sp]) hp3 hn3
    exact ⟨anH pp a3 tk1 R, hle_sub hp4' (.cons _ (anH_pop (A := [(p7, .cells [.int .i64 0, .str [], .str [], .str []]), (p5, .cells [.int .i64 3, .int .i64 p, .str t, .str q, .bool hph, .bool he, .sl (Nd.avs b) (tokc b), .sl (Nd.avs el) (tokc el)]), (p4, .cells [.int .i64 sc, .str sn, .str sa, .str sp])]))), h tk1 _ (by rw [he3]; exact g1) (.refl _) (nodup_sub hp4' (.cons _ (anH_pop (A := [(p7, .cells [.int .i64 0, .str [], .str [], .str []]), (p5, .cells [.int .i64 3, .int .i64 p, .str t, .str q, .bool hph, .bool he, .sl (Nd.avs b) (tokc b), .sl (Nd.avs el) (tokc el)]), (p4, .cells [.int .i64 sc, .str sn, .str sa, .str sp])]))) (set_nodup _ hn3))⟩
  rw [if_neg k3] at h
  by_cases k4 : k = 4
  · rw [if_pos k4] at h
    simp (implicitDefEqProofs := false) only [sB, simprocAttr, np4, np4', np5, np5', np5p4, np4p5, np6, np6', np6p4, np4p6, np6p5, np5p6, np7, np7', np7p4, np4p7, np7p5, np5p7, np7p6, np6p7, hlk, k4]
    refine ⟨pp, a, tk, .mk 4 p t q hph he b el, p, 15, ⟨sc, sn, sa, sp⟩, St.zero, rfl, rfl, by simp only [lookH, np4, np4', np5, np5', np5p4, np4p5, np6, np6', np6p4, np4p6, np6p5, np5p6, np7, np7', np7p4, np4p7, np7p5, np5p7, np7p6, np6p7, if_false, hlk]; rfl, ?_⟩
    simp (implicitDefEqProofs := false) only [sB, simprocAttr, np4, np4', np5, np5', np5p4, np4p5, np6, np6', np6p4, np4p6, np6p5, np5p6, np7, np7', np7p4, np4p7, np7p5, np5p7, np7p6, np6p7, hlk, k4]
    refine ⟨_, hle4 (.refl _), h tk (setH pp (anO (if St.mk sc sn sa sp ≠ St.zero then a.fail p 15 else a) tk) H) (by split <;> simp only [fail_escs] <;> exact hg) (anH_set (tk' := tk) hp hn) (set_nodup _ hn)⟩
  rw [if_neg k4] at h
  by_cases k6 : k = 6
  · subst k6
    rw [if_pos rfl] at h
    simp (implicitDefEqProofs := false) only [sB, simprocAttr, np4, np4', np5, np5', np5p4, np4p5, np6, np6', np6p4, np4p6, np6p5, np5p6, np7, np7', np7p4, np4p7, np7p5, np5p7, np7p6, np6p7, hlk]
    refine ⟨pp, a, tk, _, St.zero, b, tokc b, rfl, anH_push [(p7, .cells [.int .i64 0, .str [], .str [], .str []]), (p6, .cells [.int .i64 0, .str [], .str [], .str []]), (p5, .cells [.int .i64 6, .int .i64 p, .str t, .str q, .bool hph, .bool he, .sl (Nd.avs b) (tokc b), .sl (Nd.avs el) (tokc el)]), (p4, .cells [.int .i64 sc, .str sn, .str sa, .str sp])] hp, List.nodup_cons.2 ⟨hp7, List.nodup_cons.2 ⟨hp6, List.nodup_cons.2 ⟨hp5, List.nodup_cons.2 ⟨hp4, hn⟩⟩⟩⟩, hg, by omega, by omega, invZ, l3, fun tk1 H1 g1 g2 g3 => ?_⟩
    have lenb := listA_len St.zero b a
    generalize listA St.zero b a = r1 at h g1 g2 lenb ⊢
    obtain ⟨⟨c1, m1, u1, q1⟩, a1⟩ := r1
    simp only at h g1 g2 lenb
    have hpp1 := anH_look g2 g3
    have K4 : lookH p4 H1 = some (.cells [.int .i64 sc, .str sn, .str sa, .str sp]) := lkR g2 g3 (by simp only [List.cons_append, List.nil_append, lookH, np4, np4', np5, np5', np5p4, np4p5, np6, np6', np6p4, np4p6, np6p5, np5p6, np7, np7', np7p4, np4p7, np7p5, np5p7, np7p6, np6p7, if_true, if_false])
    have K5 : lookH p5 H1 = some (.cells [.int .i64 6, .int .i64 p, .str t, .str q, .bool hph, .bool he, .sl (Nd.avs b) (tokc b), .sl (Nd.avs el) (tokc el)]) := lkR g2 g3 (by simp only [List.cons_append, List.nil_append, lookH, np4, np4', np5, np5', np5p4, np4p5, np6, np6', np6p4, np4p6, np6p5, np5p6, np7, np7', np7p4, np4p7, np7p5, np5p7, np7p6, np6p7, if_true, if_false])
    have K6 : lookH p6 H1 = some (.cells [.int .i64 0, .str [], .str [], .str []]) := lkR g2 g3 (by simp only [List.cons_append, List.nil_append, lookH, np4, np4', np5, np5', np5p4, np4p5, np6, np6', np6p4, np4p6, np6p5, np5p6, np7, np7', np7p4, np4p7, np7p5, np5p7, np7p6, np6p7, if_true, if_false])
    have K7 : lookH p7 H1 = some (.cells [.int .i64 0, .str [], .str [], .str []]) := lkR g2 g3 (by simp only [List.cons_append, List.nil_append, lookH, np4, np4', np5, np5', np5p4, np4p5, np6, np6', np6p4, np4p6, np6p5, np5p6, np7, np7', np7p4, np4p7, np7p5, np5p7, np7p6, np6p7, if_true, if_false])
    simp (implicitDefEqProofs := false) only [sB, simprocAttr, stAV, np4, np4', np5, np5', np5p4, np4p5, np6, np6', np6p4, np4p6, np6p5, np5p6, np7, np7', np7p4, np4p7, np7p5, np5p7, np7p6, np6p7, K4, K5, K6, K7]
    refine ⟨pp, a1, tk1, .mk 6 p t q hph he b el, p, 16, ⟨c1, m1, u1, q1⟩, St.zero, rfl, rfl, hpp1, ?_⟩
    generalize ha3 : (if St.mk c1 m1 u1 q1 ≠ St.zero then a1.fail p 16 else a1) = a3 at h ⊢
    have he3 : a3.escs = a1.escs := by rw [← ha3]; split <;> simp only [fail_escs]
    have hp3 := anH_set (a' := a3) (tk' := tk1) g2 g3
    have hn3 := set_nodup (anO a3 tk1) g3 (p := pp)
    simp (implicitDefEqProofs := false) only [sB, simprocAttr, np4, np4', np5, np5', np5p4, np4p5, np6, np6', np6p4, np4p6, np6p5, np5p6, np7, np7', np7p4, np4p7, np7p5, np5p7, np7p6, np6p7, K4, K6]
    have hp4' := anH_setR (B := [(p7, .cells [.int .i64 0, .str [], .str [], .str []])]) (C := [(p5, .cells [.int .i64 6, .int .i64 p, .str t, .str q, .bool hph, .bool he, .sl (Nd.avs b) (tokc b), .sl (Nd.avs el) (tokc el)]), (p4, .cells [.int .i64 sc, .str sn, .str sa, .str sp])] ++ R) (.cells [.int .i64 sc, .str sn, .str sa, .str sp]) hp3 hn3
    exact ⟨anH pp a3 tk1 R, hle_sub hp4' (.cons _ (anH_pop (A := [(p7, .cells [.int .i64 0, .str [], .str [], .str []]), (p5, .cells [.int .i64 6, .int .i64 p, .str t, .str q, .bool hph, .bool he, .sl (Nd.avs b) (tokc b), .sl (Nd.avs el) (tokc el)]), (p4, .cells [.int .i64 sc, .str sn, .str sa, .str sp])]))), h tk1 _ (by rw [he3]; exact g1) (.refl _) (nodup_sub hp4' (.cons _ (anH_pop (A := [(p7, .cells [.int .i64 0, .str [], .str [], .str []]), (p5, .cells [.int .i64 6, .int .i64 p, .str t, .str q, .bool hph, .bool he, .sl (Nd.avs b) (tokc b), .sl (Nd.avs el) (tokc el)]), (p4, .cells [.int .i64 sc, .str sn, .str sa, .str sp])]))) (set_nodup _ hn3))⟩
  · rw [if_neg k6] at h
    simp (implicitDefEqProofs := false) only [sB, simprocAttr, np4, np4', np5, np5', np5p4, np4p5, np6, np6', np6p4, np4p6, np6p5, np5p6, np7, np7', np7p4, np4p7, np7p5, np5p7, np7p6, np6p7, hlk, k0, k1, k2, k3, k4, k6]
    exact ⟨H, hle4 (.refl _), h tk H hg hp hn⟩
end Go.AL.Fun
