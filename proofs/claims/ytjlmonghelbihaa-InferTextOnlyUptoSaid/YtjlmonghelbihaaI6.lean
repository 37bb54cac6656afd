/- The reference's analysis walked: a run, a node. Printed by gi6.py. -/
import Derived.Test.YtjlmonghelbihaaI5
import Derived.Test.YtjlmonghelbihaaH15
set_option linter.unusedSimpArgs false
set_option linter.unusedVariables false
set_option maxRecDepth 100000
set_option maxHeartbeats 4000000
namespace Go.AL.Fun
open Go Go.AL

theorem hle_set {X H : Heap} {id : Nat} {o : AObj} (h : Hle X H) (hn : H.keys.Nodup) (hid : id ∉ X.keys) : Hle X (setH id o H) := by
  obtain ⟨L, h1, h2⟩ := h
  refine ⟨L, ?_, h2⟩
  unfold setH
  rw [renH_map hn]
  have hL : id ∉ L.keys := fun e => hid ((keys_perm h2).mem_iff.1 e)
  have he : L.map (fun p => if id = p.1 then (id, o) else p) = L := by
    conv => rhs; rw [← List.map_id' L]
    exact List.map_congr_left fun p hp => by
      rw [if_neg]
      intro e
      exact hL (List.mem_map.2 ⟨p, hp, e.symm⟩)
  have := h1.map (fun p => if id = p.1 then (id, o) else p)
  rw [he] at this
  exact this
theorem r25_of (P : Program) {xs : List AV} {H : Heap} {K : Kv} (h : c17 xs H K) : @xF ⟨fun _ => none, P, [(13, r13)]⟩ f25 xs H ⟨fun v H' => ∃ H0, Hle H0 H' ∧ K.ap v H0⟩ := by
  obtain ⟨s, t, rfl, hi, ht, h⟩ := h
  simp (implicitDefEqProofs := false) only [sB, simprocAttr, f25, stAV]
  refine i_new fun p2 hp2 => ?_
  have hp2' := hp2
  simp (implicitDefEqProofs := false) only [sB, simprocAttr, Heap.keys] at hp2'
  have mp2 : p2 ∉ H.keys := hp2'
  simp (implicitDefEqProofs := false) only [sB, simprocAttr]
  refine i_new fun p4 hp4 => ?_
  have hp4' := hp4
  simp (implicitDefEqProofs := false) only [sB, simprocAttr, Heap.keys] at hp4'
  have np4p2 : ¬ p4 = p2 := hp4'.1
  have np2p4 : ¬ p2 = p4 := fun e => np4p2 e.symm
  have mp4 : p4 ∉ H.keys := hp4'.2
  simp (implicitDefEqProofs := false) only [sB, simprocAttr, np4p2, np2p4]
  refine i_loopJ (fun σ H1 => ∃ (i : Nat), H1 = (p4, .cells [.int .i64 0, .str [], .str [], .str []]) :: (p2, .cells (stAV (runP s (t.take i))).cells) :: H ∧ i ≤ t.length ∧ σ = [(1, .str t), (2, .ptr p2 0), (4, .ptr p4 0), (5, .int .i64 i)])
    (fun σ _ => match σ.get 5 with | .int _ n => t.length - n.toNat | _ => 0)
    (fun e σ H1 => e = .exit 0 ∧ H1 = (p4, .cells [.int .i64 0, .str [], .str [], .str []]) :: (p2, .cells (stAV (runP s t)).cells) :: H ∧ σ.get 2 = .ptr p2 0 ∧ σ.get 4 = .ptr p4 0)
    ⟨_, .refl _, 0, rfl, Nat.zero_le _, rfl⟩ ?_ ?_
  · rintro e σ H1 ⟨rfl, rfl, q2, q4⟩
    simp (implicitDefEqProofs := false) only [sB, simprocAttr, np4p2, np2p4, q2, q4, stAV]
    exact ⟨H, (.of_sub (.cons _ (.cons _ (.refl _)))), h⟩
  · rintro Q hQ σ H1 ⟨i, rfl, hi1, rfl⟩
    simp (implicitDefEqProofs := false) only [sB, simprocAttr]
    refine i_if (fun c => ?_) (fun c => ?_)
    · have c' : i < t.length := by simpa using c
      have hx : t[i]? = some t[i] := List.getElem?_eq_getElem c'
      have r9 := w_i64 ((i : Int) + 1) (by omega) (by omega)
      have i0 : (0 : Int) ≤ (i : Int) := by omega
      simp (implicitDefEqProofs := false) only [sB, simprocAttr, np4p2, np2p4, i0, hx, stAV, byteAV_n8]
      refine ⟨runP s (t.take i), t[i], rfl, inv_run hi _, ?_⟩
      simp (implicitDefEqProofs := false) only [sB, simprocAttr, np4p2, np2p4, stAV, r9]
      refine ⟨_, .refl _, ⟨i + 1, ?_, by omega, by simp⟩, by omega⟩
      rw [run_take c']
    · have : i = t.length := by have : ¬ (i : Int) < t.length := by simpa using c
                                omega
      subst this
      rw [List.take_length]
      simp (implicitDefEqProofs := false) only [sB, simprocAttr]
      exact hQ _ _ _ ⟨rfl, rfl, rfl, rfl⟩
def NTk (xs : List AV) (t : Tok) : Prop := t = .no ∨ (t = .nil ∧ xs = [])
theorem AVle.nt {xs : List AV} {tk : Tok} (h : tk = .nil → xs = []) : ∃ tok, NTk xs tok ∧ AVle (.sl xs tk) (.sl xs tok) := by
  cases tk with
  | nil => exact ⟨.nil, .inr ⟨rfl, h rfl⟩, .refl _⟩
  | no => exact ⟨.no, .inl rfl, .refl _⟩
  | «at» b e s => exact ⟨.no, .inl rfl, .no _ _ _ _⟩
def rsCs (r : Rs) (tok : Tok) : List AV := [.int .i64 r.st.ctx, .str r.st.name, .str r.st.attr, .str r.st.part, .sl (intsAV r.escs) tok, .int .i64 r.at_, .int .i64 r.err]
theorem AVle.rs {a b c d f g : AV} {xs : List AV} {t t' : Tok} (h : AVle (.sl xs t) (.sl xs t')) : AVle (.agg [a, b, c, d, .sl xs t, f, g]) (.agg [a, b, c, d, .sl xs t', f, g]) :=
  .agg (.cons (.refl _) (.cons (.refl _) (.cons (.refl _) (.cons (.refl _) (.cons h (.refl _))))))
mutual
theorem nodeF_len (s : St) : ∀ (n : Nd), (nodeF s n).escs.length ≤ n.cnt
  | .mk k p t q hp he b e => by
    have h1 := listF_len s b
    have h2 := listF_len s e
    have h3 := listF_len St.zero b
    rw [nodeF]
    simp only [Nd.cnt]
    repeat' split
    all_goals ((try simp only [List.length_append, List.length_cons, List.length_nil]); omega)
theorem listF_len (s : St) : ∀ (l : List Nd), (listF s l).escs.length ≤ Nd.cnts l
  | [] => by rw [listF]; exact Nat.zero_le _
  | n :: l => by
    have h1 := nodeF_len s n
    have h2 := listF_len (nodeF s n).st l
    rw [listF]
    simp only [Nd.cnts]
    repeat' split
    all_goals ((try simp only [List.length_append, List.length_nil]); omega)
end
mutual
theorem nodeF_inv (s : St) : ∀ (n : Nd), Inv s → Inv (nodeF s n).st
  | .mk k p t q hp he b e, h => by
    have h1 := listF_inv s b h
    have h2 := listF_inv s e h
    have h3 := listF_inv St.zero b invZ
    rw [nodeF]
    split
    · exact inv_run h _
    · repeat' split
      all_goals first | exact h | exact h1 | exact h2 | exact h3
theorem listF_inv (s : St) : ∀ (l : List Nd), Inv s → Inv (listF s l).st
  | [], h => by rw [listF]; exact h
  | n :: l, h => by
    have h1 := nodeF_inv s n h
    have h2 := listF_inv (nodeF s n).st l h1
    rw [listF]
    repeat' split
    all_goals first | exact invZ | exact h2
end
def c37 (N : Nat) (xs : List AV) (H : Heap) (K : Kv) : Prop := ∃ (s : St) (n : Nd), xs = [stAV s, .agg n.cs] ∧ H.keys.Nodup ∧ n.cnt ≤ N ∧ n.cnt ≤ 1099511627776 ∧ Inv s ∧ n.le 1099511627776 ∧ ∀ tok, NTk (intsAV (nodeF s n).escs) tok → K.ap (.agg (rsCs (nodeF s n) tok)) H
def c24 (N : Nat) (xs : List AV) (H : Heap) (K : Kv) : Prop := ∃ (s : St) (l : List Nd) (tk : Tok), xs = [stAV s, .sl (Nd.avs l) tk] ∧ H.keys.Nodup ∧ Nd.cnts l ≤ N ∧ Nd.cnts l ≤ 1099511627776 ∧ Inv s ∧ Nd.les 1099511627776 l ∧ ∀ tok, NTk (intsAV (listF s l).escs) tok → K.ap (.agg (rsCs (listF s l) tok)) H
@[reducible] def t37 (N : Nat) (P : Program) : Th := ⟨fun _ => none, P, [(24, c24 N), (25, c17), (15, c14)]⟩
theorem c37_of (P : Program) {N : Nat} {xs : List AV} {H : Heap} {K : Kv} (h : c37 (N + 1) xs H K) : @xF (t37 N P) f37 xs H ⟨fun v H' => ∃ H0, Hle H0 H' ∧ ∃ v', AVle v v' ∧ K.ap v' H0⟩ := by
  obtain ⟨⟨sc, sn, sa, sp⟩, ⟨k, p, t, q, hph, he, b, el⟩, rfl, hn, hN, hc, hi, hle, h⟩ := h
  obtain ⟨l1, l2, l3, l4⟩ := hle
  simp only [Nd.cnt] at hN hc
  rw [nodeF] at h
  simp (implicitDefEqProofs := false) only [sB, simprocAttr, f37, Nd.cs, stAV]
  refine i_new fun p2 hp2 => ?_
  have hp2' := hp2
  simp (implicitDefEqProofs := false) only [sB, simprocAttr, Heap.keys] at hp2'
  have mp2 : p2 ∉ H.keys := hp2'
  simp (implicitDefEqProofs := false) only [sB, simprocAttr, noOb]
  refine i_new fun p3 hp3 => ?_
  have hp3' := hp3
  simp (implicitDefEqProofs := false) only [sB, simprocAttr, Heap.keys] at hp3'
  have np3p2 : ¬ p3 = p2 := hp3'.1
  have np2p3 : ¬ p2 = p3 := fun e => np3p2 e.symm
  have mp3 : p3 ∉ H.keys := hp3'.2
  simp (implicitDefEqProofs := false) only [sB, simprocAttr, np3p2, np2p3, noOb]
  refine i_new fun p4 hp4 => ?_
  have hp4' := hp4
  simp (implicitDefEqProofs := false) only [sB, simprocAttr, Heap.keys] at hp4'
  have np4p3 : ¬ p4 = p3 := hp4'.1
  have np3p4 : ¬ p3 = p4 := fun e => np4p3 e.symm
  have np4p2 : ¬ p4 = p2 := hp4'.2.1
  have np2p4 : ¬ p2 = p4 := fun e => np4p2 e.symm
  have mp4 : p4 ∉ H.keys := hp4'.2.2
  simp (implicitDefEqProofs := false) only [sB, simprocAttr, np3p2, np2p3, np4p2, np2p4, np4p3, np3p4, noOb]
  refine i_new fun p5 hp5 => ?_
  have hp5' := hp5
  simp (implicitDefEqProofs := false) only [sB, simprocAttr, Heap.keys] at hp5'
  have np5p4 : ¬ p5 = p4 := hp5'.1
  have np4p5 : ¬ p4 = p5 := fun e => np5p4 e.symm
  have np5p3 : ¬ p5 = p3 := hp5'.2.1
  have np3p5 : ¬ p3 = p5 := fun e => np5p3 e.symm
  have np5p2 : ¬ p5 = p2 := hp5'.2.2.1
  have np2p5 : ¬ p2 = p5 := fun e => np5p2 e.symm
  have mp5 : p5 ∉ H.keys := hp5'.2.2.2
  by_cases k0 : k = 0
  · subst k0
    rw [if_pos rfl] at h
    simp (implicitDefEqProofs := false) only [sB, simprocAttr, np3p2, np2p3, np4p2, np2p4, np4p3, np3p4, np5p2, np2p5, np5p3, np3p5, np5p4, np4p5, x_c17 hi (show t.length ≤ 1099511627776 from l1), stAV]
    exact ⟨H, (.of_sub (.cons _ (.cons _ (.cons _ (.cons _ (.refl _)))))), _, .refl _, h .nil (.inr ⟨rfl, rfl⟩)⟩
  rw [if_neg k0] at h
  by_cases k1 : k = 1
  · subst k1
    rw [if_pos rfl] at h
    by_cases es : (escP ⟨sc, sn, sa, sp⟩).2 = true
    · simp only [es, Bool.true_eq_false, if_false] at h
      simp (implicitDefEqProofs := false) only [sB, simprocAttr, np3p2, np2p3, np4p2, np2p4, np4p3, np3p4, np5p2, np2p5, np5p3, np3p5, np5p4, np4p5, x_c14, es]
      refine i_sl ⟨⟨ints_all [(escP ⟨sc, sn, sa, sp⟩).1], rfl, rfl⟩, i_new fun z hz => ?_⟩
      have hz' := hz
      simp (implicitDefEqProofs := false) only [sB, simprocAttr, Heap.keys] at hz'
      have z5 : ¬ p5 = z := fun e => hz'.1 e.symm
      have z4 : ¬ p4 = z := fun e => hz'.2.1 e.symm
      simp (implicitDefEqProofs := false) only [sB, simprocAttr, np3p2, np2p3, np4p2, np2p4, np4p3, np3p4, np5p2, np2p5, np5p3, np3p5, np5p4, np4p5, z5, z4]
      exact ⟨H, (.of_sub (.cons _ (.cons _ (.cons _ (.cons _ (.cons _ (.refl _))))))), _, AVle.rs (.no _ _ _ _), h .no (.inl rfl)⟩
    · have es' : (escP ⟨sc, sn, sa, sp⟩).2 = false := by simpa using es
      simp only [es', if_true] at h
      simp (implicitDefEqProofs := false) only [sB, simprocAttr, np3p2, np2p3, np4p2, np2p4, np4p3, np3p4, np5p2, np2p5, np5p3, np3p5, np5p4, np4p5, x_c14, es']
      refine i_sl ⟨⟨ints_all [(escP ⟨sc, sn, sa, sp⟩).1], rfl, rfl⟩, i_new fun z hz => ?_⟩
      have hz' := hz
      simp (implicitDefEqProofs := false) only [sB, simprocAttr, Heap.keys] at hz'
      have z5 : ¬ p5 = z := fun e => hz'.1 e.symm
      have z4 : ¬ p4 = z := fun e => hz'.2.1 e.symm
      simp (implicitDefEqProofs := false) only [sB, simprocAttr, np3p2, np2p3, np4p2, np2p4, np4p3, np3p4, np5p2, np2p5, np5p3, np3p5, np5p4, np4p5, z5, z4]
      exact ⟨H, (.of_sub (.cons _ (.cons _ (.cons _ (.cons _ (.cons _ (.refl _))))))), _, AVle.rs (.no _ _ _ _), h .no (.inl rfl)⟩
  rw [if_neg k1] at h
  by_cases k2 : k = 2
  · subst k2
    rw [if_pos rfl] at h
    simp (implicitDefEqProofs := false) only [sB, simprocAttr, np3p2, np2p3, np4p2, np2p4, np4p3, np3p4, np5p2, np2p5, np5p3, np3p5, np5p4, np4p5]
    refine ⟨⟨sc, sn, sa, sp⟩, b, tokc b, rfl, List.nodup_cons.2 ⟨hp5, List.nodup_cons.2 ⟨hp4, List.nodup_cons.2 ⟨hp3, List.nodup_cons.2 ⟨hp2, hn⟩⟩⟩⟩, by omega, by omega, hi, l3, fun tok1 ht1 => ?_⟩
    have len1 := listF_len ⟨sc, sn, sa, sp⟩ b
    have len2 := listF_len ⟨sc, sn, sa, sp⟩ el
    generalize listF ⟨sc, sn, sa, sp⟩ b = r1 at h ht1 len1 ⊢
    obtain ⟨⟨c1, m1, u1, q1⟩, e1, a1, r1⟩ := r1
    simp only at h ht1 len1
    simp (implicitDefEqProofs := false) only [sB, simprocAttr, np3p2, np2p3, np4p2, np2p4, np4p3, np3p4, np5p2, np2p5, np5p3, np3p5, np5p4, np4p5, rsCs]
    refine i_new fun p8 hp8 => ?_
    have hp8' := hp8
    simp (implicitDefEqProofs := false) only [sB, simprocAttr, Heap.keys] at hp8'
    have np8p5 : ¬ p8 = p5 := hp8'.1
    have np5p8 : ¬ p5 = p8 := fun e => np8p5 e.symm
    have np8p4 : ¬ p8 = p4 := hp8'.2.1
    have np4p8 : ¬ p4 = p8 := fun e => np8p4 e.symm
    have np8p3 : ¬ p8 = p3 := hp8'.2.2.1
    have np3p8 : ¬ p3 = p8 := fun e => np8p3 e.symm
    have np8p2 : ¬ p8 = p2 := hp8'.2.2.2.1
    have np2p8 : ¬ p2 = p8 := fun e => np8p2 e.symm
    have mp8 : p8 ∉ H.keys := hp8'.2.2.2.2
    by_cases r0 : r1 = 0
    · simp only [r0, ne_eq, not_true_eq_false, if_false] at h
      simp (implicitDefEqProofs := false) only [sB, simprocAttr, np3p2, np2p3, np4p2, np2p4, np4p3, np3p4, np5p2, np2p5, np5p3, np3p5, np5p4, np4p5, np8p2, np2p8, np8p3, np3p8, np8p4, np4p8, np8p5, np5p8, rsCs, r0]
      refine ⟨⟨sc, sn, sa, sp⟩, el, tokc el, rfl, List.nodup_cons.2 ⟨hp8, List.nodup_cons.2 ⟨hp5, List.nodup_cons.2 ⟨hp4, List.nodup_cons.2 ⟨hp3, List.nodup_cons.2 ⟨hp2, hn⟩⟩⟩⟩⟩, by omega, by omega, hi, l4, fun tok2 ht2 => ?_⟩
      generalize listF ⟨sc, sn, sa, sp⟩ el = r2 at h ht2 len2 ⊢
      obtain ⟨⟨c2, m2, u2, q2⟩, e2, a2, r2⟩ := r2
      simp only at h ht2 len2
      simp (implicitDefEqProofs := false) only [sB, simprocAttr, np3p2, np2p3, np4p2, np2p4, np4p3, np3p4, np5p2, np2p5, np5p3, np3p5, np5p4, np4p5, np8p2, np2p8, np8p3, np3p8, np8p4, np4p8, np8p5, np5p8, rsCs]
      refine i_new fun p9 hp9 => ?_
      have hp9' := hp9
      simp (implicitDefEqProofs := false) only [sB, simprocAttr, Heap.keys] at hp9'
      have np9p8 : ¬ p9 = p8 := hp9'.1
      have np8p9 : ¬ p8 = p9 := fun e => np9p8 e.symm
      have np9p5 : ¬ p9 = p5 := hp9'.2.1
      have np5p9 : ¬ p5 = p9 := fun e => np9p5 e.symm
      have np9p4 : ¬ p9 = p4 := hp9'.2.2.1
      have np4p9 : ¬ p4 = p9 := fun e => np9p4 e.symm
      have np9p3 : ¬ p9 = p3 := hp9'.2.2.2.1
      have np3p9 : ¬ p3 = p9 := fun e => np9p3 e.symm
      have np9p2 : ¬ p9 = p2 := hp9'.2.2.2.2.1
      have np2p9 : ¬ p2 = p9 := fun e => np9p2 e.symm
      have mp9 : p9 ∉ H.keys := hp9'.2.2.2.2.2
      by_cases r20 : r2 = 0
      · simp only [r20, not_true_eq_false, if_false] at h
        have fin : ∀ (er : Int), (∀ tok, NTk (intsAV (e1 ++ e2)) tok → K.ap (.agg [.int .i64 c1, .str m1, .str u1, .str q1, .sl (intsAV (e1 ++ e2)) tok, .int .i64 p, .int .i64 er]) H) →
            ∀ c5 c4 : AObj, ∀ tk' H', GT (intsAV (e1 ++ e2)) tk' → H'.Perm (tokH tk' ++ ((p9, .cells [.int .i64 c2, .str m2, .str u2, .str q2, .sl (intsAV e2) tok2, .int .i64 a2, .int .i64 0]) :: (p8, .cells [.int .i64 c1, .str m1, .str u1, .str q1, .sl (intsAV e1) tok1, .int .i64 a1, .int .i64 0]) :: (p5, c5) :: (p4, c4) :: (p3, .cells [.int .i64 2, .int .i64 p, .str t, .str q, .bool hph, .bool he, .sl (Nd.avs b) (tokc b), .sl (Nd.avs el) (tokc el)]) :: (p2, .cells [.int .i64 sc, .str sn, .str sa, .str sp]) :: H)) → H'.keys.Nodup →
            ∀ o5 o4 : AObj, ∃ H0, Hle H0 (setH p4 o4 (setH p5 o5 H')) ∧ ∃ v', AVle (.agg [.int .i64 c1, .str m1, .str u1, .str q1, .sl (intsAV (e1 ++ e2)) tk', .int .i64 p, .int .i64 er]) v' ∧ K.ap v' H0 := by
          intro er hK c5 c4 tk' H' g1 g2 g3 o5 o4
          obtain ⟨tok, t1, t2⟩ := AVle.nt (xs := intsAV (e1 ++ e2)) (tk := tk') (fun e => by subst e; exact g1)
          have hh : Hle H H' := hle_sub g2 ((List.Sublist.cons _ (.cons _ (.cons _ (.cons _ (.cons _ (.cons _ (.refl _))))))).trans (List.sublist_append_right _ _))
          exact ⟨H, hle_set (hle_set hh g3 mp5) (set_nodup _ g3) mp4, _, AVle.rs t2, hK tok t1⟩
        have len12 : (intsAV e1).length + (intsAV e2).length ≤ 1099511627776 := by simp only [ints_len]; omega
        by_cases e0 : St.mk c1 m1 u1 q1 = St.mk c2 m2 u2 q2
        · have e0e := eq_true e0
          have e0n : ¬ (St.mk c1 m1 u1 q1 ≠ St.mk c2 m2 u2 q2) := fun x => x e0
          simp only [if_neg e0n] at h
          simp (implicitDefEqProofs := false) only [sB, simprocAttr, np3p2, np2p3, np4p2, np2p4, np4p3, np3p4, np5p2, np2p5, np5p3, np3p5, np5p4, np4p5, np8p2, np2p8, np8p3, np3p8, np8p4, np4p8, np8p5, np5p8, np9p2, np2p9, np9p3, np3p9, np9p4, np4p9, np9p5, np5p9, np9p8, np8p9, rsCs, r0, r20, x_eqst, (show (St.mk c1 m1 u1 q1 = St.mk c2 m2 u2 q2) = True from e0e)]
          refine i_emp (List.nodup_cons.2 ⟨hp9, List.nodup_cons.2 ⟨hp8, List.nodup_cons.2 ⟨hp5, List.nodup_cons.2 ⟨hp4, List.nodup_cons.2 ⟨hp3, List.nodup_cons.2 ⟨hp2, hn⟩⟩⟩⟩⟩⟩) fun z hz hzn => ?_
          have hz' := hz
          simp (implicitDefEqProofs := false) only [sB, simprocAttr, Heap.keys] at hz'
          have z9 : ¬ p9 = z := fun e => hz'.1 e.symm
          have z8 : ¬ p8 = z := fun e => hz'.2.1 e.symm
          simp (implicitDefEqProofs := false) only [sB, simprocAttr, np3p2, np2p3, np4p2, np2p4, np4p3, np3p4, np5p2, np2p5, np5p3, np3p5, np5p4, np4p5, np8p2, np2p8, np8p3, np3p8, np8p4, np4p8, np8p5, np5p8, np9p2, np2p9, np9p3, np3p9, np9p4, np4p9, np9p5, np5p9, np9p8, np8p9, z9, z8]
          refine i_appX (A := []) (tk := .at z 0 1) (xs := []) (ys := intsAV e1) (.refl _) hzn rfl (src_sl_of _ _ (ints_all _)) (by intro x hx; cases hx) ?_ ?_ fun tk1 H1 g1 g2 g3 => ?_
          · simp only [List.length_nil, maxLen_eq]; omega
          · simp only [List.length_nil]; omega
          rw [List.nil_append] at g1 ⊢
          have M9 : lookH p9 H1 = some (.cells [.int .i64 c2, .str m2, .str u2, .str q2, .sl (intsAV e2) tok2, .int .i64 a2, .int .i64 0]) := look_at g2 g3 (by simp)
          simp (implicitDefEqProofs := false) only [sB, simprocAttr, np3p2, np2p3, np4p2, np2p4, np4p3, np3p4, np5p2, np2p5, np5p3, np3p5, np5p4, np4p5, np8p2, np2p8, np8p3, np3p8, np8p4, np4p8, np8p5, np5p8, np9p2, np2p9, np9p3, np3p9, np9p4, np4p9, np9p5, np5p9, np9p8, np8p9, M9]
          refine i_appX (A := []) (tk := tk1) (xs := intsAV e1) (ys := intsAV e2) g2 g3 g1 (src_sl_of _ _ (ints_all _)) (ints_all _) ?_ ?_ fun tk2 H2 k1 k2 k3 => ?_
          · simp only [maxLen_eq]; omega
          · omega
          have es' : intsAV e1 ++ intsAV e2 = intsAV (e1 ++ e2) := by simp [intsAV]
          rw [es'] at k1 ⊢
          have M5 : lookH p5 H2 = some (.cells [.int .i64 c1, .str m1, .str u1, .str q1, .sl [] .nil, .int .i64 p, .int .i64 0]) := look_at k2 k3 (by simp)
          have M4 : lookH p4 H2 = some (.cells [.int .i64 0, .str [], .str [], .str [], .sl [] .nil, .int .i64 0, .int .i64 0]) := look_at k2 k3 (by simp)
          simp (implicitDefEqProofs := false) only [sB, simprocAttr, np3p2, np2p3, np4p2, np2p4, np4p3, np3p4, np5p2, np2p5, np5p3, np3p5, np5p4, np4p5, np8p2, np2p8, np8p3, np3p8, np8p4, np4p8, np8p5, np5p8, np9p2, np2p9, np9p3, np3p9, np9p4, np4p9, np9p5, np5p9, np9p8, np8p9, M5, M4]
          exact fin _ h _ _ tk2 H2 k1 k2 k3 _ _
        · have e0e := eq_false e0
          have e0n : (St.mk c1 m1 u1 q1 ≠ St.mk c2 m2 u2 q2) := e0
          simp only [if_pos e0n] at h
          simp (implicitDefEqProofs := false) only [sB, simprocAttr, np3p2, np2p3, np4p2, np2p4, np4p3, np3p4, np5p2, np2p5, np5p3, np3p5, np5p4, np4p5, np8p2, np2p8, np8p3, np3p8, np8p4, np4p8, np8p5, np5p8, np9p2, np2p9, np9p3, np3p9, np9p4, np4p9, np9p5, np5p9, np9p8, np8p9, rsCs, r0, r20, x_eqst, (show (St.mk c1 m1 u1 q1 = St.mk c2 m2 u2 q2) = False from e0e)]
          refine i_emp (List.nodup_cons.2 ⟨hp9, List.nodup_cons.2 ⟨hp8, List.nodup_cons.2 ⟨hp5, List.nodup_cons.2 ⟨hp4, List.nodup_cons.2 ⟨hp3, List.nodup_cons.2 ⟨hp2, hn⟩⟩⟩⟩⟩⟩) fun z hz hzn => ?_
          have hz' := hz
          simp (implicitDefEqProofs := false) only [sB, simprocAttr, Heap.keys] at hz'
          have z9 : ¬ p9 = z := fun e => hz'.1 e.symm
          have z8 : ¬ p8 = z := fun e => hz'.2.1 e.symm
          simp (implicitDefEqProofs := false) only [sB, simprocAttr, np3p2, np2p3, np4p2, np2p4, np4p3, np3p4, np5p2, np2p5, np5p3, np3p5, np5p4, np4p5, np8p2, np2p8, np8p3, np3p8, np8p4, np4p8, np8p5, np5p8, np9p2, np2p9, np9p3, np3p9, np9p4, np4p9, np9p5, np5p9, np9p8, np8p9, z9, z8]
          refine i_appX (A := []) (tk := .at z 0 1) (xs := []) (ys := intsAV e1) (.refl _) hzn rfl (src_sl_of _ _ (ints_all _)) (by intro x hx; cases hx) ?_ ?_ fun tk1 H1 g1 g2 g3 => ?_
          · simp only [List.length_nil, maxLen_eq]; omega
          · simp only [List.length_nil]; omega
          rw [List.nil_append] at g1 ⊢
          have M9 : lookH p9 H1 = some (.cells [.int .i64 c2, .str m2, .str u2, .str q2, .sl (intsAV e2) tok2, .int .i64 a2, .int .i64 0]) := look_at g2 g3 (by simp)
          simp (implicitDefEqProofs := false) only [sB, simprocAttr, np3p2, np2p3, np4p2, np2p4, np4p3, np3p4, np5p2, np2p5, np5p3, np3p5, np5p4, np4p5, np8p2, np2p8, np8p3, np3p8, np8p4, np4p8, np8p5, np5p8, np9p2, np2p9, np9p3, np3p9, np9p4, np4p9, np9p5, np5p9, np9p8, np8p9, M9]
          refine i_appX (A := []) (tk := tk1) (xs := intsAV e1) (ys := intsAV e2) g2 g3 g1 (src_sl_of _ _ (ints_all _)) (ints_all _) ?_ ?_ fun tk2 H2 k1 k2 k3 => ?_
          · simp only [maxLen_eq]; omega
          · omega
          have es' : intsAV e1 ++ intsAV e2 = intsAV (e1 ++ e2) := by simp [intsAV]
          rw [es'] at k1 ⊢
          have M5 : lookH p5 H2 = some (.cells [.int .i64 c1, .str m1, .str u1, .str q1, .sl [] .nil, .int .i64 p, .int .i64 16]) := look_at k2 k3 (by simp)
          have M4 : lookH p4 H2 = some (.cells [.int .i64 0, .str [], .str [], .str [], .sl [] .nil, .int .i64 0, .int .i64 0]) := look_at k2 k3 (by simp)
          simp (implicitDefEqProofs := false) only [sB, simprocAttr, np3p2, np2p3, np4p2, np2p4, np4p3, np3p4, np5p2, np2p5, np5p3, np3p5, np5p4, np4p5, np8p2, np2p8, np8p3, np3p8, np8p4, np4p8, np8p5, np5p8, np9p2, np2p9, np9p3, np3p9, np9p4, np4p9, np9p5, np5p9, np9p8, np8p9, M5, M4]
          exact fin _ h _ _ tk2 H2 k1 k2 k3 _ _
      · simp only [r20, not_false_eq_true, if_true] at h
        simp (implicitDefEqProofs := false) only [sB, simprocAttr, np3p2, np2p3, np4p2, np2p4, np4p3, np3p4, np5p2, np2p5, np5p3, np3p5, np5p4, np4p5, np8p2, np2p8, np8p3, np3p8, np8p4, np4p8, np8p5, np5p8, np9p2, np2p9, np9p3, np3p9, np9p4, np4p9, np9p5, np5p9, np9p8, np8p9, rsCs, r20]
        exact ⟨H, (.of_sub (.cons _ (.cons _ (.cons _ (.cons _ (.cons _ (.cons _ (.refl _)))))))), _, .refl _, h tok2 ht2⟩
    · simp only [r0, ne_eq, not_false_eq_true, if_true] at h
      simp (implicitDefEqProofs := false) only [sB, simprocAttr, np3p2, np2p3, np4p2, np2p4, np4p3, np3p4, np5p2, np2p5, np5p3, np3p5, np5p4, np4p5, np8p2, np2p8, np8p3, np3p8, np8p4, np4p8, np8p5, np5p8, rsCs, r0]
      exact ⟨H, (.of_sub (.cons _ (.cons _ (.cons _ (.cons _ (.cons _ (.refl _))))))), _, .refl _, h tok1 ht1⟩
  rw [if_neg k2] at h
  by_cases k3 : k = 3
  · subst k3
    rw [if_pos rfl] at h
    simp (implicitDefEqProofs := false) only [sB, simprocAttr, np3p2, np2p3, np4p2, np2p4, np4p3, np3p4, np5p2, np2p5, np5p3, np3p5, np5p4, np4p5]
    refine ⟨⟨sc, sn, sa, sp⟩, b, tokc b, rfl, List.nodup_cons.2 ⟨hp5, List.nodup_cons.2 ⟨hp4, List.nodup_cons.2 ⟨hp3, List.nodup_cons.2 ⟨hp2, hn⟩⟩⟩⟩, by omega, by omega, hi, l3, fun tok1 ht1 => ?_⟩
    generalize listF ⟨sc, sn, sa, sp⟩ b = r1 at h ht1 ⊢
    obtain ⟨⟨c1, m1, u1, q1⟩, e1, a1, r1⟩ := r1
    simp only at h ht1
    simp (implicitDefEqProofs := false) only [sB, simprocAttr, np3p2, np2p3, np4p2, np2p4, np4p3, np3p4, np5p2, np2p5, np5p3, np3p5, np5p4, np4p5, rsCs]
    refine i_new fun p10 hp10 => ?_
    have hp10' := hp10
    simp (implicitDefEqProofs := false) only [sB, simprocAttr, Heap.keys] at hp10'
    have np10p5 : ¬ p10 = p5 := hp10'.1
    have np5p10 : ¬ p5 = p10 := fun e => np10p5 e.symm
    have np10p4 : ¬ p10 = p4 := hp10'.2.1
    have np4p10 : ¬ p4 = p10 := fun e => np10p4 e.symm
    have np10p3 : ¬ p10 = p3 := hp10'.2.2.1
    have np3p10 : ¬ p3 = p10 := fun e => np10p3 e.symm
    have np10p2 : ¬ p10 = p2 := hp10'.2.2.2.1
    have np2p10 : ¬ p2 = p10 := fun e => np10p2 e.symm
    have mp10 : p10 ∉ H.keys := hp10'.2.2.2.2
    by_cases r0 : r1 = 0
    · simp only [r0, ne_eq, not_true_eq_false, if_false] at h
      by_cases e0 : St.mk c1 m1 u1 q1 = ⟨sc, sn, sa, sp⟩
      · simp only [e0, not_true_eq_false, if_false] at h
        simp (implicitDefEqProofs := false) only [sB, simprocAttr, np3p2, np2p3, np4p2, np2p4, np4p3, np3p4, np5p2, np2p5, np5p3, np3p5, np5p4, np4p5, np10p2, np2p10, np10p3, np3p10, np10p4, np4p10, np10p5, np5p10, rsCs, r0, x_eqst, (show (St.mk c1 m1 u1 q1 = ⟨sc, sn, sa, sp⟩) = True from eq_true e0)]
        exact ⟨H, (.of_sub (.cons _ (.cons _ (.cons _ (.cons _ (.cons _ (.refl _))))))), _, .refl _, h tok1 ht1⟩
      · simp only [e0, not_false_eq_true, if_true] at h
        simp (implicitDefEqProofs := false) only [sB, simprocAttr, np3p2, np2p3, np4p2, np2p4, np4p3, np3p4, np5p2, np2p5, np5p3, np3p5, np5p4, np4p5, np10p2, np2p10, np10p3, np3p10, np10p4, np4p10, np10p5, np5p10, rsCs, r0, x_eqst, (show (St.mk c1 m1 u1 q1 = ⟨sc, sn, sa, sp⟩) = False from eq_false e0)]
        exact ⟨H, (.of_sub (.cons _ (.cons _ (.cons _ (.cons _ (.cons _ (.refl _))))))), _, .refl _, h tok1 ht1⟩
    · simp only [r0, ne_eq, not_false_eq_true, if_true] at h
      simp (implicitDefEqProofs := false) only [sB, simprocAttr, np3p2, np2p3, np4p2, np2p4, np4p3, np3p4, np5p2, np2p5, np5p3, np3p5, np5p4, np4p5, np10p2, np2p10, np10p3, np3p10, np10p4, np4p10, np10p5, np5p10, rsCs, r0]
      exact ⟨H, (.of_sub (.cons _ (.cons _ (.cons _ (.cons _ (.cons _ (.refl _))))))), _, .refl _, h tok1 ht1⟩
  rw [if_neg k3] at h
  by_cases k4 : k = 4
  · subst k4
    rw [if_pos rfl] at h
    by_cases e0 : St.mk sc sn sa sp = St.zero
    · simp only [e0, ne_eq, not_true_eq_false, if_false] at h
      simp (implicitDefEqProofs := false) only [sB, simprocAttr, np3p2, np2p3, np4p2, np2p4, np4p3, np3p4, np5p2, np2p5, np5p3, np3p5, np5p4, np4p5, x_eqst, (show (St.mk sc sn sa sp = ⟨0, [], [], []⟩) = True from eq_true e0)]
      rw [← e0] at h
      exact ⟨H, (.of_sub (.cons _ (.cons _ (.cons _ (.cons _ (.refl _)))))), _, .refl _, h .nil (.inr ⟨rfl, rfl⟩)⟩
    · simp only [e0, ne_eq, not_false_eq_true, if_true] at h
      simp (implicitDefEqProofs := false) only [sB, simprocAttr, np3p2, np2p3, np4p2, np2p4, np4p3, np3p4, np5p2, np2p5, np5p3, np3p5, np5p4, np4p5, x_eqst, (show (St.mk sc sn sa sp = ⟨0, [], [], []⟩) = False from eq_false e0)]
      exact ⟨H, (.of_sub (.cons _ (.cons _ (.cons _ (.cons _ (.refl _)))))), _, .refl _, h .nil (.inr ⟨rfl, rfl⟩)⟩
  rw [if_neg k4] at h
  by_cases k6 : k = 6
  · subst k6
    rw [if_pos rfl] at h
    simp (implicitDefEqProofs := false) only [sB, simprocAttr, np3p2, np2p3, np4p2, np2p4, np4p3, np3p4, np5p2, np2p5, np5p3, np3p5, np5p4, np4p5]
    refine ⟨St.zero, b, tokc b, rfl, List.nodup_cons.2 ⟨hp5, List.nodup_cons.2 ⟨hp4, List.nodup_cons.2 ⟨hp3, List.nodup_cons.2 ⟨hp2, hn⟩⟩⟩⟩, by omega, by omega, invZ, l3, fun tok1 ht1 => ?_⟩
    generalize listF St.zero b = r1 at h ht1 ⊢
    obtain ⟨⟨c1, m1, u1, q1⟩, e1, a1, r1⟩ := r1
    simp only at h ht1
    simp (implicitDefEqProofs := false) only [sB, simprocAttr, np3p2, np2p3, np4p2, np2p4, np4p3, np3p4, np5p2, np2p5, np5p3, np3p5, np5p4, np4p5, rsCs]
    refine i_new fun p11 hp11 => ?_
    have hp11' := hp11
    simp (implicitDefEqProofs := false) only [sB, simprocAttr, Heap.keys] at hp11'
    have np11p5 : ¬ p11 = p5 := hp11'.1
    have np5p11 : ¬ p5 = p11 := fun e => np11p5 e.symm
    have np11p4 : ¬ p11 = p4 := hp11'.2.1
    have np4p11 : ¬ p4 = p11 := fun e => np11p4 e.symm
    have np11p3 : ¬ p11 = p3 := hp11'.2.2.1
    have np3p11 : ¬ p3 = p11 := fun e => np11p3 e.symm
    have np11p2 : ¬ p11 = p2 := hp11'.2.2.2.1
    have np2p11 : ¬ p2 = p11 := fun e => np11p2 e.symm
    have mp11 : p11 ∉ H.keys := hp11'.2.2.2.2
    by_cases r0 : r1 = 0
    · simp only [r0, ne_eq, not_true_eq_false, if_false] at h
      by_cases e0 : St.mk c1 m1 u1 q1 = St.zero
      · simp only [e0, not_true_eq_false, if_false] at h
        simp (implicitDefEqProofs := false) only [sB, simprocAttr, np3p2, np2p3, np4p2, np2p4, np4p3, np3p4, np5p2, np2p5, np5p3, np3p5, np5p4, np4p5, np11p2, np2p11, np11p3, np3p11, np11p4, np4p11, np11p5, np5p11, rsCs, r0, x_eqst, (show (St.mk c1 m1 u1 q1 = ⟨0, [], [], []⟩) = True from eq_true e0)]
        exact ⟨H, (.of_sub (.cons _ (.cons _ (.cons _ (.cons _ (.cons _ (.refl _))))))), _, .refl _, h tok1 ht1⟩
      · simp only [e0, not_false_eq_true, if_true] at h
        simp (implicitDefEqProofs := false) only [sB, simprocAttr, np3p2, np2p3, np4p2, np2p4, np4p3, np3p4, np5p2, np2p5, np5p3, np3p5, np5p4, np4p5, np11p2, np2p11, np11p3, np3p11, np11p4, np4p11, np11p5, np5p11, rsCs, r0, x_eqst, (show (St.mk c1 m1 u1 q1 = ⟨0, [], [], []⟩) = False from eq_false e0)]
        exact ⟨H, (.of_sub (.cons _ (.cons _ (.cons _ (.cons _ (.cons _ (.refl _))))))), _, .refl _, h tok1 ht1⟩
    · simp only [r0, ne_eq, not_false_eq_true, if_true] at h
      simp (implicitDefEqProofs := false) only [sB, simprocAttr, np3p2, np2p3, np4p2, np2p4, np4p3, np3p4, np5p2, np2p5, np5p3, np3p5, np5p4, np4p5, np11p2, np2p11, np11p3, np3p11, np11p4, np4p11, np11p5, np5p11, rsCs, r0]
      exact ⟨H, (.of_sub (.cons _ (.cons _ (.cons _ (.cons _ (.cons _ (.refl _))))))), _, .refl _, h tok1 ht1⟩
  · rw [if_neg k6] at h
    simp (implicitDefEqProofs := false) only [sB, simprocAttr, np3p2, np2p3, np4p2, np2p4, np4p3, np3p4, np5p2, np2p5, np5p3, np3p5, np5p4, np4p5, k0, k1, k2, k3, k4, k6]
    exact ⟨H, (.of_sub (.cons _ (.cons _ (.cons _ (.cons _ (.refl _)))))), _, .refl _, h .nil (.inr ⟨rfl, rfl⟩)⟩
end Go.AL.Fun
