/- The reference's analysis walked: a list, Infer; lists of numbers compared; the example. Printed by gi7.py. -/
import Derived.Test.YtjlmonghelbihaaI6
import Derived.Test.YtjlmonghelbihaaL8
set_option linter.unusedSimpArgs false
set_option linter.unusedVariables false
set_option maxRecDepth 100000
set_option maxHeartbeats 4000000
namespace Go.AL.Fun
open Go Go.AL

def comb (es : List Int) (r : Rs) : Rs := if r.err ≠ 0 then ⟨St.zero, [], r.at_, r.err⟩ else ⟨r.st, es ++ r.escs, 0, 0⟩
theorem comb_nil (s : St) (l : List Nd) : comb [] (listF s l) = listF s l := by
  unfold comb
  by_cases e : (listF s l).err = 0
  · rw [if_neg (by simp [e]), List.nil_append]
    have := listF_ok e
    generalize listF s l = r at e this
    obtain ⟨a, b, c, d⟩ := r
    simp only at e this
    subst e this; rfl
  · rw [if_pos e]
    have := listF_bad e
    generalize listF s l = r at e this
    obtain ⟨a, b, c, d⟩ := r
    simp only at this
    obtain ⟨rfl, rfl⟩ := this; rfl
theorem comb_end (es : List Int) (s : St) : comb es (listF s []) = ⟨s, es, 0, 0⟩ := by rw [listF]; simp [comb]
theorem comb_cons (es : List Int) (s : St) (n : Nd) (l : List Nd) : comb es (listF s (n :: l)) = if (nodeF s n).err ≠ 0 then ⟨St.zero, [], (nodeF s n).at_, (nodeF s n).err⟩ else comb (es ++ (nodeF s n).escs) (listF (nodeF s n).st l) := by
  rw [listF]
  unfold comb
  by_cases e : (nodeF s n).err = 0
  · by_cases e2 : (listF (nodeF s n).st l).err = 0
    · simp [e, e2]
    · simp [e, e2]
  · simp [e]
def z7 : AObj := .cells [.int .i64 0, .str [], .str [], .str [], .sl [] .nil, .int .i64 0, .int .i64 0]
@[reducible] def t24 (N : Nat) (P : Program) : Th := ⟨fun _ => none, P, [(37, c37 N)]⟩
theorem c24_of (P : Program) {N : Nat} {xs : List AV} {H : Heap} {K : Kv} (h : c24 N xs H K) : @xF (t24 N P) f24 xs H ⟨fun v H' => ∃ H0, Hle H0 H' ∧ ∃ v', AVle v v' ∧ K.ap v' H0⟩ := by
  obtain ⟨⟨sc, sn, sa, sp⟩, l, ltok, rfl, hn, hN, hc, hi, hle, h⟩ := h
  have wl := cnts_len l
  rw [← comb_nil] at h
  generalize hR : comb [] (listF ⟨sc, sn, sa, sp⟩ l) = R at h
  simp (implicitDefEqProofs := false) only [sB, simprocAttr, f24, stAV]
  refine i_new fun p2 hp2 => ?_
  have hp2' := hp2
  simp (implicitDefEqProofs := false) only [sB, simprocAttr, Heap.keys] at hp2'
  have mp2 : p2 ∉ H.keys := hp2'
  simp (implicitDefEqProofs := false) only [sB, simprocAttr, noOb]
  refine i_new fun p4 hp4 => ?_
  have hp4' := hp4
  simp (implicitDefEqProofs := false) only [sB, simprocAttr, Heap.keys] at hp4'
  have np4p2 : ¬ p4 = p2 := hp4'.1
  have np2p4 : ¬ p2 = p4 := fun e => np4p2 e.symm
  have mp4 : p4 ∉ H.keys := hp4'.2
  simp (implicitDefEqProofs := false) only [sB, simprocAttr, np4p2, np2p4, noOb]
  refine i_new fun p5 hp5 => ?_
  have hp5' := hp5
  simp (implicitDefEqProofs := false) only [sB, simprocAttr, Heap.keys] at hp5'
  have np5p4 : ¬ p5 = p4 := hp5'.1
  have np4p5 : ¬ p4 = p5 := fun e => np5p4 e.symm
  have np5p2 : ¬ p5 = p2 := hp5'.2.1
  have np2p5 : ¬ p2 = p5 := fun e => np5p2 e.symm
  have mp5 : p5 ∉ H.keys := hp5'.2.2
  simp (implicitDefEqProofs := false) only [sB, simprocAttr, np4p2, np2p4, np5p2, np2p5, np5p4, np4p5, nds_len]
  refine i_loopJ (fun σ H1 => ∃ (i : Nat) (st : St) (es : List Int) (tk : Tok), H1.Perm ((p5, .cells [.int .i64 st.ctx, .str st.name, .str st.attr, .str st.part, .sl (intsAV es) tk, .int .i64 0, .int .i64 0]) :: (tokH tk ++ ((p4, z7) :: (p2, .cells [.int .i64 sc, .str sn, .str sa, .str sp]) :: H))) ∧ H1.keys.Nodup ∧ GC 1 (intsAV es) tk ∧ i ≤ l.length ∧ Inv st ∧
      es.length + Nd.cnts (l.drop i) ≤ 1099511627776 ∧ comb es (listF st (l.drop i)) = R ∧ σ = [(1, .sl (Nd.avs l) ltok), (4, .ptr p4 0), (5, .ptr p5 0), (6, .int .i64 i)])
    (fun σ _ => match σ.get 6 with | .int _ n => l.length - n.toNat | _ => 0)
    (fun e σ H1 => σ.get 4 = .ptr p4 0 ∧ H1.keys.Nodup ∧ Hle H H1 ∧ ((e = .exit 0 ∧ ∃ tk, (tk = .nil → intsAV R.escs = []) ∧ lookH p5 H1 = some (.cells (rsCs R tk)) ∧ lookH p4 H1 = some z7 ∧ σ.get 5 = .ptr p5 0) ∨
      (e = .ret ∧ R.escs = [] ∧ lookH p4 H1 = some (.cells (rsCs R .nil)))))
    ⟨_, .refl _, 0, ⟨sc, sn, sa, sp⟩, [], .nil, .refl _, List.nodup_cons.2 ⟨hp5, List.nodup_cons.2 ⟨hp4, List.nodup_cons.2 ⟨hp2, hn⟩⟩⟩, rfl, Nat.zero_le _, hi, by simpa using hc, hR, rfl⟩ ?_ ?_
  · rintro e σ H1 ⟨q4, hn1, hl1, ⟨rfl, tk, hg, K5, K4, q5⟩ | ⟨rfl, hes, K4⟩⟩
    · have K4' : lookH p4 H1 = some (.cells [.int .i64 0, .str [], .str [], .str [], .sl [] .nil, .int .i64 0, .int .i64 0]) := K4
      have K5' : lookH p5 H1 = some (.cells [.int .i64 R.st.ctx, .str R.st.name, .str R.st.attr, .str R.st.part, .sl (intsAV R.escs) tk, .int .i64 R.at_, .int .i64 R.err]) := K5
      simp (implicitDefEqProofs := false) only [sB, simprocAttr, np4p2, np2p4, np5p2, np2p5, np5p4, np4p5, q4, q5, K4', K5']
      obtain ⟨tok, t1, t2⟩ := AVle.nt hg
      exact ⟨H, hle_set hl1 hn1 mp4, _, AVle.rs t2, h tok t1⟩
    · have K4' : lookH p4 H1 = some (.cells [.int .i64 R.st.ctx, .str R.st.name, .str R.st.attr, .str R.st.part, .sl (intsAV R.escs) .nil, .int .i64 R.at_, .int .i64 R.err]) := K4
      simp (implicitDefEqProofs := false) only [sB, simprocAttr, np4p2, np2p4, np5p2, np2p5, np5p4, np4p5, q4, K4']
      exact ⟨H, hl1, _, .refl _, h .nil (.inr ⟨rfl, by rw [hes]; rfl⟩)⟩
  · rintro Q hQ σ H1 ⟨i, ⟨c1, m1, u1, q1⟩, es, tk, hp, hn1, hg, hil, hi', hb, hr, rfl⟩
    simp only at hp
    have K5 : lookH p5 H1 = some (.cells [.int .i64 c1, .str m1, .str u1, .str q1, .sl (intsAV es) tk, .int .i64 0, .int .i64 0]) := look_head hp hn1
    have K4 : lookH p4 H1 = some z7 := look_at hp hn1 (by simp)
    have K4' : lookH p4 H1 = some (.cells [.int .i64 0, .str [], .str [], .str [], .sl [] .nil, .int .i64 0, .int .i64 0]) := K4
    have hl1 : Hle H H1 := hle_sub hp (.cons _ (((List.sublist_cons_self _ H).trans (List.sublist_cons_self _ _)).trans (List.sublist_append_right _ _)))
    simp (implicitDefEqProofs := false) only [sB, simprocAttr, nds_len]
    refine i_if (fun c => ?_) (fun c => ?_)
    · have c' : i < l.length := by simpa using c
      have hx : l[i]? = some l[i] := List.getElem?_eq_getElem c'
      have hd : l.drop i = l[i] :: l.drop (i + 1) := List.drop_eq_getElem_cons c'
      have hxle := les_get hle (List.getElem_mem c')
      have r9 := w_i64 ((i : Int) + 1) (by omega) (by omega)
      have i0 : (0 : Int) ≤ (i : Int) := by omega
      have hcd := cnts_drop l i
      rw [hd] at hr hb hcd
      generalize l[i] = x at hx hr hb hxle hcd
      simp only [Nd.cnts] at hb hcd
      rw [comb_cons] at hr
      have hlen := nodeF_len ⟨c1, m1, u1, q1⟩ x
      have hinv := nodeF_inv ⟨c1, m1, u1, q1⟩ x hi'
      obtain ⟨k, p, t, q, hph, he, b, el⟩ := x
      simp (implicitDefEqProofs := false) only [sB, simprocAttr, np4p2, np2p4, np5p2, np2p5, np5p4, np4p5, K5, i0, nds_get, hx, Option.map_some, Nd.cs]
      have two : ∀ (A B : Prop), A → B → A ∧ B := fun _ _ a b => ⟨a, b⟩
      refine two _ _ ?_ ?_
      refine ⟨⟨c1, m1, u1, q1⟩, .mk k p t q hph he b el, rfl, hn1, by omega, by omega, hi', hxle, fun tok2 ht2 => ?_⟩
      generalize nodeF ⟨c1, m1, u1, q1⟩ (.mk k p t q hph he b el) = rr at hr ht2 hlen hinv ⊢
      obtain ⟨⟨c2, m2, u2, q2⟩, e2, a2, r2⟩ := rr
      simp only at hr ht2 hlen hinv
      simp (implicitDefEqProofs := false) only [sB, simprocAttr, rsCs]
      refine i_new fun p7 hp7 => ?_
      have n75 : ¬ p5 = p7 := key_ne K5 hp7
      have n57 : ¬ p7 = p5 := fun e => n75 e.symm
      have n74 : ¬ p4 = p7 := key_ne K4 hp7
      have n47 : ¬ p7 = p4 := fun e => n74 e.symm
      rotate_left
      refine i_new fun p7 hp7 => ?_
      have n75 : ¬ p5 = p7 := key_ne K5 hp7
      have n57 : ¬ p7 = p5 := fun e => n75 e.symm
      have n74 : ¬ p4 = p7 := key_ne K4 hp7
      have n47 : ¬ p7 = p4 := fun e => n74 e.symm
      simp (implicitDefEqProofs := false) only [sB, simprocAttr, np4p2, np2p4, np5p2, np2p5, np5p4, np4p5, n75, n57, n74, n47, K5, K4', i0, nds_get, hx, Option.map_some, Nd.cs]
      refine ⟨⟨c1, m1, u1, q1⟩, .mk k p t q hph he b el, rfl, List.nodup_cons.2 ⟨hp7, hn1⟩, by omega, by omega, hi', hxle, fun tok2 ht2 => ?_⟩
      generalize nodeF ⟨c1, m1, u1, q1⟩ (.mk k p t q hph he b el) = rr at hr ht2 hlen hinv ⊢
      obtain ⟨⟨c2, m2, u2, q2⟩, e2, a2, r2⟩ := rr
      simp only at hr ht2 hlen hinv
      all_goals
        simp (implicitDefEqProofs := false) only [sB, simprocAttr, np4p2, np2p4, np5p2, np2p5, np5p4, np4p5, rsCs, n75, n57, n74, n47, K5, K4']
        by_cases r0 : r2 = 0
        · simp only [r0, ne_eq, not_true_eq_false, if_false] at hr
          simp (implicitDefEqProofs := false) only [sB, simprocAttr, np4p2, np2p4, np5p2, np2p5, np5p4, np4p5, r0, n75, n57, n74, n47, K5, K4']
          have hp2 := set_head (.cells [.int .i64 c2, .str m2, .str u2, .str q2, .sl (intsAV es) tk, .int .i64 0, .int .i64 0]) hp hn1
          refine i_appC (by decide) (A := [(p7, _), (p5, .cells [.int .i64 c2, .str m2, .str u2, .str q2, .sl (intsAV es) tk, .int .i64 0, .int .i64 0])]) (R := (p4, z7) :: (p2, .cells [.int .i64 sc, .str sn, .str sa, .str sp]) :: H) (tk := tk) (xs := intsAV es) (ys := intsAV e2) (hp2.cons _) (List.nodup_cons.2 ⟨nk_set hp7, set_nodup _ hn1⟩) hg (src_sl_of _ _ (ints_all _)) (ints_all _) ?_ ?_ fun tk' H' g1 g2 g3 => ?_
          · simp only [ints_len, maxLen_eq]; omega
          · simp only [ints_len]; omega
          · have es' : intsAV es ++ intsAV e2 = intsAV (es ++ e2) := by simp [intsAV]
            rw [es'] at g1 ⊢
            have M5 : lookH p5 H' = some (.cells [.int .i64 c2, .str m2, .str u2, .str q2, .sl (intsAV es) tk, .int .i64 0, .int .i64 0]) := look_at g2 g3 (by simp)
            simp (implicitDefEqProofs := false) only [sB, simprocAttr, np4p2, np2p4, np5p2, np2p5, np5p4, np4p5, M5, r9]
            have hp3 := set_in (A := [(p7, _)]) (X := tokH tk' ++ ((p4, z7) :: (p2, .cells [.int .i64 sc, .str sn, .str sa, .str sp]) :: H)) (.cells [.int .i64 c2, .str m2, .str u2, .str q2, .sl (intsAV (es ++ e2)) tk', .int .i64 0, .int .i64 0]) g2 g3
            exact ⟨_, hle_sub hp3 (List.sublist_cons_self _ _), ⟨i + 1, ⟨c2, m2, u2, q2⟩, es ++ e2, tk', .refl _, nodup_sub hp3 (List.sublist_cons_self _ _) (set_nodup _ g3), g1, by omega, hinv, by simp only [List.length_append]; omega, hr, by simp⟩, by omega⟩
        · simp only [r0, ne_eq, not_false_eq_true, if_true] at hr
          simp (implicitDefEqProofs := false) only [sB, simprocAttr, np4p2, np2p4, np5p2, np2p5, np5p4, np4p5, r0, n75, n57, n74, n47, K5, K4']
          subst hr
          refine hQ _ _ _ ⟨rfl, ?_, ?_, .inr ⟨rfl, rfl, ?_⟩⟩
          · exact List.nodup_cons.2 ⟨nk_set hp7, set_nodup _ hn1⟩
          · exact (hle_set hl1 hn1 mp4).trans (.tail _ _)
          · simp only [lookH, n74, if_false]
            exact look_set K4
    · have c' : i = l.length := by have : ¬ (i : Int) < l.length := by simpa using c
                                   omega
      subst c'
      rw [List.drop_length, comb_end] at hr
      subst hr
      simp (implicitDefEqProofs := false) only [sB, simprocAttr]
      exact hQ _ _ _ ⟨rfl, hn1, hl1, .inl ⟨rfl, tk, fun e => by subst e; exact hg, K5, K4, rfl⟩⟩
end Go.AL.Fun
