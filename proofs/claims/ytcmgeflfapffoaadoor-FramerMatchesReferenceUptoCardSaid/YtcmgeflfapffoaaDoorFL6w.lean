/- FramerMatchesReference, walked. -/
import Derived.Test.YtcmgeflfapffoaaDoorFT
import Derived.Test.YtcmgeflfapffoaaDoorFL6
set_option linter.unusedSimpArgs false
set_option linter.unusedVariables false
set_option maxRecDepth 100000
set_option maxHeartbeats 4000000
namespace Go.AL.Fun
open Go Go.AL

structure Act where
  kind : Int
  b : List UInt8
  tok : Tok
  n : Int
def actAV (a : Act) : AV := .agg [.int .i64 a.kind, .sl (bytesAV a.b) a.tok, .int .i64 a.n]
def actsAV (l : List Act) : List AV := l.map actAV
def actSum (l : List Act) : Nat := (l.map fun a => a.b.length).sum
theorem acts_get (l : List Act) (i : Nat) : (actsAV l)[i]? = (l[i]?).map actAV := by simp [actsAV]
theorem acts_len (l : List Act) : (actsAV l).length = l.length := by simp [actsAV]
theorem act_take {l : List Act} {i : Nat} {x : Act} (h : l[i]? = some x) : actSum (l.take (i + 1)) = actSum (l.take i) + x.b.length := by
  rw [List.take_add_one, h]; simp [actSum]
theorem act_le (l : List Act) (i : Nat) : actSum (l.take i) ≤ actSum l := by
  have : actSum l = actSum (l.take i) + actSum (l.drop i) := by
    conv => lhs; rw [← List.take_append_drop i l]
    simp only [actSum, List.map_append, List.sum_append]
  omega

theorem FX.flip {p q : Nat} {s s2 : FS} {tk2 : Tok} {H R : Heap} (h : FX p s H ((q, fO s2 tk2) :: R)) (h2 : tk2 = .nil → s2.pend = []) : ∃ tk, (tk = .nil → s.pend = []) ∧ FX q s2 H ((p, fO s tk) :: R) := by
  obtain ⟨hn, tk, ht, hp⟩ := h
  exact ⟨tk, ht, hn, tk2, h2, hp.trans (.swap _ _ _)⟩
theorem FX.unpush {p : Nat} {s : FS} {H R A : Heap} (h : FX p s H (A ++ R)) : ∃ H0, Hle H0 H ∧ FX p s H0 R := by
  obtain ⟨hn, tk, ht, hp⟩ := h
  have hs : ((p, fO s tk) :: R).Sublist ((p, fO s tk) :: (A ++ R)) := .cons_cons _ (List.sublist_append_right A R)
  exact ⟨(p, fO s tk) :: R, hle_sub hp hs, nodup_sub hp hs hn, tk, ht, .refl _⟩
theorem law6 (P : Program) (n : Int) (l : List Act) (tl : Tok) (hl : l.length ≤ 1048576) (hs : actSum l ≤ 1048576) (hnn : ∀ a ∈ l, -9223372036854775808 ≤ a.n ∧ a.n < 9223372036854775808) (K : Kv) (hK : ∀ H, K.ap (.bool true) H) : @xF ⟨Gh, P, tF⟩ f6 [.int .i64 n, .sl (actsAV l) tl] [] K := by
  have hn : (Heap.keys []).Nodup := List.nodup_nil
  simp (implicitDefEqProofs := false) only [sB, simprocAttr, f6]
  refine i_new fun z hz => ?_
  simp (implicitDefEqProofs := false) only [sB, simprocAttr]
  refine .inl ⟨_, rfl, ?_⟩
  simp (implicitDefEqProofs := false) only [sB, simprocAttr]
  refine .inl ⟨rfl, ?_⟩
  simp (implicitDefEqProofs := false) only [sB, simprocAttr]
  refine .inl ⟨_, rfl, ?_⟩
  simp (implicitDefEqProofs := false) only [sB, simprocAttr]
  refine .inl ⟨rfl, ?_⟩
  simp (implicitDefEqProofs := false) only [sB, simprocAttr]
  refine .inl ⟨rfl, ?_⟩
  simp (implicitDefEqProofs := false) only [sB, simprocAttr, acts_len]
  refine i_loopJ (fun σ H1 => ∃ i, H1 = [] ∧ i ≤ l.length ∧ σ = [(0, .int .i64 n), (1, .sl (actsAV l) tl), (6, .int .i64 (actSum (l.take i))), (41, .sl (actsAV l) tl), (42, .int .i64 l.length), (43, .int .i64 i)])
    (fun σ _ => match σ.get 43 with | .int _ n => l.length - n.toNat | _ => 0)
    (fun e σ H1 => e = .exit 0 ∧ H1 = [] ∧ σ.get 0 = .int .i64 n ∧ σ.get 1 = .sl (actsAV l) tl ∧ σ.get 6 = .int .i64 (actSum l))
    ⟨[], .of_sub (List.nil_sublist _), 0, rfl, Nat.zero_le _, rfl⟩ ?_ ?_
  · rintro e σ H1 ⟨rfl, rfl, q0, q1, q6⟩
    by_cases c1 : (200 : Int) < l.length
    · simp (implicitDefEqProofs := false) only [sB, simprocAttr, q0, q1, q6, acts_len, c1]
      refine alive_in hn cO_nil ?_
      simp (implicitDefEqProofs := false) only [sB, simprocAttr]
      exact hK _
    by_cases c2 : (20000 : Int) < (actSum l : Nat)
    · simp (implicitDefEqProofs := false) only [sB, simprocAttr, q0, q1, q6, acts_len, c1, c2]
      refine alive_in hn cO_nil ?_
      simp (implicitDefEqProofs := false) only [sB, simprocAttr]
      exact hK _
    simp (implicitDefEqProofs := false) only [sB, simprocAttr, q0, q1, q6, acts_len, c1, c2]
    refine ⟨n, rfl, ?_⟩
    simp (implicitDefEqProofs := false) only [sB, simprocAttr]
    have hm := mostP_rng n
    refine ⟨_, rfl, hn, fun h => by omega, fun _ _ p H1 hX => ?_⟩
    simp (implicitDefEqProofs := false) only [sB, simprocAttr, q0, q1, q6]
    refine ⟨n, rfl, ?_⟩
    simp (implicitDefEqProofs := false) only [sB, simprocAttr]
    refine i_new fun q hq => ?_
    have hX2 := hX.push (o := fO ⟨mostP n, [], false⟩ .nil) hq
    simp (implicitDefEqProofs := false) only [sB, simprocAttr, q0, q1, q6, acts_len]
    refine i_loopJ (fun σ H3 => ∃ (i : Nat) (s : FS) (tk2 : Tok), i ≤ l.length ∧ FX p s H3 [(q, fO s tk2)] ∧ (tk2 = .nil → s.pend = []) ∧ s.most = mostP n ∧ s.pend.length ≤ 65640 ∧ σ = [(9, .ptr p 0), (11, .ptr q 0), (77, .sl (actsAV l) tl), (78, .int .i64 l.length), (79, .int .i64 i)])
      (fun σ _ => match σ.get 79 with | .int _ n => l.length - n.toNat | _ => 0)
      (fun e σ H3 => e = .exit 2 ∧ H3.keys.Nodup ∧ cellsOnly H3)
      ⟨_, .refl _, 0, ⟨mostP n, [], false⟩, .nil, by omega, hX2, fun _ => rfl, rfl, by simp, rfl⟩ ?_ ?_
    · rintro e σ H3 ⟨rfl, h3, h4⟩
      simp (implicitDefEqProofs := false) only [sB, simprocAttr]
      refine alive_in h3 h4 ?_
      simp (implicitDefEqProofs := false) only [sB, simprocAttr]
      exact hK _
    · rintro Q hQ σ H3 ⟨i, s, tk2, hi, hX3, ht2, hms, hpl, rfl⟩
      by_cases c : i < l.length
      · have c' : (i : Int) < (l.length : Int) := by omega
        have hx : l[i]? = some l[i] := List.getElem?_eq_getElem c
        have i0 : (0 : Int) ≤ (i : Int) := by omega
        have ha := hnn _ (List.getElem_mem c)
        have e1 := act_take hx
        have e2 := act_le l (i + 1)
        simp (implicitDefEqProofs := false) only [sB, simprocAttr, c', i0, acts_len, acts_get, hx, Option.map_some, actAV]
        refine i_new fun id hid => ?_
        by_cases k0 : l[i].kind = 0
        · simp (implicitDefEqProofs := false) only [sB, simprocAttr, k0]
          have hX4 := (hX3.push (o := .cells [.int .i64 0, .sl (bytesAV l[i].b) l[i].tok, .int .i64 l[i].n]) hid).permR (.swap _ _ _)
          obtain ⟨tkp, htp, hY⟩ := hX4.flip ht2
          have hli : lookH id ((id, AObj.cells [.int .i64 0, .sl (bytesAV l[i].b) l[i].tok, .int .i64 l[i].n]) :: H3) = some (.cells [.int .i64 0, .sl (bytesAV l[i].b) l[i].tok, .int .i64 l[i].n]) := by simp [lookH]
          refine .inr ⟨p, s, _, l[i].b, _, rfl, hX4, .sl _ _, by rw [hms]; omega, fun h4 => ?_, fun h1 h2 h3 => ?_, fun h1 h2 h3 h4 H5' hX5' => ?_⟩
          · simp (implicitDefEqProofs := false) only [sB, simprocAttr, hli]
            refine ⟨q, s, _, l[i].b, _, rfl, hY, .sl _ _, by rw [hms]; omega, fun _ => ?_, fun h1 h2 => ?_, fun h1 h2 => ?_⟩
            rotate_left
            · rcases h4 with h4 | h4
              · exact absurd h1 h4
              · rw [h2] at h4; cases h4
            · rcases h4 with h4 | h4
              · exact absurd h1 h4
              · rw [h2] at h4; cases h4
            have ht5 := ht2
            have hm5 := hms
            have hb5 := hpl
            have hX5 := hX4
            generalize hg5 : ((id, AObj.cells [.int .i64 0, .sl (bytesAV l[i].b) l[i].tok, .int .i64 l[i].n]) :: H3) = H5 at *
            clear hX4 hg5
            generalize s = s5 at *
            generalize tk2 = tk5 at *
            have hlq : lookH q H5 = some (.cells [.int .i64 s5.most, .sl (bytesAV s5.pend) tk5, .bool s5.fin]) := hX5.lookR (by simp [lookH, fO])
            simp (implicitDefEqProofs := false) only [sB, simprocAttr, hlq]
            refine .inr ⟨p, _, _, rfl, hX5, by omega, .inl fun t4 => ?_⟩
            simp (implicitDefEqProofs := false) only [sB, simprocAttr, hlq, by_len]
            refine .inr ⟨p, _, _, rfl, hX5, ?_⟩
            have r1 := w_i64 ((i : Int) + 1) (by omega) (by omega)
            have hfinal : ∃ H0, Hle H0 H5 ∧ FX p s5 H0 [(q, fO s5 tk5)] := by
              obtain ⟨hnd, tk8, ht8, hp8⟩ := hX5
              have hsub : [(p, fO s5 tk8), (q, fO s5 tk5)].Sublist [(p, fO s5 tk8), (q, fO s5 tk5), (id, AObj.cells [.int .i64 0, .sl (bytesAV l[i].b) l[i].tok, .int .i64 l[i].n])] := .cons_cons _ (.cons_cons _ (List.nil_sublist _))
              exact ⟨_, hle_sub hp8 hsub, nodup_sub hp8 hsub hnd, tk8, ht8, .refl _⟩
            obtain ⟨H7, hle7, hX7⟩ := hfinal
            cases hf : s5.fin with
            | false =>
              simp (implicitDefEqProofs := false) only [sB, simprocAttr, hlq, hf, Bool.false_and, r1]
              exact ⟨H7, hle7, ⟨i + 1, s5, tk5, by omega, hX7, ht5, hm5, hb5, by simp⟩, by omega⟩
            | true =>
              by_cases hpe : s5.pend = []
              · have hz5 : ((s5.pend.length : Nat) : Int) = 0 := by rw [hpe]; rfl
                simp (implicitDefEqProofs := false) only [sB, simprocAttr, hlq, hf, Bool.true_and, hz5, by_len, decide_eq_true hpe, r1]
                exact ⟨H7, hle7, ⟨i + 1, s5, tk5, by omega, hX7, ht5, hm5, hb5, by simp⟩, by omega⟩
              · have hz5 : ¬ ((s5.pend.length : Nat) : Int) = 0 := fun e => hpe (List.length_eq_zero_iff.1 (by omega))
                simp (implicitDefEqProofs := false) only [sB, simprocAttr, hlq, hf, Bool.true_and, hz5, by_len, decide_eq_false hpe, r1]
                exact ⟨H7, hle7, ⟨i + 1, s5, tk5, by omega, hX7, ht5, hm5, hb5, by simp⟩, by omega⟩
          · simp (implicitDefEqProofs := false) only [sB, simprocAttr, hli]
            refine ⟨q, s, _, l[i].b, _, rfl, hY, .sl _ _, by rw [hms]; omega, fun h4 => ?_, fun _ _ _ => ?_, fun _ _ h4 h5 => ?_⟩
            · rcases h4 with h4 | h4
              · exact absurd h1 h4
              · rw [h2] at h4; cases h4
            rotate_left
            · rcases h3 with h3 | h3
              · exact absurd h3 h4
              · omega
            have ht5 := ht2
            have hm5 := hms
            have hb5 := hpl
            have hX5 := hX4
            generalize hg5 : ((id, AObj.cells [.int .i64 0, .sl (bytesAV l[i].b) l[i].tok, .int .i64 l[i].n]) :: H3) = H5 at *
            clear hX4 hg5
            generalize s = s5 at *
            generalize tk2 = tk5 at *
            have hlq : lookH q H5 = some (.cells [.int .i64 s5.most, .sl (bytesAV s5.pend) tk5, .bool s5.fin]) := hX5.lookR (by simp [lookH, fO])
            simp (implicitDefEqProofs := false) only [sB, simprocAttr, hlq]
            refine .inr ⟨p, _, _, rfl, hX5, by omega, .inl fun t4 => ?_⟩
            simp (implicitDefEqProofs := false) only [sB, simprocAttr, hlq, by_len]
            refine .inr ⟨p, _, _, rfl, hX5, ?_⟩
            have r1 := w_i64 ((i : Int) + 1) (by omega) (by omega)
            have hfinal : ∃ H0, Hle H0 H5 ∧ FX p s5 H0 [(q, fO s5 tk5)] := by
              obtain ⟨hnd, tk8, ht8, hp8⟩ := hX5
              have hsub : [(p, fO s5 tk8), (q, fO s5 tk5)].Sublist [(p, fO s5 tk8), (q, fO s5 tk5), (id, AObj.cells [.int .i64 0, .sl (bytesAV l[i].b) l[i].tok, .int .i64 l[i].n])] := .cons_cons _ (.cons_cons _ (List.nil_sublist _))
              exact ⟨_, hle_sub hp8 hsub, nodup_sub hp8 hsub hnd, tk8, ht8, .refl _⟩
            obtain ⟨H7, hle7, hX7⟩ := hfinal
            cases hf : s5.fin with
            | false =>
              simp (implicitDefEqProofs := false) only [sB, simprocAttr, hlq, hf, Bool.false_and, r1]
              exact ⟨H7, hle7, ⟨i + 1, s5, tk5, by omega, hX7, ht5, hm5, hb5, by simp⟩, by omega⟩
            | true =>
              by_cases hpe : s5.pend = []
              · have hz5 : ((s5.pend.length : Nat) : Int) = 0 := by rw [hpe]; rfl
                simp (implicitDefEqProofs := false) only [sB, simprocAttr, hlq, hf, Bool.true_and, hz5, by_len, decide_eq_true hpe, r1]
                exact ⟨H7, hle7, ⟨i + 1, s5, tk5, by omega, hX7, ht5, hm5, hb5, by simp⟩, by omega⟩
              · have hz5 : ¬ ((s5.pend.length : Nat) : Int) = 0 := fun e => hpe (List.length_eq_zero_iff.1 (by omega))
                simp (implicitDefEqProofs := false) only [sB, simprocAttr, hlq, hf, Bool.true_and, hz5, by_len, decide_eq_false hpe, r1]
                exact ⟨H7, hle7, ⟨i + 1, s5, tk5, by omega, hX7, ht5, hm5, hb5, by simp⟩, by omega⟩
          · have hli5 := hX5'.lookR (id := id) (o := .cells [.int .i64 0, .sl (bytesAV l[i].b) l[i].tok, .int .i64 l[i].n]) (by
              have hne : ¬ id = q := fun e => hid (by rw [e]; exact List.mem_map.2 ⟨_, lookH_mem (hX3.lookR (id := q) (o := fO s tk2) (by simp [lookH])), rfl⟩)
              simp [lookH, hne])
            obtain ⟨tkp5, htp5, hY5⟩ := hX5'.flip ht2
            simp (implicitDefEqProofs := false) only [sB, simprocAttr, hli5]
            refine ⟨q, s, _, l[i].b, _, rfl, hY5, .sl _ _, by rw [hms]; omega, fun h4 => ?_, fun _ _ h5 => ?_, fun _ _ _ _ H6 hX6 => ?_⟩
            · rcases h4 with h4 | h4
              · exact absurd h1 h4
              · rw [h2] at h4; cases h4
            · rcases h5 with h5 | h5
              · exact absurd h5 h3
              · omega
            have hcl := chunkP_len (b := l[i].b) (by omega)
            obtain ⟨tk5, ht5, hX5⟩ := hX6.flip htp5
            have hm5 : FS.most ({s with pend := chunkP l[i].b}) = mostP n := hms
            have hb5 : (FS.pend ({s with pend := chunkP l[i].b})).length ≤ 65640 := by show (chunkP l[i].b).length ≤ _; omega
            generalize ({s with pend := chunkP l[i].b} : FS) = s5 at *
            generalize H6 = H5 at *
            have hlq : lookH q H5 = some (.cells [.int .i64 s5.most, .sl (bytesAV s5.pend) tk5, .bool s5.fin]) := hX5.lookR (by simp [lookH, fO])
            simp (implicitDefEqProofs := false) only [sB, simprocAttr, hlq]
            refine .inr ⟨p, _, _, rfl, hX5, by omega, .inl fun t4 => ?_⟩
            simp (implicitDefEqProofs := false) only [sB, simprocAttr, hlq, by_len]
            refine .inr ⟨p, _, _, rfl, hX5, ?_⟩
            have r1 := w_i64 ((i : Int) + 1) (by omega) (by omega)
            have hfinal : ∃ H0, Hle H0 H5 ∧ FX p s5 H0 [(q, fO s5 tk5)] := by
              obtain ⟨hnd, tk8, ht8, hp8⟩ := hX5
              have hsub : [(p, fO s5 tk8), (q, fO s5 tk5)].Sublist [(p, fO s5 tk8), (q, fO s5 tk5), (id, AObj.cells [.int .i64 0, .sl (bytesAV l[i].b) l[i].tok, .int .i64 l[i].n])] := .cons_cons _ (.cons_cons _ (List.nil_sublist _))
              exact ⟨_, hle_sub hp8 hsub, nodup_sub hp8 hsub hnd, tk8, ht8, .refl _⟩
            obtain ⟨H7, hle7, hX7⟩ := hfinal
            cases hf : s5.fin with
            | false =>
              simp (implicitDefEqProofs := false) only [sB, simprocAttr, hlq, hf, Bool.false_and, r1]
              exact ⟨H7, hle7, ⟨i + 1, s5, tk5, by omega, hX7, ht5, hm5, hb5, by simp⟩, by omega⟩
            | true =>
              by_cases hpe : s5.pend = []
              · have hz5 : ((s5.pend.length : Nat) : Int) = 0 := by rw [hpe]; rfl
                simp (implicitDefEqProofs := false) only [sB, simprocAttr, hlq, hf, Bool.true_and, hz5, by_len, decide_eq_true hpe, r1]
                exact ⟨H7, hle7, ⟨i + 1, s5, tk5, by omega, hX7, ht5, hm5, hb5, by simp⟩, by omega⟩
              · have hz5 : ¬ ((s5.pend.length : Nat) : Int) = 0 := fun e => hpe (List.length_eq_zero_iff.1 (by omega))
                simp (implicitDefEqProofs := false) only [sB, simprocAttr, hlq, hf, Bool.true_and, hz5, by_len, decide_eq_false hpe, r1]
                exact ⟨H7, hle7, ⟨i + 1, s5, tk5, by omega, hX7, ht5, hm5, hb5, by simp⟩, by omega⟩
        by_cases k1 : l[i].kind = 1
        · simp (implicitDefEqProofs := false) only [sB, simprocAttr, k0, k1]
          have hX4 := (hX3.push (o := .cells [.int .i64 1, .sl (bytesAV l[i].b) l[i].tok, .int .i64 l[i].n]) hid).permR (.swap _ _ _)
          obtain ⟨tkp, htp, hY⟩ := hX4.flip ht2
          have hli : lookH id ((id, AObj.cells [.int .i64 1, .sl (bytesAV l[i].b) l[i].tok, .int .i64 l[i].n]) :: H3) = some (.cells [.int .i64 1, .sl (bytesAV l[i].b) l[i].tok, .int .i64 l[i].n]) := by simp [lookH]
          refine .inr ⟨p, s, _, rfl, hX4, fun h4 => ?_, fun h1 h2 H5' hX5' => ?_⟩
          · simp (implicitDefEqProofs := false) only [sB, simprocAttr, hli]
            refine ⟨q, s, _, rfl, hY, fun _ => ?_, fun h1 h2 => ?_⟩
            rotate_left
            · rcases h4 with h4 | h4
              · exact absurd h1 h4
              · rw [h2] at h4; cases h4
            have ht5 := ht2
            have hm5 := hms
            have hb5 := hpl
            have hX5 := hX4
            generalize hg5 : ((id, AObj.cells [.int .i64 1, .sl (bytesAV l[i].b) l[i].tok, .int .i64 l[i].n]) :: H3) = H5 at *
            clear hX4 hg5
            generalize s = s5 at *
            generalize tk2 = tk5 at *
            have hlq : lookH q H5 = some (.cells [.int .i64 s5.most, .sl (bytesAV s5.pend) tk5, .bool s5.fin]) := hX5.lookR (by simp [lookH, fO])
            simp (implicitDefEqProofs := false) only [sB, simprocAttr, hlq]
            refine .inr ⟨p, _, _, rfl, hX5, by omega, .inl fun t4 => ?_⟩
            simp (implicitDefEqProofs := false) only [sB, simprocAttr, hlq, by_len]
            refine .inr ⟨p, _, _, rfl, hX5, ?_⟩
            have r1 := w_i64 ((i : Int) + 1) (by omega) (by omega)
            have hfinal : ∃ H0, Hle H0 H5 ∧ FX p s5 H0 [(q, fO s5 tk5)] := by
              obtain ⟨hnd, tk8, ht8, hp8⟩ := hX5
              have hsub : [(p, fO s5 tk8), (q, fO s5 tk5)].Sublist [(p, fO s5 tk8), (q, fO s5 tk5), (id, AObj.cells [.int .i64 1, .sl (bytesAV l[i].b) l[i].tok, .int .i64 l[i].n])] := .cons_cons _ (.cons_cons _ (List.nil_sublist _))
              exact ⟨_, hle_sub hp8 hsub, nodup_sub hp8 hsub hnd, tk8, ht8, .refl _⟩
            obtain ⟨H7, hle7, hX7⟩ := hfinal
            cases hf : s5.fin with
            | false =>
              simp (implicitDefEqProofs := false) only [sB, simprocAttr, hlq, hf, Bool.false_and, r1]
              exact ⟨H7, hle7, ⟨i + 1, s5, tk5, by omega, hX7, ht5, hm5, hb5, by simp⟩, by omega⟩
            | true =>
              by_cases hpe : s5.pend = []
              · have hz5 : ((s5.pend.length : Nat) : Int) = 0 := by rw [hpe]; rfl
                simp (implicitDefEqProofs := false) only [sB, simprocAttr, hlq, hf, Bool.true_and, hz5, by_len, decide_eq_true hpe, r1]
                exact ⟨H7, hle7, ⟨i + 1, s5, tk5, by omega, hX7, ht5, hm5, hb5, by simp⟩, by omega⟩
              · have hz5 : ¬ ((s5.pend.length : Nat) : Int) = 0 := fun e => hpe (List.length_eq_zero_iff.1 (by omega))
                simp (implicitDefEqProofs := false) only [sB, simprocAttr, hlq, hf, Bool.true_and, hz5, by_len, decide_eq_false hpe, r1]
                exact ⟨H7, hle7, ⟨i + 1, s5, tk5, by omega, hX7, ht5, hm5, hb5, by simp⟩, by omega⟩
          · obtain ⟨tkp5, htp5, hY5⟩ := hX5'.flip ht2
            simp (implicitDefEqProofs := false) only [sB, simprocAttr]
            refine ⟨q, s, _, rfl, hY5, fun h4 => ?_, fun _ _ H6 hX6 => ?_⟩
            · rcases h4 with h4 | h4
              · exact absurd h1 h4
              · rw [h2] at h4; cases h4
            have hcl := chunkP_len (b := []) (by decide)
            obtain ⟨tk5, ht5, hX5⟩ := hX6.flip htp5
            have hm5 : FS.most (⟨s.most, chunkP [], true⟩) = mostP n := hms
            have hb5 : (FS.pend (⟨s.most, chunkP [], true⟩)).length ≤ 65640 := by show (chunkP []).length ≤ _; rw [List.length_nil] at hcl; omega
            generalize (⟨s.most, chunkP [], true⟩ : FS) = s5 at *
            generalize H6 = H5 at *
            have hlq : lookH q H5 = some (.cells [.int .i64 s5.most, .sl (bytesAV s5.pend) tk5, .bool s5.fin]) := hX5.lookR (by simp [lookH, fO])
            simp (implicitDefEqProofs := false) only [sB, simprocAttr, hlq]
            refine .inr ⟨p, _, _, rfl, hX5, by omega, .inl fun t4 => ?_⟩
            simp (implicitDefEqProofs := false) only [sB, simprocAttr, hlq, by_len]
            refine .inr ⟨p, _, _, rfl, hX5, ?_⟩
            have r1 := w_i64 ((i : Int) + 1) (by omega) (by omega)
            have hfinal : ∃ H0, Hle H0 H5 ∧ FX p s5 H0 [(q, fO s5 tk5)] := by
              obtain ⟨hnd, tk8, ht8, hp8⟩ := hX5
              have hsub : [(p, fO s5 tk8), (q, fO s5 tk5)].Sublist [(p, fO s5 tk8), (q, fO s5 tk5), (id, AObj.cells [.int .i64 1, .sl (bytesAV l[i].b) l[i].tok, .int .i64 l[i].n])] := .cons_cons _ (.cons_cons _ (List.nil_sublist _))
              exact ⟨_, hle_sub hp8 hsub, nodup_sub hp8 hsub hnd, tk8, ht8, .refl _⟩
            obtain ⟨H7, hle7, hX7⟩ := hfinal
            cases hf : s5.fin with
            | false =>
              simp (implicitDefEqProofs := false) only [sB, simprocAttr, hlq, hf, Bool.false_and, r1]
              exact ⟨H7, hle7, ⟨i + 1, s5, tk5, by omega, hX7, ht5, hm5, hb5, by simp⟩, by omega⟩
            | true =>
              by_cases hpe : s5.pend = []
              · have hz5 : ((s5.pend.length : Nat) : Int) = 0 := by rw [hpe]; rfl
                simp (implicitDefEqProofs := false) only [sB, simprocAttr, hlq, hf, Bool.true_and, hz5, by_len, decide_eq_true hpe, r1]
                exact ⟨H7, hle7, ⟨i + 1, s5, tk5, by omega, hX7, ht5, hm5, hb5, by simp⟩, by omega⟩
              · have hz5 : ¬ ((s5.pend.length : Nat) : Int) = 0 := fun e => hpe (List.length_eq_zero_iff.1 (by omega))
                simp (implicitDefEqProofs := false) only [sB, simprocAttr, hlq, hf, Bool.true_and, hz5, by_len, decide_eq_false hpe, r1]
                exact ⟨H7, hle7, ⟨i + 1, s5, tk5, by omega, hX7, ht5, hm5, hb5, by simp⟩, by omega⟩
        · simp (implicitDefEqProofs := false) only [sB, simprocAttr, k0, k1]
          have hX4 := (hX3.push (o := .cells [.int .i64 l[i].kind, .sl (bytesAV l[i].b) l[i].tok, .int .i64 l[i].n]) hid).permR (.swap _ _ _)
          obtain ⟨tkp, htp, hY⟩ := hX4.flip ht2
          have hli : lookH id ((id, AObj.cells [.int .i64 l[i].kind, .sl (bytesAV l[i].b) l[i].tok, .int .i64 l[i].n]) :: H3) = some (.cells [.int .i64 l[i].kind, .sl (bytesAV l[i].b) l[i].tok, .int .i64 l[i].n]) := by simp [lookH]
          refine .inr ⟨p, s, l[i].n, _, rfl, hX4, fun h4 => ?_, fun h1 h2 H5' hX5' => ?_⟩
          · simp (implicitDefEqProofs := false) only [sB, simprocAttr, hli]
            refine ⟨q, s, l[i].n, _, rfl, hY, fun _ => ?_, fun h1 h2 => ?_⟩
            rotate_left
            · omega
            have ht5 := ht2
            have hm5 := hms
            have hb5 := hpl
            have hX5 := hX4
            generalize hg5 : ((id, AObj.cells [.int .i64 l[i].kind, .sl (bytesAV l[i].b) l[i].tok, .int .i64 l[i].n]) :: H3) = H5 at *
            clear hX4 hg5
            generalize s = s5 at *
            generalize tk2 = tk5 at *
            have hlq : lookH q H5 = some (.cells [.int .i64 s5.most, .sl (bytesAV s5.pend) tk5, .bool s5.fin]) := hX5.lookR (by simp [lookH, fO])
            simp (implicitDefEqProofs := false) only [sB, simprocAttr, hlq]
            refine .inr ⟨p, _, _, rfl, hX5, by omega, .inl fun t4 => ?_⟩
            simp (implicitDefEqProofs := false) only [sB, simprocAttr, hlq, by_len]
            refine .inr ⟨p, _, _, rfl, hX5, ?_⟩
            have r1 := w_i64 ((i : Int) + 1) (by omega) (by omega)
            have hfinal : ∃ H0, Hle H0 H5 ∧ FX p s5 H0 [(q, fO s5 tk5)] := by
              obtain ⟨hnd, tk8, ht8, hp8⟩ := hX5
              have hsub : [(p, fO s5 tk8), (q, fO s5 tk5)].Sublist [(p, fO s5 tk8), (q, fO s5 tk5), (id, AObj.cells [.int .i64 l[i].kind, .sl (bytesAV l[i].b) l[i].tok, .int .i64 l[i].n])] := .cons_cons _ (.cons_cons _ (List.nil_sublist _))
              exact ⟨_, hle_sub hp8 hsub, nodup_sub hp8 hsub hnd, tk8, ht8, .refl _⟩
            obtain ⟨H7, hle7, hX7⟩ := hfinal
            cases hf : s5.fin with
            | false =>
              simp (implicitDefEqProofs := false) only [sB, simprocAttr, hlq, hf, Bool.false_and, r1]
              exact ⟨H7, hle7, ⟨i + 1, s5, tk5, by omega, hX7, ht5, hm5, hb5, by simp⟩, by omega⟩
            | true =>
              by_cases hpe : s5.pend = []
              · have hz5 : ((s5.pend.length : Nat) : Int) = 0 := by rw [hpe]; rfl
                simp (implicitDefEqProofs := false) only [sB, simprocAttr, hlq, hf, Bool.true_and, hz5, by_len, decide_eq_true hpe, r1]
                exact ⟨H7, hle7, ⟨i + 1, s5, tk5, by omega, hX7, ht5, hm5, hb5, by simp⟩, by omega⟩
              · have hz5 : ¬ ((s5.pend.length : Nat) : Int) = 0 := fun e => hpe (List.length_eq_zero_iff.1 (by omega))
                simp (implicitDefEqProofs := false) only [sB, simprocAttr, hlq, hf, Bool.true_and, hz5, by_len, decide_eq_false hpe, r1]
                exact ⟨H7, hle7, ⟨i + 1, s5, tk5, by omega, hX7, ht5, hm5, hb5, by simp⟩, by omega⟩
          · have hli5 := hX5'.lookR (id := id) (o := .cells [.int .i64 l[i].kind, .sl (bytesAV l[i].b) l[i].tok, .int .i64 l[i].n]) (by
              have hne : ¬ id = q := fun e => hid (by rw [e]; exact List.mem_map.2 ⟨_, lookH_mem (hX3.lookR (id := q) (o := fO s tk2) (by simp [lookH])), rfl⟩)
              simp [lookH, hne])
            obtain ⟨tkp5, htp5, hY5⟩ := hX5'.flip ht2
            simp (implicitDefEqProofs := false) only [sB, simprocAttr, hli5]
            refine ⟨q, s, l[i].n, _, rfl, hY5, fun h4 => ?_, fun _ _ H6 hX6 => ?_⟩
            · omega
            obtain ⟨tk5, ht5, hX5⟩ := hX6.flip htp5
            have hm5 : FS.most ({s with pend := s.pend.drop l[i].n.toNat}) = mostP n := hms
            have hb5 : (FS.pend ({s with pend := s.pend.drop l[i].n.toNat})).length ≤ 65640 := by show (s.pend.drop l[i].n.toNat).length ≤ _; rw [List.length_drop]; omega
            generalize ({s with pend := s.pend.drop l[i].n.toNat} : FS) = s5 at *
            generalize H6 = H5 at *
            have hlq : lookH q H5 = some (.cells [.int .i64 s5.most, .sl (bytesAV s5.pend) tk5, .bool s5.fin]) := hX5.lookR (by simp [lookH, fO])
            simp (implicitDefEqProofs := false) only [sB, simprocAttr, hlq]
            refine .inr ⟨p, _, _, rfl, hX5, by omega, .inl fun t4 => ?_⟩
            simp (implicitDefEqProofs := false) only [sB, simprocAttr, hlq, by_len]
            refine .inr ⟨p, _, _, rfl, hX5, ?_⟩
            have r1 := w_i64 ((i : Int) + 1) (by omega) (by omega)
            have hfinal : ∃ H0, Hle H0 H5 ∧ FX p s5 H0 [(q, fO s5 tk5)] := by
              obtain ⟨hnd, tk8, ht8, hp8⟩ := hX5
              have hsub : [(p, fO s5 tk8), (q, fO s5 tk5)].Sublist [(p, fO s5 tk8), (q, fO s5 tk5), (id, AObj.cells [.int .i64 l[i].kind, .sl (bytesAV l[i].b) l[i].tok, .int .i64 l[i].n])] := .cons_cons _ (.cons_cons _ (List.nil_sublist _))
              exact ⟨_, hle_sub hp8 hsub, nodup_sub hp8 hsub hnd, tk8, ht8, .refl _⟩
            obtain ⟨H7, hle7, hX7⟩ := hfinal
            cases hf : s5.fin with
            | false =>
              simp (implicitDefEqProofs := false) only [sB, simprocAttr, hlq, hf, Bool.false_and, r1]
              exact ⟨H7, hle7, ⟨i + 1, s5, tk5, by omega, hX7, ht5, hm5, hb5, by simp⟩, by omega⟩
            | true =>
              by_cases hpe : s5.pend = []
              · have hz5 : ((s5.pend.length : Nat) : Int) = 0 := by rw [hpe]; rfl
                simp (implicitDefEqProofs := false) only [sB, simprocAttr, hlq, hf, Bool.true_and, hz5, by_len, decide_eq_true hpe, r1]
                exact ⟨H7, hle7, ⟨i + 1, s5, tk5, by omega, hX7, ht5, hm5, hb5, by simp⟩, by omega⟩
              · have hz5 : ¬ ((s5.pend.length : Nat) : Int) = 0 := fun e => hpe (List.length_eq_zero_iff.1 (by omega))
                simp (implicitDefEqProofs := false) only [sB, simprocAttr, hlq, hf, Bool.true_and, hz5, by_len, decide_eq_false hpe, r1]
                exact ⟨H7, hle7, ⟨i + 1, s5, tk5, by omega, hX7, ht5, hm5, hb5, by simp⟩, by omega⟩
      · have c' : ¬ (i : Int) < (l.length : Int) := by omega
        simp (implicitDefEqProofs := false) only [sB, simprocAttr, c']
        exact hQ _ _ _ ⟨rfl, hX3.1, hX3.cells (cO_nil.cons rfl)⟩
  · rintro Q hQ σ H1 ⟨i, rfl, hi, rfl⟩
    by_cases c : i < l.length
    · have c' : (i : Int) < (l.length : Int) := by omega
      have hx : l[i]? = some l[i] := List.getElem?_eq_getElem c
      have e1 := act_take hx
      have e2 := act_le l (i + 1)
      have i0 : (0 : Int) ≤ (i : Int) := by omega
      have e3 := w_i64 ((actSum (l.take i) : Int) + l[i].b.length) (by omega) (by omega)
      have e4 := w_i64 ((i : Int) + 1) (by omega) (by omega)
      simp (implicitDefEqProofs := false) only [sB, simprocAttr, c', i0, acts_len, acts_get, hx, Option.map_some, actAV]
      refine i_new fun id hid => ?_
      simp (implicitDefEqProofs := false) only [sB, simprocAttr, e3, e4, by_len]
      exact ⟨[], .of_sub (List.nil_sublist _), ⟨i + 1, rfl, by omega, by rw [e1]; simp, by simp⟩, by omega⟩
    · have c' : ¬ (i : Int) < (l.length : Int) := by omega
      have hil : i = l.length := by omega
      simp (implicitDefEqProofs := false) only [sB, simprocAttr, c']
      exact hQ _ _ _ ⟨rfl, rfl, rfl, rfl, by rw [hil, List.take_length]; rfl⟩
end Go.AL.Fun
