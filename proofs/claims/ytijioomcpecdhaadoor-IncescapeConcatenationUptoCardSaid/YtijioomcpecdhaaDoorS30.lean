/- strings.ToValidUTF8 with nothing for what is wrong. -/
import Derived.Test.YtijioomcpecdhaaDoorS29
import Derived.Test.YtijioomcpecdhaaDoorFL14
set_option linter.unusedSimpArgs false
set_option linter.unusedVariables false
set_option maxRecDepth 100000
set_option maxHeartbeats 4000000
namespace Go.AL.Fun
open Go Go.AL

theorem fst_lo {c : UInt8} {r : List UInt8} (h : c.toNat < 128) : (fst (c :: r)).1 = 1 := by rw [fst, if_pos h]
theorem bad_dec {s : List UInt8} (h : (fst s).1 = 0) : dec1 s = (65533, 1) := by unfold dec1; rw [if_pos h]
theorem bad_of {s : List UInt8} (hs : s ≠ []) (h1 : (dec1 s).1 = 65533) (h2 : (dec1 s).2 = 1) : (fst s).1 = 0 := by
  by_cases h : (fst s).1 = 0
  · exact h
  · rw [dec1_two h] at h1 h2
    simp only at h1 h2
    rw [h2] at h1
    cases s with
    | nil => exact absurd rfl hs
    | cons c r =>
      have hc := c.toNat_lt
      simp only [List.take_succ_cons, List.take_zero, val] at h1
      omega
theorem good_next {s : List UInt8} (hs : s ≠ []) (h : (fst s).1 ≠ 0) : validP s = validP (s.drop (dec1 s).2) := by
  rw [validP_step hs, if_neg h, dec1_two h]
def c38 (xs : List AV) (H : Heap) (K : Kv) : Prop := ∃ s : List UInt8, xs = [.str s, .str []] ∧ s.length ≤ 1048576 ∧ H.keys.Nodup ∧ ∀ r, (r = s ↔ validP s = true) → K.ap (.str r) H
@[reducible] def t38 : XT := [(69, c69), (70, c70), (54, c54g), (71, c71), (72, c72), (55, c55g)]
theorem c38_of (P : Program) {G : Nat → Option (List AV)} {xs : List AV} {H : Heap} {K : Kv} (h : c38 xs H K) : @xF ⟨G, P, t38⟩ f38 xs H ⟨fun v H' => ∃ H0, Hle H0 H' ∧ K.ap v H0⟩ := by
  obtain ⟨s, rfl, hs, hn, k⟩ := h
  simp (implicitDefEqProofs := false) only [sB, simprocAttr, f38, x_rawal, q_rawal]
  refine i_new fun b hb => ?_
  simp (implicitDefEqProofs := false) only [sB, simprocAttr]
  refine i_new fun it hit => ?_
  simp (implicitDefEqProofs := false) only [sB, simprocAttr] at hit
  have hbi : ¬ it = b := hit.1
  have hn1 : (Heap.keys ((it, AObj.iter s 0) :: (b, AObj.raw 71 [.pointer none, .slice none 0 0]) :: H)).Nodup := List.nodup_cons.2 ⟨by show it ∉ b :: H.keys; simp only [List.mem_cons, not_or]; exact hit, List.nodup_cons.2 ⟨hb, hn⟩⟩
  simp (implicitDefEqProofs := false) only [sB, simprocAttr]
  refine i_loopJ (fun σ H1 => ∃ pos : Nat, H1.Perm ((it, .iter s pos) :: (b, .raw 71 [.pointer none, .slice none 0 0]) :: H) ∧ H1.keys.Nodup ∧ pos ≤ s.length ∧ validP s = validP (s.drop pos) ∧ σ = [(0, .str s), (1, .str []), (5, .ptr b 0), (16, .ptr it 0)])
    (fun _ H1 => match lookH it H1 with | some (.iter _ i) => s.length - i | _ => 0)
    (fun e σ H1 => e = .exit 0 ∧ H1.keys.Nodup ∧ σ.get 1 = .str [] ∧ σ.get 5 = .ptr b 0 ∧ ((σ.get 0 = .str s ∧ validP s = true ∧ ∃ i, H1.Perm (fresh71 b ++ (it, .iter s i) :: H)) ∨
      (∃ (pos i : Nat) (A : Heap), σ.get 0 = .str (s.drop pos) ∧ pos < s.length ∧ (fst (s.drop pos)).1 = 0 ∧ validP s = false ∧ BldG b (s.take pos) A ∧ H1.Perm (A ++ (it, .iter s i) :: H))))
    ⟨_, .refl _, 0, .refl _, hn1, by omega, by simp, rfl⟩ ?_ ?_
  · rintro e σ H1 ⟨rfl, hn2, q1, q5, hc⟩
    rcases hc with ⟨q0, hv, i, hp⟩ | ⟨pos, i, A, q0, hpos, hbad, hv, hb1, hp⟩
    · simp (implicitDefEqProofs := false) only [sB, simprocAttr, q0, q1, q5]
      refine ⟨b, [], fresh71 b, (it, .iter s i) :: H, rfl, hp, .inl ⟨rfl, ?_⟩⟩
      simp (implicitDefEqProofs := false) only [sB, simprocAttr, q0, q1, q5]
      exact ⟨H, hle_sub hp ((List.sublist_cons_self _ _).trans (List.sublist_cons_self _ _)), k s ⟨fun _ => hv, fun _ => rfl⟩⟩
    · simp (implicitDefEqProofs := false) only [sB, simprocAttr, q0, q1, q5]
      refine ⟨b, s.take pos, A, (it, .iter s i) :: H, rfl, hp, .inr ⟨hb1, fun cap hcap => ?_⟩⟩
      have hc0 : ¬ ((cap : Int) = 0) := by omega
      simp (implicitDefEqProofs := false) only [sB, simprocAttr, q0, q1, q5, hc0]
      have hl0 : (s.drop pos).length = s.length - pos := by rw [List.length_drop]
      have hl1 : (s.take pos).length = pos := by rw [List.length_take]; omega
      generalize s.drop pos = t at hl0 hbad
      generalize s.take pos = u at hl1 hb1
      have hR : (Heap.keys ((it, AObj.iter s i) :: H)).Nodup := by
        have := nodup_perm hp hn2
        simp only [Heap.keys, List.map_append] at this ⊢
        exact (List.nodup_append.1 this).2.1
      have hbt : dec1 t = (65533, 1) := bad_dec hbad
      refine i_loopJ (fun σ H1 => ∃ (j : Nat) (cur : List UInt8) (A : Heap) (inv : Bool), σ = [(0, .str t), (1, .str []), (5, .ptr b 0), (10, .bool inv), (11, .int .i64 j)] ∧ BldG b cur A ∧ H1.Perm (A ++ (it, .iter s i) :: H) ∧ H1.keys.Nodup ∧ j ≤ t.length ∧
          ((j = 0 ∧ cur.length = pos) ∨ (1 ≤ j ∧ cur.length + 1 ≤ pos + j)))
        (fun σ _ => match σ.get 11 with | .int _ m => t.length - m.toNat | _ => 0)
        (fun e σ H1 => e = .exit 2 ∧ σ.get 5 = .ptr b 0 ∧ ∃ (cur : List UInt8) (A : Heap), BldG b cur A ∧ H1.Perm (A ++ (it, .iter s i) :: H) ∧ H1.keys.Nodup ∧ cur.length < s.length)
        ⟨_, .refl _, 0, u, A, false, rfl, hb1, hp, hn2, by omega, .inl ⟨rfl, hl1⟩⟩ ?_ ?_
      · rintro e σ H2 ⟨rfl, q5, cur, A2, hb2, hp2, hn3, hlt⟩
        simp (implicitDefEqProofs := false) only [sB, simprocAttr, q5]
        refine ⟨b, cur, A2, _, rfl, hb2, hp2, fun _ => ?_⟩
        simp (implicitDefEqProofs := false) only [sB, simprocAttr]
        exact ⟨H, .tail _ _, k cur ⟨fun e => by rw [e] at hlt; omega, fun e => by rw [hv] at e; cases e⟩⟩
      · rintro Q hQ σ H2 ⟨j, cur, A2, inv, rfl, hb2, hp2, hn3, hj, hcur⟩
        by_cases c : j < t.length
        · have hg : t[j]? = some t[j] := List.getElem?_eq_getElem c
          have hdr : t.drop j = t[j] :: t.drop (j + 1) := List.drop_eq_getElem_cons c
          have hne : t.drop j ≠ [] := by rw [hdr]; exact List.cons_ne_nil _ _
          have w1 := w_i64 ((j : Int) + 1) (by omega) (by omega)
          have c' : (j : Int) < t.length := by omega
          have b1 : byteAV t[j] = .int .u8 (t[j].toNat : Nat) := rfl
          by_cases lo : t[j].toNat < 128
          · have lo' : ((t[j].toNat : Nat) : Int) < 128 := by omega
            simp (implicitDefEqProofs := false) only [sB, simprocAttr, c', hg, Option.map_some, b1, lo', w1]
            have hj0 : j ≠ 0 := fun e => by subst e; rw [List.drop_zero] at hdr; rw [hdr, fst_lo lo] at hbad; cases hbad
            exact ⟨by omega, b, cur, t[j], A2, _, rfl, hb2, hp2, by omega, fun A3 H3 g1 g2 g3 => ⟨_, .refl _, ⟨j + 1, cur ++ [t[j]], A3, false, ⟨rfl, rfl⟩, g1, g2, g3, by omega, .inr ⟨by omega, by rw [List.length_append, List.length_singleton]; omega⟩⟩, by omega⟩⟩
          · have lo' : ¬ ((t[j].toNat : Nat) : Int) < 128 := by omega
            simp (implicitDefEqProofs := false) only [sB, simprocAttr, c', hg, Option.map_some, b1, lo', w1]
            refine ⟨by omega, ⟨by omega, by omega⟩, _, rfl, hne, ?_⟩
            have d1 := dec1_pos (t.drop j)
            have d2 := dec1_le hne
            rw [List.length_drop] at d2
            by_cases r2 : (dec1 (t.drop j)).2 = 1
            · cases inv with
              | true =>
                simp (implicitDefEqProofs := false) only [sB, simprocAttr, r2, w1]
                exact ⟨_, .refl _, ⟨j + 1, cur, A2, true, ⟨rfl, rfl⟩, hb2, hp2, hn3, by omega, .inr ⟨by omega, by omega⟩⟩, by omega⟩
              | false =>
                simp (implicitDefEqProofs := false) only [sB, simprocAttr, r2, w1]
                exact ⟨b, cur, [], A2, _, rfl, hb2, hp2, by simp only [List.length_nil]; omega, fun A3 H3 g1 g2 g3 => ⟨_, .refl _, ⟨j + 1, cur, A3, true, ⟨rfl, rfl⟩, by rw [List.append_nil] at g1; exact g1, g2, g3, by omega, .inr ⟨by omega, by omega⟩⟩, by omega⟩⟩
            · have r2i : ¬ ((dec1 (t.drop j)).2 : Int) = 1 := by omega
              have hj0 : j ≠ 0 := fun e => by subst e; rw [List.drop_zero, hbt] at r2; exact r2 rfl
              have w2 := w_i64 ((j : Int) + ((dec1 (t.drop j)).2 : Int)) (by omega) (by omega)
              simp (implicitDefEqProofs := false) only [sB, simprocAttr, r2i, w2]
              have hlen : (List.drop j (List.take ((j : Int) + ((dec1 (t.drop j)).2 : Int)).toNat t)).length = (dec1 (t.drop j)).2 := by rw [List.length_drop, List.length_take]; omega
              refine ⟨by omega, b, cur, _, A2, _, rfl, hb2, hp2, by omega, fun A3 H3 g1 g2 g3 => ⟨_, .refl _, ⟨j + (dec1 (t.drop j)).2, _, A3, false, ⟨rfl, rfl⟩, g1, g2, g3, by omega, .inr ⟨by omega, by rw [List.length_append, hlen]; omega⟩⟩, by omega⟩⟩
        · have c' : ¬ (j : Int) < t.length := by omega
          simp (implicitDefEqProofs := false) only [sB, simprocAttr, c']
          refine hQ _ _ _ ⟨rfl, rfl, cur, A2, hb2, hp2, hn3, by omega⟩
  · rintro Q hQ σ H1 ⟨pos, hp, hn2, hle, hv, rfl⟩
    have hlk := look_head hp hn2
    by_cases c : pos < s.length
    · have hu := utf8_dec c
      have hne : s.drop pos ≠ [] := by intro e; have := congrArg List.length e; rw [List.length_drop] at this; simp at this; omega
      have d1 := dec1_pos (s.drop pos)
      have d2 := dec1_le hne
      rw [List.length_drop] at d2
      have hp2 : (setH it (.iter s (pos + (dec1 (s.drop pos)).2)) H1).Perm ((it, .iter s (pos + (dec1 (s.drop pos)).2)) :: (b, .raw 71 [.pointer none, .slice none 0 0]) :: H) := set_head _ hp hn2
      have hn3 : (setH it (.iter s (pos + (dec1 (s.drop pos)).2)) H1).keys.Nodup := set_nodup _ hn2
      have hl3 := look_head hp2 hn3
      have next : (fst (s.drop pos)).1 ≠ 0 → validP s = validP (s.drop (pos + (dec1 (s.drop pos)).2)) := fun hf => by rw [hv, good_next hne hf, List.drop_drop]
      by_cases r1 : (dec1 (s.drop pos)).1 = 65533
      · simp (implicitDefEqProofs := false) only [sB, simprocAttr, hlk, c, hu.1, hu.2, r1]
        refine ⟨by omega, _, rfl, hne, ?_⟩
        by_cases r2 : (dec1 (s.drop pos)).2 = 1
        · have hbad := bad_of hne r1 r2
          have hvf : validP s = false := by rw [hv, validP_step hne, if_pos hbad]
          have wn := w_i64 (s.length : Int) (by omega) (by omega)
          simp (implicitDefEqProofs := false) only [sB, simprocAttr, r1, r2, wn]
          rw [r2] at hp2 hn3
          refine ⟨b, s.length, (it, .iter s (pos + 1)) :: H, rfl, hp2.trans (.swap _ _ _), by omega, by omega, fun A1 H2 g1 g2 g3 => ⟨by omega, b, [], s.take pos, A1, (it, .iter s (pos + 1)) :: H, rfl, g1, g2, by rw [List.length_take]; simp only [List.length_nil]; omega, fun A2 H3 g4 g5 g6 => ⟨by omega, ?_⟩⟩⟩
          exact hQ _ _ _ ⟨rfl, g6, rfl, rfl, .inr ⟨pos, pos + 1, A2, rfl, c, hbad, hvf, g4, g5⟩⟩
        · have hf : (fst (s.drop pos)).1 ≠ 0 := fun e => r2 (by rw [bad_dec e])
          have r2i : ¬ ((dec1 (s.drop pos)).2 : Int) = 1 := by omega
          simp (implicitDefEqProofs := false) only [sB, simprocAttr, r1, r2i]
          refine ⟨_, .refl _, ⟨_, hp2, hn3, by omega, next hf⟩, ?_⟩
          try rw [hlk]
          show (match lookH it (setH it (.iter s (pos + (dec1 (s.drop pos)).2)) H1) with | some (.iter _ i) => s.length - i | _ => 0) < s.length - pos
          rw [hl3]
          show s.length - (pos + (dec1 (s.drop pos)).2) < s.length - pos
          omega
      · have hf : (fst (s.drop pos)).1 ≠ 0 := fun e => r1 (by rw [bad_dec e])
        simp (implicitDefEqProofs := false) only [sB, simprocAttr, hlk, c, hu.1, hu.2, r1]
        refine ⟨_, .refl _, ⟨_, hp2, hn3, by omega, next hf⟩, ?_⟩
        try rw [hlk]
        show (match lookH it (setH it (.iter s (pos + (dec1 (s.drop pos)).2)) H1) with | some (.iter _ i) => s.length - i | _ => 0) < s.length - pos
        rw [hl3]
        show s.length - (pos + (dec1 (s.drop pos)).2) < s.length - pos
        omega
    · simp (implicitDefEqProofs := false) only [sB, simprocAttr, hlk, c]
      refine hQ _ _ _ ⟨rfl, hn2, rfl, rfl, .inl ⟨rfl, ?_, pos, hp.trans (.swap _ _ _)⟩⟩
      rw [hv, List.drop_eq_nil_of_le (by omega)]
      exact validP_nil
end Go.AL.Fun
