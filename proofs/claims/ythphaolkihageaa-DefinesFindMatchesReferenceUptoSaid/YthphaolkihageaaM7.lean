/- The reference's parser walked: a node, a source. -/
import Derived.Test.YthphaolkihageaaM6
set_option linter.unusedSimpArgs false
set_option linter.unusedVariables false
set_option maxRecDepth 100000
set_option maxHeartbeats 4000000
namespace Go.AL.Fun
open Go Go.AL

theorem hle3' {H H0 : Heap} {x y z : Nat × AObj} (h : Hle H0 H) : Hle H0 (x :: y :: z :: H) := h.trans (.of_sub (.cons _ (.cons _ (.cons _ (.refl _)))))
theorem hle2' {H H0 : Heap} {x y : Nat × AObj} (h : Hle H0 H) : Hle H0 (x :: y :: H) := h.trans (.of_sub (.cons _ (.cons _ (.refl _))))
theorem nk_cons {q p : Nat} {x : AObj} {H : Heap} (h1 : ¬ q = p) (h2 : q ∉ H.keys) : q ∉ Heap.keys ((p, x) :: H) := fun hm => by
  rcases List.mem_cons.1 hm with e | e
  · exact h1 e
  · exact h2 e
theorem nk_set {q p : Nat} {x : AObj} {H : Heap} (h : q ∉ H.keys) : q ∉ (setH p x H).keys := by rw [keys_set]; exact h
@[reducible] def t63 (N : Nat) (P : Program) : Th := ⟨fun _ => none, P, [(26, c26 N), (50, c50)]⟩
theorem c35_of (P : Program) {N : Nat} {xs : List AV} {H : Heap} {K : Kv} (h : c35 (N + 1) xs H K) : @xF (t63 N P) f35 xs H ⟨fun v H' => ∃ H0, Hle H0 H' ∧ ∃ v', AVle v v' ∧ K.ap v' H0⟩ := by
  obtain ⟨pp, ts, tok, i, n, d, F, t, rfl, hn, hl, ht, hN, hF, hn4, hts, hd0, hd, h⟩ := h
  have hlt : i < ts.length := (List.getElem?_eq_some_iff.1 ht).1
  obtain ⟨F, rfl⟩ : ∃ f', F = f' + 1 := ⟨F - 1, by omega⟩
  obtain ⟨k, a, s, px, hb⟩ := t
  obtain ⟨L, hL⟩ := allTk_of ts
  have facts := parse_facts ts L hL
  have hlk : lookH pp H = some (.cells [.sl (tksAV ts) tok, .int .i64 i, .int .i64 n]) := hl
  have i0' : (0 : Int) ≤ (i : Int) := by omega
  have r1 := w_i64 ((n : Int) + 1) (by omega) (by omega)
  have r2 := w_i64 ((i : Int) + 1) (by omega) (by omega)
  have r3 := w_i64 (d + 1) (by omega) (by omega)
  rw [nodeR] at h
  simp only at h
  simp (implicitDefEqProofs := false) only [sB, simprocAttr, f35]
  refine i_new fun p4 hp4 => ?_
  have n4 : ¬ pp = p4 := key_ne hl hp4
  have n4' : ¬ p4 = pp := fun e => n4 e.symm
  simp (implicitDefEqProofs := false) only [sB, simprocAttr, n4, n4', hlk, tks_get, ht, Option.map_some, i0', tkAV]
  refine i_new fun p7 hp7 => ?_
  have hp7' := hp7
  simp (implicitDefEqProofs := false) only [sB, simprocAttr, Heap.keys] at hp7'
  have n74 : ¬ p7 = p4 := hp7'.1
  have n47 : ¬ p4 = p7 := fun e => n74 e.symm
  have n7 : ¬ pp = p7 := key_ne hl hp7'.2
  have n7' : ¬ p7 = pp := fun e => n7 e.symm
  by_cases A1 : k = 6 ∧ 0 < d
  · rw [if_pos (.inl A1)] at h
    obtain ⟨k6, d0⟩ := A1
    simp (implicitDefEqProofs := false) only [sB, simprocAttr, n4, n4', n7, n7', n74, n47, hp7', hp4, hlk, tks_get, ht, Option.map_some, i0', tkAV, k6, d0]
    refine ⟨_, .of_sub (.cons _ (.cons _ (.refl _))), _, .refl _, ?_⟩
    rw [set_same hl] at h
    exact h
  by_cases A2 : blockB k = true ∧ 32 ≤ d
  · rw [if_pos (.inr A2)] at h
    rw [set_same hl] at h
    obtain ⟨bk, d32⟩ := A2
    have k6 : ¬ k = 6 := fun e => A1 ⟨e, by omega⟩
    simp (implicitDefEqProofs := false) only [sB, simprocAttr, n4, n4', n7, n7', n74, n47, hp7', hp4, hlk, tks_get, ht, Option.map_some, i0', tkAV, k6, y_c68, bk, d32]
    exact ⟨_, .of_sub (.cons _ (.cons _ (.refl _))), _, .refl _, h⟩
  rw [if_neg (by rw [not_or]; exact ⟨A1, A2⟩)] at h
  by_cases nn : 4096 ≤ n
  · rw [if_pos nn] at h
    rw [set_same hl] at h
    have nn' : (4096 : Int) ≤ (n : Int) := by omega
    by_cases k6 : k = 6
    · have d0 : ¬ 0 < d := fun x => A1 ⟨k6, x⟩
      have bk : blockB 6 = true := rfl
      have d32 : ¬ 32 ≤ d := by omega
      simp (implicitDefEqProofs := false) only [sB, simprocAttr, n4, n4', n7, n7', n74, n47, hp7', hp4, hlk, tks_get, ht, Option.map_some, i0', tkAV, k6, d0, y_c68, bk, d32, nn']
      exact ⟨_, .of_sub (.cons _ (.cons _ (.refl _))), _, .refl _, h⟩
    · by_cases bk : blockB k = true
      · have d32 : ¬ 32 ≤ d := fun x => A2 ⟨bk, x⟩
        simp (implicitDefEqProofs := false) only [sB, simprocAttr, n4, n4', n7, n7', n74, n47, hp7', hp4, hlk, tks_get, ht, Option.map_some, i0', tkAV, k6, y_c68, bk, d32, nn']
        exact ⟨_, .of_sub (.cons _ (.cons _ (.refl _))), _, .refl _, h⟩
      · simp (implicitDefEqProofs := false) only [sB, simprocAttr, n4, n4', n7, n7', n74, n47, hp7', hp4, hlk, tks_get, ht, Option.map_some, i0', tkAV, k6, y_c68, bk, nn']
        exact ⟨_, .of_sub (.cons _ (.cons _ (.refl _))), _, .refl _, h⟩
  rw [if_neg nn] at h
  have nn' : ¬ (4096 : Int) ≤ (n : Int) := by omega
  by_cases bk : blockB k = true
  · rw [if_neg (by simp [bk])] at h
    have d32 : ¬ 32 ≤ d := fun x => A2 ⟨bk, x⟩
    rcases (show ((k = 6) = True ∧ (0 < d) = False) ∨ ((k = 6) = False ∧ True) by
      by_cases k6 : k = 6
      · exact .inl ⟨eq_true k6, eq_false fun x => A1 ⟨k6, x⟩⟩
      · exact .inr ⟨eq_false k6, trivial⟩) with ⟨k6e, d0e⟩ | ⟨k6e, d0e⟩
    all_goals
      simp (implicitDefEqProofs := false) only [sB, simprocAttr, n4, n4', n7, n7', n74, n47, hp7', hp4, hlk, tks_get, ht, Option.map_some, i0', tkAV, k6e, d0e, y_c68, bk, d32, nn', r1, r2, r3]
      refine i_new fun p8 hp8 => ?_
      have hp8' := hp8
      simp (implicitDefEqProofs := false) only [sB, simprocAttr, Heap.keys] at hp8'
      have n87 : ¬ p8 = p7 := hp8'.1
      have n78 : ¬ p7 = p8 := fun e => n87 e.symm
      have n84 : ¬ p8 = p4 := hp8'.2.1
      have n48 : ¬ p4 = p8 := fun e => n84 e.symm
      have n8 : ¬ pp = p8 := key_ne hl hp8'.2.2
      have n8' : ¬ p8 = pp := fun e => n8 e.symm
      simp (implicitDefEqProofs := false) only [sB, simprocAttr, n8, n8', n87, n78, n84, n48, n4, n4', n7, n7', n74, n47, hp7', hp4, hlk, tks_get, ht, Option.map_some, i0', tkAV, k6e, d0e, y_c68, bk, d32, nn', r1, r2, r3]
      refine ⟨pp, ts, tok, i + 1, n + 1, k, false, d + 1, F, rfl, List.nodup_cons.2 ⟨hp8, List.nodup_cons.2 ⟨?_, List.nodup_cons.2 ⟨?_, ?_⟩⟩⟩, ?_, by omega, by omega, by omega, by omega, hts, by omega, by omega, ?_⟩
      · exact nk_cons n74 (nk_set hp7'.2)
      · exact nk_set hp4
      · exact set_nodup _ hn
      · simp only [lookH, n8, n7, n4, if_false]
        exact (look_set (o := parO ts tok (i + 1) (n + 1)) hl)
      have hk := (facts F).1 k false (d + 1) (i + 1) (n + 1) [] (by omega) (by omega) (by omega) trivial
      revert hk h
      generalize listR ts F k false (d + 1) (i + 1) (n + 1) [] = r
      rcases r with ⟨_ | body, a1, e1, i1, n1⟩
      · rintro h ⟨g1, g2, g3, g4, g5⟩
        simp only at h
        simp (implicitDefEqProofs := false) only [sB, simprocAttr, resLs, n4, n4', n7, n7', n74, n47, n8, n8', n87, n78, n84, n48, hp8', hp7', hp4, hlk, tks_get, Option.map_some, tkAV, tks_len, parO, g1]
        exact ⟨_, hle3' (.refl _), _, .refl _, h⟩
      · rintro h ⟨rfl, rfl, g3, g4, g5, g6, g7, g8⟩
        simp only at h
        by_cases c1 : i1 < ts.length
        · have ht1 : ts[i1]? = some ts[i1] := List.getElem?_eq_getElem c1
          have c1' : (i1 : Int) < (ts.length : Int) := by omega
          have j0 : (0 : Int) ≤ (i1 : Int) := by omega
          rw [ht1, Option.map_some] at h
          generalize ts[i1] = t1 at ht1 h
          obtain ⟨k1, ta1, ts1, tp1, th1⟩ := t1
          by_cases k7 : k1 = 7
          · rw [if_pos (by simp [k7])] at h
            have r4 := w_i64 ((i1 : Int) + 1) (by omega) (by omega)
            simp (implicitDefEqProofs := false) only [sB, simprocAttr, resLs, n4, n4', n7, n7', n74, n47, n8, n8', n87, n78, n84, n48, hp8', hp7', hp4, hlk, tks_get, Option.map_some, tkAV, tks_len, parO, c1', j0, ht1, k7, r3, r4]
            refine ⟨pp, ts, tok, i1 + 1, n1, k, true, d + 1, F, rfl, ?_, ?_, by omega, by omega, by omega, by omega, hts, by omega, by omega, ?_⟩
            · exact List.nodup_cons.2 ⟨nk_cons n87 (nk_cons n84 (nk_set hp8'.2.2)), List.nodup_cons.2 ⟨nk_cons n74 (nk_set hp7'.2), List.nodup_cons.2 ⟨nk_set hp4, set_nodup _ hn⟩⟩⟩
            · simp only [lookH, n8, n7, n4, if_false]
              exact (look_set (o := parO ts tok (i1 + 1) n1) hl)
            have hk := (facts F).1 k true (d + 1) (i1 + 1) n1 [] (by omega) (by omega) (by omega) trivial
            revert hk h
            generalize listR ts F k true (d + 1) (i1 + 1) n1 [] = r
            rcases r with ⟨_ | els, a2, e2, i2, n2⟩
            · rintro h ⟨q1, q2, q3, q4, q5⟩
              simp only at h
              simp (implicitDefEqProofs := false) only [sB, simprocAttr, resLs, n4, n4', n7, n7', n74, n47, n8, n8', n87, n78, n84, n48, hp8', hp7', hp4, hlk, tks_get, Option.map_some, tkAV, tks_len, parO, q1]
              exact ⟨_, hle3' (.refl _), _, .refl _, h⟩
            · rintro h ⟨rfl, rfl, q3, q4, q5, q6, q7, q8⟩
              simp only at h
              by_cases fe : ts.length ≤ i2
              · rw [if_pos fe] at h
                have fe' : (ts.length : Int) ≤ (i2 : Int) := by omega
                simp (implicitDefEqProofs := false) only [sB, simprocAttr, n4, n4', n7, n7', n74, n47, n8, n8', n87, n78, n84, n48, hp8', hp7', hp4, hlk, tks_get, Option.map_some, tkAV, tks_len, parO, resLs, fe']
                exact ⟨_, hle3' (.refl _), _, .refl _, h⟩
              · rw [if_neg fe] at h
                have fe' : ¬ (ts.length : Int) ≤ (i2 : Int) := by omega
                have rf := w_i64 ((i2 : Int) + 1) (by omega) (by omega)
                simp (implicitDefEqProofs := false) only [sB, simprocAttr, n4, n4', n7, n7', n74, n47, n8, n8', n87, n78, n84, n48, hp8', hp7', hp4, hlk, tks_get, Option.map_some, tkAV, tks_len, parO, resLs, fe', rf]
                refine ⟨_, hle3' (.refl _), _, .refl _, ?_⟩
                simpa [resNd, Nd.cs, Nd.avs, tokc, parO, setH] using h
          · rw [if_neg (by simp [k7])] at h
            by_cases fe : ts.length ≤ i1
            · rw [if_pos fe] at h
              have fe' : (ts.length : Int) ≤ (i1 : Int) := by omega
              simp (implicitDefEqProofs := false) only [sB, simprocAttr, n4, n4', n7, n7', n74, n47, n8, n8', n87, n78, n84, n48, hp8', hp7', hp4, hlk, tks_get, Option.map_some, tkAV, tks_len, parO, resLs, c1', j0, ht1, k7, fe']
              exact ⟨_, hle3' (.refl _), _, .refl _, h⟩
            · rw [if_neg fe] at h
              have fe' : ¬ (ts.length : Int) ≤ (i1 : Int) := by omega
              have rf := w_i64 ((i1 : Int) + 1) (by omega) (by omega)
              simp (implicitDefEqProofs := false) only [sB, simprocAttr, n4, n4', n7, n7', n74, n47, n8, n8', n87, n78, n84, n48, hp8', hp7', hp4, hlk, tks_get, Option.map_some, tkAV, tks_len, parO, resLs, c1', j0, ht1, k7, fe', rf]
              refine ⟨_, hle3' (.refl _), _, .refl _, ?_⟩
              simpa [resNd, Nd.cs, Nd.avs, tokc, parO, setH] using h
        · have ht1 : ts[i1]? = none := List.getElem?_eq_none (by omega)
          rw [ht1, Option.map_none, if_neg (by simp)] at h
          have c1' : ¬ (i1 : Int) < (ts.length : Int) := by omega
          by_cases fe : ts.length ≤ i1
          · rw [if_pos fe] at h
            have fe' : (ts.length : Int) ≤ (i1 : Int) := by omega
            simp (implicitDefEqProofs := false) only [sB, simprocAttr, n4, n4', n7, n7', n74, n47, n8, n8', n87, n78, n84, n48, hp8', hp7', hp4, hlk, tks_get, Option.map_some, tkAV, tks_len, parO, resLs, c1', fe']
            exact ⟨_, hle3' (.refl _), _, .refl _, h⟩
          · rw [if_neg fe] at h
            have fe' : ¬ (ts.length : Int) ≤ (i1 : Int) := by omega
            have rf := w_i64 ((i1 : Int) + 1) (by omega) (by omega)
            simp (implicitDefEqProofs := false) only [sB, simprocAttr, n4, n4', n7, n7', n74, n47, n8, n8', n87, n78, n84, n48, hp8', hp7', hp4, hlk, tks_get, Option.map_some, tkAV, tks_len, parO, resLs, c1', fe', rf]
            refine ⟨_, hle3' (.refl _), _, .refl _, ?_⟩
            simpa [resNd, Nd.cs, Nd.avs, tokc, parO, setH] using h
  · rw [if_pos (by simpa using bk)] at h
    have k6 : ¬ k = 6 := fun e => bk (by rw [e]; rfl)
    simp (implicitDefEqProofs := false) only [sB, simprocAttr, n4, n4', n7, n7', n74, n47, hp7', hp4, hlk, tks_get, ht, Option.map_some, i0', tkAV, k6, y_c68, bk, nn', r1, r2]
    refine i_new fun p8 hp8 => ?_
    have hp8' := hp8
    simp (implicitDefEqProofs := false) only [sB, simprocAttr, Heap.keys] at hp8'
    have n87 : ¬ p8 = p7 := hp8'.1
    have n78 : ¬ p7 = p8 := fun e => n87 e.symm
    have n84 : ¬ p8 = p4 := hp8'.2.1
    have n48 : ¬ p4 = p8 := fun e => n84 e.symm
    have n8 : ¬ pp = p8 := key_ne hl hp8'.2.2
    have n8' : ¬ p8 = pp := fun e => n8 e.symm
    simp (implicitDefEqProofs := false) only [sB, simprocAttr, n8, n8', n87, n78, n84, n48, n4, n4', n7, n7', n74, n47, hp7', hp4, hp8', hlk, tks_get, ht, Option.map_some, i0', tkAV, k6, y_c68, bk, nn', r1, r2]
    refine ⟨_, hle3' (.refl _), _, .refl _, ?_⟩
    simpa [resNd, Nd.cs, Nd.avs, tokc, parO, setH] using h
end Go.AL.Fun
