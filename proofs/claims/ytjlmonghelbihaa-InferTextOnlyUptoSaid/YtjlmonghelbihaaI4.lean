/- The program's analysis walked: a list. Printed by gi4.py. -/
import Derived.Test.YtjlmonghelbihaaI3
set_option linter.unusedSimpArgs false
set_option linter.unusedVariables false
set_option maxRecDepth 100000
set_option maxHeartbeats 4000000
namespace Go.AL.Fun
open Go Go.AL

theorem hle_perm {X X' H : Heap} (h : Hle X H) (hp : X.Perm X') : Hle X' H := by
  obtain ⟨L, h1, h2⟩ := h
  exact ⟨L, h1, h2.trans hp⟩
theorem anH_in {pp q : Nat} {a : An} {tk : Tok} {B C : Heap} {o : AObj} : ((q, o) :: anH pp a tk (B ++ C)).Perm (anH pp a tk (B ++ (q, o) :: C)) := by
  have := List.perm_middle (l₁ := (pp, anO a tk) :: (tokH tk ++ B)) (l₂ := C) (a := (q, o))
  simpa [anH] using this.symm
theorem cnts_drop (l : List Nd) (i : Nat) : Nd.cnts (l.drop i) ≤ Nd.cnts l := by
  have := cnts_append (l.take i) (l.drop i)
  rw [List.take_append_drop] at this; omega
theorem les_get {L : Nat} : ∀ {l : List Nd} {x : Nd}, Nd.les L l → x ∈ l → x.le L
  | [], x, _, h => by cases h
  | y :: l, x, hl, h => by
    rcases List.mem_cons.1 h with rfl | h
    · exact hl.1
    · exact les_get hl.2 h
@[reducible] def t35 (N : Nat) (P : Program) : Th := ⟨fun _ => none, P, [(55, c55 N)]⟩
theorem c35_of (P : Program) {N : Nat} {xs : List AV} {H : Heap} {K : Kv} (h : c35 N xs H K) : @xF (t35 N P) f35 xs H ⟨fun v H' => ∃ H0, Hle H0 H' ∧ K.ap v H0⟩ := by
  obtain ⟨pp, a, tk, R, ⟨sc, sn, sa, sp⟩, l, tok, rfl, hp, hn, hg, hN, hb, hi, hle, h⟩ := h
  have hl := anH_look hp hn
  simp (implicitDefEqProofs := false) only [sB, simprocAttr, f35, stAV]
  refine i_new fun p4 hp4 => ?_
  have hp4' := hp4
  simp (implicitDefEqProofs := false) only [sB, simprocAttr, Heap.keys] at hp4'
  have np4 : ¬ pp = p4 := key_ne hl hp4'
  have np4' : ¬ p4 = pp := fun e => np4 e.symm
  simp (implicitDefEqProofs := false) only [sB, simprocAttr]
  refine i_new fun p6 hp6 => ?_
  have hp6' := hp6
  simp (implicitDefEqProofs := false) only [sB, simprocAttr, Heap.keys] at hp6'
  have np6p4 : ¬ p6 = p4 := hp6'.1
  have np4p6 : ¬ p4 = p6 := fun e => np6p4 e.symm
  have np6 : ¬ pp = p6 := key_ne hl hp6'.2
  have np6' : ¬ p6 = pp := fun e => np6 e.symm
  have wl := cnts_len l
  generalize hr : listA ⟨sc, sn, sa, sp⟩ l a = r at h
  simp (implicitDefEqProofs := false) only [sB, simprocAttr, np4, np4', np6, np6', np6p4, np4p6, nds_len]
  refine i_loopJ (fun σ H1 => ∃ (i : Nat) (s' : St) (a' : An) (tk' : Tok), H1.Perm (anH pp a' tk' ((p6, .cells [.int .i64 0, .str [], .str [], .str []]) :: (p4, .cells [.int .i64 s'.ctx, .str s'.name, .str s'.attr, .str s'.part]) :: R)) ∧ H1.keys.Nodup ∧ GC 1 (intsAV a'.escs) tk' ∧
      i ≤ l.length ∧ Inv s' ∧ a'.escs.length + Nd.cnts (l.drop i) ≤ 1099511627776 ∧ listA s' (l.drop i) a' = r ∧ σ = [(0, .ptr pp 0), (4, .ptr p4 0), (6, .ptr p6 0), (9, .sl (Nd.avs l) tok), (10, .int .i64 l.length), (11, .int .i64 i)])
    (fun σ _ => match σ.get 11 with | .int _ n => l.length - n.toNat | _ => 0)
    (fun e σ H1 => e = .exit 0 ∧ ∃ (tk' : Tok) (D : Heap), H1.Perm (anH pp r.2 tk' (D ++ (p6, .cells [.int .i64 0, .str [], .str [], .str []]) :: (p4, .cells [.int .i64 r.1.ctx, .str r.1.name, .str r.1.attr, .str r.1.part]) :: R)) ∧ H1.keys.Nodup ∧ GC 1 (intsAV r.2.escs) tk' ∧ σ.get 4 = .ptr p4 0 ∧ σ.get 6 = .ptr p6 0)
    ⟨_, .refl _, 0, ⟨sc, sn, sa, sp⟩, a, tk, anH_push [(p6, .cells [.int .i64 0, .str [], .str [], .str []]), (p4, .cells [.int .i64 sc, .str sn, .str sa, .str sp])] hp, List.nodup_cons.2 ⟨hp6, List.nodup_cons.2 ⟨hp4, hn⟩⟩, hg, Nat.zero_le _, hi, hb, hr, rfl⟩ ?_ ?_
  · rintro e σ H1 ⟨rfl, tk', D, g1, g2, g3, q4, q6⟩
    have K4 : lookH p4 H1 = some (.cells [.int .i64 r.1.ctx, .str r.1.name, .str r.1.attr, .str r.1.part]) := look_at g1 g2 (by simp [anH])
    have K6 : lookH p6 H1 = some (.cells [.int .i64 0, .str [], .str [], .str []]) := look_at g1 g2 (by simp [anH])
    simp (implicitDefEqProofs := false) only [sB, simprocAttr, np4, np4', np6, np6', np6p4, np4p6, q4, q6, K4, K6]
    have hp4' := anH_setR (B := D) (C := (p4, .cells [.int .i64 r.1.ctx, .str r.1.name, .str r.1.attr, .str r.1.part]) :: R) (.cells [.int .i64 r.1.ctx, .str r.1.name, .str r.1.attr, .str r.1.part]) g1 g2
    have hs : (anH pp r.2 tk' R).Sublist (anH pp r.2 tk' (D ++ (p4, .cells [.int .i64 r.1.ctx, .str r.1.name, .str r.1.attr, .str r.1.part]) :: R)) := .cons_cons _ (List.Sublist.append (.refl _) ((List.sublist_cons_self _ R).trans (List.sublist_append_right _ _)))
    exact ⟨anH pp r.2 tk' R, hle_sub hp4' (.cons _ hs), h tk' _ g3 (.refl _) (nodup_sub hp4' (.cons _ hs) (set_nodup _ g2))⟩
  · rintro Q hQ σ H1 ⟨i, ⟨c1, m1, u1, q1⟩, a', tk', g1, g2, g3, hil, hi', hb', hr', rfl⟩
    simp only at g1
    have K4 : lookH p4 H1 = some (.cells [.int .i64 c1, .str m1, .str u1, .str q1]) := lkR g1 g2 (by simp only [lookH, np4, np4', np6, np6', np6p4, np4p6, if_true, if_false])
    have K6 : lookH p6 H1 = some (.cells [.int .i64 0, .str [], .str [], .str []]) := lkR g1 g2 (by simp only [lookH, np4, np4', np6, np6', np6p4, np4p6, if_true, if_false])
    have hpp := anH_look g1 g2
    have KP : lookH pp H1 = some (.cells [.sl (intsAV a'.escs) tk', .int .i64 a'.at_, .int .i64 a'.err]) := hpp
    simp (implicitDefEqProofs := false) only [sB, simprocAttr]
    refine i_if (fun c => ?_) (fun c => ?_)
    · have c' : i < l.length := by simpa using c
      have hx : l[i]? = some l[i] := List.getElem?_eq_getElem c'
      have hmem : l[i] ∈ l := List.getElem_mem c'
      have hd : l.drop i = l[i] :: l.drop (i + 1) := List.drop_eq_getElem_cons c'
      have hxle := les_get hle hmem
      have r9 := w_i64 ((i : Int) + 1) (by omega) (by omega)
      have i0 : (0 : Int) ≤ (i : Int) := by omega
      have hcd := cnts_drop l i
      rw [hd] at hr' hb' hcd
      generalize l[i] = x at hx hr' hb' hxle hcd
      simp only [Nd.cnts] at hb' hcd
      have hlen := nodeA_len ⟨c1, m1, u1, q1⟩ x a'
      have hinv := nodeA_inv ⟨c1, m1, u1, q1⟩ x a' hi'
      rw [listA] at hr'
      have hxd := x
      obtain ⟨k, p, t, q, hph, he, b, el⟩ := x
      simp (implicitDefEqProofs := false) only [sB, simprocAttr, np4, np4', np6, np6', np6p4, np4p6, i0, nds_get, hx, Option.map_some, Nd.cs]
      refine i_new fun p8 hp8 => ?_
      have n8 : ¬ pp = p8 := key_ne hpp hp8
      have n8' : ¬ p8 = pp := fun e => n8 e.symm
      have n84 : ¬ p4 = p8 := key_ne K4 hp8
      have n84' : ¬ p8 = p4 := fun e => n84 e.symm
      have n86 : ¬ p6 = p8 := key_ne K6 hp8
      have n86' : ¬ p8 = p6 := fun e => n86 e.symm
      by_cases e0 : a'.err = 0
      · rw [if_neg (by simp [e0])] at hr'
        simp (implicitDefEqProofs := false) only [sB, simprocAttr, np4, np4', np6, np6', np6p4, np4p6, n8, n8', n84, n84', n86, n86', K4, K6, KP, e0]
        refine ⟨pp, a', tk', _, ⟨c1, m1, u1, q1⟩, .mk k p t q hph he b el, rfl, anH_push [(p8, .cells [.int .i64 k, .int .i64 p, .str t, .str q, .bool hph, .bool he, .sl (Nd.avs b) (tokc b), .sl (Nd.avs el) (tokc el)])] g1, List.nodup_cons.2 ⟨hp8, g2⟩, g3, by omega, by omega, hi', hxle, fun tk2 H2 o1 o2 o3 => ?_⟩
        generalize nodeA ⟨c1, m1, u1, q1⟩ (.mk k p t q hph he b el) a' = r2 at hr' o1 o2 hlen hinv ⊢
        obtain ⟨⟨c2, m2, u2, q2⟩, a2⟩ := r2
        simp only at hr' o1 o2 hlen hinv
        have M4 : lookH p4 H2 = some (.cells [.int .i64 c1, .str m1, .str u1, .str q1]) := lkR o2 o3 (by simp only [List.cons_append, List.nil_append, lookH, n84, np4, np4', np6, np6', np6p4, np4p6, if_true, if_false])
        simp (implicitDefEqProofs := false) only [sB, simprocAttr, stAV, np4, np4', np6, np6', np6p4, np4p6, M4, r9]
        have hp4' := anH_setR (B := [(p8, .cells [.int .i64 k, .int .i64 p, .str t, .str q, .bool hph, .bool he, .sl (Nd.avs b) (tokc b), .sl (Nd.avs el) (tokc el)]), (p6, .cells [.int .i64 0, .str [], .str [], .str []])]) (C := R) (.cells [.int .i64 c2, .str m2, .str u2, .str q2]) o2 o3
        have hs : ((p4, AObj.cells [.int .i64 c2, .str m2, .str u2, .str q2]) :: anH pp a2 tk2 ([(p6, AObj.cells [.int .i64 0, .str [], .str [], .str []])] ++ R)).Sublist ((p4, AObj.cells [.int .i64 c2, .str m2, .str u2, .str q2]) :: anH pp a2 tk2 ([(p8, .cells [.int .i64 k, .int .i64 p, .str t, .str q, .bool hph, .bool he, .sl (Nd.avs b) (tokc b), .sl (Nd.avs el) (tokc el)]), (p6, .cells [.int .i64 0, .str [], .str [], .str []])] ++ R)) := .cons_cons _ (anH_pop (A := [_]))
        refine ⟨_, hle_perm (hle_sub hp4' hs) anH_in, ⟨i + 1, ⟨c2, m2, u2, q2⟩, a2, tk2, .refl _, nodup_perm anH_in (nodup_sub hp4' hs (set_nodup _ o3)), o1, by omega, hinv, by omega, hr', by simp⟩, by omega⟩
      · rw [if_pos e0] at hr'
        subst hr'
        simp (implicitDefEqProofs := false) only [sB, simprocAttr, np4, np4', np6, np6', np6p4, np4p6, n8, n8', n84, n84', n86, n86', K4, K6, KP, e0]
        exact hQ _ _ _ ⟨rfl, tk', [(p8, .cells [.int .i64 k, .int .i64 p, .str t, .str q, .bool hph, .bool he, .sl (Nd.avs b) (tokc b), .sl (Nd.avs el) (tokc el)])], anH_push [(p8, .cells [.int .i64 k, .int .i64 p, .str t, .str q, .bool hph, .bool he, .sl (Nd.avs b) (tokc b), .sl (Nd.avs el) (tokc el)])] g1, List.nodup_cons.2 ⟨hp8, g2⟩, g3, rfl, rfl⟩
    · have c' : i = l.length := by have : ¬ (i : Int) < l.length := by simpa using c
                                   omega
      subst c'
      rw [List.drop_length, listA] at hr'
      subst hr'
      simp (implicitDefEqProofs := false) only [sB, simprocAttr]
      exact hQ _ _ _ ⟨rfl, tk', [], g1, g2, g3, rfl, rfl⟩
end Go.AL.Fun
