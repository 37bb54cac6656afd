/- The program's analysis walked: After, Infer. -/
import Derived.Test.YtjlmonghelbihaaI4
set_option linter.unusedSimpArgs false
set_option linter.unusedVariables false
set_option maxRecDepth 100000
set_option maxHeartbeats 4000000
namespace Go.AL.Fun
open Go Go.AL

theorem set_drop {X Y H : Heap} {id : Nat} {o : AObj} (hp : H.Perm Y) (hs : X.Sublist Y) (hn : H.keys.Nodup) (hid : id ∉ X.keys) : Hle X (setH id o H) := by
  have s2 := setH_perm (id := id) (o := o) hp hn
  refine hle_sub s2 ?_
  unfold setH
  rw [renH_map (nodup_perm hp hn)]
  have he : X.map (fun p => if id = p.1 then (id, o) else p) = X := by
    conv => rhs; rw [← List.map_id' X]
    exact List.map_congr_left fun p hp => by
      rw [if_neg]
      intro e
      exact hid (List.mem_map.2 ⟨p, hp, e.symm⟩)
  have := hs.map (fun p => if id = p.1 then (id, o) else p)
  rw [he] at this
  exact this
def Nd.at_ : Nd → Int | .mk _ p _ _ _ _ _ _ => p
theorem cs_at (n : Nd) : n.cs[1]? = some (.int .i64 n.at_) := by obtain ⟨k, p, t, q, hph, he, b, el⟩ := n; rfl
def an0 : An := ⟨[], 0, 0⟩
def aftP (s : St) (l : List Nd) : St × Int × Int := if (listA s l an0).2.err ≠ 0 then (St.zero, (listA s l an0).2.at_, (listA s l an0).2.err) else ((listA s l an0).1, 0, 0)
def endA (l : List Nd) : An := match l.getLast? with
  | none => (listA St.zero l an0).2
  | some n => if (listA St.zero l an0).1 ≠ St.zero then (listA St.zero l an0).2.fail n.at_ 16 else (listA St.zero l an0).2
def infP (l : List Nd) : List Int × Int × Int := if (endA l).err ≠ 0 then ([], (endA l).at_, (endA l).err) else ((endA l).escs, 0, 0)
def c23 (xs : List AV) (H : Heap) (K : Kv) : Prop := ∃ (s : St) (l : List Nd) (tok : Tok), xs = [stAV s, .sl (Nd.avs l) tok] ∧ H.keys.Nodup ∧ Nd.cnts l ≤ 1099511627776 ∧ Inv s ∧ Nd.les 1099511627776 l ∧ K.ap (.tup [stAV (aftP s l).1, .int .i64 (aftP s l).2.1, .int .i64 (aftP s l).2.2]) H
@[reducible] def t23 (P : Program) : Th := ⟨fun _ => none, P, [(35, c35 1099511627776), (36, c36)]⟩
theorem c23_of (P : Program) {xs : List AV} {H : Heap} {K : Kv} (h : c23 xs H K) : @xF (t23 P) f23 xs H ⟨fun v H' => ∃ H0, Hle H0 H' ∧ K.ap v H0⟩ := by
  obtain ⟨⟨sc, sn, sa, sp⟩, l, tok, rfl, hn, hc, hi, hle, h⟩ := h
  unfold aftP at h
  simp (implicitDefEqProofs := false) only [sB, simprocAttr, f23, stAV]
  refine i_new fun p2 hp2 => ?_
  simp (implicitDefEqProofs := false) only [sB, simprocAttr]
  refine i_new fun p4 hp4 => ?_
  have hp4' := hp4
  simp (implicitDefEqProofs := false) only [sB, simprocAttr, Heap.keys] at hp4'
  have n42 : ¬ p4 = p2 := hp4'.1
  have n24 : ¬ p2 = p4 := fun e => n42 e.symm
  simp (implicitDefEqProofs := false) only [sB, simprocAttr]
  refine i_new fun p7 hp7 => ?_
  have hp7' := hp7
  simp (implicitDefEqProofs := false) only [sB, simprocAttr, Heap.keys] at hp7'
  have n74 : ¬ p7 = p4 := hp7'.1
  have n47 : ¬ p4 = p7 := fun e => n74 e.symm
  have n72 : ¬ p7 = p2 := hp7'.2.1
  have n27 : ¬ p2 = p7 := fun e => n72 e.symm
  simp (implicitDefEqProofs := false) only [sB, simprocAttr, n42, n24, n74, n47, n72, n27]
  refine ⟨p7, an0, .nil, _, ⟨sc, sn, sa, sp⟩, l, tok, rfl, .refl _, List.nodup_cons.2 ⟨hp7, List.nodup_cons.2 ⟨hp4, List.nodup_cons.2 ⟨hp2, hn⟩⟩⟩, rfl, hc, by simp [an0]; omega, hi, hle, fun tk1 H1 g1 g2 g3 => ?_⟩
  generalize listA ⟨sc, sn, sa, sp⟩ l an0 = r at h g1 g2 ⊢
  obtain ⟨⟨c1, m1, u1, q1⟩, ⟨es, ap, ae⟩⟩ := r
  simp only at h g1 g2
  have K7 : lookH p7 H1 = some (.cells [.sl (intsAV es) tk1, .int .i64 ap, .int .i64 ae]) := anH_look g2 g3
  have K4 : lookH p4 H1 = some (.cells [.int .i64 0, .str [], .str [], .str []]) := look_at g2 g3 (by simp [anH])
  have K2 : lookH p2 H1 = some (.cells [.int .i64 sc, .str sn, .str sa, .str sp]) := look_at g2 g3 (by simp [anH])
  have fin : ∀ o2 o4, Hle H (setH p4 o4 (setH p2 o2 H1)) := fun o2 o4 => by
    have s1 := anH_setR (B := [(p4, .cells [.int .i64 0, .str [], .str [], .str []])]) (C := H) o2 g2 g3
    exact set_drop s1 (.cons _ (.cons _ ((List.sublist_append_right _ H).trans (List.sublist_append_right _ _)))) (set_nodup _ g3) hp4'.2
  by_cases e0 : ae = 0
  · simp only [e0, ne_eq, not_true_eq_false, if_false] at h
    simp (implicitDefEqProofs := false) only [sB, simprocAttr, stAV, n42, n24, n74, n47, n72, n27, K7, K4, K2, e0]
    exact ⟨H, fin _ _, h⟩
  · simp only [e0, ne_eq, not_false_eq_true, if_true] at h
    simp (implicitDefEqProofs := false) only [sB, simprocAttr, stAV, n42, n24, n74, n47, n72, n27, K7, K4, K2, e0]
    exact ⟨H, fin _ _, h⟩
def c19 (xs : List AV) (H : Heap) (K : Kv) : Prop := ∃ (l : List Nd) (tok : Tok), xs = [.sl (Nd.avs l) tok] ∧ H.keys.Nodup ∧ Nd.cnts l ≤ 1099511627776 ∧ Nd.les 1099511627776 l ∧ K.ap (.tup [.sl (intsAV (infP l).1) (tokc (infP l).1), .int .i64 (infP l).2.1, .int .i64 (infP l).2.2]) H
theorem c19_of (P : Program) {xs : List AV} {H : Heap} {K : Kv} (h : c19 xs H K) : @xF (t23 P) f19 xs H ⟨fun v H' => ∃ H0, Hle H0 H' ∧ ∃ v', AVle v v' ∧ K.ap v' H0⟩ := by
  obtain ⟨l, tok, rfl, hn, hc, hle, h⟩ := h
  have wl := cnts_len l
  unfold infP endA at h
  simp (implicitDefEqProofs := false) only [sB, simprocAttr, f19]
  refine i_new fun p5 hp5 => ?_
  simp (implicitDefEqProofs := false) only [sB, simprocAttr]
  refine ⟨p5, an0, .nil, H, St.zero, l, tok, rfl, .refl _, List.nodup_cons.2 ⟨hp5, hn⟩, rfl, hc, by simp [an0]; omega, invZ, hle, fun tk1 H1 g1 g2 g3 => ?_⟩
  generalize listA St.zero l an0 = r at h g1 g2 ⊢
  obtain ⟨⟨c1, m1, u1, q1⟩, a1⟩ := r
  simp only at h g1 g2
  have K5 := anH_look g2 g3
  simp (implicitDefEqProofs := false) only [sB, simprocAttr, stAV]
  refine i_new fun p6 hp6 => ?_
  have n56 : ¬ p5 = p6 := key_ne K5 hp6
  have n65 : ¬ p6 = p5 := fun e => n56 e.symm
  rcases List.eq_nil_or_concat l with rfl | ⟨l', x, hlx⟩
  · simp only [List.getLast?_nil] at h
    obtain ⟨es, ap, ae⟩ := a1
    have K5' : lookH p5 H1 = some (.cells [.sl (intsAV es) tk1, .int .i64 ap, .int .i64 ae]) := K5
    simp only at h g1
    by_cases e0 : ae = 0
    · simp only [e0, ne_eq, not_true_eq_false, if_false] at h
      simp (implicitDefEqProofs := false) only [sB, simprocAttr, Nd.avs, stAV, n56, n65, K5', e0]
      refine ⟨H, (Hle.of_sub (List.sublist_append_right (tokH tk1) H)).trans ?_, _, AVle.tup (.cons (AVle.tok g1) (.refl _)), ?_⟩
      · exact (hle_sub g2 (List.sublist_cons_self _ _)).trans (.tail _ _)
      · rw [ints_tok]; exact h
    · simp only [e0, ne_eq, not_false_eq_true, if_true] at h
      simp (implicitDefEqProofs := false) only [sB, simprocAttr, Nd.avs, stAV, n56, n65, K5', e0]
      refine ⟨H, (Hle.of_sub (List.sublist_append_right (tokH tk1) H)).trans ?_, _, .refl _, h⟩
      exact (hle_sub g2 (List.sublist_cons_self _ _)).trans (.tail _ _)
  · rw [List.concat_eq_append] at hlx
    subst hlx
    have hx : (l' ++ [x])[l'.length]? = some x := by simp
    have hgl : (l' ++ [x]).getLast? = some x := by simp
    rw [hgl] at h
    have wl1 : (l' ++ [x]).length = l'.length + 1 := by simp
    have gl : (0 : Int) < ((l'.length + 1 : Nat) : Int) := by omega
    have sb : ((l'.length + 1 : Nat) : Int) - 1 = (l'.length : Int) := by omega
    have rs := w_i64 (l'.length : Int) (by omega) (by omega)
    have i0 : (0 : Int) ≤ (l'.length : Int) := by omega
    obtain ⟨k, p, t, q, hph, he, b, el⟩ := x
    simp (implicitDefEqProofs := false) only [sB, simprocAttr, stAV, nds_len, wl1, gl, sb, rs, i0, nds_get, hx, Option.map_some, Nd.cs]
    refine ⟨p5, a1, tk1, .mk k p t q hph he b el, p, 16, ⟨c1, m1, u1, q1⟩, St.zero, rfl, rfl, by simp only [lookH, n56, if_false]; exact K5, ?_⟩
    generalize ha3 : (if St.mk c1 m1 u1 q1 ≠ St.zero then a1.fail p 16 else a1) = a3
    have h : K.ap (.tup [.sl (intsAV (if a3.err ≠ 0 then ([], a3.at_, a3.err) else (a3.escs, 0, 0) : List Int × Int × Int).1) (tokc (if a3.err ≠ 0 then ([], a3.at_, a3.err) else (a3.escs, 0, 0) : List Int × Int × Int).1), .int .i64 (if a3.err ≠ 0 then ([], a3.at_, a3.err) else (a3.escs, 0, 0) : List Int × Int × Int).2.1, .int .i64 (if a3.err ≠ 0 then ([], a3.at_, a3.err) else (a3.escs, 0, 0) : List Int × Int × Int).2.2]) H := by
      rw [← ha3]; exact h
    have he3 : a3.escs = a1.escs := by rw [← ha3]; split <;> simp only [fail_escs]
    obtain ⟨es, ap, ae⟩ := a3
    simp only at he3
    subst he3
    have g2' := anH_set (a' := ⟨a1.escs, ap, ae⟩) (tk' := tk1) g2 g3
    have fin : ∀ x : Nat × AObj, Hle H (x :: setH p5 (anO ⟨a1.escs, ap, ae⟩ tk1) H1) := fun x => ((Hle.of_sub (List.sublist_append_right (tokH tk1) H)).trans (hle_sub g2' (List.sublist_cons_self _ _))).trans (.tail _ _)
    have K5' : lookH p5 H1 = some (anO a1 tk1) := K5
    by_cases e0 : ae = 0
    · subst e0
      simp only [ne_eq, not_true_eq_false, if_false] at h
      simp (implicitDefEqProofs := false) only [sB, simprocAttr, stAV, n56, n65, K5', anO]
      refine ⟨H, fin _, _, AVle.tup (.cons (AVle.tok g1) (.refl _)), ?_⟩
      rw [ints_tok]; exact h
    · simp only [e0, ne_eq, not_false_eq_true, if_true] at h
      simp (implicitDefEqProofs := false) only [sB, simprocAttr, stAV, n56, n65, K5', anO, e0]
      exact ⟨H, fin _, _, .refl _, h⟩
end Go.AL.Fun
