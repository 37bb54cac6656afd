/- The reference's Infer walked; lists of numbers compared; the example; the plain laws. -/
import Derived.Test.YtjlmonghelbihaaI7
import Derived.Test.YtjlmonghelbihaaH16
import Derived.KernelRfl
set_option linter.unusedSimpArgs false
set_option linter.unusedVariables false
set_option maxRecDepth 100000
set_option maxHeartbeats 4000000
namespace Go.AL.Fun
open Go Go.AL

def infF (l : List Nd) : List Int × Int × Int :=
  if (listF St.zero l).err ≠ 0 then ([], (listF St.zero l).at_, (listF St.zero l).err)
  else if (listF St.zero l).st ≠ St.zero then ([], (match l.getLast? with | some n => n.at_ | none => 0), 16) else ((listF St.zero l).escs, 0, 0)
theorem endA_bad {l : List Nd} (h3 : (listA St.zero l an0).2.err ≠ 0) : endA l = (listA St.zero l an0).2 := by
  unfold endA
  cases l.getLast? with
  | none => rfl
  | some n => simp only [An.fail_err h3, ite_self]
theorem endA_escs (l : List Nd) : (endA l).escs = (listA St.zero l an0).2.escs := by
  unfold endA
  cases l.getLast? with
  | none => rfl
  | some n => simp only; split <;> simp only [fail_escs]
theorem inf_eq (l : List Nd) : infP l = infF l := by
  have h := listA_F St.zero l an0 rfl
  unfold infP infF
  unfold Agr at h
  by_cases e : (listF St.zero l).err = 0
  · have h1 := h.1 e
    unfold endA
    rw [h1]
    simp only [e, ne_eq, not_true_eq_false, if_false]
    rcases List.eq_nil_or_concat l with rfl | ⟨l', x, hlx⟩
    · rw [listF]; simp [an0]
    · rw [List.concat_eq_append] at hlx
      subst hlx
      have hgl : (l' ++ [x]).getLast? = some x := by simp
      rw [hgl]
      by_cases e2 : (listF St.zero (l' ++ [x])).st = St.zero
      · simp [e2, an0]
      · simp [e2, an0, An.fail]
  · obtain ⟨h1, h2⟩ := h.2 e
    have h3 : (listA St.zero l an0).2.err ≠ 0 := by rw [h1]; exact e
    rw [endA_bad h3, if_pos h3, if_pos e, h1, h2]
def c20 (xs : List AV) (H : Heap) (K : Kv) : Prop := ∃ (l : List Nd) (tok : Tok), xs = [.sl (Nd.avs l) tok] ∧ H.keys.Nodup ∧ Nd.cnts l ≤ 1099511627776 ∧ Nd.les 1099511627776 l ∧ ∀ tok, NTk (intsAV (infF l).1) tok → K.ap (.tup [.sl (intsAV (infF l).1) tok, .int .i64 (infF l).2.1, .int .i64 (infF l).2.2]) H
theorem c20_of (P : Program) {xs : List AV} {H : Heap} {K : Kv} (h : c20 xs H K) : @xF ⟨fun _ => none, P, [(24, c24 1099511627776)]⟩ f20 xs H ⟨fun v H' => ∃ H0, Hle H0 H' ∧ K.ap v H0⟩ := by
  obtain ⟨l, tok, rfl, hn, hc, hle, h⟩ := h
  have wl := cnts_len l
  unfold infF at h
  simp (implicitDefEqProofs := false) only [sB, simprocAttr, f20]
  refine ⟨St.zero, l, tok, rfl, hn, hc, hc, invZ, hle, fun tok1 ht1 => ?_⟩
  have hz : l = [] → (listF St.zero l).st = St.zero ∧ (listF St.zero l).err = 0 := by rintro rfl; rw [listF]; exact ⟨rfl, rfl⟩
  generalize listF St.zero l = r at h ht1 hz ⊢
  obtain ⟨⟨c1, m1, u1, q1⟩, e1, a1, r1⟩ := r
  simp only at h ht1 hz
  simp (implicitDefEqProofs := false) only [sB, simprocAttr, rsCs]
  refine i_new fun p5 hp5 => ?_
  by_cases r0 : r1 = 0
  · simp only [r0, ne_eq, not_true_eq_false, if_false] at h
    by_cases e0 : St.mk c1 m1 u1 q1 = St.zero
    · simp only [e0, not_true_eq_false, if_false] at h
      simp (implicitDefEqProofs := false) only [sB, simprocAttr, rsCs, r0, x_eqst, (show (St.mk c1 m1 u1 q1 = ⟨0, [], [], []⟩) = True from eq_true e0)]
      exact ⟨H, .tail _ _, h tok1 ht1⟩
    · simp only [e0, not_false_eq_true, if_true] at h
      rcases List.eq_nil_or_concat l with rfl | ⟨l', x, hlx⟩
      · exact absurd (hz rfl).1 e0
      · rw [List.concat_eq_append] at hlx
        subst hlx
        have hgl : (l' ++ [x]).getLast? = some x := by simp
        rw [hgl] at h
        have hx : (l' ++ [x])[l'.length]? = some x := by simp
        have wl1 : (l' ++ [x]).length = l'.length + 1 := by simp
        have sb : ((l'.length + 1 : Nat) : Int) - 1 = (l'.length : Int) := by omega
        have rs := w_i64 (l'.length : Int) (by omega) (by omega)
        have i0 : (0 : Int) ≤ (l'.length : Int) := by omega
        obtain ⟨k, p, t, q, hph, he, b, el⟩ := x
        simp (implicitDefEqProofs := false) only [sB, simprocAttr, rsCs, r0, x_eqst, (show (St.mk c1 m1 u1 q1 = ⟨0, [], [], []⟩) = False from eq_false e0), nds_len, wl1, sb, rs, i0, nds_get, hx, Option.map_some, Nd.cs]
        exact ⟨H, .tail _ _, h .nil (.inr ⟨rfl, rfl⟩)⟩
  · simp only [r0, ne_eq, not_false_eq_true, if_true] at h
    simp (implicitDefEqProofs := false) only [sB, simprocAttr, rsCs, r0]
    exact ⟨H, .tail _ _, h .nil (.inr ⟨rfl, rfl⟩)⟩
def c22 (xs : List AV) (H : Heap) (K : Kv) : Prop := ∃ (l : List Int) (t : Tok) (m : List Int) (u : Tok), xs = [.sl (intsAV l) t, .sl (intsAV m) u] ∧ l.length ≤ 1099511627776 ∧ K.ap (.bool (decide (l = m))) H
theorem x_c22 {l m : List Int} {t u : Tok} (h1 : l.length ≤ 1099511627776) (H : Heap) (K : Kv) (h : K.ap (.bool (decide (l = m))) H) : c22 [.sl (intsAV l) t, .sl (intsAV m) u] H K := ⟨_, _, _, _, rfl, h1, h⟩
theorem c22_of (P : Program) {xs : List AV} {H : Heap} {K : Kv} (h : c22 xs H K) : @xF (t0 P) f22 xs H ⟨fun v H' => ∃ H0, Hle H0 H' ∧ K.ap v H0⟩ := by
  obtain ⟨l, t, m, u, rfl, hl, h⟩ := h
  by_cases ln : (l.length : Int) = m.length
  · simp (implicitDefEqProofs := false) only [sB, simprocAttr, f22, ints_len, ln]
    refine i_loopJ (fun σ H1 => ∃ (i : Nat), H1 = H ∧ i ≤ l.length ∧ l.take i = m.take i ∧ σ = [(0, .sl (intsAV l) t), (1, .sl (intsAV m) u), (12, .int .i64 m.length), (13, .int .i64 i)])
      (fun σ _ => match σ.get 13 with | .int _ n => l.length - n.toNat | _ => 0)
      (fun e σ H1 => H1 = H ∧ ((e = .exit 0 ∧ l = m) ∨ (e = .ret ∧ σ.get 4 = .bool false ∧ l ≠ m)))
      ⟨_, .refl _, 0, rfl, by omega, by simp, rfl⟩ ?_ ?_
    · rintro e σ H1 ⟨rfl, ⟨rfl, ha⟩ | ⟨rfl, q4, ha⟩⟩
      · rw [decide_eq_true ha] at h
        simp (implicitDefEqProofs := false) only [sB, simprocAttr]
        exact ⟨_, .refl _, h⟩
      · rw [decide_eq_false ha] at h
        simp (implicitDefEqProofs := false) only [sB, simprocAttr, q4]
        exact ⟨_, .refl _, h⟩
    · rintro Q hQ σ H1 ⟨i, rfl, hi, hall, rfl⟩
      simp (implicitDefEqProofs := false) only [sB, simprocAttr, ints_len]
      refine i_if (fun c => ?_) (fun c => ?_)
      · have cm : i < m.length := by simpa using c
        have c' : i < l.length := by omega
        have hx : l[i]? = some l[i] := List.getElem?_eq_getElem c'
        have hy : m[i]? = some m[i] := List.getElem?_eq_getElem cm
        have r9 := w_i64 ((i : Int) + 1) (by omega) (by omega)
        have i0 : (0 : Int) ≤ (i : Int) := by omega
        by_cases eq : l[i] = m[i]
        · simp (implicitDefEqProofs := false) only [sB, simprocAttr, i0, ints_get, hx, hy, Option.map_some, eq, r9]
          exact ⟨_, .refl _, ⟨i + 1, rfl, by omega, by rw [List.take_add_one, List.take_add_one, hx, hy, hall, eq], by simp⟩, by omega⟩
        · simp (implicitDefEqProofs := false) only [sB, simprocAttr, i0, ints_get, hx, hy, Option.map_some, eq]
          exact hQ _ _ _ ⟨rfl, .inr ⟨rfl, rfl, fun h => eq (by subst h; rfl)⟩⟩
      · have e1 : i = l.length := by have : ¬ (i : Int) < m.length := by simpa using c
                                     omega
        have e2 : l = m := by
          rw [List.take_of_length_le (by omega), List.take_of_length_le (by omega)] at hall; exact hall
        simp (implicitDefEqProofs := false) only [sB, simprocAttr]
        exact hQ _ _ _ ⟨rfl, .inl ⟨rfl, e2⟩⟩
  · rw [decide_eq_false (fun e => ln (by rw [e]))] at h
    simp (implicitDefEqProofs := false) only [sB, simprocAttr, f22, ints_len, ln]
    exact ⟨H, .refl _, h⟩
theorem ex1 : infP (parsedR [60, 97, 32, 104, 114, 101, 102, 61, 34, 123, 123, 46, 117, 125, 125, 34, 62, 123, 123, 46, 116, 125, 125, 60, 47, 97, 62]) = ([2, 0], 0, 0) := by kernel_rfl
theorem ex2 : infP (parsedR [123, 123, 105, 102, 32, 46, 97, 125, 125, 60, 98, 32, 123, 123, 101, 110, 100, 125, 125, 120]) = ([], 0, 16) := by kernel_rfl
theorem les_mono {L M : Nat} (h : L ≤ M) : ∀ (N : Nat), (∀ x : Nd, x.cnt ≤ N → x.le L → x.le M) ∧ (∀ l : List Nd, Nd.cnts l ≤ N → Nd.les L l → Nd.les M l)
  | 0 => ⟨fun x hx => absurd (cnt_pos x) (by omega), fun l hl _ => by
      cases l with
      | nil => trivial
      | cons x l => simp only [Nd.cnts] at hl; exact absurd (cnt_pos x) (by omega)⟩
  | N + 1 => by
    have ih := les_mono h N
    have hx : ∀ x : Nd, x.cnt ≤ N + 1 → x.le L → x.le M := by
      intro x hx hle
      obtain ⟨k, a, s, p, hp, he, b, el⟩ := x
      simp only [Nd.cnt] at hx
      obtain ⟨q1, q2, q3, q4⟩ := hle
      exact ⟨by omega, by omega, ih.2 b (by omega) q3, ih.2 el (by omega) q4⟩
    refine ⟨hx, fun l => ?_⟩
    induction l with
    | nil => intro _ _; trivial
    | cons y l ih2 =>
      intro hc hle
      simp only [Nd.cnts] at hc
      exact ⟨hx y (by omega) hle.1, ih2 (by omega) hle.2⟩
theorem parsed_les (s : List UInt8) : Nd.les 1099511627776 (parsedR s) := (les_mono (by omega) _).2 _ (Nat.le_refl _) (parsedR_ok s).2
theorem parsed_cnt (s : List UInt8) : Nd.cnts (parsedR s) ≤ 1099511627776 := by have := (parsedR_ok s).1; omega
theorem infP_len (l : List Nd) (h : Nd.cnts l ≤ 1099511627776) : (infP l).1.length ≤ 1099511627776 := by
  have := listA_len St.zero l an0
  simp only [an0, List.length_nil] at this
  unfold infP
  split
  · exact Nat.zero_le _
  · simp only [endA_escs, an0]; omega
def c21 (xs : List AV) (H : Heap) (K : Kv) : Prop := xs = [] ∧ H.keys.Nodup ∧ K.ap (.bool true) H
theorem c21_of (P : Program) {xs : List AV} {H : Heap} {K : Kv} (h : c21 xs H K) : @xF ⟨fun _ => none, P, [(18, c18), (19, c19), (22, c22)]⟩ f21 xs H ⟨fun v H' => ∃ H0, Hle H0 H' ∧ K.ap v H0⟩ := by
  obtain ⟨rfl, hn, h⟩ := h
  simp (implicitDefEqProofs := false) only [sB, simprocAttr, f21]
  refine x_c18 hn (by decide) _ ?_
  simp (implicitDefEqProofs := false) only [sB, simprocAttr]
  refine ⟨_, _, rfl, hn, parsed_cnt _, parsed_les _, ?_⟩
  rw [ex1]
  simp (implicitDefEqProofs := false) only [sB, simprocAttr]
  refine x_c18 hn (by decide) _ ?_
  simp (implicitDefEqProofs := false) only [sB, simprocAttr]
  refine ⟨_, _, rfl, hn, parsed_cnt _, parsed_les _, ?_⟩
  rw [ex2]
  simp (implicitDefEqProofs := false) only [sB, simprocAttr]
  refine i_sl ⟨⟨ints_all [2, 0], rfl, rfl⟩, i_new fun z hz => ?_⟩
  simp (implicitDefEqProofs := false) only [sB, simprocAttr]
  refine x_c22 (l := [2, 0]) (m := [2, 0]) (by decide) _ _ ?_
  simp (implicitDefEqProofs := false) only [sB, simprocAttr]
  exact ⟨H, .tail _ _, h⟩
end Go.AL.Fun
