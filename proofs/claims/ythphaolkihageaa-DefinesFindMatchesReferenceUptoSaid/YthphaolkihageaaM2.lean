/- The reference's lexer walked: letters, names, words, two equal bytes. -/
import Derived.Test.YthphaolkihageaaF1
import Derived.Test.YthphaolkihageaaM1
import Derived.Test.YthphaolkihageaaM0
set_option linter.unusedSimpArgs false
set_option linter.unusedVariables false
set_option maxRecDepth 100000
set_option maxHeartbeats 1000000
namespace Go.AL.Fun
open Go Go.AL

def strsAV (l : List (List UInt8)) : List AV := l.map AV.str
theorem strs_len (l : List (List UInt8)) : (strsAV l).length = l.length := by simp [strsAV]
theorem strs_get (l : List (List UInt8)) (i : Nat) : (strsAV l)[i]? = (l[i]?).map AV.str := by simp [strsAV]
theorem strs_all (l : List (List UInt8)) : AllSz 1 (strsAV l) := by
  intro x hx; obtain ⟨s, _, rfl⟩ := List.mem_map.1 hx; rfl
theorem strs_tok (l : List (List UInt8)) : tokc (strsAV l) = tokc l := tokc_map _ _

def c57 (xs : List AV) (H : Heap) (K : Kv) : Prop := ∃ b, xs = [.int .u8 (n8 b)] ∧ K.ap (.bool (letB b)) H
theorem x_c57 (b : UInt8) (H : Heap) (K : Kv) (h : K.ap (.bool (letB b)) H) : c57 [.int .u8 (n8 b)] H K := ⟨b, rfl, h⟩
theorem c57_of (P : Program) {xs : List AV} {H : Heap} {K : Kv} (h : c57 xs H K) : @xF (t0 P) f57 xs H K := by
  obtain ⟨b, rfl, h⟩ := h
  by_cases c3 : 65 ≤ n8 b
  · by_cases c4 : n8 b ≤ 90
    · simp (implicitDefEqProofs := false) only [sB, simprocAttr, f57, c3, c4]
      rw [show letB b = true by unfold letB; rw [decide_eq_true]; omega] at h; exact h
    · by_cases c1 : 97 ≤ n8 b
      · by_cases c2 : n8 b ≤ 122
        · simp (implicitDefEqProofs := false) only [sB, simprocAttr, f57, c3, c4, c1, c2]
          rw [show letB b = true by unfold letB; rw [decide_eq_true]; omega] at h; exact h
        · simp (implicitDefEqProofs := false) only [sB, simprocAttr, f57, c3, c4, c1, c2]
          rw [show letB b = false by unfold letB; rw [decide_eq_false]; omega] at h; exact h
      · simp (implicitDefEqProofs := false) only [sB, simprocAttr, f57, c3, c4, c1]
        rw [show letB b = false by unfold letB; rw [decide_eq_false]; omega] at h; exact h
  · have c1 : ¬ 97 ≤ n8 b := by omega
    simp (implicitDefEqProofs := false) only [sB, simprocAttr, f57, c3, c1]
    rw [show letB b = false by unfold letB; rw [decide_eq_false]; omega] at h; exact h

theorem nameB_false {s : List UInt8} {i : Nat} {c : UInt8} (h : s[i]? = some c) (hc : nameC c = false) : nameB s = false := by
  unfold nameB
  rw [Bool.and_eq_false_iff]; right
  rw [Bool.eq_false_iff]
  intro ha
  have := List.all_eq_true.1 ha c (List.mem_of_getElem? h)
  rw [hc] at this; cases this
@[reducible] def t70 (P : Program) : Th := ⟨fun _ => none, P, [(57, c57)]⟩
theorem y_c70 {t : Th} {H : Heap} {K : Kv} (b : UInt8) : c57 [.int .u8 (n8 b)] H K = K.ap (.bool (letB b)) H := by
  refine propext ⟨fun ⟨x, e, h⟩ => ?_, fun h => ⟨b, rfl, h⟩⟩
  have : x = b := by
    simp only [List.cons.injEq, AV.int.injEq, true_and, and_true] at e
    unfold n8 at e
    exact UInt8.toNat_inj.1 (by omega)
  subst this; exact h
def c48 (xs : List AV) (H : Heap) (K : Kv) : Prop := ∃ s, xs = [.str s] ∧ s.length ≤ 1099511627776 ∧ K.ap (.bool (nameB s)) H
theorem x_c48 {s : List UInt8} (h : s.length ≤ 1099511627776) (H : Heap) (K : Kv) (k : K.ap (.bool (nameB s)) H) : c48 [.str s] H K := ⟨s, rfl, h, k⟩
theorem c48_of (P : Program) {xs : List AV} {H : Heap} {K : Kv} (h : c48 xs H K) : @xF (t70 P) f48 xs H ⟨fun v H' => ∃ H0, Hle H0 H' ∧ K.ap v H0⟩ := by
  obtain ⟨s, rfl, hs, h⟩ := h
  by_cases c1 : (s.length : Int) < 1
  · have e : s = [] := List.eq_nil_of_length_eq_zero (by omega)
    subst e
    simp (implicitDefEqProofs := false) only [sB, simprocAttr, f48]
    exact ⟨H, .refl _, h⟩
  · by_cases c2 : (32 : Int) < s.length
    · simp (implicitDefEqProofs := false) only [sB, simprocAttr, f48, c1, c2]
      rw [show nameB s = false by unfold nameB; rw [decide_eq_false (by omega)]; rfl] at h
      exact ⟨H, .refl _, h⟩
    · obtain ⟨a, ha⟩ : ∃ a, s[0]? = some a := ⟨_, List.getElem?_eq_getElem (by omega)⟩
      have hd : headL s = letB a := by cases s with | nil => simp at ha | cons x r => simp at ha; subst ha; rfl
      by_cases c3 : letB a = true
      · simp (implicitDefEqProofs := false) only [sB, simprocAttr, f48, c1, c2, ha, byteAV_n8, y_c70 (t := t70 P), c3]
        refine i_loopJ (fun σ H1 => ∃ (i : Nat), H1 = H ∧ i ≤ s.length ∧ (∀ x ∈ s.take i, nameC x = true) ∧ σ = [(0, .str s), (3, .int .i64 i)])
          (fun σ _ => match σ.get 3 with | .int _ n => s.length - n.toNat | _ => 0)
          (fun e σ H1 => H1 = H ∧ ((e = .exit 0 ∧ nameB s = true) ∨ (e = .ret ∧ σ.get 2 = .bool false ∧ nameB s = false)))
          ⟨_, .refl _, 0, rfl, by omega, by simp, rfl⟩ ?_ ?_
        · rintro e σ H1 ⟨rfl, ⟨rfl, hn⟩ | ⟨rfl, q2, hn⟩⟩
          · rw [hn] at h
            simp (implicitDefEqProofs := false) only [sB, simprocAttr]
            exact ⟨_, .refl _, h⟩
          · rw [hn] at h
            simp (implicitDefEqProofs := false) only [sB, simprocAttr, q2]
            exact ⟨_, .refl _, h⟩
        · rintro Q hQ σ H1 ⟨i, rfl, hi, hall, rfl⟩
          simp (implicitDefEqProofs := false) only [sB, simprocAttr]
          refine i_if (fun d => ?_) (fun d => ?_)
          · have d' : i < s.length := by simpa using d
            have hx : s[i]? = some s[i] := List.getElem?_eq_getElem d'
            have r9 := w_i64 ((i : Int) + 1) (by omega) (by omega)
            have i0 : (0 : Int) ≤ (i : Int) := by omega
            have next : nameC s[i] = true → ∀ x ∈ s.take (i + 1), nameC x = true := by
              intro hc x hx'
              rw [List.take_add_one, hx] at hx'
              rcases List.mem_append.1 hx' with hx' | hx'
              · exact hall x hx'
              · simp at hx'; subst hx'; exact hc
            by_cases l1 : letB s[i] = true
            · simp (implicitDefEqProofs := false) only [sB, simprocAttr, i0, hx, byteAV_n8, y_c70 (t := t70 P), l1, r9]
              exact ⟨_, .refl _, ⟨i + 1, rfl, by omega, next (by simp [nameC, l1]), by simp⟩, by omega⟩
            · by_cases l2 : n8 s[i] < 48
              · have l5 : ¬ n8 s[i] = 95 := by omega
                simp (implicitDefEqProofs := false) only [sB, simprocAttr, i0, hx, byteAV_n8, y_c70 (t := t70 P), l1, l2, l5]
                exact hQ _ _ _ ⟨rfl, .inr ⟨rfl, rfl, nameB_false hx (by simp [nameC, l1]; omega)⟩⟩
              · by_cases l3 : 57 < n8 s[i]
                · by_cases l4 : n8 s[i] = 95
                  · simp (implicitDefEqProofs := false) only [sB, simprocAttr, i0, hx, byteAV_n8, y_c70 (t := t70 P), l1, l2, l3, eq_true l4, r9]
                    exact ⟨_, .refl _, ⟨i + 1, rfl, by omega, next (by simp [nameC, l4]), by simp⟩, by omega⟩
                  · simp (implicitDefEqProofs := false) only [sB, simprocAttr, i0, hx, byteAV_n8, y_c70 (t := t70 P), l1, l2, l3, l4]
                    exact hQ _ _ _ ⟨rfl, .inr ⟨rfl, rfl, nameB_false hx (by simp [nameC, l1]; omega)⟩⟩
                · simp (implicitDefEqProofs := false) only [sB, simprocAttr, i0, hx, byteAV_n8, y_c70 (t := t70 P), l1, l2, l3, r9]
                  exact ⟨_, .refl _, ⟨i + 1, rfl, by omega, next (by simp [nameC]; omega), by simp⟩, by omega⟩
          · have : i = s.length := by have : ¬ (i : Int) < s.length := by simpa using d
                                      omega
            subst this
            simp (implicitDefEqProofs := false) only [sB, simprocAttr]
            refine hQ _ _ _ ⟨rfl, .inl ⟨rfl, ?_⟩⟩
            rw [List.take_length] at hall
            unfold nameB
            rw [hd, c3, decide_eq_true (by omega), List.all_eq_true.2 hall]; rfl
      · simp (implicitDefEqProofs := false) only [sB, simprocAttr, f48, c1, c2, ha, byteAV_n8, y_c70 (t := t70 P), c3]
        rw [show nameB s = false by unfold nameB; rw [hd]; simp [c3]] at h
        exact ⟨H, .refl _, h⟩

def c47 (xs : List AV) (H : Heap) (K : Kv) : Prop := ∃ w, xs = [.str w] ∧ w ≠ [] ∧ K.ap (.bool (pathB w)) H
theorem y_c65 {w : List UInt8} (h : w ≠ []) (H : Heap) (K : Kv) : c47 [.str w] H K = K.ap (.bool (pathB w)) H := by
  simp only [c47, List.cons.injEq, AV.str.injEq, and_true]
  exact propext ⟨fun ⟨x, e, _, k⟩ => e ▸ k, fun k => ⟨w, rfl, h, k⟩⟩
theorem c47_of (P : Program) {xs : List AV} {H : Heap} {K : Kv} (h : c47 xs H K) : @xF (t0 P) f47 xs H K := by
  obtain ⟨w, rfl, hw, h⟩ := h
  cases w with
  | nil => exact absurd rfl hw
  | cons c r =>
    simp (implicitDefEqProofs := false) only [sB, simprocAttr, f47, byteAV_n8, List.getElem?_cons_zero]
    exact h

/-- Where two equal bytes lie. -/
def c32 (xs : List AV) (H : Heap) (K : Kv) : Prop := ∃ (s : List UInt8) (c : Int) (fr : Nat), xs = [.str s, .int .u8 c, .int .i64 fr] ∧ s.length ≤ 1099511627776 ∧ fr ≤ s.length ∧ K.ap (.int .i64 (findR s c fr)) H
theorem x_c32 {s : List UInt8} {c : Int} {fr : Nat} (h1 : s.length ≤ 1099511627776) (h2 : fr ≤ s.length) (H : Heap) (K : Kv) (h : K.ap (.int .i64 (findR s c fr)) H) : c32 [.str s, .int .u8 c, .int .i64 fr] H K := ⟨_, _, _, rfl, h1, h2, h⟩
theorem findR_step {s : List UInt8} {c : Int} {i : Nat} (h : i + 1 < s.length) : findR s c i = if n8 s[i] = c ∧ n8 s[i + 1] = c then (i : Int) else findR s c (i + 1) := by
  have e : s.drop i = s[i] :: s[i + 1] :: s.drop (i + 2) := by rw [List.drop_eq_getElem_cons (by omega), List.drop_eq_getElem_cons (by omega)]
  have e2 : s.drop (i + 1) = s[i + 1] :: s.drop (i + 2) := by rw [List.drop_eq_getElem_cons (by omega)]
  unfold findR
  rw [e, e2, findN]
  by_cases h : n8 s[i] = c ∧ n8 s[i + 1] = c
  · rw [if_pos h, if_pos h]; simp
  · rw [if_neg h, if_neg h]
    cases findN c (s[i + 1] :: s.drop (i + 2)) with
    | none => rfl
    | some k => simp only [Option.map_some]; omega
theorem findR_end {s : List UInt8} {c : Int} {i : Nat} (h : s.length ≤ i + 1) : findR s c i = -1 := by
  unfold findR
  have : findN c (s.drop i) = none := by
    rcases hd : s.drop i with _ | ⟨a, _ | ⟨b, r⟩⟩
    · rfl
    · rfl
    · have := congrArg List.length hd
      simp at this; omega
  rw [this]
theorem findN_lt {c : Int} : ∀ {l : List UInt8} {k : Nat}, findN c l = some k → k + 2 ≤ l.length
  | [], k, h => by cases h
  | [_], k, h => by cases h
  | a :: b :: r, k, h => by
    rw [findN] at h
    split at h
    · cases h; simp
    · cases hf : findN c (b :: r) with
      | none => rw [hf] at h; cases h
      | some j => rw [hf] at h; cases h; have := findN_lt hf; simp at this ⊢; omega
theorem findR_cases (s : List UInt8) (c : Int) (i : Nat) (h : i ≤ s.length) : findR s c i = -1 ∨ ∃ k : Nat, findR s c i = k ∧ i ≤ k ∧ k + 2 ≤ s.length := by
  unfold findR
  cases hf : findN c (s.drop i) with
  | none => exact .inl rfl
  | some k => have := findN_lt hf; rw [List.length_drop] at this; exact .inr ⟨i + k, rfl, by omega, by omega⟩
theorem c32_of (P : Program) {xs : List AV} {H : Heap} {K : Kv} (h : c32 xs H K) : @xF (t0 P) f32 xs H ⟨fun v H' => ∃ H0, Hle H0 H' ∧ K.ap v H0⟩ := by
  obtain ⟨s, c, fr, rfl, hs, hf, h⟩ := h
  simp (implicitDefEqProofs := false) only [sB, simprocAttr, f32]
  refine i_loopJ (fun σ H1 => ∃ (i : Nat), H1 = H ∧ i ≤ s.length ∧ findR s c i = findR s c fr ∧ σ = [(0, .str s), (1, .int .u8 c), (7, .int .i64 i)])
    (fun σ _ => match σ.get 7 with | .int _ n => s.length - n.toNat | _ => 0)
    (fun e σ H1 => H1 = H ∧ ((e = .exit 0 ∧ findR s c fr = -1) ∨ (e = .ret ∧ σ.get 6 = .int .i64 (findR s c fr))))
    ⟨_, .refl _, fr, rfl, hf, rfl, rfl⟩ ?_ ?_
  · rintro e σ H1 ⟨rfl, ⟨rfl, hn⟩ | ⟨rfl, q⟩⟩
    · rw [hn] at h
      simp (implicitDefEqProofs := false) only [sB, simprocAttr]
      exact ⟨_, .refl _, h⟩
    · simp (implicitDefEqProofs := false) only [sB, simprocAttr, q]
      exact ⟨_, .refl _, h⟩
  · rintro Q hQ σ H1 ⟨i, rfl, hi, hr, rfl⟩
    have r9 := w_i64 ((i : Int) + 1) (by omega) (by omega)
    simp (implicitDefEqProofs := false) only [sB, simprocAttr, r9]
    refine i_if (fun d => ?_) (fun d => ?_)
    · have d' : i + 1 < s.length := by have : (i : Int) + 1 < s.length := by simpa using d
                                       omega
      have hx : s[i]? = some s[i] := List.getElem?_eq_getElem (by omega)
      have hx1 : s[i + 1]? = some s[i + 1] := List.getElem?_eq_getElem d'
      have i0 : (0 : Int) ≤ (i : Int) := by omega
      have i1 : (0 : Int) ≤ (i : Int) + 1 := by omega
      have i2 : ((i : Int) + 1).toNat = i + 1 := by omega
      have hst := findR_step (c := c) d'
      by_cases e1 : n8 s[i] = c
      · by_cases e2 : n8 s[i + 1] = c
        · rw [if_pos ⟨e1, e2⟩] at hst
          simp (implicitDefEqProofs := false) only [sB, simprocAttr, i0, i1, i2, hx, hx1, byteAV_n8, e1, e2, r9]
          refine hQ _ _ _ ⟨rfl, .inr ⟨rfl, ?_⟩⟩
          rw [← hr, hst]; rfl
        · rw [if_neg (fun x => e2 x.2)] at hst
          simp (implicitDefEqProofs := false) only [sB, simprocAttr, i0, i1, i2, hx, hx1, byteAV_n8, e1, e2, r9]
          exact ⟨_, .refl _, ⟨i + 1, rfl, by omega, by rw [← hst, hr], by simp⟩, by omega⟩
      · rw [if_neg (fun x => e1 x.1)] at hst
        simp (implicitDefEqProofs := false) only [sB, simprocAttr, i0, i1, i2, hx, hx1, byteAV_n8, e1, r9]
        exact ⟨_, .refl _, ⟨i + 1, rfl, by omega, by rw [← hst, hr], by simp⟩, by omega⟩
    · have d' : s.length ≤ i + 1 := by have : ¬ (i : Int) + 1 < s.length := by simpa using d
                                       omega
      simp (implicitDefEqProofs := false) only [sB, simprocAttr]
      exact hQ _ _ _ ⟨rfl, .inl ⟨rfl, by rw [← hr, findR_end d']⟩⟩

/-- Words are not empty, and no longer than their string. -/
theorem wordsG_ne : ∀ (s cur : List UInt8), ∀ w ∈ wordsG s cur, w ≠ [] ∧ w.length ≤ cur.length + s.length
  | [], cur => by
    intro w hw
    rw [wordsG] at hw
    split at hw
    · cases hw
    · simp at hw; subst hw; rename_i h; exact ⟨h, by omega⟩
  | b :: r, cur => by
    intro w hw
    rw [wordsG] at hw
    have h0 := wordsG_ne r []
    have h1 := wordsG_ne r (cur ++ [b])
    split at hw
    · split at hw
      · have := h0 w hw; exact ⟨this.1, by have := this.2; simp at this ⊢; omega⟩
      · rcases List.mem_cons.1 hw with rfl | hw
        · rename_i h; exact ⟨h, by omega⟩
        · have := h0 w hw; exact ⟨this.1, by have := this.2; simp at this ⊢; omega⟩
    · have := h1 w hw; exact ⟨this.1, by have := this.2; simp at this ⊢; omega⟩
theorem wordsG_len : ∀ (s cur : List UInt8), (wordsG s cur).length ≤ s.length + 1
  | [], cur => by rw [wordsG]; split <;> simp
  | b :: r, cur => by
    rw [wordsG]
    have h0 := wordsG_len r []
    have h1 := wordsG_len r (cur ++ [b])
    split
    · split
      · simp; omega
      · simp; omega
    · simp; omega
theorem cut_snoc {s : List UInt8} {fr i : Nat} (h : i < s.length) (hf : fr ≤ i) : (s.take (i + 1)).drop fr = (s.take i).drop fr ++ [s[i]] := by
  rw [List.take_add_one, List.getElem?_eq_getElem h, List.drop_append_of_le_length (by rw [List.length_take]; omega)]; rfl
theorem cut_nil {s : List UInt8} {fr i : Nat} (h : i ≤ s.length) : (s.take i).drop fr = [] ↔ i ≤ fr := by
  rw [List.drop_eq_nil_iff, List.length_take]; omega
def c34 (xs : List AV) (H : Heap) (K : Kv) : Prop := ∃ s, xs = [.str s] ∧ H.keys.Nodup ∧ s.length ≤ 1099511627776 ∧ K.ap (.sl (strsAV (wordsG s [])) (tokc (wordsG s []))) H
theorem x_c34 {s : List UInt8} {H : Heap} (hn : H.keys.Nodup) (h : s.length ≤ 1099511627776) (K : Kv) (k : K.ap (.sl (strsAV (wordsG s [])) (tokc (wordsG s []))) H) : c34 [.str s] H K := ⟨s, rfl, hn, h, k⟩
theorem c34_of (P : Program) {xs : List AV} {H : Heap} {K : Kv} (h : c34 xs H K) : @xF (t0 P) f34 xs H ⟨fun v H' => ∃ H0, Hle H0 H' ∧ ∃ v', AVle v v' ∧ K.ap v' H0⟩ := by
  obtain ⟨s, rfl, hn, hs, h⟩ := h
  simp (implicitDefEqProofs := false) only [sB, simprocAttr, f34]
  refine i_loopJ (fun σ H1 => ∃ (i fr : Nat) (ws : List (List UInt8)) (tk : Tok), H1.Perm (tokH tk ++ H) ∧ H1.keys.Nodup ∧ GC 1 (strsAV ws) tk ∧ ws.length ≤ i ∧ i ≤ s.length + 1 ∧ fr ≤ i ∧
      (i ≤ s.length → ws ++ wordsG (s.drop i) ((s.take i).drop fr) = wordsG s []) ∧ (s.length < i → ws = wordsG s []) ∧ σ = [(0, .str s), (3, .sl (strsAV ws) tk), (4, .int .i64 fr), (5, .int .i64 i)])
    (fun σ _ => match σ.get 5 with | .int _ n => s.length + 1 - n.toNat | _ => 0)
    (fun e σ H1 => e = .exit 0 ∧ ∃ tk, H1.Perm (tokH tk ++ H) ∧ GC 1 (strsAV (wordsG s [])) tk ∧ σ.get 3 = .sl (strsAV (wordsG s [])) tk)
    ⟨_, .refl _, 0, 0, [], .nil, .refl _, hn, rfl, by simp, by omega, by omega, fun _ => by simp, fun a => by omega, rfl⟩ ?_ ?_
  · rintro e σ H1 ⟨rfl, tk, hp, hg, q⟩
    simp (implicitDefEqProofs := false) only [sB, simprocAttr, q]
    refine ⟨H, hle_tok hp, _, AVle.tok hg, ?_⟩
    rw [strs_tok]; exact h
  · rintro Q hQ σ H1 ⟨i, fr, ws, tk, hp, hn1, hg, hl, hi, hf, hr1, hr2, rfl⟩
    simp (implicitDefEqProofs := false) only [sB, simprocAttr]
    refine i_if (fun d => ?_) (fun d => ?_)
    · have d' : i ≤ s.length := by simpa using d
      have r9 := w_i64 ((i : Int) + 1) (by omega) (by omega)
      have i0 : (0 : Int) ≤ (i : Int) := by omega
      have f0 : (0 : Int) ≤ (fr : Int) := by omega
      have f1 : (fr : Int) ≤ (i : Int) := by omega
      have i1 : (i : Int) ≤ (s.length : Int) := by omega
      have hr := hr1 d'
      by_cases e1 : i = s.length ∨ ∃ h : i < s.length, n8 s[i] = 32
      · -- a word may end here
        have hnext : wordsG (s.drop i) ((s.take i).drop fr) = (if i ≤ fr then [] else [(s.take i).drop fr]) ++ (if i < s.length then wordsG (s.drop (i + 1)) [] else []) := by
          rcases e1 with e1 | ⟨h1, h2⟩
          · subst e1
            rw [List.drop_length, wordsG, if_neg (Nat.lt_irrefl _), List.append_nil]
            simp only [cut_nil (Nat.le_refl _)]
          · rw [List.drop_eq_getElem_cons h1, wordsG, if_pos h2, if_pos h1]
            simp only [cut_nil (Nat.le_of_lt h1)]
            split <;> simp
        have fin : ∀ (ws' : List (List UInt8)) (tk' : Tok) (H2 : Heap), ws' = ws ++ (if i ≤ fr then [] else [(s.take i).drop fr]) → (ws'.length ≤ i + 1) ∧ (i + 1 ≤ s.length → ws' ++ wordsG (s.drop (i + 1)) ((s.take (i + 1)).drop (i + 1)) = wordsG s []) ∧ (s.length < i + 1 → ws' = wordsG s []) := by
          rintro ws' tk' H2 rfl
          refine ⟨by rw [List.length_append]; split <;> simp <;> omega, fun a => ?_, fun a => ?_⟩
          · rw [hnext, if_pos (show i < s.length by omega), ← List.append_assoc] at hr
            rw [(cut_nil a).2 (Nat.le_refl _), hr]
          · rw [hnext, if_neg (show ¬ i < s.length by omega), List.append_nil] at hr
            exact hr
        have app : ∀ (t : Th) (K' : Kv), (∀ tk' H', GC 1 (strsAV (ws ++ [(s.take i).drop fr])) tk' → Hle (tokH tk' ++ H) H' → (tokH tk' ++ H).keys.Nodup → K'.ap (.sl (strsAV (ws ++ [(s.take i).drop fr])) tk') H') →
            ∀ z, z ∉ H1.keys → xE (t := t) (.app 1 16) [.sl (strsAV ws) tk, .sl [.str ((s.take i).drop fr)] (.at z 1 1)] ((z, .spare 1) :: H1) (K := K') := by
          intro t K' hK z hz
          refine i_appC (by decide) (A := [(z, .spare 1)]) (R := H) (tk := tk) (xs := strsAV ws) (ys := strsAV [(s.take i).drop fr]) (hp.cons _) (List.nodup_cons.2 ⟨hz, hn1⟩) hg (src_sl_of _ _ (strs_all _)) (strs_all _) ?_ ?_ fun tk' H' g1 g2 g3 => ?_
          · simp only [strs_len, List.length_cons, List.length_nil, maxLen_eq]; omega
          · simp only [strs_len, List.length_cons, List.length_nil]; omega
          · have es : strsAV ws ++ strsAV [(s.take i).drop fr] = strsAV (ws ++ [(s.take i).drop fr]) := by simp [strsAV]
            rw [es] at g1 ⊢
            exact hK tk' H' g1 (hle_sub g2 (List.sublist_cons_self _ _)) (nodup_sub g2 (List.sublist_cons_self _ _) g3)
        by_cases e4 : fr < i
        · have e5 : (fr : Int) < (i : Int) := by omega
          have fin' := fin (ws ++ [(s.take i).drop fr]) .nil H (by rw [if_neg (by omega)])
          by_cases e2 : i = s.length
          · have e3 := eq_true (show (i : Int) = (s.length : Int) by omega)
            simp (implicitDefEqProofs := false) only [sB, simprocAttr, e3, e5, i0, f0, f1, i1]
            refine i_sl ⟨⟨strs_all [(s.take i).drop fr], rfl, rfl⟩, i_new fun z hz => ?_⟩
            simp (implicitDefEqProofs := false) only [sB, simprocAttr]
            refine app _ _ (fun tk' H' g1 g2 g3 => ?_) z hz
            simp (implicitDefEqProofs := false) only [sB, simprocAttr, r9]
            exact ⟨_, g2, ⟨i + 1, i + 1, _, tk', .refl _, g3, g1, fin'.1, by omega, by omega, fin'.2.1, fin'.2.2, by simp⟩, by omega⟩
          · have e3 := eq_false (show ¬ (i : Int) = (s.length : Int) by omega)
            have h1 : i < s.length := by omega
            have hx : s[i]? = some s[i] := List.getElem?_eq_getElem h1
            have h32 : n8 s[i] = 32 := by rcases e1 with e1 | ⟨_, h⟩; exact absurd e1 e2; exact h
            simp (implicitDefEqProofs := false) only [sB, simprocAttr, e3, e5, i0, f0, f1, i1, hx, byteAV_n8, h32]
            refine i_sl ⟨⟨strs_all [(s.take i).drop fr], rfl, rfl⟩, i_new fun z hz => ?_⟩
            simp (implicitDefEqProofs := false) only [sB, simprocAttr]
            refine app _ _ (fun tk' H' g1 g2 g3 => ?_) z hz
            simp (implicitDefEqProofs := false) only [sB, simprocAttr, r9]
            exact ⟨_, g2, ⟨i + 1, i + 1, _, tk', .refl _, g3, g1, fin'.1, by omega, by omega, fin'.2.1, fin'.2.2, by simp⟩, by omega⟩
        · have e5 : ¬ (fr : Int) < (i : Int) := by omega
          have fin' := fin ws .nil H (by rw [if_pos (by omega), List.append_nil])
          by_cases e2 : i = s.length
          · have e3 := eq_true (show (i : Int) = (s.length : Int) by omega)
            simp (implicitDefEqProofs := false) only [sB, simprocAttr, e3, e5, r9]
            exact ⟨_, .refl _, ⟨i + 1, i + 1, ws, tk, hp, hn1, hg, fin'.1, by omega, by omega, fin'.2.1, fin'.2.2, by simp⟩, by omega⟩
          · have e3 := eq_false (show ¬ (i : Int) = (s.length : Int) by omega)
            have h1 : i < s.length := by omega
            have hx : s[i]? = some s[i] := List.getElem?_eq_getElem h1
            have h32 : n8 s[i] = 32 := by rcases e1 with e1 | ⟨_, h⟩; exact absurd e1 e2; exact h
            simp (implicitDefEqProofs := false) only [sB, simprocAttr, e3, e5, r9, i0, hx, byteAV_n8, h32]
            exact ⟨_, .refl _, ⟨i + 1, i + 1, ws, tk, hp, hn1, hg, fin'.1, by omega, by omega, fin'.2.1, fin'.2.2, by simp⟩, by omega⟩
      · have h1 : i < s.length := by
          rcases Nat.lt_or_ge i s.length with h | h
          · exact h
          · exact absurd (.inl (by omega)) e1
        have e3 := eq_false (show ¬ (i : Int) = (s.length : Int) by omega)
        have hx : s[i]? = some s[i] := List.getElem?_eq_getElem h1
        have h32 : ¬ n8 s[i] = 32 := fun h => e1 (.inr ⟨h1, h⟩)
        simp (implicitDefEqProofs := false) only [sB, simprocAttr, e3, r9, i0, hx, byteAV_n8, h32]
        refine ⟨_, .refl _, ⟨i + 1, fr, ws, tk, hp, hn1, hg, by omega, by omega, by omega, fun _ => ?_, fun a => by omega, by simp⟩, by omega⟩
        rw [List.drop_eq_getElem_cons h1, wordsG, if_neg h32] at hr
        rw [cut_snoc h1 hf]; exact hr
    · have d' : s.length < i := by have : ¬ (i : Int) ≤ s.length := by simpa using d
                                   omega
      have hr := hr2 d'
      subst hr
      simp (implicitDefEqProofs := false) only [sB, simprocAttr]
      exact hQ _ _ _ ⟨rfl, tk, hp, hg, rfl⟩
end Go.AL.Fun
