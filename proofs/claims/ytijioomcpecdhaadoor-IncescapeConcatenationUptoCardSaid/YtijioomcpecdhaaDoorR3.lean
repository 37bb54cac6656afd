/- The reference's runes walked. Printed by gu3.py. -/
import Derived.Test.YtijioomcpecdhaaDoorF1
import Derived.Test.YtijioomcpecdhaaDoorU2
set_option linter.unusedSimpArgs false
set_option linter.unusedVariables false
set_option maxRecDepth 100000
set_option maxHeartbeats 4000000
namespace Go.AL.Fun
open Go Go.AL

def n8 (b : UInt8) : Int := (b.toNat : Int)
theorem n8_lt (b : UInt8) : 0 ≤ n8 b ∧ n8 b < 256 := by have := b.toNat_lt; unfold n8; omega
theorem byteAV_n8 (b : UInt8) : byteAV b = .int .u8 (n8 b) := rfl
@[reducible] def t0 (P : Program) : Th := ⟨fun _ => none, P, []⟩
def i32AV (l : List Int) : List AV := l.map (.int .i32)
theorem i32_len (l : List Int) : (i32AV l).length = l.length := by simp [i32AV]
theorem i32_get (l : List Int) (i : Nat) : (i32AV l)[i]? = (l[i]?).map (.int .i32) := by simp [i32AV]
theorem i32_all (l : List Int) : AllSz 1 (i32AV l) := by
  intro x hx; obtain ⟨n, _, rfl⟩ := List.mem_map.1 hx; rfl
theorem i32_tok (l : List Int) : tokc (i32AV l) = tokc l := tokc_map _ _
theorem i32_one (n : Int) : i32AV [n] = [.int .i32 n] := rfl
theorem app_i32 {t : Th} {H H2 A : Heap} {K : Kv} {l : List Int} {tk : Tok} (x : Int) (tok : Tok) (hp : H2.Perm (A ++ (tokH tk ++ H))) (hn : H2.keys.Nodup) (hg : GC 1 (i32AV l) tk) (hl : l.length ≤ 1099511627776)
    (hK : ∀ tk' H', GC 1 (i32AV (l ++ [x])) tk' → Hle (tokH tk' ++ H) H' → (tokH tk' ++ H).keys.Nodup → K.ap (.sl (i32AV (l ++ [x])) tk') H') : xE (t := t) (.app 1 4) [.sl (i32AV l) tk, .sl [.int .i32 x] tok] H2 (K := K) := by
  rw [← i32_one]
  refine i_appC (by decide) (A := A) (R := H) (tk := tk) (xs := i32AV l) (ys := i32AV [x]) hp hn hg (src_sl_of _ _ (i32_all _)) (i32_all _) ?_ ?_ fun tk' H' g1 g2 g3 => ?_
  · simp only [i32_len, List.length_cons, List.length_nil, maxLen_eq]; omega
  · simp only [i32_len, List.length_cons, List.length_nil]; omega
  · have es : i32AV l ++ i32AV [x] = i32AV (l ++ [x]) := by simp [i32AV]
    rw [es] at g1 ⊢
    exact hK tk' H' g1 (hle_sub g2 (List.sublist_append_right _ _)) (nodup_sub g2 (List.sublist_append_right _ _) g3)

theorem sh6 : (2 : Int) ^ (if 6 ≤ IntKind.i32.bits then 6 else IntKind.i32.bits) = 64 := by decide
theorem sh12 : (2 : Int) ^ (if 12 ≤ IntKind.i32.bits then 12 else IntKind.i32.bits) = 4096 := by decide
theorem sh18 : (2 : Int) ^ (if 18 ≤ IntKind.i32.bits then 18 else IntKind.i32.bits) = 262144 := by decide
def c84 (xs : List AV) (H : Heap) (K : Kv) : Prop := ∃ s, xs = [.str s] ∧ s.length ≤ 1099511627776 ∧ K.ap (.tup [.int .i64 (fst s).1, .bool (fst s).2]) H
theorem x_c84 {s : List UInt8} (h : s.length ≤ 1099511627776) (H : Heap) (K : Kv) (k : K.ap (.tup [.int .i64 (fst s).1, .bool (fst s).2]) H) : c84 [.str s] H K := ⟨s, rfl, h, k⟩
theorem c84_of (P : Program) {G : Nat → Option (List AV)} {xs : List AV} {H : Heap} {K : Kv} (h : c84 xs H K) : @xF ⟨G, P, []⟩ f84 xs H ⟨fun v H' => ∃ H0, Hle H0 H' ∧ K.ap v H0⟩ := by
  obtain ⟨s, rfl, hs, h⟩ := h
  cases s with
  | nil =>
    simp (implicitDefEqProofs := false) only [sB, simprocAttr, f84]
    exact ⟨_, .refl _, h⟩
  | cons c r =>
    have hc := n8_lt c
    have hne : ¬ c :: r = [] := by simp
    by_cases h1 : n8 c < 128
    · have e : fst (c :: r) = (1, false) := by rw [fst, if_pos (by unfold n8 at h1; omega)]
      rw [e] at h
      simp (implicitDefEqProofs := false) only [sB, simprocAttr, f84, hne, byteAV_n8, h1]
      exact ⟨_, .refl _, h⟩
    by_cases h0 : szOf c.toNat = 0
    · have e : fst (c :: r) = (0, false) := by rw [fst, if_neg (by unfold n8 at h1; omega), if_pos h0]
      rw [e] at h
      by_cases l1 : 194 ≤ n8 c
      · have q1 : ¬ n8 c ≤ 223 := by intro k; unfold szOf at h0; unfold n8 at k l1; rw [if_pos (by omega)] at h0; cases h0
        have q2 : 224 ≤ n8 c := by omega
        have q3 : ¬ n8 c ≤ 239 := by intro k; unfold szOf at h0; unfold n8 at k q2; rw [if_neg (by omega), if_pos (by omega)] at h0; cases h0
        have q4 : 240 ≤ n8 c := by omega
        have q5 : ¬ n8 c ≤ 244 := by intro k; unfold szOf at h0; unfold n8 at k q4; rw [if_neg (by omega), if_neg (by omega), if_pos (by omega)] at h0; cases h0
        simp (implicitDefEqProofs := false) only [sB, simprocAttr, f84, hne, byteAV_n8, h1, l1, q1, q2, q3, q4, q5]
        exact ⟨_, .refl _, h⟩
      · have q2 : ¬ 224 ≤ n8 c := by omega
        have q4 : ¬ 240 ≤ n8 c := by omega
        simp (implicitDefEqProofs := false) only [sB, simprocAttr, f84, hne, byteAV_n8, h1, l1, q2, q4]
        exact ⟨_, .refl _, h⟩
    have hf : fst (c :: r) = fgo (szOf c.toNat) (szOf c.toNat - 1) (loOf c.toNat) (hiOf c.toNat) r := by rw [fst, if_neg (by unfold n8 at h1; omega), if_neg h0]
    have hsz := szOf_cases c.toNat
    have cls : (194 ≤ n8 c ∧ n8 c ≤ 223) ∨ (n8 c = 224) ∨ (n8 c = 237) ∨ (224 ≤ n8 c ∧ n8 c ≤ 239 ∧ n8 c ≠ 224 ∧ n8 c ≠ 237) ∨ (n8 c = 240) ∨ (n8 c = 244) ∨ (240 ≤ n8 c ∧ n8 c ≤ 244 ∧ n8 c ≠ 240 ∧ n8 c ≠ 244) := by
      have e : ¬ szOf c.toNat = 0 := h0
      unfold szOf at e
      unfold n8
      repeat' split at e
      all_goals first | omega | exact absurd rfl e
    rcases cls with k | k | k | k | k | k | k
    · have g0 : (194 ≤ n8 c) = True := eq_true (show 194 ≤ n8 c by omega)
      have g1 : (n8 c ≤ 223) = True := eq_true (show n8 c ≤ 223 by omega)
      have g2 : (n8 c = 224) = False := eq_false (show ¬ n8 c = 224 by omega)
      have g3 : (n8 c = 237) = False := eq_false (show ¬ n8 c = 237 by omega)
      have g4 : (n8 c = 240) = False := eq_false (show ¬ n8 c = 240 by omega)
      have g5 : (n8 c = 244) = False := eq_false (show ¬ n8 c = 244 by omega)
      have e1 : szOf c.toNat = 2 := by unfold szOf; unfold n8 at k; (repeat' split) <;> omega
      have e2 : loOf c.toNat = 128 := by unfold loOf; unfold n8 at k; (repeat' split) <;> omega
      have e3 : hiOf c.toNat = 191 := by unfold hiOf; unfold n8 at k; (repeat' split) <;> omega
      rw [e1, e2, e3] at hf
      simp (implicitDefEqProofs := false) only [sB, simprocAttr, f84, hne, byteAV_n8, h1, g0, g1, g2, g3, g4, g5]
      generalize hS : c :: r = s at hf h hs hne ⊢
      have hS1 : s.drop 1 = r := by rw [← hS]; rfl
      have hS2 : 1 ≤ s.length := by rw [← hS]; simp
      rw [← hS1] at hf
      refine i_loopJ (fun σ H1 => ∃ (i lo hi : Nat), H1 = H ∧ 1 ≤ i ∧ i ≤ 2 ∧ i ≤ s.length ∧ lo < 256 ∧ hi < 256 ∧ fgo 2 (2 - i) lo hi (s.drop i) = fst s ∧ σ = [(0, .str s), (5, .int .i64 2), (6, .int .u8 lo), (7, .int .u8 hi), (8, .int .i64 i)])
        (fun σ _ => match σ.get 8 with | .int _ n => 2 - n.toNat | _ => 0)
        (fun e σ H1 => H1 = H ∧ ((e = .exit 2 ∧ fst s = (2, false) ∧ σ.get 5 = .int .i64 2) ∨ (e = .ret ∧ σ.get 2 = .int .i64 (fst s).1 ∧ σ.get 3 = .bool (fst s).2)))
        ⟨_, .refl _, 1, 128, 191, rfl, by decide, by decide, hS2, by decide, by decide, hf.symm, rfl⟩ ?_ ?_
      · rintro e σ H1 ⟨rfl, ⟨rfl, f1, q5⟩ | ⟨rfl, q2, q3⟩⟩
        · rw [f1] at h
          simp (implicitDefEqProofs := false) only [sB, simprocAttr, q5]
          exact ⟨_, .refl _, h⟩
        · simp (implicitDefEqProofs := false) only [sB, simprocAttr, q2, q3]
          exact ⟨_, .refl _, h⟩
      · rintro Q hQ σ H1 ⟨i, lo, hi, rfl, i1, i2, i3, lo1, hi1, hr, rfl⟩
        have r9 := w_i64 ((i : Int) + 1) (by omega) (by omega)
        have i0 : (0 : Int) ≤ (i : Int) := by omega
        simp (implicitDefEqProofs := false) only [sB, simprocAttr]
        refine i_if (fun d => ?_) (fun d => ?_)
        · have d9 : (i : Int) < 2 := by simpa using d
          have d' : i < 2 := by omega
          obtain ⟨m, hm⟩ : ∃ m, 2 - i = m + 1 := ⟨2 - i - 1, by omega⟩
          rw [hm] at hr
          by_cases cl : s.length ≤ i
          · have cl' : (s.length : Int) ≤ (i : Int) := by omega
            rw [List.drop_eq_nil_of_le cl, fgo] at hr
            simp (implicitDefEqProofs := false) only [sB, simprocAttr, cl']
            exact hQ _ _ _ ⟨rfl, .inr ⟨rfl, by rw [← hr]; rfl, by rw [← hr]; rfl⟩⟩
          · have cl' : ¬ (s.length : Int) ≤ (i : Int) := by omega
            have hx : s[i]? = some s[i] := List.getElem?_eq_getElem (by omega)
            rw [List.drop_eq_getElem_cons (by omega), fgo] at hr
            by_cases b1 : n8 s[i] < (lo : Int)
            · rw [if_pos (.inl (by unfold n8 at b1; omega))] at hr
              simp (implicitDefEqProofs := false) only [sB, simprocAttr, cl', i0, hx, byteAV_n8, b1]
              exact hQ _ _ _ ⟨rfl, .inr ⟨rfl, by rw [← hr]; rfl, by rw [← hr]; rfl⟩⟩
            · by_cases b2 : (hi : Int) < n8 s[i]
              · rw [if_pos (.inr (by unfold n8 at b2; omega))] at hr
                simp (implicitDefEqProofs := false) only [sB, simprocAttr, cl', i0, hx, byteAV_n8, b1, b2]
                exact hQ _ _ _ ⟨rfl, .inr ⟨rfl, by rw [← hr]; rfl, by rw [← hr]; rfl⟩⟩
              · rw [if_neg (by rw [not_or]; unfold n8 at b1 b2; omega)] at hr
                simp (implicitDefEqProofs := false) only [sB, simprocAttr, cl', i0, hx, byteAV_n8, b1, b2, r9]
                exact ⟨_, .refl _, ⟨i + 1, 128, 191, rfl, by omega, by omega, by omega, by decide, by decide, by rw [← hr]; congr 1; omega, by simp⟩, by omega⟩
        · have d9 : ¬ (i : Int) < 2 := by simpa using d
          have d' : i = 2 := by omega
          subst d'
          simp (implicitDefEqProofs := false) only [sB, simprocAttr]
          exact hQ _ _ _ ⟨rfl, .inl ⟨rfl, by rw [← hr]; rfl, rfl⟩⟩
    · have g0 : (194 ≤ n8 c) = True := eq_true (show 194 ≤ n8 c by omega)
      have g1 : (n8 c ≤ 223) = False := eq_false (show ¬ n8 c ≤ 223 by omega)
      have g2 : (224 ≤ n8 c) = True := eq_true (show 224 ≤ n8 c by omega)
      have g3 : (n8 c ≤ 239) = True := eq_true (show n8 c ≤ 239 by omega)
      have g4 : (n8 c = 224) = True := eq_true (show n8 c = 224 by omega)
      have e1 : szOf c.toNat = 3 := by unfold szOf; unfold n8 at k; (repeat' split) <;> omega
      have e2 : loOf c.toNat = 160 := by unfold loOf; unfold n8 at k; (repeat' split) <;> omega
      have e3 : hiOf c.toNat = 191 := by unfold hiOf; unfold n8 at k; (repeat' split) <;> omega
      rw [e1, e2, e3] at hf
      simp (implicitDefEqProofs := false) only [sB, simprocAttr, f84, hne, byteAV_n8, h1, g0, g1, g2, g3, g4]
      generalize hS : c :: r = s at hf h hs hne ⊢
      have hS1 : s.drop 1 = r := by rw [← hS]; rfl
      have hS2 : 1 ≤ s.length := by rw [← hS]; simp
      rw [← hS1] at hf
      refine i_loopJ (fun σ H1 => ∃ (i lo hi : Nat), H1 = H ∧ 1 ≤ i ∧ i ≤ 3 ∧ i ≤ s.length ∧ lo < 256 ∧ hi < 256 ∧ fgo 3 (3 - i) lo hi (s.drop i) = fst s ∧ σ = [(0, .str s), (5, .int .i64 3), (6, .int .u8 lo), (7, .int .u8 hi), (8, .int .i64 i)])
        (fun σ _ => match σ.get 8 with | .int _ n => 3 - n.toNat | _ => 0)
        (fun e σ H1 => H1 = H ∧ ((e = .exit 2 ∧ fst s = (3, false) ∧ σ.get 5 = .int .i64 3) ∨ (e = .ret ∧ σ.get 2 = .int .i64 (fst s).1 ∧ σ.get 3 = .bool (fst s).2)))
        ⟨_, .refl _, 1, 160, 191, rfl, by decide, by decide, hS2, by decide, by decide, hf.symm, rfl⟩ ?_ ?_
      · rintro e σ H1 ⟨rfl, ⟨rfl, f1, q5⟩ | ⟨rfl, q2, q3⟩⟩
        · rw [f1] at h
          simp (implicitDefEqProofs := false) only [sB, simprocAttr, q5]
          exact ⟨_, .refl _, h⟩
        · simp (implicitDefEqProofs := false) only [sB, simprocAttr, q2, q3]
          exact ⟨_, .refl _, h⟩
      · rintro Q hQ σ H1 ⟨i, lo, hi, rfl, i1, i2, i3, lo1, hi1, hr, rfl⟩
        have r9 := w_i64 ((i : Int) + 1) (by omega) (by omega)
        have i0 : (0 : Int) ≤ (i : Int) := by omega
        simp (implicitDefEqProofs := false) only [sB, simprocAttr]
        refine i_if (fun d => ?_) (fun d => ?_)
        · have d9 : (i : Int) < 3 := by simpa using d
          have d' : i < 3 := by omega
          obtain ⟨m, hm⟩ : ∃ m, 3 - i = m + 1 := ⟨3 - i - 1, by omega⟩
          rw [hm] at hr
          by_cases cl : s.length ≤ i
          · have cl' : (s.length : Int) ≤ (i : Int) := by omega
            rw [List.drop_eq_nil_of_le cl, fgo] at hr
            simp (implicitDefEqProofs := false) only [sB, simprocAttr, cl']
            exact hQ _ _ _ ⟨rfl, .inr ⟨rfl, by rw [← hr]; rfl, by rw [← hr]; rfl⟩⟩
          · have cl' : ¬ (s.length : Int) ≤ (i : Int) := by omega
            have hx : s[i]? = some s[i] := List.getElem?_eq_getElem (by omega)
            rw [List.drop_eq_getElem_cons (by omega), fgo] at hr
            by_cases b1 : n8 s[i] < (lo : Int)
            · rw [if_pos (.inl (by unfold n8 at b1; omega))] at hr
              simp (implicitDefEqProofs := false) only [sB, simprocAttr, cl', i0, hx, byteAV_n8, b1]
              exact hQ _ _ _ ⟨rfl, .inr ⟨rfl, by rw [← hr]; rfl, by rw [← hr]; rfl⟩⟩
            · by_cases b2 : (hi : Int) < n8 s[i]
              · rw [if_pos (.inr (by unfold n8 at b2; omega))] at hr
                simp (implicitDefEqProofs := false) only [sB, simprocAttr, cl', i0, hx, byteAV_n8, b1, b2]
                exact hQ _ _ _ ⟨rfl, .inr ⟨rfl, by rw [← hr]; rfl, by rw [← hr]; rfl⟩⟩
              · rw [if_neg (by rw [not_or]; unfold n8 at b1 b2; omega)] at hr
                simp (implicitDefEqProofs := false) only [sB, simprocAttr, cl', i0, hx, byteAV_n8, b1, b2, r9]
                exact ⟨_, .refl _, ⟨i + 1, 128, 191, rfl, by omega, by omega, by omega, by decide, by decide, by rw [← hr]; congr 1; omega, by simp⟩, by omega⟩
        · have d9 : ¬ (i : Int) < 3 := by simpa using d
          have d' : i = 3 := by omega
          subst d'
          simp (implicitDefEqProofs := false) only [sB, simprocAttr]
          exact hQ _ _ _ ⟨rfl, .inl ⟨rfl, by rw [← hr]; rfl, rfl⟩⟩
    · have g0 : (194 ≤ n8 c) = True := eq_true (show 194 ≤ n8 c by omega)
      have g1 : (n8 c ≤ 223) = False := eq_false (show ¬ n8 c ≤ 223 by omega)
      have g2 : (224 ≤ n8 c) = True := eq_true (show 224 ≤ n8 c by omega)
      have g3 : (n8 c ≤ 239) = True := eq_true (show n8 c ≤ 239 by omega)
      have g4 : (n8 c = 224) = False := eq_false (show ¬ n8 c = 224 by omega)
      have g5 : (n8 c = 237) = True := eq_true (show n8 c = 237 by omega)
      have e1 : szOf c.toNat = 3 := by unfold szOf; unfold n8 at k; (repeat' split) <;> omega
      have e2 : loOf c.toNat = 128 := by unfold loOf; unfold n8 at k; (repeat' split) <;> omega
      have e3 : hiOf c.toNat = 159 := by unfold hiOf; unfold n8 at k; (repeat' split) <;> omega
      rw [e1, e2, e3] at hf
      simp (implicitDefEqProofs := false) only [sB, simprocAttr, f84, hne, byteAV_n8, h1, g0, g1, g2, g3, g4, g5]
      generalize hS : c :: r = s at hf h hs hne ⊢
      have hS1 : s.drop 1 = r := by rw [← hS]; rfl
      have hS2 : 1 ≤ s.length := by rw [← hS]; simp
      rw [← hS1] at hf
      refine i_loopJ (fun σ H1 => ∃ (i lo hi : Nat), H1 = H ∧ 1 ≤ i ∧ i ≤ 3 ∧ i ≤ s.length ∧ lo < 256 ∧ hi < 256 ∧ fgo 3 (3 - i) lo hi (s.drop i) = fst s ∧ σ = [(0, .str s), (5, .int .i64 3), (6, .int .u8 lo), (7, .int .u8 hi), (8, .int .i64 i)])
        (fun σ _ => match σ.get 8 with | .int _ n => 3 - n.toNat | _ => 0)
        (fun e σ H1 => H1 = H ∧ ((e = .exit 2 ∧ fst s = (3, false) ∧ σ.get 5 = .int .i64 3) ∨ (e = .ret ∧ σ.get 2 = .int .i64 (fst s).1 ∧ σ.get 3 = .bool (fst s).2)))
        ⟨_, .refl _, 1, 128, 159, rfl, by decide, by decide, hS2, by decide, by decide, hf.symm, rfl⟩ ?_ ?_
      · rintro e σ H1 ⟨rfl, ⟨rfl, f1, q5⟩ | ⟨rfl, q2, q3⟩⟩
        · rw [f1] at h
          simp (implicitDefEqProofs := false) only [sB, simprocAttr, q5]
          exact ⟨_, .refl _, h⟩
        · simp (implicitDefEqProofs := false) only [sB, simprocAttr, q2, q3]
          exact ⟨_, .refl _, h⟩
      · rintro Q hQ σ H1 ⟨i, lo, hi, rfl, i1, i2, i3, lo1, hi1, hr, rfl⟩
        have r9 := w_i64 ((i : Int) + 1) (by omega) (by omega)
        have i0 : (0 : Int) ≤ (i : Int) := by omega
        simp (implicitDefEqProofs := false) only [sB, simprocAttr]
        refine i_if (fun d => ?_) (fun d => ?_)
        · have d9 : (i : Int) < 3 := by simpa using d
          have d' : i < 3 := by omega
          obtain ⟨m, hm⟩ : ∃ m, 3 - i = m + 1 := ⟨3 - i - 1, by omega⟩
          rw [hm] at hr
          by_cases cl : s.length ≤ i
          · have cl' : (s.length : Int) ≤ (i : Int) := by omega
            rw [List.drop_eq_nil_of_le cl, fgo] at hr
            simp (implicitDefEqProofs := false) only [sB, simprocAttr, cl']
            exact hQ _ _ _ ⟨rfl, .inr ⟨rfl, by rw [← hr]; rfl, by rw [← hr]; rfl⟩⟩
          · have cl' : ¬ (s.length : Int) ≤ (i : Int) := by omega
            have hx : s[i]? = some s[i] := List.getElem?_eq_getElem (by omega)
            rw [List.drop_eq_getElem_cons (by omega), fgo] at hr
            by_cases b1 : n8 s[i] < (lo : Int)
            · rw [if_pos (.inl (by unfold n8 at b1; omega))] at hr
              simp (implicitDefEqProofs := false) only [sB, simprocAttr, cl', i0, hx, byteAV_n8, b1]
              exact hQ _ _ _ ⟨rfl, .inr ⟨rfl, by rw [← hr]; rfl, by rw [← hr]; rfl⟩⟩
            · by_cases b2 : (hi : Int) < n8 s[i]
              · rw [if_pos (.inr (by unfold n8 at b2; omega))] at hr
                simp (implicitDefEqProofs := false) only [sB, simprocAttr, cl', i0, hx, byteAV_n8, b1, b2]
                exact hQ _ _ _ ⟨rfl, .inr ⟨rfl, by rw [← hr]; rfl, by rw [← hr]; rfl⟩⟩
              · rw [if_neg (by rw [not_or]; unfold n8 at b1 b2; omega)] at hr
                simp (implicitDefEqProofs := false) only [sB, simprocAttr, cl', i0, hx, byteAV_n8, b1, b2, r9]
                exact ⟨_, .refl _, ⟨i + 1, 128, 191, rfl, by omega, by omega, by omega, by decide, by decide, by rw [← hr]; congr 1; omega, by simp⟩, by omega⟩
        · have d9 : ¬ (i : Int) < 3 := by simpa using d
          have d' : i = 3 := by omega
          subst d'
          simp (implicitDefEqProofs := false) only [sB, simprocAttr]
          exact hQ _ _ _ ⟨rfl, .inl ⟨rfl, by rw [← hr]; rfl, rfl⟩⟩
    · have g0 : (194 ≤ n8 c) = True := eq_true (show 194 ≤ n8 c by omega)
      have g1 : (n8 c ≤ 223) = False := eq_false (show ¬ n8 c ≤ 223 by omega)
      have g2 : (224 ≤ n8 c) = True := eq_true (show 224 ≤ n8 c by omega)
      have g3 : (n8 c ≤ 239) = True := eq_true (show n8 c ≤ 239 by omega)
      have g4 : (n8 c = 224) = False := eq_false (show ¬ n8 c = 224 by omega)
      have g5 : (n8 c = 237) = False := eq_false (show ¬ n8 c = 237 by omega)
      have g6 : (n8 c = 240) = False := eq_false (show ¬ n8 c = 240 by omega)
      have g7 : (n8 c = 244) = False := eq_false (show ¬ n8 c = 244 by omega)
      have e1 : szOf c.toNat = 3 := by unfold szOf; unfold n8 at k; (repeat' split) <;> omega
      have e2 : loOf c.toNat = 128 := by unfold loOf; unfold n8 at k; (repeat' split) <;> omega
      have e3 : hiOf c.toNat = 191 := by unfold hiOf; unfold n8 at k; (repeat' split) <;> omega
      rw [e1, e2, e3] at hf
      simp (implicitDefEqProofs := false) only [sB, simprocAttr, f84, hne, byteAV_n8, h1, g0, g1, g2, g3, g4, g5, g6, g7]
      generalize hS : c :: r = s at hf h hs hne ⊢
      have hS1 : s.drop 1 = r := by rw [← hS]; rfl
      have hS2 : 1 ≤ s.length := by rw [← hS]; simp
      rw [← hS1] at hf
      refine i_loopJ (fun σ H1 => ∃ (i lo hi : Nat), H1 = H ∧ 1 ≤ i ∧ i ≤ 3 ∧ i ≤ s.length ∧ lo < 256 ∧ hi < 256 ∧ fgo 3 (3 - i) lo hi (s.drop i) = fst s ∧ σ = [(0, .str s), (5, .int .i64 3), (6, .int .u8 lo), (7, .int .u8 hi), (8, .int .i64 i)])
        (fun σ _ => match σ.get 8 with | .int _ n => 3 - n.toNat | _ => 0)
        (fun e σ H1 => H1 = H ∧ ((e = .exit 2 ∧ fst s = (3, false) ∧ σ.get 5 = .int .i64 3) ∨ (e = .ret ∧ σ.get 2 = .int .i64 (fst s).1 ∧ σ.get 3 = .bool (fst s).2)))
        ⟨_, .refl _, 1, 128, 191, rfl, by decide, by decide, hS2, by decide, by decide, hf.symm, rfl⟩ ?_ ?_
      · rintro e σ H1 ⟨rfl, ⟨rfl, f1, q5⟩ | ⟨rfl, q2, q3⟩⟩
        · rw [f1] at h
          simp (implicitDefEqProofs := false) only [sB, simprocAttr, q5]
          exact ⟨_, .refl _, h⟩
        · simp (implicitDefEqProofs := false) only [sB, simprocAttr, q2, q3]
          exact ⟨_, .refl _, h⟩
      · rintro Q hQ σ H1 ⟨i, lo, hi, rfl, i1, i2, i3, lo1, hi1, hr, rfl⟩
        have r9 := w_i64 ((i : Int) + 1) (by omega) (by omega)
        have i0 : (0 : Int) ≤ (i : Int) := by omega
        simp (implicitDefEqProofs := false) only [sB, simprocAttr]
        refine i_if (fun d => ?_) (fun d => ?_)
        · have d9 : (i : Int) < 3 := by simpa using d
          have d' : i < 3 := by omega
          obtain ⟨m, hm⟩ : ∃ m, 3 - i = m + 1 := ⟨3 - i - 1, by omega⟩
          rw [hm] at hr
          by_cases cl : s.length ≤ i
          · have cl' : (s.length : Int) ≤ (i : Int) := by omega
            rw [List.drop_eq_nil_of_le cl, fgo] at hr
            simp (implicitDefEqProofs := false) only [sB, simprocAttr, cl']
            exact hQ _ _ _ ⟨rfl, .inr ⟨rfl, by rw [← hr]; rfl, by rw [← hr]; rfl⟩⟩
          · have cl' : ¬ (s.length : Int) ≤ (i : Int) := by omega
            have hx : s[i]? = some s[i] := List.getElem?_eq_getElem (by omega)
            rw [List.drop_eq_getElem_cons (by omega), fgo] at hr
            by_cases b1 : n8 s[i] < (lo : Int)
            · rw [if_pos (.inl (by unfold n8 at b1; omega))] at hr
              simp (implicitDefEqProofs := false) only [sB, simprocAttr, cl', i0, hx, byteAV_n8, b1]
              exact hQ _ _ _ ⟨rfl, .inr ⟨rfl, by rw [← hr]; rfl, by rw [← hr]; rfl⟩⟩
            · by_cases b2 : (hi : Int) < n8 s[i]
              · rw [if_pos (.inr (by unfold n8 at b2; omega))] at hr
                simp (implicitDefEqProofs := false) only [sB, simprocAttr, cl', i0, hx, byteAV_n8, b1, b2]
                exact hQ _ _ _ ⟨rfl, .inr ⟨rfl, by rw [← hr]; rfl, by rw [← hr]; rfl⟩⟩
              · rw [if_neg (by rw [not_or]; unfold n8 at b1 b2; omega)] at hr
                simp (implicitDefEqProofs := false) only [sB, simprocAttr, cl', i0, hx, byteAV_n8, b1, b2, r9]
                exact ⟨_, .refl _, ⟨i + 1, 128, 191, rfl, by omega, by omega, by omega, by decide, by decide, by rw [← hr]; congr 1; omega, by simp⟩, by omega⟩
        · have d9 : ¬ (i : Int) < 3 := by simpa using d
          have d' : i = 3 := by omega
          subst d'
          simp (implicitDefEqProofs := false) only [sB, simprocAttr]
          exact hQ _ _ _ ⟨rfl, .inl ⟨rfl, by rw [← hr]; rfl, rfl⟩⟩
    · have g0 : (194 ≤ n8 c) = True := eq_true (show 194 ≤ n8 c by omega)
      have g1 : (n8 c ≤ 223) = False := eq_false (show ¬ n8 c ≤ 223 by omega)
      have g2 : (224 ≤ n8 c) = True := eq_true (show 224 ≤ n8 c by omega)
      have g3 : (n8 c ≤ 239) = False := eq_false (show ¬ n8 c ≤ 239 by omega)
      have g4 : (240 ≤ n8 c) = True := eq_true (show 240 ≤ n8 c by omega)
      have g5 : (n8 c ≤ 244) = True := eq_true (show n8 c ≤ 244 by omega)
      have g6 : (n8 c = 224) = False := eq_false (show ¬ n8 c = 224 by omega)
      have g7 : (n8 c = 237) = False := eq_false (show ¬ n8 c = 237 by omega)
      have g8 : (n8 c = 240) = True := eq_true (show n8 c = 240 by omega)
      have e1 : szOf c.toNat = 4 := by unfold szOf; unfold n8 at k; (repeat' split) <;> omega
      have e2 : loOf c.toNat = 144 := by unfold loOf; unfold n8 at k; (repeat' split) <;> omega
      have e3 : hiOf c.toNat = 191 := by unfold hiOf; unfold n8 at k; (repeat' split) <;> omega
      rw [e1, e2, e3] at hf
      simp (implicitDefEqProofs := false) only [sB, simprocAttr, f84, hne, byteAV_n8, h1, g0, g1, g2, g3, g4, g5, g6, g7, g8]
      generalize hS : c :: r = s at hf h hs hne ⊢
      have hS1 : s.drop 1 = r := by rw [← hS]; rfl
      have hS2 : 1 ≤ s.length := by rw [← hS]; simp
      rw [← hS1] at hf
      refine i_loopJ (fun σ H1 => ∃ (i lo hi : Nat), H1 = H ∧ 1 ≤ i ∧ i ≤ 4 ∧ i ≤ s.length ∧ lo < 256 ∧ hi < 256 ∧ fgo 4 (4 - i) lo hi (s.drop i) = fst s ∧ σ = [(0, .str s), (5, .int .i64 4), (6, .int .u8 lo), (7, .int .u8 hi), (8, .int .i64 i)])
        (fun σ _ => match σ.get 8 with | .int _ n => 4 - n.toNat | _ => 0)
        (fun e σ H1 => H1 = H ∧ ((e = .exit 2 ∧ fst s = (4, false) ∧ σ.get 5 = .int .i64 4) ∨ (e = .ret ∧ σ.get 2 = .int .i64 (fst s).1 ∧ σ.get 3 = .bool (fst s).2)))
        ⟨_, .refl _, 1, 144, 191, rfl, by decide, by decide, hS2, by decide, by decide, hf.symm, rfl⟩ ?_ ?_
      · rintro e σ H1 ⟨rfl, ⟨rfl, f1, q5⟩ | ⟨rfl, q2, q3⟩⟩
        · rw [f1] at h
          simp (implicitDefEqProofs := false) only [sB, simprocAttr, q5]
          exact ⟨_, .refl _, h⟩
        · simp (implicitDefEqProofs := false) only [sB, simprocAttr, q2, q3]
          exact ⟨_, .refl _, h⟩
      · rintro Q hQ σ H1 ⟨i, lo, hi, rfl, i1, i2, i3, lo1, hi1, hr, rfl⟩
        have r9 := w_i64 ((i : Int) + 1) (by omega) (by omega)
        have i0 : (0 : Int) ≤ (i : Int) := by omega
        simp (implicitDefEqProofs := false) only [sB, simprocAttr]
        refine i_if (fun d => ?_) (fun d => ?_)
        · have d9 : (i : Int) < 4 := by simpa using d
          have d' : i < 4 := by omega
          obtain ⟨m, hm⟩ : ∃ m, 4 - i = m + 1 := ⟨4 - i - 1, by omega⟩
          rw [hm] at hr
          by_cases cl : s.length ≤ i
          · have cl' : (s.length : Int) ≤ (i : Int) := by omega
            rw [List.drop_eq_nil_of_le cl, fgo] at hr
            simp (implicitDefEqProofs := false) only [sB, simprocAttr, cl']
            exact hQ _ _ _ ⟨rfl, .inr ⟨rfl, by rw [← hr]; rfl, by rw [← hr]; rfl⟩⟩
          · have cl' : ¬ (s.length : Int) ≤ (i : Int) := by omega
            have hx : s[i]? = some s[i] := List.getElem?_eq_getElem (by omega)
            rw [List.drop_eq_getElem_cons (by omega), fgo] at hr
            by_cases b1 : n8 s[i] < (lo : Int)
            · rw [if_pos (.inl (by unfold n8 at b1; omega))] at hr
              simp (implicitDefEqProofs := false) only [sB, simprocAttr, cl', i0, hx, byteAV_n8, b1]
              exact hQ _ _ _ ⟨rfl, .inr ⟨rfl, by rw [← hr]; rfl, by rw [← hr]; rfl⟩⟩
            · by_cases b2 : (hi : Int) < n8 s[i]
              · rw [if_pos (.inr (by unfold n8 at b2; omega))] at hr
                simp (implicitDefEqProofs := false) only [sB, simprocAttr, cl', i0, hx, byteAV_n8, b1, b2]
                exact hQ _ _ _ ⟨rfl, .inr ⟨rfl, by rw [← hr]; rfl, by rw [← hr]; rfl⟩⟩
              · rw [if_neg (by rw [not_or]; unfold n8 at b1 b2; omega)] at hr
                simp (implicitDefEqProofs := false) only [sB, simprocAttr, cl', i0, hx, byteAV_n8, b1, b2, r9]
                exact ⟨_, .refl _, ⟨i + 1, 128, 191, rfl, by omega, by omega, by omega, by decide, by decide, by rw [← hr]; congr 1; omega, by simp⟩, by omega⟩
        · have d9 : ¬ (i : Int) < 4 := by simpa using d
          have d' : i = 4 := by omega
          subst d'
          simp (implicitDefEqProofs := false) only [sB, simprocAttr]
          exact hQ _ _ _ ⟨rfl, .inl ⟨rfl, by rw [← hr]; rfl, rfl⟩⟩
    · have g0 : (194 ≤ n8 c) = True := eq_true (show 194 ≤ n8 c by omega)
      have g1 : (n8 c ≤ 223) = False := eq_false (show ¬ n8 c ≤ 223 by omega)
      have g2 : (224 ≤ n8 c) = True := eq_true (show 224 ≤ n8 c by omega)
      have g3 : (n8 c ≤ 239) = False := eq_false (show ¬ n8 c ≤ 239 by omega)
      have g4 : (240 ≤ n8 c) = True := eq_true (show 240 ≤ n8 c by omega)
      have g5 : (n8 c ≤ 244) = True := eq_true (show n8 c ≤ 244 by omega)
      have g6 : (n8 c = 224) = False := eq_false (show ¬ n8 c = 224 by omega)
      have g7 : (n8 c = 237) = False := eq_false (show ¬ n8 c = 237 by omega)
      have g8 : (n8 c = 240) = False := eq_false (show ¬ n8 c = 240 by omega)
      have g9 : (n8 c = 244) = True := eq_true (show n8 c = 244 by omega)
      have e1 : szOf c.toNat = 4 := by unfold szOf; unfold n8 at k; (repeat' split) <;> omega
      have e2 : loOf c.toNat = 128 := by unfold loOf; unfold n8 at k; (repeat' split) <;> omega
      have e3 : hiOf c.toNat = 143 := by unfold hiOf; unfold n8 at k; (repeat' split) <;> omega
      rw [e1, e2, e3] at hf
      simp (implicitDefEqProofs := false) only [sB, simprocAttr, f84, hne, byteAV_n8, h1, g0, g1, g2, g3, g4, g5, g6, g7, g8, g9]
      generalize hS : c :: r = s at hf h hs hne ⊢
      have hS1 : s.drop 1 = r := by rw [← hS]; rfl
      have hS2 : 1 ≤ s.length := by rw [← hS]; simp
      rw [← hS1] at hf
      refine i_loopJ (fun σ H1 => ∃ (i lo hi : Nat), H1 = H ∧ 1 ≤ i ∧ i ≤ 4 ∧ i ≤ s.length ∧ lo < 256 ∧ hi < 256 ∧ fgo 4 (4 - i) lo hi (s.drop i) = fst s ∧ σ = [(0, .str s), (5, .int .i64 4), (6, .int .u8 lo), (7, .int .u8 hi), (8, .int .i64 i)])
        (fun σ _ => match σ.get 8 with | .int _ n => 4 - n.toNat | _ => 0)
        (fun e σ H1 => H1 = H ∧ ((e = .exit 2 ∧ fst s = (4, false) ∧ σ.get 5 = .int .i64 4) ∨ (e = .ret ∧ σ.get 2 = .int .i64 (fst s).1 ∧ σ.get 3 = .bool (fst s).2)))
        ⟨_, .refl _, 1, 128, 143, rfl, by decide, by decide, hS2, by decide, by decide, hf.symm, rfl⟩ ?_ ?_
      · rintro e σ H1 ⟨rfl, ⟨rfl, f1, q5⟩ | ⟨rfl, q2, q3⟩⟩
        · rw [f1] at h
          simp (implicitDefEqProofs := false) only [sB, simprocAttr, q5]
          exact ⟨_, .refl _, h⟩
        · simp (implicitDefEqProofs := false) only [sB, simprocAttr, q2, q3]
          exact ⟨_, .refl _, h⟩
      · rintro Q hQ σ H1 ⟨i, lo, hi, rfl, i1, i2, i3, lo1, hi1, hr, rfl⟩
        have r9 := w_i64 ((i : Int) + 1) (by omega) (by omega)
        have i0 : (0 : Int) ≤ (i : Int) := by omega
        simp (implicitDefEqProofs := false) only [sB, simprocAttr]
        refine i_if (fun d => ?_) (fun d => ?_)
        · have d9 : (i : Int) < 4 := by simpa using d
          have d' : i < 4 := by omega
          obtain ⟨m, hm⟩ : ∃ m, 4 - i = m + 1 := ⟨4 - i - 1, by omega⟩
          rw [hm] at hr
          by_cases cl : s.length ≤ i
          · have cl' : (s.length : Int) ≤ (i : Int) := by omega
            rw [List.drop_eq_nil_of_le cl, fgo] at hr
            simp (implicitDefEqProofs := false) only [sB, simprocAttr, cl']
            exact hQ _ _ _ ⟨rfl, .inr ⟨rfl, by rw [← hr]; rfl, by rw [← hr]; rfl⟩⟩
          · have cl' : ¬ (s.length : Int) ≤ (i : Int) := by omega
            have hx : s[i]? = some s[i] := List.getElem?_eq_getElem (by omega)
            rw [List.drop_eq_getElem_cons (by omega), fgo] at hr
            by_cases b1 : n8 s[i] < (lo : Int)
            · rw [if_pos (.inl (by unfold n8 at b1; omega))] at hr
              simp (implicitDefEqProofs := false) only [sB, simprocAttr, cl', i0, hx, byteAV_n8, b1]
              exact hQ _ _ _ ⟨rfl, .inr ⟨rfl, by rw [← hr]; rfl, by rw [← hr]; rfl⟩⟩
            · by_cases b2 : (hi : Int) < n8 s[i]
              · rw [if_pos (.inr (by unfold n8 at b2; omega))] at hr
                simp (implicitDefEqProofs := false) only [sB, simprocAttr, cl', i0, hx, byteAV_n8, b1, b2]
                exact hQ _ _ _ ⟨rfl, .inr ⟨rfl, by rw [← hr]; rfl, by rw [← hr]; rfl⟩⟩
              · rw [if_neg (by rw [not_or]; unfold n8 at b1 b2; omega)] at hr
                simp (implicitDefEqProofs := false) only [sB, simprocAttr, cl', i0, hx, byteAV_n8, b1, b2, r9]
                exact ⟨_, .refl _, ⟨i + 1, 128, 191, rfl, by omega, by omega, by omega, by decide, by decide, by rw [← hr]; congr 1; omega, by simp⟩, by omega⟩
        · have d9 : ¬ (i : Int) < 4 := by simpa using d
          have d' : i = 4 := by omega
          subst d'
          simp (implicitDefEqProofs := false) only [sB, simprocAttr]
          exact hQ _ _ _ ⟨rfl, .inl ⟨rfl, by rw [← hr]; rfl, rfl⟩⟩
    · have g0 : (194 ≤ n8 c) = True := eq_true (show 194 ≤ n8 c by omega)
      have g1 : (n8 c ≤ 223) = False := eq_false (show ¬ n8 c ≤ 223 by omega)
      have g2 : (224 ≤ n8 c) = True := eq_true (show 224 ≤ n8 c by omega)
      have g3 : (n8 c ≤ 239) = False := eq_false (show ¬ n8 c ≤ 239 by omega)
      have g4 : (240 ≤ n8 c) = True := eq_true (show 240 ≤ n8 c by omega)
      have g5 : (n8 c ≤ 244) = True := eq_true (show n8 c ≤ 244 by omega)
      have g6 : (n8 c = 224) = False := eq_false (show ¬ n8 c = 224 by omega)
      have g7 : (n8 c = 237) = False := eq_false (show ¬ n8 c = 237 by omega)
      have g8 : (n8 c = 240) = False := eq_false (show ¬ n8 c = 240 by omega)
      have g9 : (n8 c = 244) = False := eq_false (show ¬ n8 c = 244 by omega)
      have e1 : szOf c.toNat = 4 := by unfold szOf; unfold n8 at k; (repeat' split) <;> omega
      have e2 : loOf c.toNat = 128 := by unfold loOf; unfold n8 at k; (repeat' split) <;> omega
      have e3 : hiOf c.toNat = 191 := by unfold hiOf; unfold n8 at k; (repeat' split) <;> omega
      rw [e1, e2, e3] at hf
      simp (implicitDefEqProofs := false) only [sB, simprocAttr, f84, hne, byteAV_n8, h1, g0, g1, g2, g3, g4, g5, g6, g7, g8, g9]
      generalize hS : c :: r = s at hf h hs hne ⊢
      have hS1 : s.drop 1 = r := by rw [← hS]; rfl
      have hS2 : 1 ≤ s.length := by rw [← hS]; simp
      rw [← hS1] at hf
      refine i_loopJ (fun σ H1 => ∃ (i lo hi : Nat), H1 = H ∧ 1 ≤ i ∧ i ≤ 4 ∧ i ≤ s.length ∧ lo < 256 ∧ hi < 256 ∧ fgo 4 (4 - i) lo hi (s.drop i) = fst s ∧ σ = [(0, .str s), (5, .int .i64 4), (6, .int .u8 lo), (7, .int .u8 hi), (8, .int .i64 i)])
        (fun σ _ => match σ.get 8 with | .int _ n => 4 - n.toNat | _ => 0)
        (fun e σ H1 => H1 = H ∧ ((e = .exit 2 ∧ fst s = (4, false) ∧ σ.get 5 = .int .i64 4) ∨ (e = .ret ∧ σ.get 2 = .int .i64 (fst s).1 ∧ σ.get 3 = .bool (fst s).2)))
        ⟨_, .refl _, 1, 128, 191, rfl, by decide, by decide, hS2, by decide, by decide, hf.symm, rfl⟩ ?_ ?_
      · rintro e σ H1 ⟨rfl, ⟨rfl, f1, q5⟩ | ⟨rfl, q2, q3⟩⟩
        · rw [f1] at h
          simp (implicitDefEqProofs := false) only [sB, simprocAttr, q5]
          exact ⟨_, .refl _, h⟩
        · simp (implicitDefEqProofs := false) only [sB, simprocAttr, q2, q3]
          exact ⟨_, .refl _, h⟩
      · rintro Q hQ σ H1 ⟨i, lo, hi, rfl, i1, i2, i3, lo1, hi1, hr, rfl⟩
        have r9 := w_i64 ((i : Int) + 1) (by omega) (by omega)
        have i0 : (0 : Int) ≤ (i : Int) := by omega
        simp (implicitDefEqProofs := false) only [sB, simprocAttr]
        refine i_if (fun d => ?_) (fun d => ?_)
        · have d9 : (i : Int) < 4 := by simpa using d
          have d' : i < 4 := by omega
          obtain ⟨m, hm⟩ : ∃ m, 4 - i = m + 1 := ⟨4 - i - 1, by omega⟩
          rw [hm] at hr
          by_cases cl : s.length ≤ i
          · have cl' : (s.length : Int) ≤ (i : Int) := by omega
            rw [List.drop_eq_nil_of_le cl, fgo] at hr
            simp (implicitDefEqProofs := false) only [sB, simprocAttr, cl']
            exact hQ _ _ _ ⟨rfl, .inr ⟨rfl, by rw [← hr]; rfl, by rw [← hr]; rfl⟩⟩
          · have cl' : ¬ (s.length : Int) ≤ (i : Int) := by omega
            have hx : s[i]? = some s[i] := List.getElem?_eq_getElem (by omega)
            rw [List.drop_eq_getElem_cons (by omega), fgo] at hr
            by_cases b1 : n8 s[i] < (lo : Int)
            · rw [if_pos (.inl (by unfold n8 at b1; omega))] at hr
              simp (implicitDefEqProofs := false) only [sB, simprocAttr, cl', i0, hx, byteAV_n8, b1]
              exact hQ _ _ _ ⟨rfl, .inr ⟨rfl, by rw [← hr]; rfl, by rw [← hr]; rfl⟩⟩
            · by_cases b2 : (hi : Int) < n8 s[i]
              · rw [if_pos (.inr (by unfold n8 at b2; omega))] at hr
                simp (implicitDefEqProofs := false) only [sB, simprocAttr, cl', i0, hx, byteAV_n8, b1, b2]
                exact hQ _ _ _ ⟨rfl, .inr ⟨rfl, by rw [← hr]; rfl, by rw [← hr]; rfl⟩⟩
              · rw [if_neg (by rw [not_or]; unfold n8 at b1 b2; omega)] at hr
                simp (implicitDefEqProofs := false) only [sB, simprocAttr, cl', i0, hx, byteAV_n8, b1, b2, r9]
                exact ⟨_, .refl _, ⟨i + 1, 128, 191, rfl, by omega, by omega, by omega, by decide, by decide, by rw [← hr]; congr 1; omega, by simp⟩, by omega⟩
        · have d9 : ¬ (i : Int) < 4 := by simpa using d
          have d' : i = 4 := by omega
          subst d'
          simp (implicitDefEqProofs := false) only [sB, simprocAttr]
          exact hQ _ _ _ ⟨rfl, .inl ⟨rfl, by rw [← hr]; rfl, rfl⟩⟩

def c85 (xs : List AV) (H : Heap) (K : Kv) : Prop := ∃ (s : List UInt8), xs = [.str s] ∧ Shape s s.length ∧ K.ap (.int .i32 (val s)) H
theorem c85_of (P : Program) {G : Nat → Option (List AV)} {xs : List AV} {H : Heap} {K : Kv} (h : c85 xs H K) : @xF ⟨G, P, []⟩ f85 xs H K := by
  obtain ⟨s, rfl, hsh, h⟩ := h
  generalize hn : s.length = n at hsh
  cases hsh with
  | one c t q1 =>
    have ht : t = [] := by simpa using hn
    subst ht
    have r1 := w_i32 (n8 c) (by unfold n8; omega) (by unfold n8; omega)
    simp (implicitDefEqProofs := false) only [sB, simprocAttr, f85, byteAV_n8, r1]
    exact h
  | two c b t q1 q2 q3 q4 =>
    have ht : t = [] := by simpa using hn
    subst ht
    have r1 := w_u8 (n8 c - 192) (by unfold n8; omega) (by unfold n8; omega)
    have r2 := w_i32 (n8 c - 192) (by unfold n8; omega) (by unfold n8; omega)
    have r3 := w_i32 ((n8 c - 192) * 64) (by unfold n8; omega) (by unfold n8; omega)
    have r4 := w_u8 (n8 b - 128) (by unfold n8; omega) (by unfold n8; omega)
    have r5 := w_i32 (n8 b - 128) (by unfold n8; omega) (by unfold n8; omega)
    have r6 := w_i32 ((n8 c - 192) * 64 + (n8 b - 128)) (by unfold n8; omega) (by unfold n8; omega)
    simp (implicitDefEqProofs := false) only [sB, simprocAttr, f85, byteAV_n8, r1, r2, r3, r4, r5, r6, sh6]
    exact h
  | three c b d t q1 q2 q3 q4 q5 q6 =>
    have ht : t = [] := by simpa using hn
    subst ht
    have lo := lo_ge c.toNat
    have hi := hi_le c.toNat
    have r1 := w_u8 (n8 c - 224) (by unfold n8; omega) (by unfold n8; omega)
    have r2 := w_i32 (n8 c - 224) (by unfold n8; omega) (by unfold n8; omega)
    have r3 := w_i32 ((n8 c - 224) * 4096) (by unfold n8; omega) (by unfold n8; omega)
    have r4 := w_u8 (n8 b - 128) (by unfold n8; omega) (by unfold n8; omega)
    have r5 := w_i32 (n8 b - 128) (by unfold n8; omega) (by unfold n8; omega)
    have r6 := w_i32 ((n8 b - 128) * 64) (by unfold n8; omega) (by unfold n8; omega)
    have r7 := w_i32 ((n8 c - 224) * 4096 + (n8 b - 128) * 64) (by unfold n8; omega) (by unfold n8; omega)
    have r8 := w_u8 (n8 d - 128) (by unfold n8; omega) (by unfold n8; omega)
    have r9 := w_i32 (n8 d - 128) (by unfold n8; omega) (by unfold n8; omega)
    have r10 := w_i32 ((n8 c - 224) * 4096 + (n8 b - 128) * 64 + (n8 d - 128)) (by unfold n8; omega) (by unfold n8; omega)
    simp (implicitDefEqProofs := false) only [sB, simprocAttr, f85, byteAV_n8, r1, r2, r3, r4, r5, r6, r7, r8, r9, r10, sh6, sh12]
    exact h
  | four c b d e t q1 q2 q3 q4 q5 q6 q7 q8 =>
    have ht : t = [] := by simpa using hn
    subst ht
    have lo := lo_ge c.toNat
    have hi := hi_le c.toNat
    have r1 := w_u8 (n8 c - 240) (by unfold n8; omega) (by unfold n8; omega)
    have r2 := w_i32 (n8 c - 240) (by unfold n8; omega) (by unfold n8; omega)
    have r3 := w_i32 ((n8 c - 240) * 262144) (by unfold n8; omega) (by unfold n8; omega)
    have r4 := w_u8 (n8 b - 128) (by unfold n8; omega) (by unfold n8; omega)
    have r5 := w_i32 (n8 b - 128) (by unfold n8; omega) (by unfold n8; omega)
    have r6 := w_i32 ((n8 b - 128) * 4096) (by unfold n8; omega) (by unfold n8; omega)
    have r7 := w_i32 ((n8 c - 240) * 262144 + (n8 b - 128) * 4096) (by unfold n8; omega) (by unfold n8; omega)
    have r8 := w_u8 (n8 d - 128) (by unfold n8; omega) (by unfold n8; omega)
    have r9 := w_i32 (n8 d - 128) (by unfold n8; omega) (by unfold n8; omega)
    have r10 := w_i32 ((n8 d - 128) * 64) (by unfold n8; omega) (by unfold n8; omega)
    have r11 := w_i32 ((n8 c - 240) * 262144 + (n8 b - 128) * 4096 + (n8 d - 128) * 64) (by unfold n8; omega) (by unfold n8; omega)
    have r12 := w_u8 (n8 e - 128) (by unfold n8; omega) (by unfold n8; omega)
    have r13 := w_i32 (n8 e - 128) (by unfold n8; omega) (by unfold n8; omega)
    have r14 := w_i32 ((n8 c - 240) * 262144 + (n8 b - 128) * 4096 + (n8 d - 128) * 64 + (n8 e - 128)) (by unfold n8; omega) (by unfold n8; omega)
    simp (implicitDefEqProofs := false) only [sB, simprocAttr, f85, byteAV_n8, r1, r2, r3, r4, r5, r6, r7, r8, r9, r10, r11, r12, r13, r14, sh6, sh12, sh18]
    exact h
def c61 (xs : List AV) (H : Heap) (K : Kv) : Prop := ∃ s, xs = [.str s] ∧ s.length ≤ 1099511627776 ∧ K.ap (.bool (validP s)) H
theorem c61_of (P : Program) {G : Nat → Option (List AV)} {xs : List AV} {H : Heap} {K : Kv} (h : c61 xs H K) : @xF ⟨G, P, [(84, c84)]⟩ f61 xs H ⟨fun v H' => ∃ H0, Hle H0 H' ∧ K.ap v H0⟩ := by
  obtain ⟨s, rfl, hs, h⟩ := h
  simp (implicitDefEqProofs := false) only [sB, simprocAttr, f61]
  refine i_loopJ (fun σ H1 => ∃ (t : List UInt8), H1 = H ∧ t.length ≤ s.length ∧ validP t = validP s ∧ σ = [(0, .str t)])
    (fun σ _ => match σ.get 0 with | .str t => t.length | _ => 0)
    (fun e σ H1 => H1 = H ∧ ((e = .exit 0 ∧ validP s = true) ∨ (e = .ret ∧ σ.get 2 = .bool false ∧ validP s = false)))
    ⟨_, .refl _, s, rfl, Nat.le_refl _, rfl, rfl⟩ ?_ ?_
  · rintro e σ H1 ⟨rfl, ⟨rfl, e1⟩ | ⟨rfl, q2, e1⟩⟩
    · rw [e1] at h
      simp (implicitDefEqProofs := false) only [sB, simprocAttr]
      exact ⟨_, .refl _, h⟩
    · rw [e1] at h
      simp (implicitDefEqProofs := false) only [sB, simprocAttr, q2]
      exact ⟨_, .refl _, h⟩
  · rintro Q hQ σ H1 ⟨t, rfl, ht, hv, rfl⟩
    by_cases e0 : t = []
    · subst e0
      simp (implicitDefEqProofs := false) only [sB, simprocAttr]
      exact hQ _ _ _ ⟨rfl, .inl ⟨rfl, by rw [← hv]; rfl⟩⟩
    · rw [validP_step e0] at hv
      have hl := List.length_pos_iff.2 e0
      have hc := fst_cases t
      simp (implicitDefEqProofs := false) only [sB, simprocAttr, e0]
      refine x_c84 (by omega) _ _ ?_
      by_cases h0 : (fst t).1 = 0
      · rw [if_pos h0] at hv
        have z : (((fst t).1 : Nat) : Int) = 0 := by omega
        simp (implicitDefEqProofs := false) only [sB, simprocAttr, z]
        exact hQ _ _ _ ⟨rfl, .inr ⟨rfl, rfl, hv.symm⟩⟩
      · rw [if_neg h0] at hv
        have z : ¬ (((fst t).1 : Nat) : Int) = 0 := by omega
        have z1 : (0 : Int) ≤ ((fst t).1 : Int) := by omega
        have z2 : ((fst t).1 : Int) ≤ (t.length : Int) := by omega
        simp (implicitDefEqProofs := false) only [sB, simprocAttr, z, z1, z2]
        refine ⟨_, .refl _, ⟨_, rfl, ?_, hv, rfl⟩, ?_⟩
        · (try rw [List.length_drop]); omega
        · (try rw [List.length_drop]); omega
def c57 (xs : List AV) (H : Heap) (K : Kv) : Prop := ∃ s, xs = [.str s] ∧ H.keys.Nodup ∧ s.length ≤ 1099511627776 ∧ K.ap (.sl (i32AV (decP s)) (tokc (decP s))) H
theorem x_c57 {s : List UInt8} {H : Heap} (hn : H.keys.Nodup) (h : s.length ≤ 1099511627776) (K : Kv) (k : K.ap (.sl (i32AV (decP s)) (tokc (decP s))) H) : c57 [.str s] H K := ⟨s, rfl, hn, h, k⟩
theorem c57_of (P : Program) {G : Nat → Option (List AV)} {xs : List AV} {H : Heap} {K : Kv} (h : c57 xs H K) : @xF ⟨G, P, [(84, c84), (85, c85)]⟩ f57 xs H ⟨fun v H' => ∃ H0, Hle H0 H' ∧ ∃ v', AVle v v' ∧ K.ap v' H0⟩ := by
  obtain ⟨s, rfl, hn, hs, h⟩ := h
  simp (implicitDefEqProofs := false) only [sB, simprocAttr, f57]
  refine i_loopJ (fun σ H1 => ∃ (t : List UInt8) (out : List Int) (tk : Tok), H1.Perm (tokH tk ++ H) ∧ H1.keys.Nodup ∧ GC 1 (i32AV out) tk ∧ out.length + t.length ≤ s.length ∧ out ++ decP t = decP s ∧ σ = [(0, .str t), (3, .sl (i32AV out) tk)])
    (fun σ _ => match σ.get 0 with | .str t => t.length | _ => 0)
    (fun e σ H1 => e = .exit 0 ∧ ∃ tk, H1.Perm (tokH tk ++ H) ∧ GC 1 (i32AV (decP s)) tk ∧ σ.get 3 = .sl (i32AV (decP s)) tk)
    ⟨_, .refl _, s, [], .nil, .refl _, hn, rfl, by simp, rfl, rfl⟩ ?_ ?_
  · rintro e σ H1 ⟨rfl, tk, hp, hg, q⟩
    simp (implicitDefEqProofs := false) only [sB, simprocAttr, q]
    refine ⟨H, hle_tok hp, _, AVle.tok hg, ?_⟩
    rw [i32_tok]; exact h
  · rintro Q hQ σ H1 ⟨t, out, tk, hp, hn1, hg, ht, hd, rfl⟩
    by_cases e0 : t = []
    · subst e0
      rw [decP_nil, List.append_nil] at hd
      subst hd
      simp (implicitDefEqProofs := false) only [sB, simprocAttr]
      exact hQ _ _ _ ⟨rfl, tk, hp, hg, rfl⟩
    · rw [decP_step e0] at hd
      have hl := List.length_pos_iff.2 e0
      have hc := fst_cases t
      simp (implicitDefEqProofs := false) only [sB, simprocAttr, e0]
      refine x_c84 (by omega) _ _ ?_
      by_cases h0 : (fst t).1 = 0
      · have e1 : dec1 t = (65533, 1) := by unfold dec1; rw [if_pos h0]
        rw [e1] at hd
        have z : (((fst t).1 : Nat) : Int) = 0 := by omega
        have z2 : (1 : Int) ≤ (t.length : Int) := by omega
        simp (implicitDefEqProofs := false) only [sB, simprocAttr, z]
        refine i_sl ⟨⟨i32_all [65533], rfl, rfl⟩, i_new fun z0 hz => ?_⟩
        simp (implicitDefEqProofs := false) only [sB, simprocAttr]
        refine app_i32 (A := [(z0, .spare 1)]) 65533 _ (hp.cons _) (List.nodup_cons.2 ⟨hz, hn1⟩) hg (by omega) fun tk' H' g1 g2 g3 => ?_
        simp (implicitDefEqProofs := false) only [sB, simprocAttr, z2]
        refine ⟨_, g2, ⟨_, out ++ [65533], tk', .refl _, g3, g1, ?_, ?_, rfl, rfl⟩, ?_⟩
        · rw [List.length_drop, List.length_append, List.length_singleton]; omega
        · rw [List.append_assoc]; exact hd
        · (try rw [List.length_drop]); omega
      · have e1 := dec1_two h0
        rw [e1] at hd
        have z : ¬ (((fst t).1 : Nat) : Int) = 0 := by omega
        have z1 : (0 : Int) ≤ ((fst t).1 : Int) := by omega
        have z2 : ((fst t).1 : Int) ≤ (t.length : Int) := by omega
        simp (implicitDefEqProofs := false) only [sB, simprocAttr, z, z1, z2]
        have e2 := fst_self h0 (Nat.le_refl _)
        have l2 : (t.take (fst t).1).length = (fst t).1 := by rw [List.length_take]; omega
        refine ⟨_, rfl, ?_, ?_⟩
        · have := fst_shape (s := t.take (fst t).1) (by rw [e2]; exact h0)
          rw [e2] at this; rw [l2]; exact this
        simp (implicitDefEqProofs := false) only [sB, simprocAttr]
        refine i_sl ⟨⟨i32_all [val (t.take (fst t).1)], rfl, rfl⟩, i_new fun z0 hz => ?_⟩
        simp (implicitDefEqProofs := false) only [sB, simprocAttr]
        refine app_i32 (A := [(z0, .spare 1)]) (val (t.take (fst t).1)) _ (hp.cons _) (List.nodup_cons.2 ⟨hz, hn1⟩) hg (by omega) fun tk' H' g1 g2 g3 => ?_
        simp (implicitDefEqProofs := false) only [sB, simprocAttr, z1, z2]
        refine ⟨_, g2, ⟨_, out ++ [val (t.take (fst t).1)], tk', .refl _, g3, g1, ?_, ?_, rfl, rfl⟩, ?_⟩
        · rw [List.length_drop, List.length_append, List.length_singleton]; omega
        · rw [List.append_assoc]; exact hd
        · (try rw [List.length_drop]); omega
end Go.AL.Fun
