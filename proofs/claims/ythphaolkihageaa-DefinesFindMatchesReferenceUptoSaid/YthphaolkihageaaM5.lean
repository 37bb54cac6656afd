/- What is known of the lexer's and the parser's answers. -/
import Derived.Test.YthphaolkihageaaM4
set_option linter.unusedSimpArgs false
set_option linter.unusedVariables false
namespace Go.AL.Fun
open Go Go.AL

theorem form_le {L : Nat} {ws : List (List UInt8)} (h : ∀ w ∈ ws, w.length ≤ L) : (formR ws).1.s.length ≤ L ∧ (formR ws).1.path.length ≤ L := by
  cases ws with
  | nil => exact ⟨Nat.zero_le _, Nat.zero_le _⟩
  | cons w0 r =>
    have hr : ∀ w ∈ (if kwd w0 = 1 then w0 :: r else r), w.length ≤ L := by
      intro w hw; split at hw
      · exact h w hw
      · exact h w (List.mem_cons_of_mem _ hw)
    rw [formR]
    generalize (if kwd w0 = 1 then w0 :: r else r) = rest at hr
    have hN : ∀ s v rest', formN (kwd w0) rest = some (s, v, rest') → s.length ≤ L ∧ ∀ w ∈ rest', w.length ≤ L := by
      intro s v rest' e
      unfold formN at e
      split at e
      · cases rest with
        | nil => cases e
        | cons a r =>
          simp only at e
          split at e
          · cases e
          · cases e; exact ⟨hr _ List.mem_cons_self, fun w hw => hr w (List.mem_cons_of_mem _ hw)⟩
      · cases e; exact ⟨Nat.zero_le _, hr⟩
    cases hn : formN (kwd w0) rest with
    | none => exact ⟨Nat.zero_le _, Nat.zero_le _⟩
    | some y =>
      obtain ⟨s, v, rest'⟩ := y
      obtain ⟨h1, h2⟩ := hN _ _ _ hn
      simp only
      cases hq : formQ (kwd w0) v rest' with
      | none => exact ⟨h1, Nat.zero_le _⟩
      | some z =>
        obtain ⟨p, hb, v', r'⟩ := z
        refine ⟨h1, ?_⟩
        simp only
        unfold formQ at hq
        split at hq
        · cases rest' with
          | nil => cases hq
          | cons a r =>
            simp only at hq
            split at hq
            · cases hq; have := h2 _ List.mem_cons_self; rw [List.length_drop]; omega
            · cases hq
        · cases hq; exact Nat.zero_le _
theorem lexG_ok (src : List UInt8) : ∀ (f p : Nat) (out ts : List Tk) (a e : Int), lexG src f p out = (some ts, a, e) → p ≤ src.length → out.length ≤ p → (∀ t ∈ out, t.s.length ≤ src.length ∧ t.path.length ≤ src.length) →
    ts.length ≤ src.length ∧ (∀ t ∈ ts, t.s.length ≤ src.length ∧ t.path.length ≤ src.length) ∧ e = 0
  | 0, _, _, _, _, _, h, _, _, _ => by cases h
  | f + 1, p, out, ts, a, e, h, hp, ho, hall => by
    have snoc : ∀ x : Tk, x.s.length ≤ src.length ∧ x.path.length ≤ src.length → ∀ t ∈ out ++ [x], t.s.length ≤ src.length ∧ t.path.length ≤ src.length := by
      intro x hx t ht
      rcases List.mem_append.1 ht with ht | ht
      · exact hall t ht
      · rw [List.mem_singleton.1 ht]; exact hx
    rw [lexG] at h
    split at h
    · rename_i hlt
      rcases findR_cases src 123 p hp with e1 | ⟨k, e1, k1, k2⟩
      · rw [e1, if_pos (by omega), if_pos (by decide)] at h
        exact lexG_ok src f _ _ _ _ _ h (Nat.le_refl _) (by simp; omega) (snoc _ ⟨by simp, Nat.zero_le _⟩)
      · by_cases e2 : (k : Int) = p
        · rw [e1, if_neg (by simp [e2])] at h
          rcases findR_cases src 125 (p + 2) (by omega) with e3 | ⟨j, e3, j1, j2⟩
          · rw [e3, if_pos (by decide)] at h; cases h
          · rw [e3, if_neg (by omega)] at h
            have hf := form_le (L := src.length) (ws := wordsG ((src.take (j : Int).toNat).drop (p + 2)) []) (fun w hw => by have := (wordsG_ne _ _ w hw).2; simp at this; omega)
            revert h hf
            generalize formR (wordsG ((src.take (j : Int).toNat).drop (p + 2)) []) = r
            obtain ⟨t, kn, va⟩ := r
            intro h hf
            simp only at h hf
            split at h
            · cases h
            · split at h
              · cases h
              · exact lexG_ok src f _ _ _ _ _ h (by omega) (by simp; omega) (snoc _ hf)
        · rw [e1, if_pos e2, if_neg (by omega)] at h
          exact lexG_ok src f _ _ _ _ _ h (by omega) (by simp; omega) (snoc _ ⟨by simp; omega, Nat.zero_le _⟩)
    · cases h; exact ⟨by omega, hall, rfl⟩
theorem lexG_bad (src : List UInt8) : ∀ (f p : Nat) (out : List Tk) (a e : Int), lexG src f p out = (none, a, e) → p ≤ src.length → src.length - p < f → e ≠ 0
  | 0, p, _, _, _, _, _, hf => by omega
  | f + 1, p, out, a, e, h, hp, hf => by
    rw [lexG] at h
    split at h
    · rename_i hlt
      rcases findR_cases src 123 p hp with e1 | ⟨k, e1, k1, k2⟩
      · rw [e1, if_pos (by omega), if_pos (by decide)] at h
        exact lexG_bad src f _ _ _ _ h (Nat.le_refl _) (by omega)
      · by_cases e2 : (k : Int) = p
        · rw [e1, if_neg (by simp [e2])] at h
          rcases findR_cases src 125 (p + 2) (by omega) with e3 | ⟨j, e3, j1, j2⟩
          · rw [e3, if_pos (by decide)] at h; cases h; decide
          · rw [e3, if_neg (by omega)] at h
            revert h
            generalize formR (wordsG ((src.take (j : Int).toNat).drop (p + 2)) []) = r
            obtain ⟨t, kn, va⟩ := r
            intro h
            simp only at h
            split at h
            · cases h; decide
            · split at h
              · cases h; decide
              · exact lexG_bad src f _ _ _ _ h (by omega) (by omega)
        · rw [e1, if_pos e2, if_neg (by omega)] at h
          exact lexG_bad src f _ _ _ _ h (by omega) (by omega)
    · cases h
theorem lexR_ok {src : List UInt8} {ts : List Tk} {a e : Int} (h : lexR src = (some ts, a, e)) : ts.length ≤ src.length ∧ (∀ t ∈ ts, t.s.length ≤ src.length ∧ t.path.length ≤ src.length) ∧ e = 0 := by
  unfold lexR at h
  split at h
  · cases h
  · exact lexG_ok src _ _ _ _ _ _ h (Nat.zero_le _) (Nat.zero_le _) (by simp)
theorem lexR_bad {src : List UInt8} {a e : Int} (h : lexR src = (none, a, e)) : e ≠ 0 := by
  unfold lexR at h
  split at h
  · cases h; decide
  · exact lexG_bad src _ _ _ _ _ h (Nat.zero_le _) (by omega)

theorem cnts_append (a b : List Nd) : Nd.cnts (a ++ b) = Nd.cnts a + Nd.cnts b := by
  induction a with
  | nil => simp [Nd.cnts]
  | cons x a ih => simp only [List.cons_append, Nd.cnts, ih]; omega
theorem les_append {L : Nat} {a b : List Nd} (h1 : Nd.les L a) (h2 : Nd.les L b) : Nd.les L (a ++ b) := by
  induction a with
  | nil => exact h2
  | cons x a ih => exact ⟨h1.1, ih h1.2⟩
theorem cnt_pos (x : Nd) : 1 ≤ x.cnt := by cases x; simp only [Nd.cnt]; omega
theorem cnts_len (l : List Nd) : l.length ≤ Nd.cnts l := by
  induction l with
  | nil => exact Nat.le_refl _
  | cons x l ih => have := cnt_pos x; simp only [Nd.cnts, List.length_cons]; omega
def LOk (ts : List Tk) (L i n : Nat) (out : List Nd) (r : PR (List Nd)) : Prop := match r with
  | (none, _, e, i', n') => e ≠ 0 ∧ i ≤ i' ∧ i' ≤ ts.length ∧ n ≤ n' ∧ n' ≤ 4096
  | (some l, a, e, i', n') => a = 0 ∧ e = 0 ∧ i ≤ i' ∧ i' ≤ ts.length ∧ n ≤ n' ∧ n' ≤ 4096 ∧ Nd.cnts l + n ≤ Nd.cnts out + n' ∧ Nd.les L l
def NOk (ts : List Tk) (L i n : Nat) (r : PR Nd) : Prop := match r with
  | (none, _, e, i', n') => e ≠ 0 ∧ i ≤ i' ∧ i' ≤ ts.length ∧ n ≤ n' ∧ n' ≤ 4096
  | (some x, a, e, i', n') => a = 0 ∧ e = 0 ∧ i < i' ∧ i' ≤ ts.length ∧ n ≤ n' ∧ n' ≤ 4096 ∧ x.cnt + n ≤ n' ∧ x.le L
theorem parse_facts (ts : List Tk) (L : Nat) (hL : ∀ t ∈ ts, t.s.length ≤ L ∧ t.path.length ≤ L) : ∀ (F : Nat),
    (∀ o els d i n out, 2 * (ts.length - i) + 2 ≤ F → i ≤ ts.length → n ≤ 4096 → Nd.les L out → LOk ts L i n out (listR ts F o els d i n out)) ∧
    (∀ d i n t, ts[i]? = some t → 2 * (ts.length - i) + 1 ≤ F → n ≤ 4096 → NOk ts L i n (nodeR ts F d i n t))
  | 0 => ⟨fun _ _ _ _ _ _ h => by omega, fun _ _ _ _ _ h => by omega⟩
  | F + 1 => by
    obtain ⟨ihl, ihn⟩ := parse_facts ts L hL F
    constructor
    · intro o els d i n out hF hi hn ho
      rw [listR]
      cases ht : ts[i]? with
      | none => exact ⟨rfl, rfl, Nat.le_refl _, hi, Nat.le_refl _, hn, Nat.le_refl _, ho⟩
      | some t =>
        have hlt : i < ts.length := (List.getElem?_eq_some_iff.1 ht).1
        simp only
        split
        · split
          · exact ⟨by decide, Nat.le_refl _, hi, Nat.le_refl _, hn⟩
          · exact ⟨rfl, rfl, Nat.le_refl _, hi, Nat.le_refl _, hn, Nat.le_refl _, ho⟩
        · split
          · split
            · exact ⟨by decide, Nat.le_refl _, hi, Nat.le_refl _, hn⟩
            · exact ⟨rfl, rfl, Nat.le_refl _, hi, Nat.le_refl _, hn, Nat.le_refl _, ho⟩
          · have hk := ihn d i n t ht (by omega) hn
            revert hk
            generalize nodeR ts F d i n t = r
            rcases r with ⟨_ | x, a, e, i', n'⟩
            · exact fun h => h
            · rintro ⟨rfl, rfl, h3, h4, h5, h6, h7, h8⟩
              simp only
              have hl := ihl o els d i' n' (out ++ [x]) (by omega) h4 h6 (les_append ho ⟨h8, trivial⟩)
              revert hl
              generalize listR ts F o els d i' n' (out ++ [x]) = q
              rcases q with ⟨_ | l, a, e, i2, n2⟩
              · rintro ⟨g1, g2, g3, g4, g5⟩
                exact ⟨g1, by omega, g3, by omega, g5⟩
              · rintro ⟨g1, g2, g3, g4, g5, g6, g7, g8⟩
                rw [cnts_append] at g7
                simp only [Nd.cnts] at g7
                exact ⟨g1, g2, by omega, g4, by omega, g6, by omega, g8⟩
    · intro d i n t ht hF hn
      have hlt : i < ts.length := (List.getElem?_eq_some_iff.1 ht).1
      have htL := hL t (List.mem_of_getElem? ht)
      rw [nodeR]
      split
      · exact ⟨by decide, Nat.le_refl _, by omega, Nat.le_refl _, hn⟩
      · split
        · exact ⟨by decide, Nat.le_refl _, by omega, Nat.le_refl _, hn⟩
        · split
          · exact ⟨rfl, rfl, by omega, by omega, by omega, by omega, by simp only [Nd.cnt, Nd.cnts]; omega, htL.1, htL.2, trivial, trivial⟩
          · have hl := ihl t.kind false (d + 1) (i + 1) (n + 1) [] (by omega) (by omega) (by omega) trivial
            revert hl
            generalize listR ts F t.kind false (d + 1) (i + 1) (n + 1) [] = r
            rcases r with ⟨_ | l, a, e, i', n'⟩
            · rintro ⟨g1, g2, g3, g4, g5⟩
              exact ⟨g1, by omega, g3, by omega, g5⟩
            · rintro ⟨g1, g2, g3, g4, g5, g6, g7, g8⟩
              simp only [Nd.cnts] at g7
              simp only
              split
              · rename_i h7
                have hi' : i' < ts.length := by
                  cases hx : ts[i']? with
                  | none => rw [hx] at h7; cases h7
                  | some y => exact (List.getElem?_eq_some_iff.1 hx).1
                have hl := ihl t.kind true (d + 1) (i' + 1) n' [] (by omega) (by omega) g6 trivial
                revert hl
                generalize listR ts F t.kind true (d + 1) (i' + 1) n' [] = q
                rcases q with ⟨_ | l2, a, e, i2, n2⟩
                · rintro ⟨k1, k2, k3, k4, k5⟩
                  exact ⟨k1, by omega, k3, by omega, k5⟩
                · rintro ⟨k1, k2, k3, k4, k5, k6, k7, k8⟩
                  simp only [Nd.cnts] at k7
                  simp only
                  split
                  · exact ⟨by decide, by omega, k4, by omega, k6⟩
                  · exact ⟨rfl, rfl, by omega, by omega, by omega, k6, by simp only [Nd.cnt]; omega, htL.1, htL.2, g8, k8⟩
              · split
                · exact ⟨by decide, by omega, g4, by omega, g6⟩
                · exact ⟨rfl, rfl, by omega, by omega, by omega, g6, by simp only [Nd.cnt, Nd.cnts]; omega, htL.1, htL.2, g8, trivial⟩
theorem parseR_ok {src : List UInt8} {l : List Nd} {a e : Int} (h : parseR src = (some l, a, e)) : Nd.cnts l ≤ 4096 ∧ Nd.les src.length l ∧ e = 0 := by
  unfold parseR at h
  cases hl : lexR src with
  | mk o q =>
    obtain ⟨a1, e1⟩ := q
    rw [hl] at h
    cases o with
    | none => cases h
    | some ts =>
      simp only at h
      have hk := (parse_facts ts src.length (lexR_ok hl).2.1 (2 * ts.length + 2)).1 (-1) false 0 0 0 [] (by omega) (Nat.zero_le _) (Nat.zero_le _) trivial
      revert hk h
      generalize listR ts (2 * ts.length + 2) (-1) false 0 0 0 [] = r
      rcases r with ⟨_ | x, a2, e2, i2, n2⟩
      · intro h; cases h
      · intro h hk
        cases h
        obtain ⟨g1, g2, g3, g4, g5, g6, g7, g8⟩ := hk
        simp only [Nd.cnts] at g7
        exact ⟨by omega, g8, rfl⟩
theorem parsedR_ok (src : List UInt8) : Nd.cnts (parsedR src) ≤ 4096 ∧ Nd.les 5000 (parsedR src) := by
  unfold parsedR
  split
  · exact ⟨Nat.zero_le _, trivial⟩
  · rename_i hs
    cases hp : parseR src with
    | mk o q =>
      obtain ⟨a, e⟩ := q
      cases o with
      | none => exact ⟨Nat.zero_le _, trivial⟩
      | some l =>
        obtain ⟨h1, h2, _⟩ := parseR_ok hp
        refine ⟨h1, ?_⟩
        have mono : ∀ (l : List Nd), Nd.les src.length l → Nd.les 5000 l := by
          have key : ∀ N : Nat, (∀ x : Nd, x.cnt ≤ N → x.le src.length → x.le 5000) ∧ (∀ l : List Nd, Nd.cnts l ≤ N → Nd.les src.length l → Nd.les 5000 l) := by
            intro N
            induction N with
            | zero =>
              refine ⟨fun x hx => absurd (cnt_pos x) (by omega), fun l hl _ => ?_⟩
              cases l with
              | nil => trivial
              | cons x l => simp only [Nd.cnts] at hl; exact absurd (cnt_pos x) (by omega)
            | succ N ih =>
              have hx : ∀ x : Nd, x.cnt ≤ N + 1 → x.le src.length → x.le 5000 := by
                intro x hx hle
                obtain ⟨k, a, s, p, hp, he, b, el⟩ := x
                simp only [Nd.cnt] at hx
                obtain ⟨q1, q2, q3, q4⟩ := hle
                exact ⟨by omega, by omega, ih.2 b (by omega) q3, ih.2 el (by omega) q4⟩
              refine ⟨hx, fun l => ?_⟩
              induction l with
              | nil => intro _ _; trivial
              | cons y l ih2 =>
                intro hc hle
                simp only [Nd.cnts] at hc
                exact ⟨hx y (by omega) hle.1, ih2 (by omega) hle.2⟩
          exact fun l => (key _).2 l (Nat.le_refl _)
        exact mono l h2
end Go.AL.Fun
