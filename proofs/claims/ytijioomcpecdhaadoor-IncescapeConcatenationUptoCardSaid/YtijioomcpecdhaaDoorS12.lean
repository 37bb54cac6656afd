/- The reference's escaped form of a rune. -/
import Derived.Test.YtijioomcpecdhaaDoorS11
set_option linter.unusedSimpArgs false
set_option linter.unusedVariables false
set_option maxRecDepth 100000
set_option maxHeartbeats 4000000
namespace Go.AL.Fun
open Go Go.AL

/-- So many digits of a number. -/
def dg : Nat → Nat → List UInt8
  | 0, _ => []
  | k + 1, n => dg k (n / 16) ++ [hx (n % 16)]
def qt : Nat → Nat → Nat
  | 0, n => n
  | k + 1, n => qt k n / 16
theorem qt_in : ∀ (k n : Nat), qt (k + 1) n = qt k (n / 16)
  | 0, _ => rfl
  | k + 1, n => by rw [qt, qt_in k n]; rfl
theorem dg_front : ∀ (k n : Nat), dg (k + 1) n = hx (qt k n % 16) :: dg k n
  | 0, n => rfl
  | k + 1, n => by rw [dg, dg_front k (n / 16), qt_in]; rfl
theorem dg_zero : ∀ (k n : Nat), n = 0 → dg k n = List.replicate k 48
  | 0, _, _ => rfl
  | k + 1, n, h => by
    subst h
    rw [dg, dg_zero k 0 rfl, List.replicate_succ']; rfl
theorem dg_more : ∀ (i j n : Nat), qt i n = 0 → dg (i + j) n = List.replicate j 48 ++ dg i n
  | 0, j, n, h => by rw [Nat.zero_add, dg_zero j n h]; simp [dg]
  | i + 1, j, n, h => by
    rw [qt_in] at h
    rw [show i + 1 + j = (i + j) + 1 by omega, dg, dg_more i j (n / 16) h, dg, List.append_assoc]
theorem qt_mono (i : Nat) : ∀ (j n : Nat), qt i n = 0 → qt (i + j) n = 0
  | 0, _, h => h
  | j + 1, n, h => by rw [← Nat.add_assoc, qt, qt_mono i j n h]
theorem hexL_dg : ∀ (b n : Nat), n ≤ b → hexL n = dg (hexL n).length n ∧ qt (hexL n).length n = 0 ∧ ∀ j, 1 ≤ j → j < (hexL n).length → 0 < qt j n
  | b, n, hb => by
    by_cases h : n < 16
    · rw [hexL_lt h]
      refine ⟨by simp [dg, Nat.mod_eq_of_lt h], by simp only [List.length_singleton, qt]; omega, fun j h1 h2 => ?_⟩
      simp only [List.length_singleton] at h2; omega
    · cases b with
      | zero => omega
      | succ b =>
        obtain ⟨i1, i2, i3⟩ := hexL_dg b (n / 16) (by omega)
        rw [hexL_ge h]
        refine ⟨?_, ?_, fun j h1 h2 => ?_⟩
        · rw [List.length_append, List.length_singleton, dg, ← i1]
        · rw [List.length_append, List.length_singleton, qt_in]; exact i2
        · rw [List.length_append, List.length_singleton] at h2
          obtain ⟨j, rfl⟩ : ∃ j', j = j' + 1 := ⟨j - 1, by omega⟩
          rw [qt_in]
          by_cases hj : j = 0
          · subst hj; show 0 < n / 16; omega
          · exact i3 j (by omega) (by omega)
/-- At least w digits. -/
def hexW (w n : Nat) : List UInt8 := List.replicate (w - (hexL n).length) 48 ++ hexL n
theorem dg_end {w n i : Nat} (h0 : 1 ≤ w) (hw : w ≤ i) (hq : qt i n = 0) (hp : i = 0 ∨ 0 < qt (i - 1) n ∨ i - 1 < w) : dg i n = hexW w n := by
  obtain ⟨i1, i2, i3⟩ := hexL_dg n n (Nat.le_refl _)
  have hL : (hexL n).length ≤ i := by
    rcases Nat.lt_or_ge i (hexL n).length with h | h
    · have := i3 i (by omega) h; omega
    · exact h
  have he : i = (hexL n).length + (w - (hexL n).length) := by
    rcases Nat.lt_or_ge (hexL n).length i with h | h
    · have hz : qt (i - 1) n = 0 := by
        have := qt_mono (hexL n).length (i - 1 - (hexL n).length) n i2
        rwa [show (hexL n).length + (i - 1 - (hexL n).length) = i - 1 by omega] at this
      omega
    · omega
  unfold hexW
  rw [he, dg_more _ _ _ i2, ← i1]
theorem qt_lt : ∀ (k n : Nat), n < 65536 → qt k n < 65536 ∧ (4 ≤ k → qt k n = 0)
  | 0, n, h => ⟨h, by omega⟩
  | 1, n, h => by simp only [qt]; omega
  | 2, n, h => by simp only [qt]; omega
  | 3, n, h => by simp only [qt]; omega
  | 4, n, h => by simp only [qt]; omega
  | k + 5, n, h => by
    have := (qt_lt (k + 4) n h)
    have h2 := this.2 (by omega)
    rw [qt, h2]; omega
theorem dg_len : ∀ (k n : Nat), (dg k n).length = k
  | 0, _ => rfl
  | k + 1, n => by rw [dg, List.length_append, dg_len k]; rfl

theorem bo1 (c : UInt8) : bytesOf [byteAV c] = some [c] := by_of [c]
theorem bo2 (c d : UInt8) : bytesOf [byteAV c, byteAV d] = some [c, d] := by_of [c, d]
def c52 (xs : List AV) (H : Heap) (K : Kv) : Prop := ∃ (n w : Nat), xs = [.int .i32 n, .int .i64 w] ∧ n < 65536 ∧ 1 ≤ w ∧ w ≤ 4 ∧ K.ap (.str (hexW w n)) H
theorem c52_of (P : Program) {G : Nat → Option (List AV)} {xs : List AV} {H : Heap} {K : Kv} (h : c52 xs H K) : @xF ⟨G, P, []⟩ f52 xs H ⟨fun v H' => ∃ H0, Hle H0 H' ∧ K.ap v H0⟩ := by
  obtain ⟨n, w, rfl, hn, hw1, hw4, k⟩ := h
  simp (implicitDefEqProofs := false) only [sB, simprocAttr, f52]
  refine i_loopJ (fun σ H1 => ∃ (i : Nat), H1 = H ∧ i ≤ 4 ∧ (i = 0 ∨ 0 < qt (i - 1) n ∨ i - 1 < w) ∧ σ = [(0, .int .i32 (qt i n)), (1, .int .i64 w), (5, .str (dg i n))])
    (fun σ _ => match σ.get 5 with | .str s => 5 - s.length | _ => 0)
    (fun ex σ H1 => ex = .exit 0 ∧ Hle H H1 ∧ σ.get 5 = .str (hexW w n))
    ⟨_, .refl _, 0, rfl, by omega, .inl rfl, rfl⟩ ?_ ?_
  · rintro ex σ H1 ⟨rfl, h1, h3⟩
    simp (implicitDefEqProofs := false) only [sB, simprocAttr, h3]
    exact ⟨H, h1, k⟩
  · rintro Q hQ σ H1 ⟨i, rfl, hi, hp, rfl⟩
    have hql := qt_lt i n hn
    have hdl := dg_len i n
    have step : i < 4 → (0 < qt i n ∨ i < w) → True := fun _ _ => trivial
    have hgo : (0 < qt i n ∨ i < w) → i < 4 := fun h => by
      rcases h with h | h
      · rcases Nat.lt_or_ge i 4 with h2 | h2
        · exact h2
        · have := hql.2 h2; omega
      · omega
    have hlen : ((dg i n).length : Int) = (i : Int) := by rw [hdl]
    have q16 : qt i n % 16 < 16 := Nat.mod_lt _ (by decide)
    have hg := hexD_get q16
    unfold hexD at hg
    have hfront := dg_front i n
    have hq1 : qt (i + 1) n = qt i n / 16 := rfl
    have t1 : ((qt i n : Nat) : Int).tmod 16 = ((qt i n % 16 : Nat) : Int) := by rw [Int.tmod_eq_emod_of_nonneg (by omega)]; omega
    have t2 : ((qt i n : Nat) : Int).tdiv 16 = ((qt i n / 16 : Nat) : Int) := by rw [Int.tdiv_eq_ediv_of_nonneg (by omega)]; omega
    have z1 : (0 : Int) ≤ ((qt i n % 16 : Nat) : Int) := by omega
    have w1 := w_i32 ((qt i n % 16 : Nat) : Int) (by omega) (by omega)
    have w2 := w_i32 ((qt i n / 16 : Nat) : Int) (by omega) (by omega)
    by_cases c1 : 0 < qt i n
    · have c1' : (0 : Int) < ((qt i n : Nat) : Int) := by omega
      have hi4 := hgo (.inl c1)
      simp (implicitDefEqProofs := false) only [sB, simprocAttr, c1', hlen, t1, t2, z1, w1, w2, hg, Option.map_some, by_c1]
      refine i_new fun z hz => ?_
      simp (implicitDefEqProofs := false) only [sB, simprocAttr, bo1, t2, w2]
      exact ⟨by omega, H1, .tail _ _, ⟨i + 1, rfl, by omega, .inr (.inl c1), rfl, by rw [hfront]⟩, by omega⟩
    · have c1' : ¬ (0 : Int) < ((qt i n : Nat) : Int) := by omega
      by_cases c2 : i < w
      · have c2' : (i : Int) < (w : Int) := by omega
        have hi4 := hgo (.inr c2)
        simp (implicitDefEqProofs := false) only [sB, simprocAttr, c1', c2', hlen, t1, t2, z1, w1, w2, hg, Option.map_some, by_c1]
        refine i_new fun z hz => ?_
        simp (implicitDefEqProofs := false) only [sB, simprocAttr, bo1, t2, w2]
        exact ⟨by omega, H1, .tail _ _, ⟨i + 1, rfl, by omega, .inr (.inr c2), rfl, by rw [hfront]⟩, by omega⟩
      · have c2' : ¬ (i : Int) < (w : Int) := by omega
        simp (implicitDefEqProofs := false) only [sB, simprocAttr, c1', c2', hlen]
        exact hQ _ _ _ ⟨rfl, .refl _, by rw [← dg_end hw1 (by omega) (by omega) hp]; rfl⟩
def c51 (xs : List AV) (H : Heap) (K : Kv) : Prop := ∃ (s : List UInt8) (r : Int), xs = [.str s, .int .i32 r] ∧ (∀ x ∈ s, x.toNat < 128) ∧ s.length ≤ 1000 ∧ K.ap (.bool (hasR s r)) H
theorem hasR_iff {s : List UInt8} (hs : ∀ x ∈ s, x.toNat < 128) (r : Int) : hasR s r = true ↔ ∃ x ∈ s, ((x.toNat : Nat) : Int) = r := by
  unfold hasR
  rw [decide_eq_true_iff]
  constructor
  · rintro ⟨h0, h1, h2⟩
    exact ⟨_, h2, by simp; omega⟩
  · rintro ⟨x, hx, rfl⟩
    have := hs x hx
    exact ⟨by omega, by omega, by rw [Int.toNat_natCast]; simpa using hx⟩
theorem c51_of (P : Program) {G : Nat → Option (List AV)} {xs : List AV} {H : Heap} {K : Kv} (h : c51 xs H K) : @xF ⟨G, P, []⟩ f51 xs H ⟨fun v H' => ∃ H0, Hle H0 H' ∧ K.ap v H0⟩ := by
  obtain ⟨s, r, rfl, hs, hl, k⟩ := h
  simp (implicitDefEqProofs := false) only [sB, simprocAttr, f51]
  refine i_loopJ (fun σ H1 => ∃ (i : Nat), H1 = H ∧ i ≤ s.length ∧ (∀ x ∈ s.take i, ((x.toNat : Nat) : Int) ≠ r) ∧ σ = [(0, .str s), (1, .int .i32 r), (5, .int .i64 i)])
    (fun σ _ => match σ.get 5 with | .int _ n => s.length - n.toNat | _ => 0)
    (fun ex σ H1 => Hle H H1 ∧ ((ex = .exit 0 ∧ hasR s r = false) ∨ (ex = .ret ∧ hasR s r = true ∧ σ.get 4 = .bool true)))
    ⟨_, .refl _, 0, rfl, by omega, by simp, rfl⟩ ?_ ?_
  · rintro ex σ H1 ⟨h1, ⟨rfl, h3⟩ | ⟨rfl, h3, h4⟩⟩
    · simp (implicitDefEqProofs := false) only [sB, simprocAttr]
      exact ⟨H, h1, by rw [← h3]; exact k⟩
    · simp (implicitDefEqProofs := false) only [sB, simprocAttr, h4]
      exact ⟨H, h1, by rw [← h3]; exact k⟩
  · rintro Q hQ σ H1 ⟨i, rfl, hi, hp, rfl⟩
    by_cases ci : i < s.length
    · have ci' : (i : Int) < (s.length : Int) := by omega
      have i0 : (0 : Int) ≤ (i : Int) := by omega
      have hgi : s[i]? = some s[i] := List.getElem?_eq_getElem ci
      have r9 := w_i64 ((i : Int) + 1) (by omega) (by omega)
      have hmem := List.getElem_mem ci
      have htk : s.take (i + 1) = s.take i ++ [s[i]] := by rw [List.take_add_one, hgi]; rfl
      generalize s[i] = c at *
      have b1 : byteAV c = .int .u8 (c.toNat : Nat) := rfl
      have hc := c.toNat_lt
      have wc := w_i32 ((c.toNat : Nat) : Int) (by omega) (by omega)
      by_cases cr : ((c.toNat : Nat) : Int) = r
      · subst cr
        simp (implicitDefEqProofs := false) only [sB, simprocAttr, ci', i0, hgi, Option.map_some, b1, wc]
        refine hQ _ _ _ ⟨.refl _, .inr ⟨rfl, (hasR_iff hs _).2 ⟨c, hmem, rfl⟩, ?_⟩⟩
        rfl
      · simp (implicitDefEqProofs := false) only [sB, simprocAttr, ci', i0, hgi, Option.map_some, b1, wc, cr, r9]
        refine ⟨_, .refl _, ⟨i + 1, rfl, by omega, ?_, rfl⟩, by omega⟩
        rw [htk]
        intro x hx
        rcases List.mem_append.1 hx with hx | hx
        · exact hp x hx
        · rw [List.mem_singleton] at hx; subst hx; exact cr
    · have ci' : ¬ (i : Int) < (s.length : Int) := by omega
      simp (implicitDefEqProofs := false) only [sB, simprocAttr, ci']
      refine hQ _ _ _ ⟨.refl _, .inl ⟨rfl, ?_⟩⟩
      rw [Bool.eq_false_iff]
      intro hh
      obtain ⟨x, hx, e⟩ := (hasR_iff hs r).1 hh
      rw [List.take_of_length_le (by omega)] at hp
      exact hp x hx e
/-- The reference's html. -/
def htmlE (r : Int) : List UInt8 := if r = 38 ∨ r = 60 ∨ r = 62 ∨ r = 34 ∨ r = 39 then htmlP r else []
def c49 (xs : List AV) (H : Heap) (K : Kv) : Prop := ∃ r : Int, xs = [.int .i32 r] ∧ K.ap (.str (htmlE r)) H
theorem c49_of (P : Program) {G : Nat → Option (List AV)} {xs : List AV} {H : Heap} {K : Kv} (h : c49 xs H K) : @xF ⟨G, P, []⟩ f49 xs H K := by
  obtain ⟨r, rfl, k⟩ := h
  by_cases a1 : r = 38
  · subst a1; simp (implicitDefEqProofs := false) only [sB, simprocAttr, f49]; exact k
  by_cases a2 : r = 60
  · subst a2; simp (implicitDefEqProofs := false) only [sB, simprocAttr, f49]; exact k
  by_cases a3 : r = 62
  · subst a3; simp (implicitDefEqProofs := false) only [sB, simprocAttr, f49]; exact k
  by_cases a4 : r = 34
  · subst a4; simp (implicitDefEqProofs := false) only [sB, simprocAttr, f49]; exact k
  by_cases a5 : r = 39
  · subst a5; simp (implicitDefEqProofs := false) only [sB, simprocAttr, f49]; exact k
  · rw [htmlE, if_neg (by omega)] at k
    simp (implicitDefEqProofs := false) only [sB, simprocAttr, f49, a1, a2, a3, a4, a5]; exact k
def unres (c : UInt8) : Bool := letP (c.toNat : Int) || hasR unS (c.toNat : Int)
def urlP (s : List UInt8) : List UInt8 := s.flatMap fun c => if unres c then [c] else pct1 c
def c50 (xs : List AV) (H : Heap) (K : Kv) : Prop := ∃ s : List UInt8, xs = [.str s] ∧ s.length ≤ 1000 ∧ H.keys.Nodup ∧ K.ap (.str (urlP s)) H
theorem urlP_take {s : List UInt8} {i : Nat} {c : UInt8} (h : s[i]? = some c) : urlP (s.take (i + 1)) = urlP (s.take i) ++ (if unres c then [c] else pct1 c) := by
  rw [List.take_add_one, h, urlP, List.flatMap_append]; simp [urlP]
theorem c50_of (P : Program) {G : Nat → Option (List AV)} {xs : List AV} {H : Heap} {K : Kv} (h : c50 xs H K) : @xF ⟨G, P, [(51, c51)]⟩ f50 xs H ⟨fun v H' => ∃ H0, Hle H0 H' ∧ K.ap v H0⟩ := by
  obtain ⟨s, rfl, hl, hn, k⟩ := h
  simp (implicitDefEqProofs := false) only [sB, simprocAttr, f50]
  refine i_loopJ (fun σ H1 => ∃ (i : Nat), H1 = H ∧ i ≤ s.length ∧ (urlP (s.take i)).length ≤ 3 * i ∧ σ = [(0, .str s), (3, .str (urlP (s.take i))), (4, .int .i64 i)])
    (fun σ _ => match σ.get 4 with | .int _ n => s.length - n.toNat | _ => 0)
    (fun ex σ H1 => ex = .exit 0 ∧ Hle H H1 ∧ σ.get 3 = .str (urlP s))
    ⟨_, .refl _, 0, rfl, by omega, by simp [urlP], rfl⟩ ?_ ?_
  · rintro ex σ H1 ⟨rfl, h1, h3⟩
    simp (implicitDefEqProofs := false) only [sB, simprocAttr, h3]
    exact ⟨H, h1, k⟩
  · rintro Q hQ σ H1 ⟨i, rfl, hi, hu, rfl⟩
    by_cases ci : i < s.length
    · have ci' : (i : Int) < (s.length : Int) := by omega
      have i0 : (0 : Int) ≤ (i : Int) := by omega
      have hgi : s[i]? = some s[i] := List.getElem?_eq_getElem ci
      have r9 := w_i64 ((i : Int) + 1) (by omega) (by omega)
      have htk := urlP_take hgi
      generalize s[i] = c at *
      have b1 : byteAV c = .int .u8 (c.toNat : Nat) := rfl
      have hc := c.toNat_lt
      have wc := w_i32 ((c.toNat : Nat) : Int) (by omega) (by omega)
      have hlt : (urlP (s.take (i + 1))).length ≤ 3 * (i + 1) := by
        rw [htk, List.length_append]; split
        · simp only [List.length_singleton]; omega
        · simp only [pct1, List.length_cons, List.length_nil]; omega
      have q1 := up_get (d := c.toNat / 16) (by omega)
      have q2 := up_get (d := c.toNat % 16) (by omega)
      have z1 : (0 : Int) ≤ ((c.toNat / 16 : Nat) : Int) := by omega
      have z2 : (0 : Int) ≤ ((c.toNat % 16 : Nat) : Int) := by omega
      have t1 : ((c.toNat : Nat) : Int).tmod 16 = ((c.toNat % 16 : Nat) : Int) := by rw [Int.tmod_eq_emod_of_nonneg (by omega)]; omega
      have t2 : ((c.toNat : Nat) : Int).tdiv 16 = ((c.toNat / 16 : Nat) : Int) := by rw [Int.tdiv_eq_ediv_of_nonneg (by omega)]; omega
      have w1 := w_u8 ((c.toNat % 16 : Nat) : Int) (by omega) (by omega)
      have w2 := w_u8 ((c.toNat / 16 : Nat) : Int) (by omega) (by omega)
      have fin1 : unres c = true → urlP (s.take (i + 1)) = urlP (s.take i) ++ [c] := fun h => by rw [htk, if_pos h]
      have fin2 : unres c = false → urlP (s.take (i + 1)) = urlP (s.take i) ++ pct1 c := fun h => by rw [htk, h]; rfl
      unfold unres at fin1 fin2
      by_cases cl : letP (c.toNat : Int) = true
      · have e1 := fin1 (by rw [cl]; rfl)
        have cl2 := cl
        unfold letP at cl2
        have cl2 := of_decide_eq_true cl2
        by_cases a1 : (65 : Int) ≤ (c.toNat : Int) <;> by_cases a2 : (c.toNat : Int) ≤ 90 <;> by_cases a3 : (97 : Int) ≤ (c.toNat : Int) <;> by_cases a4 : (c.toNat : Int) ≤ 122 <;> by_cases a5 : (48 : Int) ≤ (c.toNat : Int) <;> by_cases a6 : (c.toNat : Int) ≤ 57 <;>
          first
            | (exfalso; omega)
            | skip
        all_goals simp (implicitDefEqProofs := false) only [sB, simprocAttr, ci', i0, hgi, Option.map_some, b1, a1, a2, a3, a4, a5, a6]
        all_goals refine i_new fun z hz => ?_
        all_goals simp (implicitDefEqProofs := false) only [sB, simprocAttr, bo1, r9]
        all_goals exact ⟨by omega, H1, .tail _ _, ⟨i + 1, rfl, by omega, hlt, by rw [e1]; simp, by simp⟩, by omega⟩
      · have cl2 : letP (c.toNat : Int) = false := by simpa using cl
        have cl3 := cl2
        unfold letP at cl3
        have cl3 := of_decide_eq_false cl3
        by_cases a1 : (65 : Int) ≤ (c.toNat : Int) <;> by_cases a2 : (c.toNat : Int) ≤ 90 <;> by_cases a3 : (97 : Int) ≤ (c.toNat : Int) <;> by_cases a4 : (c.toNat : Int) ≤ 122 <;> by_cases a5 : (48 : Int) ≤ (c.toNat : Int) <;> by_cases a6 : (c.toNat : Int) ≤ 57 <;>
          first
            | (exfalso; omega)
            | skip
        all_goals simp (implicitDefEqProofs := false) only [sB, simprocAttr, ci', i0, hgi, Option.map_some, b1, a1, a2, a3, a4, a5, a6, wc]
        all_goals refine ⟨unS, (c.toNat : Int), rfl, by decide, by decide, ?_⟩
        all_goals
          cases hh : hasR unS (c.toNat : Int) with
          | true =>
            have e1 := fin1 (by rw [cl2, hh]; rfl)
            have h128 := hasR_lt hh
            simp (implicitDefEqProofs := false) only [sB, simprocAttr, h128]
            refine i_new fun z hz => ?_
            simp (implicitDefEqProofs := false) only [sB, simprocAttr, bo1, r9]
            exact ⟨by omega, H1, .tail _ _, ⟨i + 1, rfl, by omega, hlt, by rw [e1]; simp, by simp⟩, by omega⟩
          | false =>
            have e2 := fin2 (by rw [cl2, hh]; rfl)
            simp (implicitDefEqProofs := false) only [sB, simprocAttr, t1, t2, w1, w2, z1, z2, q1, q2, by_c1]
            refine ⟨by omega, i_new fun z hz => ?_⟩
            simp (implicitDefEqProofs := false) only [sB, simprocAttr, bo2, r9]
            exact ⟨by omega, H1, .tail _ _, ⟨i + 1, rfl, by omega, hlt, by rw [e2]; rfl, by simp⟩, by omega⟩
    · have ci' : ¬ (i : Int) < (s.length : Int) := by omega
      simp (implicitDefEqProofs := false) only [sB, simprocAttr, ci']
      exact hQ _ _ _ ⟨rfl, .refl _, by rw [List.take_of_length_le (by omega)]; rfl⟩
end Go.AL.Fun
