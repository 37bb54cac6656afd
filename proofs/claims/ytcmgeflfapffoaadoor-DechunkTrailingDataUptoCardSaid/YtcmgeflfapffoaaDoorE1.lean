/- Hexadecimal size lines, plainly. -/
namespace Go.AL.Fun

/-- A digit. -/
def hx (d : Nat) : UInt8 := if d < 10 then UInt8.ofNat (48 + d) else UInt8.ofNat (87 + d)
/-- A digit's value, or 16. -/
def hv (c : UInt8) : Nat := if 48 ≤ c.toNat ∧ c.toNat ≤ 57 then c.toNat - 48 else if 97 ≤ c.toNat ∧ c.toNat ≤ 102 then c.toNat - 87 else 16
def isHx (c : UInt8) : Bool := decide (hv c < 16)
def hexL (n : Nat) : List UInt8 := if h : n < 16 then [hx n] else hexL (n / 16) ++ [hx (n % 16)]
termination_by n
decreasing_by omega
theorem hexL_lt {n : Nat} (h : n < 16) : hexL n = [hx n] := by rw [hexL, dif_pos h]
theorem hexL_ge {n : Nat} (h : ¬ n < 16) : hexL n = hexL (n / 16) ++ [hx (n % 16)] := by rw [hexL, dif_neg h]
def hvalL (d : List UInt8) : Nat := d.foldl (fun n c => 16 * n + hv c) 0
theorem hvalL_nil : hvalL [] = 0 := rfl
theorem hvalL_app (d : List UInt8) (c : UInt8) : hvalL (d ++ [c]) = 16 * hvalL d + hv c := by simp [hvalL]
theorem hv_hx : ∀ d : Fin 16, hv (hx d.val) = d.val := by decide
theorem hx_hv : ∀ c : Fin 256, isHx (UInt8.ofNat c.val) = true → hx (hv (UInt8.ofNat c.val)) = UInt8.ofNat c.val := by decide +kernel
theorem u8_fin (c : UInt8) : ∃ i : Fin 256, c = UInt8.ofNat i.val := ⟨⟨c.toNat, c.toNat_lt⟩, by simp⟩
theorem hx_hv' {c : UInt8} (h : isHx c = true) : hx (hv c) = c := by
  obtain ⟨i, rfl⟩ := u8_fin c
  exact hx_hv i h
theorem hv_hx' {d : Nat} (h : d < 16) : hv (hx d) = d := hv_hx ⟨d, h⟩
theorem isHx_hx {d : Nat} (h : d < 16) : isHx (hx d) = true := by unfold isHx; rw [hv_hx' h]; simpa using h
theorem hx_ne0 : ∀ d : Fin 16, d.val ≠ 0 → hx d.val ≠ 48 := by decide
theorem isHx13 : isHx 13 = false := by decide
theorem hexL_all : ∀ (k n : Nat), n ≤ k → ∀ c ∈ hexL n, isHx c = true
  | k, n, h, c, hc => by
    by_cases h16 : n < 16
    · rw [hexL_lt h16, List.mem_singleton] at hc; subst hc; exact isHx_hx h16
    · rw [hexL_ge h16] at hc
      rcases List.mem_append.1 hc with hc | hc
      · cases k with
        | zero => omega
        | succ k => exact hexL_all k (n / 16) (by omega) c hc
      · rw [List.mem_singleton] at hc; subst hc; exact isHx_hx (Nat.mod_lt _ (by decide))
theorem hexL_val : ∀ (k n : Nat), n ≤ k → hvalL (hexL n) = n
  | k, n, h => by
    by_cases h16 : n < 16
    · rw [hexL_lt h16]; simp only [hvalL, List.foldl_cons, List.foldl_nil]; rw [hv_hx' h16]; omega
    · rw [hexL_ge h16, hvalL_app, hv_hx' (Nat.mod_lt _ (by decide))]
      cases k with
      | zero => omega
      | succ k => rw [hexL_val k (n / 16) (by omega)]; omega
theorem hexL_ne (n : Nat) : hexL n ≠ [] := by
  by_cases h : n < 16
  · rw [hexL_lt h]; simp
  · rw [hexL_ge h]; simp
theorem hexL_head : ∀ (k n : Nat), n ≤ k → 1 < (hexL n).length → (hexL n).head? ≠ some 48
  | k, n, h, hl => by
    by_cases h16 : n < 16
    · rw [hexL_lt h16] at hl; simp at hl
    · rw [hexL_ge h16]
      cases k with
      | zero => omega
      | succ k =>
        by_cases h2 : n / 16 < 16
        · rw [hexL_lt h2]
          simp only [List.cons_append, List.head?_cons, ne_eq, Option.some.injEq]
          exact hx_ne0 ⟨n / 16, h2⟩ (by show n / 16 ≠ 0; omega)
        · have ih := hexL_head k (n / 16) (by omega) (by
            rw [hexL_ge h2, List.length_append]
            have := List.length_pos_iff.2 (hexL_ne (n / 16 / 16))
            simp only [List.length_singleton]; omega)
          rw [List.head?_append]
          cases hh : (hexL (n / 16)).head? with
          | none => exact absurd (List.head?_eq_none_iff.1 hh) (hexL_ne _)
          | some x => rw [hh] at ih; simpa using ih
theorem hexL_len_le : ∀ (k n m : Nat), m ≤ k → n ≤ m → (hexL n).length ≤ (hexL m).length
  | k, n, m, hk, h => by
    by_cases h16 : n < 16
    · rw [hexL_lt h16]
      have := List.length_pos_iff.2 (hexL_ne m)
      rw [List.length_singleton]; omega
    · rw [hexL_ge h16, hexL_ge (by omega : ¬ m < 16), List.length_append, List.length_append]
      cases k with
      | zero => omega
      | succ k =>
        have := hexL_len_le k (n / 16) (m / 16) (by omega) (by omega)
        simp only [List.length_singleton]; omega
/-- Digits without a zero ahead are those of their value. -/
theorem hexL_of : ∀ (k : Nat) (d : List UInt8), d.length ≤ k → d ≠ [] → (∀ c ∈ d, isHx c = true) → (1 < d.length → d.head? ≠ some 48) → hexL (hvalL d) = d
  | 0, d, hk, hne, _, _ => absurd (List.length_eq_zero_iff.1 (by omega)) hne
  | k + 1, d, hk, hne, ha, hh => by
    obtain ⟨e, x, rfl⟩ : ∃ e x, d = e ++ [x] := ⟨d.dropLast, d.getLast hne, (List.dropLast_concat_getLast hne).symm⟩
    have hxx : isHx x = true := ha x (by simp)
    have hx16 : hv x < 16 := by simpa [isHx] using hxx
    rw [hvalL_app]
    by_cases he : e = []
    · subst he
      rw [hvalL_nil, hexL_lt (by omega)]
      simp only [Nat.mul_zero, Nat.zero_add, List.nil_append, List.cons.injEq, and_true]
      exact hx_hv' hxx
    · have hl : 1 < (e ++ [x]).length := by have := List.length_pos_iff.2 he; rw [List.length_append]; simp only [List.length_singleton]; omega
      have hh1 := hh hl
      have he48 : e.head? ≠ some 48 := by
        rw [List.head?_append] at hh1
        cases h2 : e.head? with
        | none => simp
        | some y => rw [h2] at hh1; simpa using hh1
      have ih := hexL_of k e (by rw [List.length_append, List.length_singleton] at hk; omega) he (fun c hc => ha c (by simp [hc])) (fun _ => he48)
      have hpos : 1 ≤ hvalL e := by
        rcases Nat.eq_zero_or_pos (hvalL e) with h0 | h0
        · exfalso
          rw [h0, hexL_lt (by decide)] at ih
          rw [← ih] at he48
          exact he48 rfl
        · exact h0
      rw [hexL_ge (by omega), show (16 * hvalL e + hv x) / 16 = hvalL e by omega, show (16 * hvalL e + hv x) % 16 = hv x by omega, ih, hx_hv' hxx]
theorem hvalL_mono : ∀ (e d : List UInt8), hvalL d ≤ hvalL (d ++ e)
  | [], d => by rw [List.append_nil]; exact Nat.le_refl _
  | c :: e, d => by
    have h1 := hvalL_mono e (d ++ [c])
    rw [hvalL_app, List.append_assoc] at h1
    have h2 : d ++ ([c] ++ e) = d ++ c :: e := rfl
    rw [h2] at h1; omega
/-- A size line parsed: the size, the length of the line, the error. -/
def restP (d r : List UInt8) : Nat × Nat × Int := match r with
  | [] => (0, 0, 7)
  | c :: r => if d = [] ∨ c ≠ 13 then (0, 0, 5) else match r with
    | [] => (0, 0, 7)
    | c2 :: _ => if c2 ≠ 10 then (0, 0, 5) else (hvalL d, d.length + 2, 0)
def parseP (b : List UInt8) : Nat × Nat × Int :=
  if 65536 < hvalL (b.takeWhile isHx) ∨ (1 < (b.takeWhile isHx).length ∧ (b.takeWhile isHx).head? = some 48) then (0, 0, 5) else restP (b.takeWhile isHx) (b.drop (b.takeWhile isHx).length)
theorem tw_app {d r : List UInt8} (hd : ∀ c ∈ d, isHx c = true) (hr : ∀ c ∈ r.head?, isHx c = false) : (d ++ r).takeWhile isHx = d := by
  rw [List.takeWhile_append_of_pos hd]
  cases r with
  | nil => simp
  | cons c r =>
    have := hr c (by simp)
    rw [List.takeWhile_cons, this]; simp
theorem parse_line {n : Nat} (hn : n ≤ 65536) (r : List UInt8) (hr : ∀ c ∈ r.head?, isHx c = false) : parseP (hexL n ++ r) = restP (hexL n) r := by
  unfold parseP
  rw [tw_app (hexL_all n n (Nat.le_refl _)) hr, hexL_val n n (Nat.le_refl _), List.drop_left, if_neg]
  rintro (h | ⟨h1, h2⟩)
  · omega
  · exact hexL_head n n (Nat.le_refl _) h1 h2
theorem parse_format {n : Nat} (hn : n ≤ 65536) (more : List UInt8) : parseP (hexL n ++ 13 :: 10 :: more) = (n, (hexL n).length + 2, 0) := by
  rw [parse_line hn _ (by simp [isHx13])]
  simp [restP, hexL_ne, hexL_val n n (Nat.le_refl _)]
theorem parse_all {d : List UInt8} (hd : ∀ c ∈ d, isHx c = true) (h1 : hvalL d ≤ 65536) (h2 : 1 < d.length → d.head? ≠ some 48) : parseP d = (0, 0, 7) := by
  have e : d.takeWhile isHx = d := by have := tw_app (r := []) hd (by simp); rwa [List.append_nil] at this
  unfold parseP
  rw [e, List.drop_length, if_neg]
  · rfl
  · rintro (h | ⟨h3, h4⟩)
    · omega
    · exact h2 h3 h4
theorem parse_prefix {n : Nat} (hn : n ≤ 65536) {i : Nat} (hi : i < (hexL n).length + 2) : parseP ((hexL n ++ [13, 10]).take i) = (0, 0, 7) := by
  by_cases h : i ≤ (hexL n).length
  · rw [List.take_append_of_le_length h]
    refine parse_all (fun c hc => hexL_all n n (Nat.le_refl _) c (List.mem_of_mem_take hc)) ?_ (fun hl => ?_)
    · have := hvalL_mono ((hexL n).drop i) ((hexL n).take i)
      rw [List.take_append_drop, hexL_val n n (Nat.le_refl _)] at this; omega
    · have hl2 : 1 < (hexL n).length := by rw [List.length_take] at hl; omega
      have := hexL_head n n (Nat.le_refl _) hl2
      cases hx : hexL n with
      | nil => exact absurd hx (hexL_ne n)
      | cons a t =>
        rw [hx] at this hl
        cases i with
        | zero => simp at hl
        | succ i => simpa using this
  · obtain rfl : i = (hexL n).length + 1 := by omega
    have e : (hexL n ++ [13, 10]).take ((hexL n).length + 1) = hexL n ++ [13] := by rw [List.take_append, List.take_of_length_le (by omega)]; simp
    rw [e, parse_line hn _ (by simp [isHx13])]
    simp [restP, hexL_ne]
theorem tw_split (b : List UInt8) : b = b.takeWhile isHx ++ b.drop (b.takeWhile isHx).length ∧ (∀ c ∈ b.takeWhile isHx, isHx c = true) := by
  induction b with
  | nil => exact ⟨rfl, by simp⟩
  | cons c b ih =>
    rw [List.takeWhile_cons]
    cases hc : isHx c with
    | true =>
      simp only [if_true, List.length_cons, List.drop_succ_cons, List.cons_append, List.cons.injEq, true_and]
      refine ⟨ih.1, fun x hx => ?_⟩
      rcases List.mem_cons.1 hx with rfl | hx
      · exact hc
      · exact ih.2 x hx
    | false => simp
theorem parse_canon {b : List UInt8} {n k : Nat} (h : parseP b = (n, k, 0)) : n ≤ 65536 ∧ k = (hexL n).length + 2 ∧ ∃ r, b = hexL n ++ 13 :: 10 :: r := by
  obtain ⟨hs, ha⟩ := tw_split b
  unfold parseP at h
  generalize b.takeWhile isHx = d at h hs ha
  split at h
  · simp at h
  · rename_i hbad
    rw [not_or, not_and] at hbad
    generalize b.drop d.length = r at h hs
    unfold restP at h
    split at h
    · simp at h
    · rename_i c r'
      split at h
      · simp at h
      · rename_i hc
        rw [not_or] at hc
        split at h
        · simp at h
        · rename_i c2 r''
          split at h
          · simp at h
          · rename_i hc2
            have hc13 : c = 13 := by simpa using hc.2
            have hc10 : c2 = 10 := by simpa using hc2
            subst hc13 hc10
            simp only [Prod.mk.injEq, and_true] at h
            obtain ⟨rfl, rfl⟩ := h
            have hd := hexL_of d.length d (Nat.le_refl _) hc.1 ha hbad.2
            rw [hd]
            exact ⟨by omega, rfl, r'', hs⟩
theorem hex_order {n m : Nat} (hm : m ≤ 65536) (h : n < m) : (hexL n ++ [13, 10]).length ≤ (hexL m ++ [13, 10]).length ∧ (hexL m ++ [13, 10]).take (hexL n ++ [13, 10]).length ≠ hexL n ++ [13, 10] := by
  have hl := hexL_len_le m n m (Nat.le_refl _) (by omega)
  refine ⟨by rw [List.length_append, List.length_append]; omega, fun e => ?_⟩
  have h1 := parse_format hm []
  have h2 : hexL m ++ [13, 10] = (hexL n ++ [13, 10]) ++ (hexL m ++ [13, 10]).drop (hexL n ++ [13, 10]).length := by
    conv => lhs; rw [← List.take_append_drop (hexL n ++ [13, 10]).length (hexL m ++ [13, 10]), e]
  rw [h2, List.append_assoc] at h1
  have h3 := parse_format (n := n) (by omega) ((hexL m ++ [13, 10]).drop (hexL n ++ [13, 10]).length)
  have h4 : hexL n ++ 13 :: 10 :: (hexL m ++ [13, 10]).drop (hexL n ++ [13, 10]).length = hexL n ++ ([13, 10] ++ (hexL m ++ [13, 10]).drop (hexL n ++ [13, 10]).length) := rfl
  rw [h4, h1] at h3
  simp only [Prod.mk.injEq] at h3
  omega
end Go.AL.Fun
