/- The reference's incremental escaper. -/
import Derived.Test.YtijioomcpecdhaaDoorS20q
set_option linter.unusedSimpArgs false
set_option linter.unusedVariables false
set_option maxRecDepth 100000
set_option maxHeartbeats 4000000
namespace Go.AL.Fun
open Go Go.AL

theorem dec1_take {u : List UInt8} (k : Nat) (hu : u ≠ []) : dec1 (u.take ((dec1 u).2 + k)) = dec1 u := by
  by_cases h : (fst u).1 = 0
  · have h2 := fst_take0 ((dec1 u).2 + k) h
    unfold dec1 at h2 ⊢
    rw [if_pos h] at h2 ⊢
    rw [if_pos h2]
  · have e : (dec1 u).2 = (fst u).1 := by rw [dec1_two h]
    rw [e]
    have h1 := fst_self h (j := (fst u).1 + k) (by omega)
    rw [dec1_two (by rw [h1]; exact h), h1, List.take_take, Nat.min_eq_left (by omega), ← dec1_two h]
/-- What the writer has read so far. -/
def WInv (s : List UInt8) (i : Nat) : Prop := ∃ P, wrP s = (P ++ (wrP (s.drop i)).1, (wrP (s.drop i)).2) ∧ ∀ j, decP (s.take (i + j)) = P ++ decP ((s.drop i).take j)
theorem winv_zero (s : List UInt8) : WInv s 0 := ⟨[], rfl, fun j => by rw [Nat.zero_add]; rfl⟩
theorem winv_step {s : List UInt8} {i : Nat} (hi : i < s.length) (h : (fst (s.drop i)).2 = false) (w : WInv s i) : WInv s (i + (dec1 (s.drop i)).2) := by
  obtain ⟨P, w1, w2⟩ := w
  have hne : s.drop i ≠ [] := by intro e; have := congrArg List.length e; rw [List.length_drop] at this; simp at this; omega
  have hp := dec1_pos (s.drop i)
  rw [wrP_step hne h] at w1
  refine ⟨P ++ [(dec1 (s.drop i)).1], ?_, fun j => ?_⟩
  · rw [w1, List.drop_drop, List.append_assoc]; rfl
  · rw [Nat.add_assoc, w2, decP_step (s := (s.drop i).take _) (by intro e; rw [List.take_eq_nil_iff] at e; rcases e with e | e; omega; exact hne e), dec1_take j hne, List.drop_take, Nat.add_sub_cancel_left, List.drop_drop, List.append_assoc]; rfl
theorem winv_end {s : List UInt8} {i : Nat} (w : WInv s i) (h : s.drop i = [] ∨ (fst (s.drop i)).2 = true) : wrP s = (decP (s.take i), s.drop i) := by
  obtain ⟨P, w1, w2⟩ := w
  have e := w2 0
  rw [Nat.add_zero, List.take_zero, decP_nil, List.append_nil] at e
  rw [w1, wrP_stop h, e, List.append_nil]

theorem wr_take : ∀ (n : Nat) (s : List UInt8), s.length ≤ n → (wrP s).2.length ≤ s.length ∧ decP (s.take (s.length - (wrP s).2.length)) = (wrP s).1
  | 0, s, h => by
    have : s = [] := List.length_eq_zero_iff.1 (by omega)
    subst this
    rw [wrP_stop (.inl rfl)]; exact ⟨Nat.le_refl _, rfl⟩
  | n + 1, s, h => by
    by_cases hs : s = [] ∨ (fst s).2 = true
    · rw [wrP_stop hs]
      exact ⟨Nat.le_refl _, by simp [decP_nil]⟩
    · rw [not_or] at hs
      have h1 : (fst s).2 = false := by simpa using hs.2
      have d1 := dec1_pos s
      have d2 := dec1_le hs.1
      obtain ⟨i1, i2⟩ := wr_take n (s.drop (dec1 s).2) (by rw [List.length_drop]; omega)
      rw [wrP_step hs.1 h1]
      rw [List.length_drop] at i1 i2
      refine ⟨by show (wrP (s.drop (dec1 s).2)).2.length ≤ _; omega, ?_⟩
      show decP (s.take (s.length - (wrP (s.drop (dec1 s).2)).2.length)) = (dec1 s).1 :: (wrP (s.drop (dec1 s).2)).1
      rw [show s.length - (wrP (s.drop (dec1 s).2)).2.length = (dec1 s).2 + (s.length - (dec1 s).2 - (wrP (s.drop (dec1 s).2)).2.length) by omega]
      have hne : s.take ((dec1 s).2 + (s.length - (dec1 s).2 - (wrP (s.drop (dec1 s).2)).2.length)) ≠ [] := by
        intro e; rw [List.take_eq_nil_iff] at e; rcases e with e | e
        · omega
        · exact hs.1 e
      rw [decP_step hne, dec1_take _ hs.1, List.drop_take, Nat.add_sub_cancel_left, i2]
def rO (h : List UInt8) : AObj := .cells [.str h]
def c91 (xs : List AV) (H : Heap) (K : Kv) : Prop := ∃ (pq z : Nat) (h p : List UInt8) (R : Heap), xs = [.ptr pq 0, .msl z 0 p.length 1] ∧ H.Perm ((pq, rO h) :: R) ∧ H.keys.Nodup ∧ lookH z H = some (.cells (bytesAV p)) ∧ h.length + p.length ≤ 1073741824 ∧
  ∀ H', H'.Perm ((pq, rO (wrP (h ++ p)).2) :: R) → H'.keys.Nodup → K.ap (.sl (i32AV (wrP (h ++ p)).1) (tokc (wrP (h ++ p)).1)) H'
theorem c91_of (P : Program) {G : Nat → Option (List AV)} {xs : List AV} {H : Heap} {K : Kv} (h : c91 xs H K) : @xF ⟨G, P, [(57, c57), (84, c84)]⟩ f91 xs H ⟨fun v H' => ∃ H0, Hle H0 H' ∧ K.ap v H0⟩ := by
  obtain ⟨pq, z, h, p, R, rfl, hp, hn, hz, hl, k⟩ := h
  have hlk : lookH pq H = some (.cells [.str h]) := look_head hp hn
  have htl : List.take p.length (bytesAV p) = bytesAV p := by rw [← by_len p, List.take_length]
  simp (implicitDefEqProofs := false) only [sB, simprocAttr, f91, hlk, hz, htl, by_len, by_of]
  refine ⟨by omega, ?_⟩
  have hL : (h ++ p).length ≤ 1073741824 := by rw [List.length_append]; omega
  generalize h ++ p = s at hL k ⊢
  refine i_loopJ (fun σ H1 => ∃ (i : Nat), H1 = H ∧ i ≤ s.length ∧ WInv s i ∧ σ = [(0, .ptr pq 0), (5, .str s), (6, .int .i64 i)])
    (fun σ _ => match σ.get 6 with | .int _ n => s.length - n.toNat | _ => 0)
    (fun e σ H1 => e = .exit 0 ∧ H1 = H ∧ ∃ (i : Nat), i ≤ s.length ∧ wrP s = (decP (s.take i), s.drop i) ∧ σ.get 0 = .ptr pq 0 ∧ σ.get 5 = .str s ∧ σ.get 6 = .int .i64 i)
    ⟨_, .refl _, 0, rfl, by omega, winv_zero s, rfl⟩ ?_ ?_
  · rintro e σ H1 ⟨rfl, rfl, i, hi, hw, q0, q5, q6⟩
    have i0 : (0 : Int) ≤ (i : Int) := by omega
    have iM : (i : Int) ≤ (s.length : Int) := by omega
    have hp3 := set_head (rO (s.drop i)) hp hn
    have hlt : (s.take i).length ≤ 1073741824 := by rw [List.length_take]; omega
    rw [hw] at k
    simp (implicitDefEqProofs := false) only [sB, simprocAttr, q0, q5, q6, i0, iM, hlk]
    refine x_c57 (s := s.take i) (set_nodup _ hn) (by omega) _ ?_
    simp (implicitDefEqProofs := false) only [sB, simprocAttr]
    exact ⟨_, .refl _, k _ hp3 (set_nodup _ hn)⟩
  · rintro Q hQ σ H1 ⟨i, rfl, hi, hw, rfl⟩
    by_cases c : i < s.length
    · have i0 : (0 : Int) ≤ (i : Int) := by omega
      have iM : (i : Int) ≤ (s.length : Int) := by omega
      have c' : (i : Int) < (s.length : Int) := by omega
      have hdl : (s.drop i).length = s.length - i := List.length_drop
      simp (implicitDefEqProofs := false) only [sB, simprocAttr, c', i0, iM]
      refine x_c84 (by omega) _ _ ?_
      by_cases hf : (fst (s.drop i)).2 = true
      · simp (implicitDefEqProofs := false) only [sB, simprocAttr, hf]
        exact hQ _ _ _ ⟨rfl, rfl, i, hi, winv_end hw (.inr hf), rfl, rfl, rfl⟩
      · have hf' : (fst (s.drop i)).2 = false := by simpa using hf
        have hne : s.drop i ≠ [] := by intro e; have := congrArg List.length e; rw [hdl] at this; simp at this; omega
        have hw' := winv_step c hf' hw
        have d1 := dec1_pos (s.drop i)
        have d2 := dec1_le hne
        rw [hdl] at d2
        by_cases h0 : (fst (s.drop i)).1 = 0
        · have e1 : dec1 (s.drop i) = (65533, 1) := by unfold dec1; rw [if_pos h0]
          rw [e1] at hw' d2
          have z : (((fst (s.drop i)).1 : Nat) : Int) = 0 := by omega
          have r9 := w_i64 ((i : Int) + 1) (by omega) (by omega)
          simp (implicitDefEqProofs := false) only [sB, simprocAttr, hf', z, r9]
          exact ⟨_, .refl _, ⟨i + 1, rfl, by omega, hw', by simp⟩, by omega⟩
        · have e1 := dec1_two h0
          rw [e1] at hw' d2
          have z : ¬ (((fst (s.drop i)).1 : Nat) : Int) = 0 := by omega
          have r9 := w_i64 ((i : Int) + ((fst (s.drop i)).1 : Nat)) (by omega) (by omega)
          simp (implicitDefEqProofs := false) only [sB, simprocAttr, hf', z, r9]
          exact ⟨_, .refl _, ⟨i + (fst (s.drop i)).1, rfl, by omega, hw', by simp⟩, by omega⟩
    · have c' : ¬ (i : Int) < (s.length : Int) := by omega
      simp (implicitDefEqProofs := false) only [sB, simprocAttr, c']
      exact hQ _ _ _ ⟨rfl, rfl, i, hi, winv_end hw (.inl (by rw [List.drop_eq_nil_iff]; omega)), rfl, rfl, rfl⟩

/-- The output so far. -/
def outF (k : Int) (S : List UInt8) (cl : Bool) : List UInt8 := if cl then escP k S else (wrP S).1.flatMap (runeP k)
theorem outF_open (k : Int) (S : List UInt8) : escP k (S.take (S.length - (wrP S).2.length)) = outF k S false := by
  unfold outF escP; rw [(wr_take _ S (Nat.le_refl _)).2]; rfl
theorem outF_len (k : Int) (S : List UInt8) (cl : Bool) : (outF k S cl).length ≤ 12 * S.length := by
  unfold outF
  cases cl with
  | true =>
    have := runeF_len k (decP S)
    have := decP_len _ S (Nat.le_refl _)
    rw [if_pos rfl]; unfold escP; omega
  | false =>
    have := runeF_len k (wrP S).1
    have := wrP_len _ S (Nat.le_refl _)
    rw [if_neg (by decide)]; omega
def mC (k : Int) (S : List UInt8) (d : Nat) (cl : Bool) : AObj := .cells [.int .i64 k, .str S, .int .i64 d, .bool cl]
theorem x_c91 {pq z : Nat} {h p : List UInt8} {H R : Heap} {K : Kv} (hp : H.Perm ((pq, rO h) :: R)) (hn : H.keys.Nodup) (hz : lookH z H = some (.cells (bytesAV p))) (hl : h.length + p.length ≤ 1073741824)
  (k : ∀ H', H'.Perm ((pq, rO (wrP (h ++ p)).2) :: R) → H'.keys.Nodup → K.ap (.sl (i32AV (wrP (h ++ p)).1) (tokc (wrP (h ++ p)).1)) H') : c91 [.ptr pq 0, .msl z 0 p.length 1] H K := ⟨pq, z, h, p, R, rfl, hp, hn, hz, hl, k⟩
theorem x_c20 {e : Int} {s : List UInt8} {H : Heap} {K : Kv} (h0 : 0 ≤ e) (h4 : e ≤ 4) (hn : H.keys.Nodup) (hl : s.length ≤ 1000000) (k : K.ap (.tup [.str (escP e s), .int .i64 0]) H) : c20 [.int .i64 e, .str s] H K :=
  ⟨e, s, rfl, hn, hl, fun _ _ => k, fun h => by omega⟩
def c68 (xs : List AV) (H : Heap) (K : Kv) : Prop := ∃ (q : Nat) (k : Int) (S : List UInt8) (d : Nat) (cl : Bool), xs = [.ptr q 0] ∧ lookH q H = some (mC k S d cl) ∧ H.keys.Nodup ∧ S.length ≤ 1000000 ∧ 0 ≤ k ∧ k ≤ 4 ∧ K.ap (.str (outF k S cl)) H
theorem c68_of (P : Program) {G : Nat → Option (List AV)} {xs : List AV} {H : Heap} {K : Kv} (h : c68 xs H K) : @xF ⟨G, P, [(20, c20), (91, c91)]⟩ f68 xs H ⟨fun v H' => ∃ H0, Hle H0 H' ∧ K.ap v H0⟩ := by
  obtain ⟨q, k, S, d, cl, rfl, hlk, hn, hl, k0, k4, hK⟩ := h
  unfold mC at hlk
  cases cl with
  | true =>
    simp (implicitDefEqProofs := false) only [sB, simprocAttr, f68, hlk]
    refine x_c20 k0 k4 hn (by omega) ?_
    simp (implicitDefEqProofs := false) only [sB, simprocAttr]
    exact ⟨_, .refl _, hK⟩
  | false =>
    simp (implicitDefEqProofs := false) only [sB, simprocAttr, f68, hlk]
    refine i_new fun dd hd => ?_
    have qd := key_ne hlk hd
    have qd' : ¬ dd = q := fun e => qd e.symm
    simp (implicitDefEqProofs := false) only [sB, simprocAttr, qd, qd', hlk]
    refine ⟨by omega, i_new fun z hz => ?_⟩
    have n2 : (Heap.keys ((z, AObj.cells (bytesAV S)) :: (dd, rO []) :: H)).Nodup := List.nodup_cons.2 ⟨hz, List.nodup_cons.2 ⟨hd, hn⟩⟩
    have hp2 : List.Perm ((z, AObj.cells (bytesAV S)) :: (dd, rO []) :: H) ((dd, rO []) :: (z, AObj.cells (bytesAV S)) :: H) := .swap _ _ _
    simp (implicitDefEqProofs := false) only [sB, simprocAttr]
    refine x_c91 (h := []) hp2 n2 (by simp [lookH]) (by simp; omega) fun H3 p3 n3 => ?_
    rw [List.nil_append] at p3 ⊢
    have hl3 : lookH dd H3 = some (.cells [.str (wrP S).2]) := look_head p3 n3
    have hq3 : lookH q H3 = some (.cells [.int .i64 k, .str S, .int .i64 d, .bool false]) := look_app (A := [(dd, rO (wrP S).2), (z, .cells (bytesAV S))]) (H := H) p3 n3 _ _ hlk
    obtain ⟨w1, w2⟩ := wr_take _ S (Nat.le_refl _)
    have sl : (S.length : Int) - ((wrP S).2.length : Int) = ((S.length - (wrP S).2.length : Nat) : Int) := by omega
    have sw := w_i64 ((S.length - (wrP S).2.length : Nat) : Int) (by omega) (by omega)
    have b0 : (0 : Int) ≤ ((S.length - (wrP S).2.length : Nat) : Int) := by omega
    have b1 : ((S.length - (wrP S).2.length : Nat) : Int) ≤ (S.length : Int) := by omega
    simp (implicitDefEqProofs := false) only [sB, simprocAttr, hl3, hq3, sl, sw, b0, b1]
    refine x_c20 k0 k4 n3 (by rw [List.length_take]; omega) ?_
    rw [outF_open]
    simp (implicitDefEqProofs := false) only [sB, simprocAttr]
    exact ⟨H, hle_sub p3 (.cons _ (.cons _ (.refl _))), hK⟩
def c36 (xs : List AV) (H : Heap) (K : Kv) : Prop := ∃ (q : Nat) (k : Int) (S : List UInt8) (d : Nat) (cl : Bool), xs = [.ptr q 0] ∧ lookH q H = some (mC k S d cl) ∧ H.keys.Nodup ∧ S.length ≤ 1000000 ∧ 0 ≤ k ∧ k ≤ 4 ∧ d ≤ (outF k S cl).length ∧ K.ap (.int .i64 ((outF k S cl).length - d : Nat)) H
theorem c36_of (P : Program) {G : Nat → Option (List AV)} {xs : List AV} {H : Heap} {K : Kv} (h : c36 xs H K) : @xF ⟨G, P, [(68, c68)]⟩ f36 xs H K := by
  obtain ⟨q, k, S, d, cl, rfl, hlk, hn, hl, k0, k4, hd, hK⟩ := h
  have hol := outF_len k S cl
  have hl2 := hlk
  unfold mC at hl2
  have sl : ((outF k S cl).length : Int) - (d : Int) = (((outF k S cl).length - d : Nat) : Int) := by omega
  have sw := w_i64 (((outF k S cl).length - d : Nat) : Int) (by omega) (by omega)
  simp (implicitDefEqProofs := false) only [sB, simprocAttr, f36, hl2]
  refine ⟨q, k, S, d, cl, rfl, hlk, hn, hl, k0, k4, ?_⟩
  simp (implicitDefEqProofs := false) only [sB, simprocAttr, hl2, sl, sw]
  exact hK
def c37 (xs : List AV) (H : Heap) (K : Kv) : Prop := ∃ (q : Nat) (k : Int) (S : List UInt8) (d : Nat) (cl : Bool), xs = [.ptr q 0] ∧ lookH q H = some (mC k S d cl) ∧ H.keys.Nodup ∧ S.length ≤ 1000000 ∧ 0 ≤ k ∧ k ≤ 4 ∧ d ≤ (outF k S cl).length ∧ K.ap (.bool (cl && decide ((outF k S cl).drop d = []))) H
theorem c37_of (P : Program) {G : Nat → Option (List AV)} {xs : List AV} {H : Heap} {K : Kv} (h : c37 xs H K) : @xF ⟨G, P, [(36, c36)]⟩ f37 xs H K := by
  obtain ⟨q, k, S, d, cl, rfl, hlk, hn, hl, k0, k4, hd, hK⟩ := h
  have hl2 := hlk
  unfold mC at hl2
  cases cl with
  | false =>
    simp (implicitDefEqProofs := false) only [sB, simprocAttr, f37, hl2]
    exact hK
  | true =>
    simp (implicitDefEqProofs := false) only [sB, simprocAttr, f37, hl2]
    refine ⟨q, k, S, d, true, rfl, hlk, hn, hl, k0, k4, hd, ?_⟩
    rw [Bool.true_and] at hK
    by_cases hz : (outF k S true).length - d = 0
    · rw [decide_eq_true (by rw [List.drop_eq_nil_iff]; omega)] at hK
      have hz' : (((outF k S true).length - d : Nat) : Int) = 0 := by omega
      simp (implicitDefEqProofs := false) only [sB, simprocAttr, hl2, hz']
      exact hK
    · rw [decide_eq_false (by rw [List.drop_eq_nil_iff]; omega)] at hK
      have hz' : ¬ (((outF k S true).length - d : Nat) : Int) = 0 := by omega
      simp (implicitDefEqProofs := false) only [sB, simprocAttr, hl2, hz']
      exact hK
def c33 (xs : List AV) (H : Heap) (K : Kv) : Prop := ∃ (q : Nat) (k : Int) (S b : List UInt8) (d : Nat) (cl : Bool) (t : Tok) (R : Heap), xs = [.ptr q 0, .sl (bytesAV b) t] ∧ H.Perm ((q, mC k S d cl) :: R) ∧ H.keys.Nodup ∧ S.length + b.length ≤ 1000000 ∧
  (cl = true → K.ap (.int .i64 4) H) ∧ (cl = false → ∀ H', H'.Perm ((q, mC k (S ++ b) d cl) :: R) → H'.keys.Nodup → K.ap (.int .i64 0) H')
theorem c33_of (P : Program) {G : Nat → Option (List AV)} {xs : List AV} {H : Heap} {K : Kv} (h : c33 xs H K) : @xF ⟨G, P, []⟩ f33 xs H K := by
  obtain ⟨q, k, S, b, d, cl, t, R, rfl, hp, hn, hl, k1, k2⟩ := h
  have hlk := look_head hp hn
  unfold mC at hlk
  cases cl with
  | true =>
    simp (implicitDefEqProofs := false) only [sB, simprocAttr, f33, hlk]
    exact k1 rfl
  | false =>
    simp (implicitDefEqProofs := false) only [sB, simprocAttr, f33, hlk, by_of]
    exact ⟨by omega, k2 rfl _ (set_head (mC k (S ++ b) d false) hp hn) (set_nodup _ hn)⟩
def c35 (xs : List AV) (H : Heap) (K : Kv) : Prop := ∃ (q : Nat) (k : Int) (S : List UInt8) (d : Nat) (cl : Bool) (R : Heap), xs = [.ptr q 0] ∧ H.Perm ((q, mC k S d cl) :: R) ∧ H.keys.Nodup ∧
  (cl = true → K.ap (.int .i64 4) H) ∧ (cl = false → ∀ H', H'.Perm ((q, mC k S d true) :: R) → H'.keys.Nodup → K.ap (.int .i64 0) H')
theorem c35_of (P : Program) {G : Nat → Option (List AV)} {xs : List AV} {H : Heap} {K : Kv} (h : c35 xs H K) : @xF ⟨G, P, []⟩ f35 xs H K := by
  obtain ⟨q, k, S, d, cl, R, rfl, hp, hn, k1, k2⟩ := h
  have hlk := look_head hp hn
  unfold mC at hlk
  cases cl with
  | true =>
    simp (implicitDefEqProofs := false) only [sB, simprocAttr, f35, hlk]
    exact k1 rfl
  | false =>
    simp (implicitDefEqProofs := false) only [sB, simprocAttr, f35, hlk]
    exact k2 rfl _ (set_head (mC k S d true) hp hn) (set_nodup _ hn)
def c34 (xs : List AV) (H : Heap) (K : Kv) : Prop := ∃ (q : Nat) (k n : Int) (S : List UInt8) (d : Nat) (cl : Bool) (R : Heap), xs = [.ptr q 0, .int .i64 n] ∧ H.Perm ((q, mC k S d cl) :: R) ∧ H.keys.Nodup ∧ S.length ≤ 1000000 ∧ 0 ≤ k ∧ k ≤ 4 ∧ d ≤ (outF k S cl).length ∧
  ∀ (m w : Nat) H', m = min n.toNat ((outF k S cl).length - d) → H'.Perm ((w, .cells (bytesAV (((outF k S cl).drop d).take m))) :: (q, mC k S (d + m) cl) :: R) → H'.keys.Nodup → K.ap (.msl w 0 m 1) H'
theorem c34_of (P : Program) {G : Nat → Option (List AV)} {xs : List AV} {H : Heap} {K : Kv} (h : c34 xs H K) : @xF ⟨G, P, [(36, c36), (68, c68)]⟩ f34 xs H ⟨fun v H' => ∃ H0, Hle H0 H' ∧ K.ap v H0⟩ := by
  obtain ⟨q, k, n, S, d, cl, R, rfl, hp, hn, hl, k0, k4, hd, hK⟩ := h
  have hol := outF_len k S cl
  have hlk := look_head hp hn
  have r36 : ∀ K' : Kv, K'.ap (.int .i64 ((outF k S cl).length - d : Nat)) H → c36 [.ptr q 0] H K' := fun K' h => ⟨q, k, S, d, cl, rfl, hlk, hn, hl, k0, k4, hd, h⟩
  have r68 : ∀ K' : Kv, K'.ap (.str (outF k S cl)) H → c68 [.ptr q 0] H K' := fun K' h => ⟨q, k, S, d, cl, rfl, hlk, hn, hl, k0, k4, h⟩
  have hl2 := hlk
  unfold mC at hl2
  generalize outF k S cl = out at *
  have d0 : (0 : Int) ≤ (d : Int) := by omega
  have d1 : (d : Int) ≤ (out.length : Int) := by omega
  obtain ⟨m, hm⟩ : ∃ m, m = min n.toNat (out.length - d) := ⟨_, rfl⟩
  have m0 : (0 : Int) ≤ (m : Int) := by omega
  have m1 : (m : Int) ≤ ((out.length - d : Nat) : Int) := by omega
  have wd := w_i64 ((d : Int) + (m : Int)) (by omega) (by omega)
  have hdl : ((out.drop d).length : Int) = ((out.length - d : Nat) : Int) := by rw [List.length_drop]
  have wd2 : IntKind.wrap .i64 ((d : Int) + (m : Int)) = ((d + m : Nat) : Int) := by rw [wd]; omega
  have h5 : (setH q (mC k S (d + m) cl) H).Perm ((q, mC k S (d + m) cl) :: R) := set_head (mC k S (d + m) cl) hp hn
  have n5 : (setH q (mC k S (d + m) cl) H).keys.Nodup := set_nodup _ hn
  have fin : ∀ w : Nat, w ∉ (setH q (mC k S (d + m) cl) H).keys → ∃ H0, Hle H0 ((w, .cells (bytesAV ((out.drop d).take m))) :: setH q (mC k S (d + m) cl) H) ∧ K.ap (.msl w 0 m 1) H0 := fun w hw =>
    ⟨_, .refl _, hK m w _ hm (.cons _ h5) (List.nodup_cons.2 ⟨hw, n5⟩)⟩
  by_cases c0 : n < 0
  · obtain rfl : m = 0 := by omega
    have c1 : ¬ ((out.length - d : Nat) : Int) < 0 := by omega
    have wd3 : IntKind.wrap .i64 (d : Int) = (d : Int) := w_i64 _ (by omega) (by omega)
    simp (implicitDefEqProofs := false) only [sB, simprocAttr, f34, c0]
    refine r36 _ ?_
    simp (implicitDefEqProofs := false) only [sB, simprocAttr, c1, hl2]
    refine r68 _ ?_
    simp (implicitDefEqProofs := false) only [sB, simprocAttr, hl2, d0, d1, hdl, wd3]
    refine ⟨by omega, i_new fun w hw => ?_⟩
    simp (implicitDefEqProofs := false) only [sB, simprocAttr]
    exact fin w hw
  · by_cases c1 : ((out.length - d : Nat) : Int) < n
    · obtain rfl : m = out.length - d := by omega
      simp (implicitDefEqProofs := false) only [sB, simprocAttr, f34, c0]
      refine r36 _ ?_
      simp (implicitDefEqProofs := false) only [sB, simprocAttr, c1]
      refine r36 _ ?_
      simp (implicitDefEqProofs := false) only [sB, simprocAttr, hl2]
      refine r68 _ ?_
      simp (implicitDefEqProofs := false) only [sB, simprocAttr, hl2, d0, d1, hdl, wd2]
      refine ⟨by omega, by omega, i_new fun w hw => ?_⟩
      simp (implicitDefEqProofs := false) only [sB, simprocAttr]
      have := fin w hw
      rw [List.take_of_length_le (by rw [List.length_drop]; omega)] at this
      exact this
    · obtain rfl : n = (m : Int) := by omega
      have hif : (if m ≤ out.length - d then m else out.length - d) = m := if_pos (by omega)
      simp (implicitDefEqProofs := false) only [sB, simprocAttr, f34, c0]
      refine r36 _ ?_
      simp (implicitDefEqProofs := false) only [sB, simprocAttr, c1, hl2]
      refine r68 _ ?_
      simp (implicitDefEqProofs := false) only [sB, simprocAttr, hl2, d0, d1, hdl, wd2, hif]
      refine ⟨⟨by omega, by omega⟩, by omega, i_new fun w hw => ?_⟩
      simp (implicitDefEqProofs := false) only [sB, simprocAttr, hif]
      exact fin w hw
end Go.AL.Fun
