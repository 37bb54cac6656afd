/- Split: the library's, the program's, the reference's. -/
import Derived.Test.YtpeaphpibnikcaaDoorT9
import Derived.Test.YtpeaphpibnikcaaDoorQ1
import Derived.Test.YtpeaphpibnikcaaDoorX5
set_option linter.unusedSimpArgs false
set_option linter.unusedVariables false
set_option maxRecDepth 100000
set_option maxHeartbeats 4000000
namespace Go.AL.Fun
open Go Go.AL Go.Proofs

theorem splitD_len (s : List UInt8) : (splitD s).length = s.count 46 + 1 := by
  induction s with
  | nil => rfl
  | cons c s ih =>
    unfold splitD
    by_cases hc : c = 46
    · subst hc; rw [if_pos rfl, List.length_cons, ih, List.count_cons_self]
    · rw [if_neg hc, List.count_cons_of_ne hc]
      cases hs : splitD s with
      | nil => exact absurd hs (splitD_ne s)
      | cons h t => rw [hs] at ih; simpa using ih
theorem ix_lt : ∀ (s : List UInt8) (i : Nat), Lib.indexByte s 46 = i → i < s.length
  | [], i, h => by
    have : (-1 : Int) = i := h
    omega
  | c :: s, i, h => by
    rw [ix_cons] at h
    have hg := Lib.indexByte_ge s 46
    rw [List.length_cons]
    by_cases hc : c = 46
    · subst hc
      rw [if_pos (by simp)] at h; omega
    · have hc' : (c == 46) = false := by simpa using hc
      rw [hc', if_neg (by simp)] at h
      by_cases h1 : Lib.indexByte s 46 = -1
      · rw [if_pos (by simpa using h1)] at h; omega
      · rw [if_neg (by simpa using h1)] at h
        have := ix_lt s (i - 1) (by omega)
        omega
theorem splitD_one {t : List UInt8} (h : t.count 46 = 0) : splitD t = [t] := by
  have hg := Lib.indexByte_ge t 46
  have tl := splitD_len t
  by_cases e : Lib.indexByte t 46 = -1
  · exact splitD_miss t e
  · obtain ⟨j, hj⟩ : ∃ j : Nat, Lib.indexByte t 46 = j := ⟨(Lib.indexByte t 46).toNat, by omega⟩
    have hh := splitD_hit t j hj
    rw [hh, List.length_cons, splitD_len] at tl
    omega
theorem strs_set (a b : List (List UInt8)) (x y : List UInt8) : (strsAV (a ++ x :: b)).take a.length ++ AV.str y :: (strsAV (a ++ x :: b)).drop (a.length + 1) = strsAV (a ++ y :: b) := by
  induction a with
  | nil => rfl
  | cons c a ih => simp only [List.cons_append, strsAV, List.map_cons, List.length_cons, List.take_succ_cons, List.drop_succ_cons] at ih ⊢; rw [ih]
theorem x_c53 {s : List UInt8} {c : UInt8} {H : Heap} {K : Kv} (k : K.ap (.int .i64 (s.count c : Nat)) H) : c53 [.str s, .str [c]] H K := ⟨s, c, rfl, k⟩
theorem x_c54 {s : List UInt8} {c : UInt8} {H : Heap} {K : Kv} (k : K.ap (.int .i64 (Lib.indexByte s c)) H) : c54 [.str s, .str [c]] H K := ⟨s, c, rfl, k⟩
def c45 (xs : List AV) (H : Heap) (K : Kv) : Prop := ∃ s : List UInt8, xs = [.str s, .str [46], .int .i64 0, .int .i64 (-1)] ∧ H.keys.Nodup ∧ s.length ≤ 1048576 ∧ K.ap (.sl (strsAV (splitD s)) .no) H
theorem c45_of (P : Program) {G : Nat → Option (List AV)} {xs : List AV} {H : Heap} {K : Kv} (h : c45 xs H K) : @xF ⟨G, P, [(53, c53), (54, c54)]⟩ f45 xs H ⟨fun v H' => ∃ v' H0, Frz v H' v' H0 ∧ K.ap v' H0⟩ := by
  obtain ⟨s, rfl, hn, hs, k⟩ := h
  have hcl : s.count 46 ≤ s.length := List.count_le_length
  have hc1 := w_i64 ((s.count 46 : Nat) + 1) (by omega) (by omega)
  have hc2 := w_i64 ((s.length : Int) + 1) (by omega) (by omega)
  simp (implicitDefEqProofs := false) only [sB, simprocAttr, f45]
  refine x_c53 ?_
  have hm : ¬ (s.length : Int) + 1 < (s.count 46 : Nat) + 1 := by omega
  have tn : (((s.count 46 : Nat) : Int) + 1).toNat = s.count 46 + 1 := by omega
  have rs : IntKind.i64.wrap (((s.count 46 : Nat) : Int) + 1 - 1) = (s.count 46 : Nat) := by rw [w_i64 _ (by omega) (by omega)]; omega
  simp (implicitDefEqProofs := false) only [sB, simprocAttr, hc1, hc2, hm, tn, rs]
  refine ⟨by omega, i_new fun id hid => ?_⟩
  simp (implicitDefEqProofs := false) only [sB, simprocAttr, hc1, hc2, hm, tn, rs]
  refine i_loopJ (fun σ H1 => ∃ (t : List UInt8) (out : List (List UInt8)), H1 = (id, .cells (strsAV (out ++ List.replicate (s.count 46 + 1 - out.length) []))) :: H ∧ out.length + t.count 46 = s.count 46 ∧ out ++ splitD t = splitD s ∧ t.length ≤ s.length ∧
      σ = [(0, .str t), (1, .str [46]), (2, .int .i64 0), (3, .int .i64 (s.count 46 : Nat)), (9, .msl id 0 (s.count 46 + 1) 1), (10, .int .i64 out.length)])
    (fun σ _ => match σ.get 10 with | .int _ n => s.count 46 - n.toNat | _ => 0)
    (fun e σ H1 => e = .exit 0 ∧ ∃ (t : List UInt8) (out : List (List UInt8)), H1 = (id, .cells (strsAV (out ++ [[]]))) :: H ∧ out.length = s.count 46 ∧ out ++ [t] = splitD s ∧ σ.get 0 = .str t ∧ σ.get 9 = .msl id 0 (s.count 46 + 1) 1 ∧ σ.get 10 = .int .i64 (s.count 46 : Nat))
    ⟨_, .refl _, s, [], ?_, by simp, rfl, Nat.le_refl _, rfl⟩ ?_ ?_
  · simp only [List.nil_append, List.length_nil, Nat.sub_zero, strsAV, List.map_replicate]
    congr 3
    induction s.count 46 + 1 with
    | zero => rfl
    | succ n ih => rw [List.replicate_succ, List.replicate_succ, List.flatten_cons, ih]; rfl
  · rintro e σ H1 ⟨rfl, t, out, rfl, ho, hd, q0, q9, q10⟩
    have ln := splitD_len s
    have i0 : (0 : Int) ≤ (s.count 46 : Nat) := by omega
    have e1 := strs_set out [] [] t
    rw [ho] at e1
    simp (implicitDefEqProofs := false) only [sB, simprocAttr, q0, q9, q10, hc1]
    rw [e1, hd]
    refine ⟨⟨by omega, by omega⟩, by rw [strs_len, List.length_append, ho, List.length_singleton]; exact Nat.le_refl _, ⟨by omega, by omega⟩, _, _, .inr ⟨id, strsAV (splitD s), ?_, ?_, .refl _, rfl⟩, ?_⟩
    · rw [tn, strs_len, ln]
    · intro x hx; obtain ⟨y, _, rfl⟩ := List.mem_map.1 hx; rfl
    · exact k
  · rintro Q hQ σ H1 ⟨t, out, rfl, hct, hd, ht, rfl⟩
    by_cases c : out.length < s.count 46
    · have c' : (out.length : Int) < (s.count 46 : Nat) := by omega
      simp (implicitDefEqProofs := false) only [sB, simprocAttr, c']
      refine x_c54 ?_
      have hg := Lib.indexByte_ge t 46
      have hne : Lib.indexByte t 46 ≠ -1 := by
        intro e
        have := congrArg List.length (splitD_miss t e)
        rw [splitD_len] at this
        simp at this; omega
      obtain ⟨j, hj⟩ : ∃ j : Nat, Lib.indexByte t 46 = j := ⟨(Lib.indexByte t 46).toNat, by omega⟩
      rw [hj]
      have hh := splitD_hit t j hj
      have j0 : ¬ (j : Int) < 0 := by omega
      have jl := ix_lt t j hj
      have w1 := w_i64 (j : Int) (by omega) (by omega)
      have w2 := w_i64 ((j : Int) + 1) (by omega) (by omega)
      have w3 := w_i64 ((out.length : Int) + 1) (by omega) (by omega)
      obtain ⟨d, hd9⟩ : ∃ d, s.count 46 + 1 - out.length = d + 1 := ⟨s.count 46 - out.length, by omega⟩
      have tc : (splitD (t.drop (j + 1))).length + 1 = (splitD t).length := by rw [hh, List.length_cons]
      rw [splitD_len, splitD_len] at tc
      have tj : ((j : Int) + 1).toNat = j + 1 := by omega
      simp (implicitDefEqProofs := false) only [sB, simprocAttr, j0, w1, w2, w3]
      rw [hd9, List.replicate_succ, strs_set, tj]
      refine ⟨⟨by omega, by omega⟩, ⟨by omega, by omega⟩, by rw [strs_len, List.length_append, List.length_cons]; omega, ⟨by omega, by omega⟩, _, .refl _, ⟨t.drop (j + 1), out ++ [t.take j], ?_, ?_, ?_, ?_, rfl, ?_⟩, by omega⟩
      · rw [List.length_append, List.length_singleton, show s.count 46 + 1 - (out.length + 1) = d by omega, List.append_assoc]; rfl
      · rw [List.length_append, List.length_singleton]; omega
      · rw [List.append_assoc, ← hd, hh]; rfl
      · rw [List.length_drop]; omega
      · rw [List.length_append, List.length_singleton]; simp
    · have c' : ¬ (out.length : Int) < (s.count 46 : Nat) := by omega
      have hl : out.length = s.count 46 := by omega
      have t0 : t.count 46 = 0 := by omega
      have tm := splitD_one t0
      simp (implicitDefEqProofs := false) only [sB, simprocAttr, c']
      refine hQ _ _ _ ⟨rfl, t, out, ?_, hl, by rw [← tm]; exact hd, rfl, rfl, by rw [hl]; rfl⟩
      rw [hl, Nat.add_sub_cancel_left]; rfl
end Go.AL.Fun
