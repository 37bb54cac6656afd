/- Values of the data tree, read. -/
import Derived.Test.YtpeaphpibnikcaaK1
import Derived.Test.YtpeaphpibnikcaaV1
namespace Go.Proofs.Ytpeaphpibnikcaa.law
open Go.ChangeShapes Go.WideShapes Go.ChangeAt Go.RowKit Go.AL Go.AL.Fun
abbrev VI : List AV → Nat → Prop := fun avs b => 1 ≤ b ∧ ∃ n, avs = [.int .i64 n] ∧ (Lit.int .i64 n).wf = true
abbrev VO : List AV → Nat → Prop := fun avs _ => ∃ b, avs = [.bool b]
abbrev VS : List AV → Nat → Prop := fun avs n => ∃ s, avs = [.str s] ∧ s.length + 1 ≤ n
abbrev VIs : List AV → Nat → Prop := fun avs n => ∃ xs tok m, avs = [.sl xs tok] ∧ ((tok = .nil ∧ xs = []) ∨ tok = .no) ∧ SlV true 6 ValV xs m ∧ m + 1 ≤ n
abbrev VFs : List AV → Nat → Prop := fun avs n => ∃ xs tok m, avs = [.sl xs tok] ∧ ((tok = .nil ∧ xs = []) ∨ tok = .no) ∧ SlV true 7 FldV xs m ∧ m + 1 ≤ n
theorem val_of {avs : List AV} {n : Nat} (h : ∃ m, StV [VI, VS, VI, VO, VIs, VFs] avs m ∧ m ≤ n) : ValV avs n := by
  obtain ⟨m, ⟨a, r, m1, k1, rfl, ⟨o1, k, rfl, w1⟩, ⟨b, r2, m2, k2, rfl, ⟨s, rfl, l2⟩, ⟨c, r3, m3, k3, rfl, ⟨o3, z, rfl, w3⟩, ⟨d, r4, m4, k4, rfl, ⟨bb, rfl⟩, ⟨e, r5, m5, k5, rfl, ⟨xs, t1, q1, rfl, ht1, sv1, l5⟩, ⟨f, r6, m6, k6, rfl, ⟨ys, t2, q2, rfl, ht2, sv2, l6⟩, h7, j6⟩, j5⟩, j4⟩, j3⟩, j2⟩, j1⟩, j0⟩ := h
  cases h7
  obtain ⟨is, rfl, o5, w5⟩ := slv_vals sv1
  obtain ⟨fs, rfl, o6, w6⟩ := slv_flds sv2
  refine ⟨.mk k s z bb t1 is t2 fs, by simp [Val.cs], ?_, ?_⟩
  · simp only [Val.ok]
    refine ⟨w1, w3, ?_, ?_, o5, o6⟩
    · rcases ht1 with ⟨h1, h2⟩ | h1
      · refine .inl ⟨h1, ?_⟩
        cases is with
        | nil => rfl
        | cons v l => simp [Val.avs] at h2
      · exact .inr h1
    · rcases ht2 with ⟨h1, h2⟩ | h1
      · refine .inl ⟨h1, ?_⟩
        cases fs with
        | nil => rfl
        | cons v l => simp [Val.fvs] at h2
      · exact .inr h1
  · simp only [Val.wt]; omega
theorem fld_of {avs : List AV} {n : Nat} (h : ∃ m, StV [VS, ValV] avs m ∧ m ≤ n) : FldV avs n := by
  obtain ⟨m, ⟨a, r, m1, k1, rfl, ⟨s, rfl, l1⟩, ⟨b, r2, m2, k2, rfl, ⟨v, rfl, o2, w2⟩, h3, j2⟩, j1⟩, j0⟩ := h
  cases h3
  refine ⟨(s, v), by simp, o2, ?_⟩
  simp only [Val.wt1]; omega
section
variable {H : Type} {enc : TypeId × Value → H} {W : World}
theorem val_sz (avs : List AV) (n : Nat) (h : ValV avs n) : avs.length = Try.prog.cellsOf 27 := by
  obtain ⟨v, rfl, _⟩ := h; rw [Val.cs_len]; kernel_rfl
theorem fld_sz (avs : List AV) (n : Nat) (h : FldV avs n) : avs.length = Try.prog.cellsOf 47 := by
  obtain ⟨v, rfl, _⟩ := h; rw [List.length_cons, Val.cs_len]; kernel_rfl
theorem c27 : Try.prog.cellsOf 27 = 6 := by kernel_rfl
theorem c47 : Try.prog.cellsOf 47 = 7 := by kernel_rfl
theorem rd_fldU {N : Nat} (h : RdsU N enc Try.prog W Rows.uptoBulk 27 ValV) : RdsU (N + 1) enc Try.prog W Rows.uptoBulk 47 FldV :=
  (rd_structU (Vs := [VS, ValV]) law.bulk Try.underlying47 ⟨by kernel_rfl, (rd_str law.bulk Try.underlying9).u _, by kernel_rfl, h, by (change (_ : Nat) = _); kernel_rfl⟩).imp fun _ _ => fld_of
theorem rd_isU {N : Nat} (h : RdsU N enc Try.prog W Rows.uptoBulk 27 ValV) : RdsU (N + 1) enc Try.prog W Rows.uptoBulk 25 VIs := by
  have := rd_sliceU (g := true) law.bulk Try.underlying25 (Nat.le_of_ble_eq_true (by kernel_rfl)) (.inl rfl) val_sz h
  rw [c27] at this
  exact this
theorem rd_fsU {N : Nat} (h : RdsU N enc Try.prog W Rows.uptoBulk 47 FldV) : RdsU (N + 1) enc Try.prog W Rows.uptoBulk 22 VFs := by
  have := rd_sliceU (g := true) law.bulk Try.underlying22 (Nat.le_of_ble_eq_true (by kernel_rfl)) (.inl rfl) fld_sz h
  rw [c47] at this
  exact this
theorem rd_valU : ∀ N, RdsU N enc Try.prog W Rows.uptoBulk 27 ValV
  | 0 => fun f hf => absurd hf (Nat.not_lt_zero _)
  | N + 1 =>
    have ih := rd_valU N
    (rd_structU (Vs := [VI, VS, VI, VO, VIs, VFs]) law.bulk Try.underlying27 ⟨by kernel_rfl, (rd_int (k := .i64) law.bulk Try.underlying3).u _, by kernel_rfl, (rd_str law.bulk Try.underlying9).u _, by kernel_rfl, (rd_int (k := .i64) law.bulk Try.underlying2).u _,
      by kernel_rfl, (rd_bool Try.underlying4).u _, by kernel_rfl, (rd_isU ih).le (Nat.le_succ _), by kernel_rfl, (rd_fsU (rd_fldU ih)).le (by omega), by (change (_ : Nat) = _); kernel_rfl⟩).imp fun _ _ => val_of
theorem rd_flds : Rds enc Try.prog W Rows.uptoBulk 22 VFs := rds_all fun N => (rd_fsU (rd_fldU (rd_valU N))).le (by omega)
end
theorem slv_strs {xs : List AV} {n : Nat} (h : SlV false 1 VS xs n) : ∃ l : List (List UInt8), xs = l.map AV.str ∧ l.length ≤ n ∧ ∀ s ∈ l, s.length ≤ n := by
  induction h with
  | nil => exact ⟨[], rfl, Nat.le_refl _, by simp⟩
  | one avs x b xs n hv hg _ _ _ ih =>
    obtain ⟨s, rfl, h1⟩ := hv
    obtain ⟨l, rfl, h3, h4⟩ := ih
    simp at hg
    subst hg
    refine ⟨s :: l, rfl, by simp only [List.length_cons]; omega, fun t ht => ?_⟩
    rcases List.mem_cons.1 ht with rfl | ht
    · omega
    · have := h4 t ht; omega
end Go.Proofs.Ytpeaphpibnikcaa.law
