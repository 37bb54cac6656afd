/- RingMatchesReference: for every number and every list of calls the law answers true and leaves its arguments as they were, where what it reads is of bulk at most 1048576. -/
import Derived.Test.YthiphpcbeeakpaaK3
import Derived.Test.YthiphpcbeeakpaaG10
namespace Go.Proofs.Ythiphpcbeeakpaa.ringMatchesReference
open Go.ChangeShapes Go.WideShapes Go.ChangeAt Go.RowKit Go.AL Go.AL.Fun

theorem types : okT Try.prog [3, 37, 50, 23, 5] = true := by kernel_rfl

theorem contract (H : Type) (enc : TypeId × Value → H) (W : World) (base : Nat) (args : Array Value) (ds gs : List (DataW H)) (before : List MemPlace)
    (hval : ∀ (j : Nat) t v, Try.f7.params[j]? = some t → args[j]? = some v → Value.okWide Try.prog W .any base t v)
    (hW : DataW.Whole enc Try.prog Try.f7.params.toList Rows.ringMatchesReferenceSpec.vars false W args.toList ds gs before) (hk : Rows.uptoSmall H (ds ++ gs) = true) :
    Calls Try.prog 7 args W fun e W' => ∃ v, e = .returned v ∧ Rows.ringMatchesReferenceSpec.post enc Try.prog Try.f7 false true false false W args v W' := by
  have hW' := hW
  obtain ⟨p, q, hA0, hV, rfl, hfz, hnd⟩ := hW
  have hA : DataW.TrodAll enc Try.prog W 0 (fun _ => true) true Try.f7.params.toList args.toList ds p := hA0
  rw [Try.params7] at hA hval
  obtain ⟨v0, vs0, d0, ds0, p0, q0, hargs, rfl, rfl, h0, r0⟩ := trodAll_cons hA
  obtain ⟨v1, vs1, d1, ds1, p1, q1, rfl, rfl, rfl, h1, r1⟩ := trodAll_cons r0
  obtain ⟨rfl, rfl, rfl⟩ := trodAll_nil r1
  obtain rfl : args = #[v0, v1] := by cases args; simp_all
  obtain ⟨rfl, rfl⟩ := trodVars_none hV
  clear hA0
  have hb := law.small hk
  simp only [List.append_nil, Rows.uptoBulkAll] at hb
  obtain ⟨x0, e0, b0, n0, hx0, hw0⟩ := arg_one Try.underlying3 rfl (hval 0 3 v0 rfl rfl) h0 (rd_int (k := .i64) law.bulk Try.underlying3)
  obtain rfl : x0 = .int .i64 n0 := by simpa using hx0
  obtain ⟨lo0, hi0⟩ := bounds_i64 hw0
  obtain ⟨x1, e1, xs1, tok1, m1, hx1, ht1, hs1, hm1⟩ := arg_one Try.underlying37 rfl (hval 1 37 v1 rfl rfl) h1
    (rd_slice (g := true) (V := VA) law.bulk Try.underlying37 (Nat.le_of_ble_eq_true (by kernel_rfl)) (.inl rfl) (fun avs n h => by obtain ⟨a, rfl, _⟩ := va_act h; exact (by kernel_rfl : 3 = Try.prog.cellsOf 50))
      (rd_struct (Vs := [VI, VB, VI]) law.bulk Try.underlying50 ⟨by kernel_rfl, rd_int (k := .i64) law.bulk Try.underlying3, by kernel_rfl,
        rd_slice (g := false) law.bulk Try.underlying23 (Nat.le_of_ble_eq_true (by kernel_rfl)) (.inr ⟨rfl, fun avs n ⟨_, z, h, _⟩ => ⟨_, h, rfl⟩⟩) (fun avs n ⟨_, z, h, _⟩ => by rw [h]; exact (by kernel_rfl : 1 = Try.prog.cellsOf 5)) (rd_int (k := .u8) law.bulk Try.underlying5),
        by kernel_rfl, rd_int (k := .i64) law.bulk Try.underlying3, by (change (_ : Nat) = _); kernel_rfl⟩))
  obtain rfl : x1 = .sl xs1 tok1 := by simpa using hx1
  rw [show Try.prog.cellsOf 50 = 3 by kernel_rfl] at hs1
  obtain ⟨l1, rfl, hl1, hn1⟩ := slv_acts hs1
  refine (law_true law.mixed (tS_ok law.mixed f26_ok f28_ok f27_ok f31_ok f23_ok f24_ok f25_ok f30_ok f29_ok f32_ok f33_ok f34_ok f35_ok) f7_ok _ (((RelL.nil _).cons e1).cons e0) (fun K hK => law7 _ n0 l1 tok1 (by omega) (by omega) hn1 K hK)).mono fun e W' ⟨he, hg⟩ => ?_
  subst he
  exact ⟨_, rfl, post_true types (by rw [Try.params7]; simp) hW' rfl rfl Try.underlying4 ⟨rfl, rfl, rfl⟩ hg⟩

set_option maxRecDepth 100000 in
theorem lifted (os : Os) (started : os.Started) (H : Type) (enc : TypeId × Value → H) (F : Stop.Interp) :
    ReturnsInHanded {} Try.checked os 7 .any ((Rows.OpenSpec.upto Rows.ringMatchesReferenceSpec).pre6 enc Try.prog Try.f7 Rows.ringMatchesReferenceUptoRow.domain false) (((Rows.OpenSpec.upto Rows.ringMatchesReferenceSpec).at F).post enc Try.prog Try.f7 false true false false) := by
  refine returnsInHanded_of_cond (C := Try.checked) (s := Rows.OpenSpec.upto Rows.ringMatchesReferenceSpec) (k := Rows.uptoSmall) rfl law.own started (by kernel_rfl) Try.func7
    (OpenSpec.witness (enc := enc) (C := Try.checked) (s := Rows.OpenSpec.upto Rows.ringMatchesReferenceSpec) (k := Rows.uptoSmall) rfl false ⟨#[], #[.int .i64 0, .slice none 0 0], []⟩ 8 (by kernel_rfl) (by kernel_rfl) (by kernel_rfl)
      (x := ([.lit (.int .i64 0), .nil], [], [])) (by kernel_rfl) rfl (by kernel_rfl)) ?_
  intro W base args ds gs before hval hW _ hk _
  exact contract H enc W base args ds gs before hval hW hk

theorem proved : Rows.RingMatchesReferenceUptoSaid :=
  OpenClaim.holds_of_cond 7 Try.f7 rfl rfl rfl rfl rfl rfl rfl ⟨rfl, rfl, rfl, rfl, rfl⟩ rfl rfl rfl rfl rfl (by kernel_rfl) Try.func7 (by kernel_rfl)
    (of_decide_eq_true (by kernel_rfl)) (by unfold Func.isWrapper; first | (rw [if_pos (by decide +kernel)]; kernel_rfl) | (rw [if_neg (by decide +kernel)]; exact ⟨rfl, rfl⟩))
    (fun os started H enc _ F => lifted os started H enc F)
end Go.Proofs.Ythiphpcbeeakpaa.ringMatchesReference
