/- RingPeekIsPrefix: for every byte slice and every two bytes the law answers true and leaves its arguments as they were, where what it reads is of bulk at most 1048576. -/
import Derived.Test.YthiphpcbeeakpaaK1
import Derived.Test.YthiphpcbeeakpaaG6
namespace Go.Proofs.Ythiphpcbeeakpaa.ringPeekIsPrefix
open Go.ChangeShapes Go.WideShapes Go.ChangeAt Go.RowKit Go.AL Go.AL.Fun

theorem types : okT Try.prog [5, 23] = true := by kernel_rfl

theorem contract (H : Type) (enc : TypeId × Value → H) (W : World) (base : Nat) (args : Array Value) (ds gs : List (DataW H)) (before : List MemPlace)
    (hval : ∀ (j : Nat) t v, Try.f12.params[j]? = some t → args[j]? = some v → Value.okWide Try.prog W .any base t v)
    (hW : DataW.Whole enc Try.prog Try.f12.params.toList Rows.ringPeekIsPrefixSpec.vars false W args.toList ds gs before) (hk : Rows.uptoSmall H (ds ++ gs) = true) :
    Calls Try.prog 12 args W fun e W' => ∃ v, e = .returned v ∧ Rows.ringPeekIsPrefixSpec.post enc Try.prog Try.f12 false true false false W args v W' := by
  have hW' := hW
  obtain ⟨p, q, hA0, hV, rfl, hfz, hnd⟩ := hW
  have hA : DataW.TrodAll enc Try.prog W 0 (fun _ => true) true Try.f12.params.toList args.toList ds p := hA0
  rw [Try.params12] at hA hval
  obtain ⟨v0, vs0, d0, ds0, p0, q0, hargs, rfl, rfl, h0, r0⟩ := trodAll_cons hA
  obtain ⟨v1, vs1, d1, ds1, p1, q1, rfl, rfl, rfl, h1, r1⟩ := trodAll_cons r0
  obtain ⟨v2, vs2, d2, ds2, p2, q2, rfl, rfl, rfl, h2, r2⟩ := trodAll_cons r1
  obtain ⟨rfl, rfl, rfl⟩ := trodAll_nil r2
  obtain rfl : args = #[v0, v1, v2] := by cases args; simp_all
  obtain ⟨rfl, rfl⟩ := trodVars_none hV
  clear hA0
  have hb := law.small hk
  simp only [List.append_nil, Rows.uptoBulkAll] at hb
  obtain ⟨x0, e0, xs0, tok0, m0, hx0, ht0, hs0, hm0⟩ := arg_one Try.underlying23 rfl (hval 0 23 v0 rfl rfl) h0
    (rd_slice (g := false) law.bulk Try.underlying23 (Nat.le_of_ble_eq_true (by kernel_rfl)) (.inr ⟨rfl, fun avs n ⟨_, z, h, _⟩ => ⟨_, h, rfl⟩⟩) (fun avs n ⟨_, z, h, _⟩ => by rw [h]; exact (by kernel_rfl : 1 = Try.prog.cellsOf 5)) (rd_int (k := .u8) law.bulk Try.underlying5))
  obtain rfl : x0 = .sl xs0 tok0 := by simpa using hx0
  rw [show Try.prog.cellsOf 5 = 1 by kernel_rfl] at hs0
  have hl0 := slv_len (fun _ _ h => h.1) hs0
  obtain ⟨bs0, rfl⟩ := slv_bytes hs0
  rw [by_len] at hl0
  obtain ⟨x1, e1, b1, n1, hx1, hw1⟩ := arg_one Try.underlying5 rfl (hval 1 5 v1 rfl rfl) h1 (rd_int (k := .u8) law.bulk Try.underlying5)
  obtain rfl : x1 = .int .u8 n1 := by simpa using hx1
  obtain ⟨lo1, hi1⟩ := bounds_u8 hw1
  obtain ⟨x2, e2, b2, n2, hx2, hw2⟩ := arg_one Try.underlying5 rfl (hval 2 5 v2 rfl rfl) h2 (rd_int (k := .u8) law.bulk Try.underlying5)
  obtain rfl : x2 = .int .u8 n2 := by simpa using hx2
  obtain ⟨lo2, hi2⟩ := bounds_u8 hw2
  refine (law_true law.mixed (tR_ok law.mixed f26_ok f28_ok f27_ok f31_ok f23_ok f24_ok f25_ok f30_ok) f12_ok _ ((((RelL.nil _).cons e2).cons e1).cons e0) (fun K hK => law12 _ bs0 n1 n2 tok0 (by omega) lo1 (by omega) lo2 (by omega) K hK)).mono fun e W' ⟨he, hg⟩ => ?_
  subst he
  exact ⟨_, rfl, post_true types (by rw [Try.params12]; simp) hW' rfl rfl Try.underlying4 ⟨rfl, rfl, rfl⟩ hg⟩

set_option maxRecDepth 100000 in
theorem lifted (os : Os) (started : os.Started) (H : Type) (enc : TypeId × Value → H) (F : Stop.Interp) :
    ReturnsInHanded {} Try.checked os 12 .any ((Rows.OpenSpec.upto Rows.ringPeekIsPrefixSpec).pre6 enc Try.prog Try.f12 Rows.ringPeekIsPrefixUptoRow.domain false) (((Rows.OpenSpec.upto Rows.ringPeekIsPrefixSpec).at F).post enc Try.prog Try.f12 false true false false) := by
  refine returnsInHanded_of_cond (C := Try.checked) (s := Rows.OpenSpec.upto Rows.ringPeekIsPrefixSpec) (k := Rows.uptoSmall) rfl law.own started (by kernel_rfl) Try.func12
    (OpenSpec.witness (enc := enc) (C := Try.checked) (s := Rows.OpenSpec.upto Rows.ringPeekIsPrefixSpec) (k := Rows.uptoSmall) rfl false ⟨#[], #[.slice none 0 0, .int .u8 0, .int .u8 0], []⟩ 8 (by kernel_rfl) (by kernel_rfl) (by kernel_rfl)
      (x := ([.nil, .lit (.int .u8 0), .lit (.int .u8 0)], [], [])) (by kernel_rfl) rfl (by kernel_rfl)) ?_
  intro W base args ds gs before hval hW _ hk _
  exact contract H enc W base args ds gs before hval hW hk

theorem proved : Rows.RingPeekIsPrefixUptoSaid :=
  OpenClaim.holds_of_cond 12 Try.f12 rfl rfl rfl rfl rfl rfl rfl ⟨rfl, rfl, rfl, rfl, rfl⟩ rfl rfl rfl rfl rfl (by kernel_rfl) Try.func12 (by kernel_rfl)
    (of_decide_eq_true (by kernel_rfl)) (by unfold Func.isWrapper; first | (rw [if_pos (by decide +kernel)]; kernel_rfl) | (rw [if_neg (by decide +kernel)]; exact ⟨rfl, rfl⟩))
    (fun os started H enc _ F => lifted os started H enc F)
end Go.Proofs.Ythiphpcbeeakpaa.ringPeekIsPrefix
