/- RingIsolated: for every byte slice the law answers true and leaves its argument as it was, where what it reads is of bulk at most 1048576. -/
import Derived.Test.YthiphpcbeeakpaaK1
import Derived.Test.YthiphpcbeeakpaaG8
namespace Go.Proofs.Ythiphpcbeeakpaa.ringIsolated
open Go.ChangeShapes Go.WideShapes Go.ChangeAt Go.RowKit Go.AL Go.AL.Fun

theorem types : okT Try.prog [5, 23] = true := by kernel_rfl

theorem contract (H : Type) (enc : TypeId × Value → H) (W : World) (base : Nat) (args : Array Value) (ds gs : List (DataW H)) (before : List MemPlace)
    (hval : ∀ (j : Nat) t v, Try.f10.params[j]? = some t → args[j]? = some v → Value.okWide Try.prog W .any base t v)
    (hW : DataW.Whole enc Try.prog Try.f10.params.toList Rows.ringIsolatedSpec.vars false W args.toList ds gs before) (hk : Rows.uptoSmall H (ds ++ gs) = true) :
    Calls Try.prog 10 args W fun e W' => ∃ v, e = .returned v ∧ Rows.ringIsolatedSpec.post enc Try.prog Try.f10 false true false false W args v W' := by
  have hW' := hW
  obtain ⟨p, q, hA0, hV, rfl, hfz, hnd⟩ := hW
  have hA : DataW.TrodAll enc Try.prog W 0 (fun _ => true) true Try.f10.params.toList args.toList ds p := hA0
  rw [Try.params10] at hA hval
  obtain ⟨v0, vs0, d0, ds0, p0, q0, hargs, rfl, rfl, h0, r0⟩ := trodAll_cons hA
  obtain ⟨rfl, rfl, rfl⟩ := trodAll_nil r0
  obtain rfl : args = #[v0] := by cases args; simp_all
  obtain ⟨rfl, rfl⟩ := trodVars_none hV
  clear hA0
  have hb := law.small hk
  simp only [List.append_nil, Rows.uptoBulkAll] at hb
  obtain ⟨x0, e0, xs0, tok0, m0, hx0, ht0, hs0, hm0⟩ := arg_one Try.underlying23 rfl (hval 0 23 v0 rfl rfl) h0
    (rd_slice (g := false) law.bulk Try.underlying23 (Nat.le_of_ble_eq_true (by kernel_rfl)) (.inr ⟨rfl, fun avs n ⟨_, z, h, _⟩ => ⟨_, h, rfl⟩⟩) (fun avs n ⟨_, z, h, _⟩ => by rw [h]; exact (by kernel_rfl : 1 = Try.prog.cellsOf 5)) (rd_int (k := .u8) law.bulk Try.underlying5))
  obtain rfl : x0 = .sl xs0 tok0 := by simpa using hx0
  rw [show Try.prog.cellsOf 5 = 1 by kernel_rfl] at hs0
  have hl0 := slv_len (fun _ _ h => h.1) hs0
  obtain ⟨bs0, rfl⟩ := slv_bytes hs0
  rw [by_len] at hl0
  refine (law_true law.mixed (tR_ok law.mixed f26_ok f28_ok f27_ok f31_ok f23_ok f24_ok f25_ok f30_ok) f10_ok _ ((RelL.nil _).cons e0) (fun K hK => law10 _ bs0 tok0 K hK)).mono fun e W' ⟨he, hg⟩ => ?_
  subst he
  exact ⟨_, rfl, post_true types (by rw [Try.params10]; simp) hW' rfl rfl Try.underlying4 ⟨rfl, rfl, rfl⟩ hg⟩

set_option maxRecDepth 100000 in
theorem lifted (os : Os) (started : os.Started) (H : Type) (enc : TypeId × Value → H) (F : Stop.Interp) :
    ReturnsInHanded {} Try.checked os 10 .any ((Rows.OpenSpec.upto Rows.ringIsolatedSpec).pre6 enc Try.prog Try.f10 Rows.ringIsolatedUptoRow.domain false) (((Rows.OpenSpec.upto Rows.ringIsolatedSpec).at F).post enc Try.prog Try.f10 false true false false) := by
  refine returnsInHanded_of_cond (C := Try.checked) (s := Rows.OpenSpec.upto Rows.ringIsolatedSpec) (k := Rows.uptoSmall) rfl law.own started (by kernel_rfl) Try.func10
    (OpenSpec.witness (enc := enc) (C := Try.checked) (s := Rows.OpenSpec.upto Rows.ringIsolatedSpec) (k := Rows.uptoSmall) rfl false ⟨#[], #[.slice none 0 0], []⟩ 8 (by kernel_rfl) (by kernel_rfl) (by kernel_rfl)
      (x := ([.nil], [], [])) (by kernel_rfl) rfl (by kernel_rfl)) ?_
  intro W base args ds gs before hval hW _ hk _
  exact contract H enc W base args ds gs before hval hW hk

theorem proved : Rows.RingIsolatedUptoSaid :=
  OpenClaim.holds_of_cond 10 Try.f10 rfl rfl rfl rfl rfl rfl rfl ⟨rfl, rfl, rfl, rfl, rfl⟩ rfl rfl rfl rfl rfl (by kernel_rfl) Try.func10 (by kernel_rfl)
    (of_decide_eq_true (by kernel_rfl)) (by unfold Func.isWrapper; first | (rw [if_pos (by decide +kernel)]; kernel_rfl) | (rw [if_neg (by decide +kernel)]; exact ⟨rfl, rfl⟩))
    (fun os started H enc _ F => lifted os started H enc F)
end Go.Proofs.Ythiphpcbeeakpaa.ringIsolated
