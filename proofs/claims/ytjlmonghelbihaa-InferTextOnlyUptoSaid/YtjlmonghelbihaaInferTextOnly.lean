/- InferTextOnly: for every source the law answers true, where what it reads is of bulk at most 1048576. -/
import Derived.Test.YtjlmonghelbihaaK1
import Derived.Test.YtjlmonghelbihaaX3
namespace Go.Proofs.Ytjlmonghelbihaa.inferTextOnly
open Go.ChangeShapes Go.WideShapes Go.ChangeAt Go.RowKit Go.AL Go.AL.Fun

theorem types : okT Try.prog [9] = true := by kernel_rfl

theorem contract (H : Type) (enc : TypeId × Value → H) (W : World) (base : Nat) (args : Array Value) (ds gs : List (DataW H)) (before : List MemPlace)
    (hval : ∀ (j : Nat) t v, Try.f10.params[j]? = some t → args[j]? = some v → Value.okWide Try.prog W .any base t v)
    (hW : DataW.Whole enc Try.prog Try.f10.params.toList Rows.inferTextOnlySpec.vars false W args.toList ds gs before) (hk : Rows.uptoSmall H (ds ++ gs) = true) :
    Calls Try.prog 10 args W fun e W' => ∃ v, e = .returned v ∧ Rows.inferTextOnlySpec.post enc Try.prog Try.f10 false true false false W args v W' := by
  have hW' := hW
  obtain ⟨p, q, hA0, hV, rfl, hfz, hnd⟩ := hW
  have hA : DataW.TrodAll enc Try.prog W 0 (fun _ => true) true Try.f10.params.toList args.toList ds p := hA0
  rw [Try.params10] at hA hval
  obtain ⟨v0, vs0, d0, ds0, p0, q0, hargs, rfl, rfl, h0, r0⟩ := trodAll_cons hA
  obtain ⟨rfl, rfl, rfl⟩ := trodAll_nil r0
  obtain rfl : args = #[v0] := by cases args; simp_all
  obtain ⟨rfl, rfl⟩ := trodVars_none hV
  clear hA0
  have hb := law.small hk
  simp only [List.append_nil, Rows.uptoBulkAll] at hb
  obtain ⟨x0, e0, s0, hx0, hl0⟩ := arg_one Try.underlying9 rfl (hval 0 9 v0 rfl rfl) h0 (rd_str law.bulk Try.underlying9)
  obtain rfl : x0 = .str s0 := by simpa using hx0
  refine (law_true law.mixed (tI_ok lib.iok) f10_ok _ ((RelL.nil _).cons e0) (fun K hK => law10 _ s0 (by omega) K hK)).mono fun e W' ⟨he, hg⟩ => ?_
  subst he
  exact ⟨_, rfl, post_true types (by rw [Try.params10]; simp) hW' rfl rfl Try.underlying4 ⟨rfl, rfl, rfl⟩ hg⟩

set_option maxRecDepth 100000 in
theorem lifted (os : Os) (started : os.Started) (H : Type) (enc : TypeId × Value → H) (F : Stop.Interp) :
    ReturnsInHanded {} Try.checked os 10 .any ((Rows.OpenSpec.upto Rows.inferTextOnlySpec).pre6 enc Try.prog Try.f10 Rows.inferTextOnlyUptoRow.domain false) (((Rows.OpenSpec.upto Rows.inferTextOnlySpec).at F).post enc Try.prog Try.f10 false true false false) := by
  refine returnsInHanded_of_cond (C := Try.checked) (s := Rows.OpenSpec.upto Rows.inferTextOnlySpec) (k := Rows.uptoSmall) rfl law.own started (by kernel_rfl) Try.func10
    (OpenSpec.witness (enc := enc) (C := Try.checked) (s := Rows.OpenSpec.upto Rows.inferTextOnlySpec) (k := Rows.uptoSmall) rfl false ⟨#[], #[.string ⟨#[]⟩], []⟩ 8 (by kernel_rfl) (by kernel_rfl) (by kernel_rfl)
      (x := ([.lit (.string [])], [], [])) (by kernel_rfl) rfl (by kernel_rfl)) ?_
  intro W base args ds gs before hval hW _ hk _
  exact contract H enc W base args ds gs before hval hW hk

theorem proved : Rows.InferTextOnlyUptoSaid :=
  OpenClaim.holds_of_cond 10 Try.f10 rfl rfl rfl rfl rfl rfl rfl ⟨rfl, rfl, rfl, rfl, rfl⟩ rfl rfl rfl rfl rfl (by kernel_rfl) Try.func10 (by kernel_rfl)
    (of_decide_eq_true (by kernel_rfl)) (by unfold Func.isWrapper; first | (rw [if_pos (by decide +kernel)]; kernel_rfl) | (rw [if_neg (by decide +kernel)]; exact ⟨rfl, rfl⟩))
    (fun os started H enc _ F => lifted os started H enc F)
end Go.Proofs.Ytjlmonghelbihaa.inferTextOnly
