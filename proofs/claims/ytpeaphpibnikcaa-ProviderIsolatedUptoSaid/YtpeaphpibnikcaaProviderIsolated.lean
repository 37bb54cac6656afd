/- ProviderIsolated: for every list of fields and of names the law answers true, where what it reads is of bulk at most 1048576. -/
import Derived.Test.YtpeaphpibnikcaaK1
import Derived.Test.YtpeaphpibnikcaaP3
namespace Go.Proofs.Ytpeaphpibnikcaa.providerIsolated
open Go.ChangeShapes Go.WideShapes Go.ChangeAt Go.RowKit Go.AL Go.AL.Fun

theorem types : okT Try.prog [22, 23, 47, 9, 27, 3, 2, 4, 25] = true := by kernel_rfl

theorem contract (H : Type) (enc : TypeId × Value → H) (W : World) (base : Nat) (args : Array Value) (ds gs : List (DataW H)) (before : List MemPlace)
    (hval : ∀ (j : Nat) t v, Try.f4.params[j]? = some t → args[j]? = some v → Value.okWide Try.prog W .any base t v)
    (hW : DataW.Whole enc Try.prog Try.f4.params.toList Rows.providerIsolatedSpec.vars false W args.toList ds gs before) (hk : Rows.uptoSmall H (ds ++ gs) = true) :
    Calls Try.prog 4 args W fun e W' => ∃ v, e = .returned v ∧ Rows.providerIsolatedSpec.post enc Try.prog Try.f4 false true false false W args v W' := by
  have hW' := hW
  obtain ⟨p, q, hA0, hV, rfl, hfz, hnd⟩ := hW
  have hA : DataW.TrodAll enc Try.prog W 0 (fun _ => true) true Try.f4.params.toList args.toList ds p := hA0
  rw [Try.params4] at hA hval
  obtain ⟨v0, vs0, d0, ds0, p0, q0, hargs, rfl, rfl, h0, r0⟩ := trodAll_cons hA
  obtain ⟨v1, vs1, d1, ds1, p1, q1, rfl, rfl, rfl, h1, r1⟩ := trodAll_cons r0
  obtain ⟨rfl, rfl, rfl⟩ := trodAll_nil r1
  obtain rfl : args = #[v0, v1] := by cases args; simp_all
  obtain ⟨rfl, rfl⟩ := trodVars_none hV
  clear hA0
  have hb := law.small hk
  simp only [List.append_nil, Rows.uptoBulkAll] at hb
  obtain ⟨x0, e0, xs0, tok0, m0, hx0, ht0, hs0, hm0⟩ := arg_one Try.underlying22 rfl (hval 0 22 v0 rfl rfl) h0 law.rd_flds
  obtain rfl : x0 = .sl xs0 tok0 := by simpa using hx0
  obtain ⟨fs0, rfl, ho0, hl0⟩ := slv_flds hs0
  obtain ⟨x1, e1, xs1, tok1, m1, hx1, ht1, hs1, hm1⟩ := arg_one Try.underlying23 rfl (hval 1 23 v1 rfl rfl) h1
    (rd_slice (g := false) (V := law.VS) law.bulk Try.underlying23 (Nat.le_of_ble_eq_true (by kernel_rfl)) (.inr ⟨rfl, fun avs n ⟨_, h, _⟩ => ⟨_, h, rfl⟩⟩) (fun avs n ⟨_, h, _⟩ => by rw [h]; exact (by kernel_rfl : 1 = Try.prog.cellsOf 9)) (rd_str law.bulk Try.underlying9))
  obtain rfl : x1 = .sl xs1 tok1 := by simpa using hx1
  rw [show Try.prog.cellsOf 9 = 1 by kernel_rfl] at hs1
  obtain ⟨l1, rfl, hl1, hz1⟩ := law.slv_strs hs1
  refine (law_true law.mixed (tI_ok law.pok) f4_ok _ (((RelL.nil _).cons e1).cons e0) (fun K hK => law4 _ fs0 tok0 l1 tok1 (by omega) (by omega) (fun s h => by have := hz1 s h; omega) K hK)).mono fun e W' ⟨he, hg⟩ => ?_
  subst he
  exact ⟨_, rfl, post_true types (by rw [Try.params4]; simp) hW' rfl rfl Try.underlying4 ⟨rfl, rfl, rfl⟩ hg⟩

set_option maxRecDepth 100000 in
theorem lifted (os : Os) (started : os.Started) (H : Type) (enc : TypeId × Value → H) (F : Stop.Interp) :
    ReturnsInHanded {} Try.checked os 4 .any ((Rows.OpenSpec.upto Rows.providerIsolatedSpec).pre6 enc Try.prog Try.f4 Rows.providerIsolatedUptoRow.domain false) (((Rows.OpenSpec.upto Rows.providerIsolatedSpec).at F).post enc Try.prog Try.f4 false true false false) := by
  refine returnsInHanded_of_cond (C := Try.checked) (s := Rows.OpenSpec.upto Rows.providerIsolatedSpec) (k := Rows.uptoSmall) rfl law.own started (by kernel_rfl) Try.func4
    (OpenSpec.witness (enc := enc) (C := Try.checked) (s := Rows.OpenSpec.upto Rows.providerIsolatedSpec) (k := Rows.uptoSmall) rfl false ⟨#[], #[.slice none 0 0, .slice none 0 0], []⟩ 8 (by kernel_rfl) (by kernel_rfl) (by kernel_rfl)
      (x := ([.nil, .nil], [], [])) (by kernel_rfl) rfl (by kernel_rfl)) ?_
  intro W base args ds gs before hval hW _ hk _
  exact contract H enc W base args ds gs before hval hW hk

theorem proved : Rows.ProviderIsolatedUptoSaid :=
  OpenClaim.holds_of_cond 4 Try.f4 rfl rfl rfl rfl rfl rfl rfl ⟨rfl, rfl, rfl, rfl, rfl⟩ rfl rfl rfl rfl rfl (by kernel_rfl) Try.func4 (by kernel_rfl)
    (of_decide_eq_true (by kernel_rfl)) (by unfold Func.isWrapper; first | (rw [if_pos (by decide +kernel)]; kernel_rfl) | (rw [if_neg (by decide +kernel)]; exact ⟨rfl, rfl⟩))
    (fun os started H enc _ F => lifted os started H enc F)
end Go.Proofs.Ytpeaphpibnikcaa.providerIsolated
