/- DechunkTrailingData: the law answers true at every argument, where what it reads is of bulk at most 1048576. -/
import Derived.Test.YtcmgeflfapffoaaDoorKD
import Derived.Test.YtcmgeflfapffoaaDoorFL10w
set_option maxRecDepth 100000
namespace Go.Proofs.YtcmgeflfapffoaaDoor.dechunkTrailingData
open Go.ChangeShapes Go.WideShapes Go.ChangeAt Go.RowKit Go.AL Go.AL.Fun

theorem types : okT Tryd.prog [22, 5] = true := by kernel_rfl

theorem contract (H : Type) (enc : TypeId × Value → H) (W : World) (base : Nat) (args : Array Value) (ds gs : List (DataW H)) (before : List MemPlace)
    (hval : ∀ (j : Nat) t v, Tryd.f10.params[j]? = some t → args[j]? = some v → Value.okWide Tryd.prog W .any base t v)
    (hW : DataW.Whole enc Tryd.prog Tryd.f10.params.toList Rows.dechunkTrailingDataSpec.vars false W args.toList ds gs before) (hk : Rows.uptoSmall H (ds ++ gs) = true) (hL : laidMetH Tryd.prog law.laidL W) :
    Calls Tryd.prog 10 args W fun e W' => ∃ v, e = .returned v ∧ Rows.dechunkTrailingDataSpec.post enc Tryd.prog Tryd.f10 false true false false W args v W' := by
  have hW' := hW
  obtain ⟨p, q, hA0, hV, rfl, hfz, hnd⟩ := hW
  have hA : DataW.TrodAll enc Tryd.prog W 0 (fun _ => true) true Tryd.f10.params.toList args.toList ds p := hA0
  rw [Tryd.params10] at hA hval
  obtain ⟨v0, vs0, d0, ds0, p0, q0, hargs, rfl, rfl, h0, r0⟩ := trodAll_cons hA
  obtain ⟨v1, vs1, d1, ds1, p1, q1, rfl, rfl, rfl, h1, r1⟩ := trodAll_cons r0
  obtain ⟨rfl, rfl, rfl⟩ := trodAll_nil r1
  obtain rfl : args = #[v0, v1] := by cases args; simp_all
  obtain ⟨rfl, rfl⟩ := trodVars_none hV
  clear hA0
  have hb := law.small hk
  simp only [List.append_nil, Rows.uptoBulkAll] at hb
  obtain ⟨x0, e0, xs0, tok0, m0, hx0, ht0, hs0, hm0⟩ := arg_one Tryd.underlying22 rfl (hval 0 22 v0 rfl rfl) h0
    (rd_slice (g := false) law.bulk Tryd.underlying22 (Nat.le_of_ble_eq_true (by kernel_rfl)) (.inr ⟨rfl, fun avs n ⟨_, z, h, _⟩ => ⟨_, h, rfl⟩⟩) (fun avs n ⟨_, z, h, _⟩ => by rw [h]; exact (by kernel_rfl : 1 = Tryd.prog.cellsOf 5)) (rd_int (k := .u8) law.bulk Tryd.underlying5))
  obtain rfl : x0 = .sl xs0 tok0 := by simpa using hx0
  rw [show Tryd.prog.cellsOf 5 = 1 by kernel_rfl] at hs0
  have hl0 := slv_len (fun _ _ h => h.1) hs0
  obtain ⟨bs0, rfl⟩ := slv_bytes hs0
  rw [by_len] at hl0
  obtain ⟨x1, e1, xs1, tok1, m1, hx1, ht1, hs1, hm1⟩ := arg_one Tryd.underlying22 rfl (hval 1 22 v1 rfl rfl) h1
    (rd_slice (g := false) law.bulk Tryd.underlying22 (Nat.le_of_ble_eq_true (by kernel_rfl)) (.inr ⟨rfl, fun avs n ⟨_, z, h, _⟩ => ⟨_, h, rfl⟩⟩) (fun avs n ⟨_, z, h, _⟩ => by rw [h]; exact (by kernel_rfl : 1 = Tryd.prog.cellsOf 5)) (rd_int (k := .u8) law.bulk Tryd.underlying5))
  obtain rfl : x1 = .sl xs1 tok1 := by simpa using hx1
  rw [show Tryd.prog.cellsOf 5 = 1 by kernel_rfl] at hs1
  have hl1 := slv_len (fun _ _ h => h.1) hs1
  obtain ⟨bs1, rfl⟩ := slv_bytes hs1
  rw [by_len] at hl1
  refine (law.law_trueS (tD_ok law.dok) f10_ok (law.start (law.tabs hL)) _ (((RelL.nil _).cons e1).cons e0) (fun K hK => law10 _ bs0 tok0 (by omega) bs1 tok1 K hK)).mono fun e W' ⟨he, hg⟩ => ?_
  subst he
  exact ⟨_, rfl, post_true types (by rw [Tryd.params10]; simp) hW' rfl rfl Tryd.underlying4 ⟨rfl, rfl, rfl⟩ hg⟩

theorem reads (os : Os) {H : Type} (enc : TypeId × Value → H) : ∃ places, DataW.whole enc Tryd.prog ((law.laidWorld os).forCall (fun _ _ => 0) ⟨#[], #[.slice none 0 0, .slice none 0 0], []⟩).memory Tryd.f10.params.toList Rows.dechunkTrailingDataSpec.vars false #[Value.slice none 0 0, .slice none 0 0].toList 8 = some ([.nil, .nil], [], places) :=
  ⟨[], by kernel_rfl⟩

theorem lifted (os : Os) (started : os.Started) (H : Type) (enc : TypeId × Value → H) (F : Stop.Interp) :
    ReturnsInHanded {} Tryd.checked os 10 .any ((Rows.OpenSpec.upto Rows.dechunkTrailingDataSpec).preRow enc Tryd.prog Tryd.f10 Rows.dechunkTrailingDataUptoRow.domain false Rows.dechunkTrailingDataUptoRow.laid) (((Rows.OpenSpec.upto Rows.dechunkTrailingDataSpec).at F).post enc Tryd.prog Tryd.f10 false true false false) := by
  obtain ⟨places, hx⟩ := reads os enc
  refine returnsInHanded_of_row (C := Tryd.checked) (s := Rows.OpenSpec.upto Rows.dechunkTrailingDataSpec) law.own started (by kernel_rfl) Tryd.func10
    (witness_row_at (enc := enc) (C := Tryd.checked) false (law.laidWorld os) #[.slice none 0 0, .slice none 0 0] rfl (by kernel_rfl) (by kernel_rfl) (by kernel_rfl)
      (OpenSpec.preRow_of_cond 8 hx (by kernel_rfl) (fun k hk => by cases hk; kernel_rfl) (by kernel_rfl) (law.laid_met os _))) ?_
  intro W base args ds gs before hval hW _ hcond _ hL _ _
  exact contract H enc W base args ds gs before hval hW (hcond _ rfl) hL

theorem saidUpto : Rows.DechunkTrailingDataUptoSaid :=
  OpenClaim.holds_of_cond 10 Tryd.f10 rfl rfl rfl rfl rfl rfl rfl ⟨rfl, rfl, rfl, rfl, rfl⟩ rfl rfl rfl rfl rfl (by kernel_rfl) Tryd.func10 (by kernel_rfl)
    (of_decide_eq_true (by kernel_rfl)) (by unfold Func.isWrapper; first | (rw [if_pos (by decide +kernel)]; kernel_rfl) | (rw [if_neg (by decide +kernel)]; exact ⟨rfl, rfl⟩))
    (fun os started H enc _ F => by rw [OpenClaim.pre_eq_preRow]; exact lifted os started H enc F)

theorem plain (f : FuncId) (fn : Func) (hf : Tryd.pinned.checked.prog.funcNamed Rows.dechunkTrailingDataUptoRow.func = some f) (hfn : Tryd.pinned.checked.prog.funcs[f]? = some fn) :
    false = Tryd.pinned.checked.prog.looks [] ∧ ∀ (j : Nat) t, fn.params[j]? = some t → Tryd.pinned.checked.prog.wantsStandIn t = false := by
  obtain rfl : f = 10 := Option.some.inj ((show Tryd.prog.funcNamed Rows.dechunkTrailingDataUptoRow.func = some 10 by kernel_rfl).symm.trans hf) |>.symm
  obtain rfl : fn = Tryd.f10 := (Option.some.inj (Tryd.func10.symm.trans hfn)).symm
  refine ⟨by kernel_rfl, fun j t ht => ?_⟩
  rw [Tryd.params10] at ht
  have hm : t ∈ [22, 22] := by simpa using Array.mem_of_getElem? ht
  have hall : ([22, 22].all fun u => !Tryd.prog.wantsStandIn u) = true := by kernel_rfl
  exact (show Tryd.prog.wantsStandIn t = false by simpa using List.all_eq_true.1 hall t hm)

theorem proved : Rows.DechunkTrailingDataUptoCardSaid :=
  Claim7.holds_tied_plain_at .later [] _ _ _ _ saidUpto (fun _ h => by cases h) (by kernel_rfl) (fun _ h => by cases h) dechunkTrailingDataUpto_row_tie rfl ⟨rfl, rfl⟩ (by kernel_rfl) rfl plain (by kernel_rfl)
end Go.Proofs.YtcmgeflfapffoaaDoor.dechunkTrailingData
