/- DechunkInvertsFramer: the law answers true at every argument, where what it reads is of bulk at most 1048576. -/
import Derived.Test.YtcmgeflfapffoaaDoorKD
import Derived.Test.YtcmgeflfapffoaaDoorFL9w
set_option maxRecDepth 100000
namespace Go.Proofs.YtcmgeflfapffoaaDoor.dechunkInvertsFramer
open Go.ChangeShapes Go.WideShapes Go.ChangeAt Go.RowKit Go.AL Go.AL.Fun

theorem types : okT Tryd.prog [22, 5, 51] = true := by kernel_rfl

theorem contract (H : Type) (enc : TypeId × Value → H) (W : World) (base : Nat) (args : Array Value) (ds gs : List (DataW H)) (before : List MemPlace)
    (hval : ∀ (j : Nat) t v, Tryd.f9.params[j]? = some t → args[j]? = some v → Value.okWide Tryd.prog W .any base t v)
    (hW : DataW.Whole enc Tryd.prog Tryd.f9.params.toList Rows.dechunkInvertsFramerSpec.vars false W args.toList ds gs before) (hk : Rows.uptoSmall H (ds ++ gs) = true) (hL : laidMetH Tryd.prog law.laidL W) :
    Calls Tryd.prog 9 args W fun e W' => ∃ v, e = .returned v ∧ Rows.dechunkInvertsFramerSpec.post enc Tryd.prog Tryd.f9 false true false false W args v W' := by
  have hW' := hW
  obtain ⟨p, q, hA0, hV, rfl, hfz, hnd⟩ := hW
  have hA : DataW.TrodAll enc Tryd.prog W 0 (fun _ => true) true Tryd.f9.params.toList args.toList ds p := hA0
  rw [Tryd.params9] at hA hval
  obtain ⟨v0, vs0, d0, ds0, p0, q0, hargs, rfl, rfl, h0, r0⟩ := trodAll_cons hA
  obtain ⟨v1, vs1, d1, ds1, p1, q1, rfl, rfl, rfl, h1, r1⟩ := trodAll_cons r0
  obtain ⟨v2, vs2, d2, ds2, p2, q2, rfl, rfl, rfl, h2, r2⟩ := trodAll_cons r1
  obtain ⟨rfl, rfl, rfl⟩ := trodAll_nil r2
  obtain rfl : args = #[v0, v1, v2] := by cases args; simp_all
  obtain ⟨rfl, rfl⟩ := trodVars_none hV
  clear hA0
  have hb := law.small hk
  simp only [List.append_nil, Rows.uptoBulkAll] at hb
  obtain ⟨x0, e0, xs0, tok0, m0, hx0, ht0, hs0, hm0⟩ := arg_one Tryd.underlying22 rfl (hval 0 22 v0 rfl rfl) h0
    (rd_slice (g := false) law.bulk Tryd.underlying22 (Nat.le_of_ble_eq_true (by kernel_rfl)) (.inr ⟨rfl, fun avs n ⟨_, z, h, _⟩ => ⟨_, h, rfl⟩⟩) (fun avs n ⟨_, z, h, _⟩ => by rw [h]; exact (by kernel_rfl : 1 = Tryd.prog.cellsOf 5)) (rd_int (k := .u8) law.bulk Tryd.underlying5))
  obtain rfl : x0 = .sl xs0 tok0 := by simpa using hx0
  rw [show Tryd.prog.cellsOf 5 = 1 by kernel_rfl] at hs0
  have hl0 := slv_len (fun _ _ h => h.1) hs0
  obtain ⟨bs0, rfl⟩ := slv_bytes hs0
  rw [by_len] at hl0
  obtain ⟨x1, e1, o1, n1, hx1, hw1⟩ := arg_one Tryd.underlying5 rfl (hval 1 5 v1 rfl rfl) h1 (rd_int (k := .u8) law.bulk Tryd.underlying5)
  obtain rfl : x1 = .int .u8 n1 := by simpa using hx1
  obtain ⟨x2, e2, o2, n2, hx2, hw2⟩ := arg_one Tryd.underlying51 rfl (hval 2 51 v2 rfl rfl) h2 (rd_int (k := .u16) law.bulk Tryd.underlying51)
  obtain rfl : x2 = .int .u16 n2 := by simpa using hx2
  refine (law.law_trueS (tD_ok law.dok) f9_ok (law.start (law.tabs hL)) _ ((((RelL.nil _).cons e2).cons e1).cons e0) (fun K hK => law9 _ bs0 tok0 n1 (law.u8_rng hw1).1 (law.u8_rng hw1).2 n2 (law.u16_rng hw2).1 (law.u16_rng hw2).2 K hK)).mono fun e W' ⟨he, hg⟩ => ?_
  subst he
  exact ⟨_, rfl, post_true types (by rw [Tryd.params9]; simp) hW' rfl rfl Tryd.underlying4 ⟨rfl, rfl, rfl⟩ hg⟩

theorem reads (os : Os) {H : Type} (enc : TypeId × Value → H) : ∃ places, DataW.whole enc Tryd.prog ((law.laidWorld os).forCall (fun _ _ => 0) ⟨#[], #[.slice none 0 0, .int .u8 0, .int .u16 0], []⟩).memory Tryd.f9.params.toList Rows.dechunkInvertsFramerSpec.vars false #[Value.slice none 0 0, .int .u8 0, .int .u16 0].toList 8 = some ([.nil, .lit (.int .u8 0), .lit (.int .u16 0)], [], places) :=
  ⟨[], by kernel_rfl⟩

theorem lifted (os : Os) (started : os.Started) (H : Type) (enc : TypeId × Value → H) (F : Stop.Interp) :
    ReturnsInHanded {} Tryd.checked os 9 .any ((Rows.OpenSpec.upto Rows.dechunkInvertsFramerSpec).preRow enc Tryd.prog Tryd.f9 Rows.dechunkInvertsFramerUptoRow.domain false Rows.dechunkInvertsFramerUptoRow.laid) (((Rows.OpenSpec.upto Rows.dechunkInvertsFramerSpec).at F).post enc Tryd.prog Tryd.f9 false true false false) := by
  obtain ⟨places, hx⟩ := reads os enc
  refine returnsInHanded_of_row (C := Tryd.checked) (s := Rows.OpenSpec.upto Rows.dechunkInvertsFramerSpec) law.own started (by kernel_rfl) Tryd.func9
    (witness_row_at (enc := enc) (C := Tryd.checked) false (law.laidWorld os) #[.slice none 0 0, .int .u8 0, .int .u16 0] rfl (by kernel_rfl) (by kernel_rfl) (by kernel_rfl)
      (OpenSpec.preRow_of_cond 8 hx (by kernel_rfl) (fun k hk => by cases hk; kernel_rfl) (by kernel_rfl) (law.laid_met os _))) ?_
  intro W base args ds gs before hval hW _ hcond _ hL _ _
  exact contract H enc W base args ds gs before hval hW (hcond _ rfl) hL

theorem saidUpto : Rows.DechunkInvertsFramerUptoSaid :=
  OpenClaim.holds_of_cond 9 Tryd.f9 rfl rfl rfl rfl rfl rfl rfl ⟨rfl, rfl, rfl, rfl, rfl⟩ rfl rfl rfl rfl rfl (by kernel_rfl) Tryd.func9 (by kernel_rfl)
    (of_decide_eq_true (by kernel_rfl)) (by unfold Func.isWrapper; first | (rw [if_pos (by decide +kernel)]; kernel_rfl) | (rw [if_neg (by decide +kernel)]; exact ⟨rfl, rfl⟩))
    (fun os started H enc _ F => by rw [OpenClaim.pre_eq_preRow]; exact lifted os started H enc F)

theorem plain (f : FuncId) (fn : Func) (hf : Tryd.pinned.checked.prog.funcNamed Rows.dechunkInvertsFramerUptoRow.func = some f) (hfn : Tryd.pinned.checked.prog.funcs[f]? = some fn) :
    false = Tryd.pinned.checked.prog.looks [] ∧ ∀ (j : Nat) t, fn.params[j]? = some t → Tryd.pinned.checked.prog.wantsStandIn t = false := by
  obtain rfl : f = 9 := Option.some.inj ((show Tryd.prog.funcNamed Rows.dechunkInvertsFramerUptoRow.func = some 9 by kernel_rfl).symm.trans hf) |>.symm
  obtain rfl : fn = Tryd.f9 := (Option.some.inj (Tryd.func9.symm.trans hfn)).symm
  refine ⟨by kernel_rfl, fun j t ht => ?_⟩
  rw [Tryd.params9] at ht
  have hm : t ∈ [22, 5, 51] := by simpa using Array.mem_of_getElem? ht
  have hall : ([22, 5, 51].all fun u => !Tryd.prog.wantsStandIn u) = true := by kernel_rfl
  exact (show Tryd.prog.wantsStandIn t = false by simpa using List.all_eq_true.1 hall t hm)

theorem proved : Rows.DechunkInvertsFramerUptoCardSaid :=
  Claim7.holds_tied_plain_at .later [] _ _ _ _ saidUpto (fun _ h => by cases h) (by kernel_rfl) (fun _ h => by cases h) dechunkInvertsFramerUpto_row_tie rfl ⟨rfl, rfl⟩ (by kernel_rfl) rfl plain (by kernel_rfl)
end Go.Proofs.YtcmgeflfapffoaaDoor.dechunkInvertsFramer
