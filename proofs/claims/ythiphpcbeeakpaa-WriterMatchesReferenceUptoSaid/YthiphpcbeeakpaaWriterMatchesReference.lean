/- WriterMatchesReference: for every two schedules and every list of byte slices the law answers true and leaves its arguments as they were, where what it reads is of bulk at most 1048576. -/
import Derived.Test.YthiphpcbeeakpaaK2
import Derived.Test.YthiphpcbeeakpaaW9
namespace Go.Proofs.Ythiphpcbeeakpaa.writerMatchesReference
open Go.ChangeShapes Go.WideShapes Go.ChangeAt Go.RowKit Go.AL Go.AL.Fun

theorem types : okT Try.prog [3, 5, 22, 23, 25] = true := by kernel_rfl

theorem contract (H : Type) (enc : TypeId × Value → H) (W : World) (base : Nat) (args : Array Value) (ds gs : List (DataW H)) (before : List MemPlace)
    (hval : ∀ (j : Nat) t v, Try.f13.params[j]? = some t → args[j]? = some v → Value.okWide Try.prog W .any base t v)
    (hW : DataW.Whole enc Try.prog Try.f13.params.toList Rows.writerMatchesReferenceSpec.vars false W args.toList ds gs before) (hk : Rows.uptoSmall H (ds ++ gs) = true) :
    Calls Try.prog 13 args W fun e W' => ∃ v, e = .returned v ∧ Rows.writerMatchesReferenceSpec.post enc Try.prog Try.f13 false true false false W args v W' := by
  have hW' := hW
  obtain ⟨p, q, hA0, hV, rfl, hfz, hnd⟩ := hW
  have hA : DataW.TrodAll enc Try.prog W 0 (fun _ => true) true Try.f13.params.toList args.toList ds p := hA0
  rw [Try.params13] at hA hval
  obtain ⟨v0, vs0, d0, ds0, p0, q0, hargs, rfl, rfl, h0, r0⟩ := trodAll_cons hA
  obtain ⟨v1, vs1, d1, ds1, p1, q1, rfl, rfl, rfl, h1, r1⟩ := trodAll_cons r0
  obtain ⟨v2, vs2, d2, ds2, p2, q2, rfl, rfl, rfl, h2, r2⟩ := trodAll_cons r1
  obtain ⟨rfl, rfl, rfl⟩ := trodAll_nil r2
  obtain rfl : args = #[v0, v1, v2] := by cases args; simp_all
  obtain ⟨rfl, rfl⟩ := trodVars_none hV
  clear hA0
  have hb := law.small hk
  simp only [List.append_nil, Rows.uptoBulkAll] at hb
  obtain ⟨x0, e0, xs0, tok0, m0, hx0, ht0, hs0, hm0⟩ := arg_one Try.underlying22 rfl (hval 0 22 v0 rfl rfl) h0
    (rd_slice (g := false) law.bulk Try.underlying22 (Nat.le_of_ble_eq_true (by kernel_rfl)) (.inr ⟨rfl, fun avs n ⟨_, z, h, _⟩ => ⟨_, h, rfl⟩⟩) (fun avs n ⟨_, z, h, _⟩ => by rw [h]; exact (by kernel_rfl : 1 = Try.prog.cellsOf 3)) (rd_int (k := .i64) law.bulk Try.underlying3))
  obtain rfl : x0 = .sl xs0 tok0 := by simpa using hx0
  rw [show Try.prog.cellsOf 3 = 1 by kernel_rfl] at hs0
  have hl0 := slv_len (fun _ _ h => h.1) hs0
  obtain ⟨zs0, rfl, hz0⟩ := slv_ints hs0
  rw [List.length_map] at hl0
  have htn0 : tok0 = .nil → zs0 = [] := fun h => by
    rcases ht0 with ⟨_, h2⟩ | h2
    · exact List.map_eq_nil_iff.1 h2
    · rw [h2] at h; cases h
  obtain ⟨x1, e1, xs1, tok1, m1, hx1, ht1, hs1, hm1⟩ := arg_one Try.underlying25 rfl (hval 1 25 v1 rfl rfl) h1
    (rd_slice (g := false) law.bulk Try.underlying25 (Nat.le_of_ble_eq_true (by kernel_rfl)) (.inr ⟨rfl, fun avs n ⟨_, _, _, h, _⟩ => ⟨_, h, rfl⟩⟩) (fun avs n ⟨_, _, _, h, _⟩ => by rw [h]; exact (by kernel_rfl : 1 = Try.prog.cellsOf 23))
      (rd_slice (g := false) law.bulk Try.underlying23 (Nat.le_of_ble_eq_true (by kernel_rfl)) (.inr ⟨rfl, fun avs n ⟨_, z, h, _⟩ => ⟨_, h, rfl⟩⟩) (fun avs n ⟨_, z, h, _⟩ => by rw [h]; exact (by kernel_rfl : 1 = Try.prog.cellsOf 5)) (rd_int (k := .u8) law.bulk Try.underlying5)))
  obtain rfl : x1 = .sl xs1 tok1 := by simpa using hx1
  rw [show Try.prog.cellsOf 23 = 1 by kernel_rfl, show Try.prog.cellsOf 5 = 1 by kernel_rfl] at hs1
  obtain ⟨bb1, rfl, hl1⟩ := slv_bb hs1
  obtain ⟨x2, e2, xs2, tok2, m2, hx2, ht2, hs2, hm2⟩ := arg_one Try.underlying22 rfl (hval 2 22 v2 rfl rfl) h2
    (rd_slice (g := false) law.bulk Try.underlying22 (Nat.le_of_ble_eq_true (by kernel_rfl)) (.inr ⟨rfl, fun avs n ⟨_, z, h, _⟩ => ⟨_, h, rfl⟩⟩) (fun avs n ⟨_, z, h, _⟩ => by rw [h]; exact (by kernel_rfl : 1 = Try.prog.cellsOf 3)) (rd_int (k := .i64) law.bulk Try.underlying3))
  obtain rfl : x2 = .sl xs2 tok2 := by simpa using hx2
  rw [show Try.prog.cellsOf 3 = 1 by kernel_rfl] at hs2
  have hl2 := slv_len (fun _ _ h => h.1) hs2
  obtain ⟨zs2, rfl, hz2⟩ := slv_ints hs2
  rw [List.length_map] at hl2
  have htn2 : tok2 = .nil → zs2 = [] := fun h => by
    rcases ht2 with ⟨_, h2⟩ | h2
    · exact List.map_eq_nil_iff.1 h2
    · rw [h2] at h; cases h
  refine (law_true law.mixed (tZ_ok law.mixed f15_ok f16_ok f17_ok f18_ok f19_ok f20_ok f21_ok f22_ok f39_ok f40_ok f36_ok f37_ok f38_ok) f13_ok _ ((((RelL.nil _).cons e2).cons e1).cons e0) (fun K hK => law13 _ zs0 zs2 bb1 tok0 tok2 tok1 htn0 (by omega) (by omega) (by omega) (by omega) K hK)).mono fun e W' ⟨he, hg⟩ => ?_
  subst he
  exact ⟨_, rfl, post_true types (by rw [Try.params13]; simp) hW' rfl rfl Try.underlying4 ⟨rfl, rfl, rfl⟩ hg⟩

set_option maxRecDepth 100000 in
theorem lifted (os : Os) (started : os.Started) (H : Type) (enc : TypeId × Value → H) (F : Stop.Interp) :
    ReturnsInHanded {} Try.checked os 13 .any ((Rows.OpenSpec.upto Rows.writerMatchesReferenceSpec).pre6 enc Try.prog Try.f13 Rows.writerMatchesReferenceUptoRow.domain false) (((Rows.OpenSpec.upto Rows.writerMatchesReferenceSpec).at F).post enc Try.prog Try.f13 false true false false) := by
  refine returnsInHanded_of_cond (C := Try.checked) (s := Rows.OpenSpec.upto Rows.writerMatchesReferenceSpec) (k := Rows.uptoSmall) rfl law.own started (by kernel_rfl) Try.func13
    (OpenSpec.witness (enc := enc) (C := Try.checked) (s := Rows.OpenSpec.upto Rows.writerMatchesReferenceSpec) (k := Rows.uptoSmall) rfl false ⟨#[], #[.slice none 0 0, .slice none 0 0, .slice none 0 0], []⟩ 8 (by kernel_rfl) (by kernel_rfl) (by kernel_rfl)
      (x := ([.nil, .nil, .nil], [], [])) (by kernel_rfl) rfl (by kernel_rfl)) ?_
  intro W base args ds gs before hval hW _ hk _
  exact contract H enc W base args ds gs before hval hW hk

theorem proved : Rows.WriterMatchesReferenceUptoSaid :=
  OpenClaim.holds_of_cond 13 Try.f13 rfl rfl rfl rfl rfl rfl rfl ⟨rfl, rfl, rfl, rfl, rfl⟩ rfl rfl rfl rfl rfl (by kernel_rfl) Try.func13 (by kernel_rfl)
    (of_decide_eq_true (by kernel_rfl)) (by unfold Func.isWrapper; first | (rw [if_pos (by decide +kernel)]; kernel_rfl) | (rw [if_neg (by decide +kernel)]; exact ⟨rfl, rfl⟩))
    (fun os started H enc _ F => lifted os started H enc F)
end Go.Proofs.Ythiphpcbeeakpaa.writerMatchesReference
