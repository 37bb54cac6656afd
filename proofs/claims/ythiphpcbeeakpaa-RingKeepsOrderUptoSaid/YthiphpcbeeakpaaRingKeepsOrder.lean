/- RingKeepsOrder: for every number and every two byte slices the law answers true and leaves its arguments as they were, where what it reads is of bulk at most 1048576. -/
import Derived.Test.YthiphpcbeeakpaaK1
import Derived.Test.YthiphpcbeeakpaaG7
namespace Go.Proofs.Ythiphpcbeeakpaa.ringKeepsOrder
open Go.ChangeShapes Go.WideShapes Go.ChangeAt Go.RowKit Go.AL Go.AL.Fun

theorem types : okT Try.prog [3, 5, 23] = true := by kernel_rfl

theorem contract (H : Type) (enc : TypeId × Value → H) (W : World) (base : Nat) (args : Array Value) (ds gs : List (DataW H)) (before : List MemPlace)
    (hval : ∀ (j : Nat) t v, Try.f9.params[j]? = some t → args[j]? = some v → Value.okWide Try.prog W .any base t v)
    (hW : DataW.Whole enc Try.prog Try.f9.params.toList Rows.ringKeepsOrderSpec.vars false W args.toList ds gs before) (hk : Rows.uptoSmall H (ds ++ gs) = true) :
    Calls Try.prog 9 args W fun e W' => ∃ v, e = .returned v ∧ Rows.ringKeepsOrderSpec.post enc Try.prog Try.f9 false true false false W args v W' := by
  have hW' := hW
  obtain ⟨p, q, hA0, hV, rfl, hfz, hnd⟩ := hW
  have hA : DataW.TrodAll enc Try.prog W 0 (fun _ => true) true Try.f9.params.toList args.toList ds p := hA0
  rw [Try.params9] at hA hval
  obtain ⟨v0, vs0, d0, ds0, p0, q0, hargs, rfl, rfl, h0, r0⟩ := trodAll_cons hA
  obtain ⟨v1, vs1, d1, ds1, p1, q1, rfl, rfl, rfl, h1, r1⟩ := trodAll_cons r0
  obtain ⟨v2, vs2, d2, ds2, p2, q2, rfl, rfl, rfl, h2, r2⟩ := trodAll_cons r1
  obtain ⟨rfl, rfl, rfl⟩ := trodAll_nil r2
  obtain rfl : args = #[v0, v1, v2] := by cases args; simp_all
  obtain ⟨rfl, rfl⟩ := trodVars_none hV
  clear hA0
  have hb := law.small hk
  simp only [List.append_nil, Rows.uptoBulkAll] at hb
  obtain ⟨x0, e0, b0, n0, hx0, hw0⟩ := arg_one Try.underlying3 rfl (hval 0 3 v0 rfl rfl) h0 (rd_int (k := .i64) law.bulk Try.underlying3)
  obtain rfl : x0 = .int .i64 n0 := by simpa using hx0
  obtain ⟨lo0, hi0⟩ := bounds_i64 hw0
  obtain ⟨x1, e1, xs1, tok1, m1, hx1, ht1, hs1, hm1⟩ := arg_one Try.underlying23 rfl (hval 1 23 v1 rfl rfl) h1
    (rd_slice (g := false) law.bulk Try.underlying23 (Nat.le_of_ble_eq_true (by kernel_rfl)) (.inr ⟨rfl, fun avs n ⟨_, z, h, _⟩ => ⟨_, h, rfl⟩⟩) (fun avs n ⟨_, z, h, _⟩ => by rw [h]; exact (by kernel_rfl : 1 = Try.prog.cellsOf 5)) (rd_int (k := .u8) law.bulk Try.underlying5))
  obtain rfl : x1 = .sl xs1 tok1 := by simpa using hx1
  rw [show Try.prog.cellsOf 5 = 1 by kernel_rfl] at hs1
  have hl1 := slv_len (fun _ _ h => h.1) hs1
  obtain ⟨bs1, rfl⟩ := slv_bytes hs1
  rw [by_len] at hl1
  obtain ⟨x2, e2, xs2, tok2, m2, hx2, ht2, hs2, hm2⟩ := arg_one Try.underlying23 rfl (hval 2 23 v2 rfl rfl) h2
    (rd_slice (g := false) law.bulk Try.underlying23 (Nat.le_of_ble_eq_true (by kernel_rfl)) (.inr ⟨rfl, fun avs n ⟨_, z, h, _⟩ => ⟨_, h, rfl⟩⟩) (fun avs n ⟨_, z, h, _⟩ => by rw [h]; exact (by kernel_rfl : 1 = Try.prog.cellsOf 5)) (rd_int (k := .u8) law.bulk Try.underlying5))
  obtain rfl : x2 = .sl xs2 tok2 := by simpa using hx2
  rw [show Try.prog.cellsOf 5 = 1 by kernel_rfl] at hs2
  have hl2 := slv_len (fun _ _ h => h.1) hs2
  obtain ⟨bs2, rfl⟩ := slv_bytes hs2
  rw [by_len] at hl2
  refine (law_true law.mixed (tR_ok law.mixed f26_ok f28_ok f27_ok f31_ok f23_ok f24_ok f25_ok f30_ok) f9_ok _ ((((RelL.nil _).cons e2).cons e1).cons e0) (fun K hK => law9 _ n0 bs1 bs2 tok1 tok2 K hK)).mono fun e W' ⟨he, hg⟩ => ?_
  subst he
  exact ⟨_, rfl, post_true types (by rw [Try.params9]; simp) hW' rfl rfl Try.underlying4 ⟨rfl, rfl, rfl⟩ hg⟩

set_option maxRecDepth 100000 in
theorem lifted (os : Os) (started : os.Started) (H : Type) (enc : TypeId × Value → H) (F : Stop.Interp) :
    ReturnsInHanded {} Try.checked os 9 .any ((Rows.OpenSpec.upto Rows.ringKeepsOrderSpec).pre6 enc Try.prog Try.f9 Rows.ringKeepsOrderUptoRow.domain false) (((Rows.OpenSpec.upto Rows.ringKeepsOrderSpec).at F).post enc Try.prog Try.f9 false true false false) := by
  refine returnsInHanded_of_cond (C := Try.checked) (s := Rows.OpenSpec.upto Rows.ringKeepsOrderSpec) (k := Rows.uptoSmall) rfl law.own started (by kernel_rfl) Try.func9
    (OpenSpec.witness (enc := enc) (C := Try.checked) (s := Rows.OpenSpec.upto Rows.ringKeepsOrderSpec) (k := Rows.uptoSmall) rfl false ⟨#[], #[.int .i64 0, .slice none 0 0, .slice none 0 0], []⟩ 8 (by kernel_rfl) (by kernel_rfl) (by kernel_rfl)
      (x := ([.lit (.int .i64 0), .nil, .nil], [], [])) (by kernel_rfl) rfl (by kernel_rfl)) ?_
  intro W base args ds gs before hval hW _ hk _
  exact contract H enc W base args ds gs before hval hW hk

theorem proved : Rows.RingKeepsOrderUptoSaid :=
  OpenClaim.holds_of_cond 9 Try.f9 rfl rfl rfl rfl rfl rfl rfl ⟨rfl, rfl, rfl, rfl, rfl⟩ rfl rfl rfl rfl rfl (by kernel_rfl) Try.func9 (by kernel_rfl)
    (of_decide_eq_true (by kernel_rfl)) (by unfold Func.isWrapper; first | (rw [if_pos (by decide +kernel)]; kernel_rfl) | (rw [if_neg (by decide +kernel)]; exact ⟨rfl, rfl⟩))
    (fun os started H enc _ F => lifted os started H enc F)
end Go.Proofs.Ythiphpcbeeakpaa.ringKeepsOrder
