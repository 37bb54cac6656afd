/- What all laws of this seat share: the program's facts, the count of the rows, the variables that the rows list; values read. -/
import Derived.Test.YtpeaphpibnikcaaDoorTie
import Derived.Test.YtpeaphpibnikcaaDoorCards
import Derived.Test.YtpeaphpibnikcaaDoorT17
import Derived.WalkKit
import Derived.ProofKit
import Derived.OpenShut
import Derived.JoinedCond
import Derived.Deep.DeepHandedRow
import Derived.LaidMore
import Derived.MakeChecks
import Derived.Lib.LaidU8T
set_option maxRecDepth 100000
namespace Go.Proofs.YtpeaphpibnikcaaDoor.law
open Go.ChangeShapes Go.WideShapes Go.ChangeAt Go.RowKit Go.AL Go.AL.Fun

theorem own : ownKnob Tryd.prog.godebug = none := by kernel_rfl
theorem mixed : Tryd.prog.follows .mixedOrders = true := by kernel_rfl
theorem bulk {H : Type} : BK (H := H) Rows.uptoBulk Rows.uptoBulkAll where
  slice e s := by simp only [Rows.uptoBulk]; omega
  str s := by simp [Rows.uptoBulk]
  agg ps := by simp only [Rows.uptoBulk]; omega
  nil := by simp [Rows.uptoBulkAll]
  cons d r := by simp [Rows.uptoBulkAll]
  one d := by
    cases d with
    | lit l => cases l <;> simp [Rows.uptoBulk]
    | _ => simp [Rows.uptoBulk]
theorem small {H : Type} {l : List (DataW H)} (hk : Rows.uptoSmall H l = true) : Rows.uptoBulkAll l ≤ 1048576 := of_decide_eq_true hk

/-- What the rows list. -/
def laidL : List (String × DataW Unit) := [("unicode/utf8.acceptRanges", Rows.laid_unicode_utf8_acceptRanges), ("unicode/utf8.first", Rows.laid_unicode_utf8_first)]
def accZ : List Int := [128, 191, 160, 191, 128, 159, 144, 191, 128, 143] ++ List.replicate 22 0
theorem dok : DOk Tryd.prog := ⟨mixed, fun xs H K => lib.h53 xs H K, fun xs H K => lib.h54 xs H K, f9_ok, f10_ok, f11_ok, f12_ok, f13_ok, f14_ok, f15_ok, f16_ok, f17_ok, f18_ok, f27_ok, f28_ok, f29_ok, f30_ok, f31_ok, f32_ok, f33_ok, f34_ok, f35_ok, f36_ok, f45_ok, f46_ok⟩
/-- A world for the witness: the settled one, the two tables as their initialisers lay them. -/
def putCells (xs : List Value) : Obj → Obj
  | .cells _ t frozen => .cells xs.toArray t frozen
  | o => o
noncomputable def laidWorld (os : Os) : World :=
  { World.holding Tryd.prog os ⟨#[], #[], []⟩ with heap := ((World.holding Tryd.prog os ⟨#[], #[], []⟩).heap.modify 2 (putCells (Go.Lib.firstTab.map (Value.int .u8)))).modify 3 (putCells (accZ.map (Value.int .u8))) }
theorem laid_met (os : Os) (args : Array Value) : laidMet Tryd.prog laidL ((laidWorld os).forCall (fun _ _ => 0) ⟨#[], args, []⟩).memory :=
  laidMet_of_run' 8 (by kernel_rfl) (by kernel_rfl)
abbrev VI : List AV → Nat → Prop := fun avs b => 1 ≤ b ∧ ∃ n, avs = [.int .i64 n] ∧ (Lit.int .i64 n).wf = true
abbrev VO : List AV → Nat → Prop := fun avs _ => ∃ b, avs = [.bool b]
abbrev VS : List AV → Nat → Prop := fun avs n => ∃ s, avs = [.str s] ∧ s.length + 1 ≤ n
abbrev VIs : List AV → Nat → Prop := fun avs n => ∃ xs tok m, avs = [.sl xs tok] ∧ ((tok = .nil ∧ xs = []) ∨ tok = .no) ∧ SlV true 6 ValV xs m ∧ m + 1 ≤ n
abbrev VFs : List AV → Nat → Prop := fun avs n => ∃ xs tok m, avs = [.sl xs tok] ∧ ((tok = .nil ∧ xs = []) ∨ tok = .no) ∧ SlV true 7 FldV xs m ∧ m + 1 ≤ n
theorem val_of {avs : List AV} {n : Nat} (h : ∃ m, StV [VI, VS, VI, VO, VIs, VFs] avs m ∧ m ≤ n) : ValV avs n := by
  obtain ⟨m, ⟨a, r, m1, k1, rfl, ⟨o1, k, rfl, w1⟩, ⟨b, r2, m2, k2, rfl, ⟨s, rfl, l2⟩, ⟨c, r3, m3, k3, rfl, ⟨o3, z, rfl, w3⟩, ⟨d, r4, m4, k4, rfl, ⟨bb, rfl⟩, ⟨e, r5, m5, k5, rfl, ⟨xs, t1, q1, rfl, ht1, sv1, l5⟩, ⟨f, r6, m6, k6, rfl, ⟨ys, t2, q2, rfl, ht2, sv2, l6⟩, h7, j6⟩, j5⟩, j4⟩, j3⟩, j2⟩, j1⟩, j0⟩ := h
  cases h7
  obtain ⟨is, rfl, o5, w5⟩ := slv_vals sv1
  obtain ⟨fs, rfl, o6, w6⟩ := slv_flds sv2
  refine ⟨.mk k s z bb t1 is t2 fs, by simp [Val.cs], ?_, ?_⟩
  · simp only [Val.ok]
    refine ⟨w1, w3, ?_, ?_, o5, o6⟩
    · rcases ht1 with ⟨h1, h2⟩ | h1
      · refine .inl ⟨h1, ?_⟩
        cases is with
        | nil => rfl
        | cons v l => simp [Val.avs] at h2
      · exact .inr h1
    · rcases ht2 with ⟨h1, h2⟩ | h1
      · refine .inl ⟨h1, ?_⟩
        cases fs with
        | nil => rfl
        | cons v l => simp [Val.fvs] at h2
      · exact .inr h1
  · simp only [Val.wt]; omega
theorem fld_of {avs : List AV} {n : Nat} (h : ∃ m, StV [VS, ValV] avs m ∧ m ≤ n) : FldV avs n := by
  obtain ⟨m, ⟨a, r, m1, k1, rfl, ⟨s, rfl, l1⟩, ⟨b, r2, m2, k2, rfl, ⟨v, rfl, o2, w2⟩, h3, j2⟩, j1⟩, j0⟩ := h
  cases h3
  refine ⟨(s, v), by simp, o2, ?_⟩
  simp only [Val.wt1]; omega
section
variable {H : Type} {enc : TypeId × Value → H} {W : World}
theorem val_sz (avs : List AV) (n : Nat) (h : ValV avs n) : avs.length = Tryd.prog.cellsOf 25 := by
  obtain ⟨v, rfl, _⟩ := h; rw [Val.cs_len]; kernel_rfl
theorem fld_sz (avs : List AV) (n : Nat) (h : FldV avs n) : avs.length = Tryd.prog.cellsOf 54 := by
  obtain ⟨v, rfl, _⟩ := h; rw [List.length_cons, Val.cs_len]; kernel_rfl
theorem cz25 : Tryd.prog.cellsOf 25 = 6 := by kernel_rfl
theorem cz54 : Tryd.prog.cellsOf 54 = 7 := by kernel_rfl
theorem rd_fldU {N : Nat} (h : RdsU N enc Tryd.prog W Rows.uptoBulk 25 ValV) : RdsU (N + 1) enc Tryd.prog W Rows.uptoBulk 54 FldV :=
  (rd_structU (Vs := [VS, ValV]) law.bulk Tryd.underlying54 ⟨by kernel_rfl, (rd_str law.bulk Tryd.underlying9).u _, by kernel_rfl, h, by (change (_ : Nat) = _); kernel_rfl⟩).imp fun _ _ => fld_of
theorem rd_isU {N : Nat} (h : RdsU N enc Tryd.prog W Rows.uptoBulk 25 ValV) : RdsU (N + 1) enc Tryd.prog W Rows.uptoBulk 22 VIs := by
  have := rd_sliceU (g := true) law.bulk Tryd.underlying22 (Nat.le_of_ble_eq_true (by kernel_rfl)) (.inl rfl) val_sz h
  rw [cz25] at this
  exact this
theorem rd_fsU {N : Nat} (h : RdsU N enc Tryd.prog W Rows.uptoBulk 54 FldV) : RdsU (N + 1) enc Tryd.prog W Rows.uptoBulk 23 VFs := by
  have := rd_sliceU (g := true) law.bulk Tryd.underlying23 (Nat.le_of_ble_eq_true (by kernel_rfl)) (.inl rfl) fld_sz h
  rw [cz54] at this
  exact this
theorem rd_valU : ∀ N, RdsU N enc Tryd.prog W Rows.uptoBulk 25 ValV
  | 0 => fun f hf => absurd hf (Nat.not_lt_zero _)
  | N + 1 =>
    have ih := rd_valU N
    (rd_structU (Vs := [VI, VS, VI, VO, VIs, VFs]) law.bulk Tryd.underlying25 ⟨by kernel_rfl, (rd_int (k := .i64) law.bulk Tryd.underlying3).u _, by kernel_rfl, (rd_str law.bulk Tryd.underlying9).u _, by kernel_rfl, (rd_int (k := .i64) law.bulk Tryd.underlying2).u _,
      by kernel_rfl, (rd_bool Tryd.underlying4).u _, by kernel_rfl, (rd_isU ih).le (Nat.le_succ _), by kernel_rfl, (rd_fsU (rd_fldU ih)).le (by omega), by (change (_ : Nat) = _); kernel_rfl⟩).imp fun _ _ => val_of
end
section
variable {H : Type} {enc : TypeId × Value → H} {W : World}
theorem rd_val : Rds enc Tryd.prog W Rows.uptoBulk 25 ValV := rds_all fun N => rd_valU N
theorem arg_val {base : Nat} {v : Value} {d0 : DataW H} {ps : List MemPlace} (hok : Value.okWide Tryd.prog W .any base 25 v) (h : DataW.Trod enc Tryd.prog W 0 (fun _ => true) true 25 v d0 ps) :
    ∃ x : Val, Rel (im0 W) (.agg x.cs) v ∧ x.wt ≤ Rows.uptoBulk d0 := by
  obtain ⟨fuel, h⟩ := h
  obtain ⟨avs, h1, h2, x, rfl, _, h3⟩ := rd_val _ _ _ h
  obtain ⟨ca, rfl⟩ : ∃ ca, v = .agg ca := by
    have hu := Tryd.underlying25
    cases v with
    | agg ca => exact ⟨ca, rfl⟩
    | _ => exfalso; simp_all [Value.okWide]
  have e : (Value.agg ca).cells.toList = ca.toList := rfl
  rw [e] at h1 h2
  refine ⟨x, .agg _ _ (by simpa using h1.1) (fun i y hy => h2 y ?_) (fun i a y ha hy => h1.2 i a y ha ?_), h3⟩
  · exact List.mem_of_getElem? (i := i) (by simpa using hy)
  · simpa using hy
end
end Go.Proofs.YtpeaphpibnikcaaDoor.law
