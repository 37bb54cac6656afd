/- What the laws of the decoder share: the program's facts, the count of the rows, the variables that the rows list. -/
import Derived.Test.YtcmgeflfapffoaaDoorTie
import Derived.Test.YtcmgeflfapffoaaDoorCards
import Derived.Test.YtcmgeflfapffoaaDoorDT
import Derived.WalkKit
import Derived.ProofKit
import Derived.OpenShut
import Derived.JoinedCond
import Derived.Deep.DeepHandedRow
import Derived.LaidMore
import Derived.MakeChecks
import Derived.Lib.LaidU8T
set_option maxRecDepth 100000
namespace Go.Proofs.YtcmgeflfapffoaaDoor.law
open Go.ChangeShapes Go.WideShapes Go.ChangeAt Go.RowKit Go.AL Go.AL.Fun

theorem own : ownKnob Tryd.prog.godebug = none := by kernel_rfl
theorem mixed : Tryd.prog.follows .mixedOrders = true := by kernel_rfl
theorem bulk {H : Type} : BK (H := H) Rows.uptoBulk Rows.uptoBulkAll where
  slice e s := by simp only [Rows.uptoBulk]; omega
  str s := by simp [Rows.uptoBulk]
  agg ps := by simp only [Rows.uptoBulk]; omega
  nil := by simp [Rows.uptoBulkAll]
  cons d r := by simp [Rows.uptoBulkAll]
  one d := by
    cases d with
    | lit l => cases l <;> simp [Rows.uptoBulk]
    | _ => simp [Rows.uptoBulk]
theorem small {H : Type} {l : List (DataW H)} (hk : Rows.uptoSmall H l = true) : Rows.uptoBulkAll l ≤ 1048576 := of_decide_eq_true hk

/-- What the rows list. -/
def laidL2 : List (String × DataW Unit) := [("unicode/utf8.acceptRanges", Rows.laid_unicode_utf8_acceptRanges), ("unicode/utf8.first", Rows.laid_unicode_utf8_first)]
def laidL : List (String × DataW Unit) := ("math/bits.deBruijn32tab", Rows.laid_math_bits_deBruijn32tab) :: ("math/bits.deBruijn64tab", Rows.laid_math_bits_deBruijn64tab) :: ("internal/strconv.uint64pow10", Rows.laid_internal_strconv_uint64pow10) :: laidL2
def tabRen : Go.Shelf.Ren := ⟨fun n => n, fun x => match x with | 119 => 102 | 139 => 105 | 138 => 104 | n => n, fun x => match x with | 3 => 2 | 4 => 3 | n => n⟩
theorem tabTypes : U8Types Tryd.prog tabRen where
  t5 := Tryd.underlying5
  t119 := Tryd.underlying102
  t138 := Tryd.underlying104
  t139 := Tryd.underlying105
theorem tabExtra : U8Extra Tryd.prog tabRen where
  n3 := by kernel_rfl
  n4 := by kernel_rfl
  y3 := by kernel_rfl
  y4 := by kernel_rfl
  c5 := by kernel_rfl
  c119 := by kernel_rfl
  c138 := by kernel_rfl
theorem first_eq : Rows.laid_unicode_utf8_first = Go.Lib.firstData := by kernel_rfl
theorem accept_eq : (Rows.laid_unicode_utf8_acceptRanges : DataW Unit) = Go.Lib.acceptData := by kernel_rfl
theorem tab64_eq : (Rows.laid_math_bits_deBruijn64tab : DataW Unit) = Go.Lib.tabData .u8 tab64Z := by kernel_rfl
/-- A variable's block: so many cells. -/
def Cells (W : World) (g n : Nat) : Prop := ∃ vs e fr, W.heap[g]? = some (.cells vs e fr) ∧ vs.size = n
theorem arr_len {fuel : Nat} {t e : TypeId} {n base : Nat} {sp : Nat → Bool} {held : Bool} {W : World} {cs : List Value} {x : DataW Unit × List MemPlace} (ht : Tryd.prog.underlying t = some (.array n e))
    (h : DataW.trod (fun _ => ()) Tryd.prog W base sp held fuel t cs = some x) : cs.length = Tryd.prog.cellsOf t := by
  cases fuel with
  | zero => simp [DataW.trod] at h
  | succ fuel =>
    simp only [DataW.trod, ht] at h
    split at h
    · assumption
    · cases h
theorem var_cells {W : World} {s : String} {d : DataW Unit} {g : Nat} {t e : TypeId} {n k : Nat} (h : Go.Lib.VarReads Tryd.prog W s d) (hg : Tryd.prog.globalNamed s = some g) (hy : (Tryd.prog.globals[g]?).map (·.type) = some t)
    (ht : Tryd.prog.underlying t = some (.array n e)) (hk : Tryd.prog.cellsOf t = k) : Cells W g k := by
  obtain ⟨g', t', cs, fuel, p, hg', hy', hvar, hd⟩ := h
  obtain rfl := Option.some.inj (hg.symm.trans hg')
  obtain rfl := Option.some.inj (hy.symm.trans hy')
  have hl := arr_len ht hd
  simp only [World.var?, hg, Option.bind_some] at hvar
  split at hvar
  · rename_i vs e fr hb
    cases hvar
    exact ⟨_, _, _, hb, by rw [← hk, ← hl]; simp⟩
  · cases hvar
/-- The tables, cell by cell. -/
structure Tabs (W : World) : Prop where
  u : Lib.Utf8Tabs 2 3 W
  c2 : Cells W 2 256
  c3 : Cells W 3 32
structure Tabs5 (W : World) : Prop extends Tabs W where
  c5 : Cells W 5 64
  z5 : ∀ (i : Nat) (z : Int), tab64Z[i]? = some z → W.cell? ⟨5, i, none⟩ = some (.int .u8 z)
theorem tabs_of {W : World} {l : List (String × DataW Unit)} {ps : List MemPlace} (h : DataW.LaidVars Tryd.prog W l ps) (h1 : ("unicode/utf8.first", Rows.laid_unicode_utf8_first) ∈ l) (h2 : ("unicode/utf8.acceptRanges", Rows.laid_unicode_utf8_acceptRanges) ∈ l) : Tabs W := by
  have r1 := Go.Lib.LaidVars_reads h _ _ h1
  have r2 := Go.Lib.LaidVars_reads h _ _ h2
  exact ⟨utf8Tabs_of_readsT tabTypes tabExtra (by rw [← first_eq]; exact r1) (by rw [← accept_eq]; exact r2),
    var_cells r1 (by kernel_rfl) (by kernel_rfl) Tryd.underlying102 (by kernel_rfl), var_cells r2 (by kernel_rfl) (by kernel_rfl) Tryd.underlying105 (by kernel_rfl)⟩
theorem tabs2 {W : World} (h : laidMetH Tryd.prog laidL2 W) : Tabs W := by
  rw [MakeChecks.laidMetH_plain _ _ _ (by kernel_rfl)] at h
  obtain ⟨ps, h, _⟩ := h
  exact tabs_of h (by simp [laidL2]) (by simp [laidL2])
theorem tabs {W : World} (h : laidMetH Tryd.prog laidL W) : Tabs5 W := by
  rw [MakeChecks.laidMetH_plain _ _ _ (by kernel_rfl)] at h
  obtain ⟨ps, h, _⟩ := h
  have r3 := Go.Lib.LaidVars_reads h "math/bits.deBruijn64tab" Rows.laid_math_bits_deBruijn64tab (by simp [laidL])
  refine { tabs_of h (by simp [laidL, laidL2]) (by simp [laidL, laidL2]) with c5 := var_cells r3 (by kernel_rfl) (by kernel_rfl) Tryd.underlying107 (by kernel_rfl), z5 := fun i z hz => ?_ }
  rw [tab64_eq] at r3
  obtain ⟨g, t, cs, fuel, p, hg, hty, hvar, hd⟩ := r3
  obtain rfl : 5 = g := Option.some.inj ((show Tryd.prog.globalNamed "math/bits.deBruijn64tab" = some 5 by kernel_rfl).symm.trans hg)
  obtain rfl : 107 = t := Option.some.inj ((show (Tryd.prog.globals[5]?).map (·.type) = some 107 by kernel_rfl).symm.trans hty)
  have hcs := Go.Lib.cells_of_tab Tryd.underlying107 Tryd.underlying5 (by kernel_rfl) (by kernel_rfl) hd
  rw [World.var?_cell hg hvar i, ← Array.getElem?_toList, hcs, List.getElem?_map, hz]
  rfl

theorem firstT_eq : ∀ c : Fin 256, ((Lib.firstT c.val : Nat) : Int) = firstT c.val := by decide +kernel
def accZ : List Int := [128, 191, 160, 191, 128, 159, 144, 191, 128, 143] ++ List.replicate 22 0
theorem accL_eq : accL = accZ.map (.int .u8) := rfl
theorem accZ_lo : ∀ i : Fin 16, accZ[2 * i.val]? = some ((Lib.accLo i.val : Nat) : Int) ∧ accZ[2 * i.val + 1]? = some ((Lib.accHi i.val : Nat) : Int) := by decide +kernel
theorem cell_lt {W : World} {a : Addr} {v : Value} (h : W.cell? a = some v) : a.block < W.heap.size := by
  unfold World.cell? at h
  rcases hb : W.heap[a.block]? with _ | o
  · rw [hb] at h; simp at h
  · exact (Array.getElem?_eq_some_iff.1 hb).1
theorem rel_tab {W : World} {g : Nat} {zs : List Int} (h : ∀ i z, zs[i]? = some z → W.cell? ⟨g, i, none⟩ = some (.int .u8 z)) : Rel (im0 W) (.iptr (zs.map (.int .u8))) (.pointer (some ⟨g, 0, none⟩)) := by
  refine .iptr _ _ (fun i => (zs[i]?.map (Value.int .u8)).getD default) (fun _ => rfl) (fun i hi => ?_) (fun i hi => ?_) (fun i x hx => ?_)
  · rw [List.length_map] at hi
    have hz := List.getElem?_eq_getElem hi
    have hc := h i _ hz
    have hlt := cell_lt hc
    simp only [im0, Nat.zero_add]
    rw [if_pos hlt, hc, hz]; rfl
  · rw [List.length_map] at hi
    rw [List.getElem?_eq_getElem hi]; rfl
  · rw [List.getElem?_map] at hx
    obtain ⟨z, hz, rfl⟩ := Option.map_eq_some_iff.1 hx
    rw [hz]; exact .int _ _
theorem rel_first {W : World} (hT : Lib.Utf8Tabs 2 3 W) : Rel (im0 W) (.iptr firstL) (.pointer (some ⟨2, 0, none⟩)) := by
  have e : firstL = ((List.range 256).map firstT).map (AV.int .u8) := by simp [firstL]
  rw [e]
  refine rel_tab fun i z hz => ?_
  rw [List.getElem?_map] at hz
  obtain ⟨j, hj, rfl⟩ := Option.map_eq_some_iff.1 hz
  obtain ⟨hlt, rfl⟩ := List.getElem?_eq_some_iff.1 hj
  rw [List.length_range] at hlt
  rw [List.getElem_range, ← firstT_eq ⟨i, hlt⟩]
  exact hT.1 i hlt
theorem rel_acc {W : World} (hT : Lib.Utf8Tabs 2 3 W) : Rel (im0 W) (.iptr accL) (.pointer (some ⟨3, 0, none⟩)) := by
  rw [accL_eq]
  refine rel_tab fun i z hz => ?_
  have hlt : i < 32 := (List.getElem?_eq_some_iff.1 hz).1
  have hk := accZ_lo ⟨i / 2, by omega⟩
  have ht := hT.2 (i / 2) (by omega)
  simp only at hk
  rcases Nat.mod_two_eq_zero_or_one i with e | e
  · have ei : i = 2 * (i / 2) := by omega
    rw [ei] at hz ⊢
    rw [hk.1] at hz; cases hz; exact ht.1
  · have ei : i = 2 * (i / 2) + 1 := by omega
    rw [ei] at hz ⊢
    rw [hk.2] at hz; cases hz; exact ht.2
theorem lt_of {W : World} {g n : Nat} (h : Cells W g n) : g < W.heap.size := by obtain ⟨_, _, _, h, _⟩ := h; exact (Array.getElem?_eq_some_iff.1 h).1
theorem firstL_len : firstL.length = 256 := by simp [firstL]
theorem startU {W : World} (hT : Tabs W) : Sat Gu W.heap.size W (im0 W) [] W := by
  have h0 := Sat.start W
  refine ⟨h0.below, h0.base, h0.cell, h0.size, h0.nodup, h0.obj, fun g cs hg => ?_⟩
  match g, hg with
  | 0, hg => cases hg
  | 1, hg => cases hg
  | 2, hg =>
    obtain rfl : firstL = cs := Option.some.inj hg
    exact ⟨⟨lt_of hT.c2, by rw [firstL_len]; exact hT.c2⟩, rel_first hT.u⟩
  | 3, hg =>
    obtain rfl : accL = cs := Option.some.inj hg
    exact ⟨⟨lt_of hT.c3, by rw [acl]; exact hT.c3⟩, rel_acc hT.u⟩
  | n + 4, hg => cases hg
theorem start {W : World} (hT : Tabs5 W) : Sat Gd W.heap.size W (im0 W) [] W := by
  have h0 := startU hT.toTabs
  refine ⟨h0.below, h0.base, h0.cell, h0.size, h0.nodup, h0.obj, fun g cs hg => ?_⟩
  match g, hg with
  | 0, hg => cases hg
  | 1, hg => cases hg
  | 2, hg => exact h0.glob 2 cs hg
  | 3, hg => exact h0.glob 3 cs hg
  | 4, hg => cases hg
  | 5, hg =>
    obtain rfl : tab64L = cs := Option.some.inj hg
    exact ⟨⟨lt_of hT.c5, by rw [show tab64L.length = 64 from rfl]; exact hT.c5⟩, rel_tab hT.z5⟩
  | n + 6, hg => cases hg
theorem law_trueS {G : Nat → Option (List AV)} {T : XT} (hT : TOk G Tryd.prog (plainT T)) {f : Nat} {F : AFun} {hs : List Hint} (hF : compF Tryd.prog f hs = some F) {W : World} (hS : Sat G W.heap.size W (im0 W) [] W) {args : Array Value} (avs : List AV)
    (hr : RelL (im0 W) avs args.toList) (h : ∀ K : Kv, (∀ H, K.ap (.bool true) H) → @xF ⟨G, Tryd.prog, T⟩ F avs [] K) : Calls Tryd.prog f args W fun e W' => e = .returned (.bool true) ∧ Below W.heap.size W W' := by
  have hA := okF mixed hT hF avs [] _ (h ⟨fun v _ => v = .bool true⟩ fun _ => rfl)
  refine (hA.2 W.heap.size W (im0 W) W args hS hr).mono ?_
  rintro e W' ⟨v, cv, m', H', rfl, h1, h2, h3, rfl⟩
  cases h3
  exact ⟨rfl, h2.below⟩
theorem fok : FOk Tryd.prog := ⟨mixed, fun xs H K => lib.h48 xs H K, f75_ok, f72_ok, f71_ok, f62_ok, f55_ok, f50_ok, f47_ok, f42_ok, f44_ok, f39_ok, f43_ok, f14_ok, f36_ok, f37_ok, f15_ok, f19_ok, f38_ok, f16_ok, f20_ok, f21_ok, f34_ok, f17_ok, f13_ok, f18_ok, f22_ok, f23_ok, f24_ok, f25_ok⟩
theorem dok : DOkP Tryd.prog := ⟨mixed, fun _ xs H K => lib.h37 xs H K, lib.encode_in (o14 fok) (o15 fok) (o19 fok) (o34 fok), f73_ok, f63_ok, f64_ok, f57_ok, f53_ok, f52_ok, f56_ok, f51_ok, f49_ok, f46_ok, f45_ok, f40_ok, f29_ok, f38_ok, f32_ok, f31_ok, f30_ok, f33_ok, f28_ok, f27_ok, f26_ok⟩
/-- A world for the witness: the settled one, the tables as their initialisers lay them. -/
def putCells (xs : List Value) : Obj → Obj
  | .cells _ t frozen => .cells xs.toArray t frozen
  | o => o
def z32 : List Int := [0, 1, 28, 2, 29, 14, 24, 3, 30, 22, 20, 15, 25, 17, 4, 8, 31, 27, 13, 23, 21, 19, 16, 7, 26, 12, 18, 6, 11, 5, 10, 9]
def z10 : List Int := [1, 10, 100, 1000, 10000, 100000, 1000000, 10000000, 100000000, 1000000000, 10000000000, 100000000000, 1000000000000, 10000000000000, 100000000000000, 1000000000000000, 10000000000000000, 100000000000000000, 1000000000000000000, 10000000000000000000]
noncomputable def laidWorld (os : Os) : World :=
  { World.holding Tryd.prog os ⟨#[], #[], []⟩ with heap := (((((World.holding Tryd.prog os ⟨#[], #[], []⟩).heap.modify 2 (putCells (Go.Lib.firstTab.map (Value.int .u8)))).modify 3 (putCells (accZ.map (Value.int .u8)))).modify 0 (putCells (z10.map (Value.int .u64)))).modify 4 (putCells (z32.map (Value.int .u8)))).modify 5 (putCells (tab64Z.map (Value.int .u8))) }
theorem laid_met (os : Os) (args : Array Value) : laidMet Tryd.prog laidL ((laidWorld os).forCall (fun _ _ => 0) ⟨#[], args, []⟩).memory :=
  laidMet_of_run' 8 (by kernel_rfl) (by kernel_rfl)
theorem laid_met2 (os : Os) (args : Array Value) : laidMet Tryd.prog laidL2 ((laidWorld os).forCall (fun _ _ => 0) ⟨#[], args, []⟩).memory :=
  laidMet_of_run' 8 (by kernel_rfl) (by kernel_rfl)
theorem u8_rng {n : Int} (h : (Lit.int .u8 n).wf = true) : 0 ≤ n ∧ n ≤ 255 := by
  simp only [Lit.wf, Bool.and_eq_true, decide_eq_true_eq] at h
  have h1 : IntKind.min .u8 = 0 := by decide
  have h2 : IntKind.max .u8 = 255 := by decide
  omega
theorem i64_rng {n : Int} (h : (Lit.int .i64 n).wf = true) : -9223372036854775808 ≤ n ∧ n ≤ 9223372036854775807 := by
  simp only [Lit.wf, Bool.and_eq_true, decide_eq_true_eq] at h
  have h1 : IntKind.min .i64 = -9223372036854775808 := by decide
  have h2 : IntKind.max .i64 = 9223372036854775807 := by decide
  omega
theorem u16_rng {n : Int} (h : (Lit.int .u16 n).wf = true) : 0 ≤ n ∧ n ≤ 65535 := by
  simp only [Lit.wf, Bool.and_eq_true, decide_eq_true_eq] at h
  have h1 : IntKind.min .u16 = 0 := by decide
  have h2 : IntKind.max .u16 = 65535 := by decide
  omega
end Go.Proofs.YtcmgeflfapffoaaDoor.law
