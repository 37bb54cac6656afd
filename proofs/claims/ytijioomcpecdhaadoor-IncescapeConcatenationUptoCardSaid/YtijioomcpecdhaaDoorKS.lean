/- What all laws of this seat share: the program's facts, the count of the rows, the variables that the rows list. -/
import Derived.Test.YtijioomcpecdhaaDoorTie
import Derived.Test.YtijioomcpecdhaaDoorCards
import Derived.Test.YtijioomcpecdhaaDoorS16
import Derived.WalkKit
import Derived.ProofKit
import Derived.OpenShut
import Derived.JoinedCond
import Derived.Deep.DeepHandedRow
import Derived.LaidMore
import Derived.MakeChecks
import Derived.Lib.LaidU8T
set_option maxRecDepth 100000
namespace Go.Proofs.YtijioomcpecdhaaDoor.law
open Go.ChangeShapes Go.WideShapes Go.ChangeAt Go.RowKit Go.AL Go.AL.Fun

theorem own : ownKnob Tryd.prog.godebug = none := by kernel_rfl
theorem mixed : Tryd.prog.follows .mixedOrders = true := by kernel_rfl
theorem bulk {H : Type} : BK (H := H) Rows.uptoBulk Rows.uptoBulkAll where
  slice e s := by simp only [Rows.uptoBulk]; omega
  str s := by simp [Rows.uptoBulk]
  agg ps := by simp only [Rows.uptoBulk]; omega
  nil := by simp [Rows.uptoBulkAll]
  cons d r := by simp [Rows.uptoBulkAll]
  one d := by
    cases d with
    | lit l => cases l <;> simp [Rows.uptoBulk]
    | _ => simp [Rows.uptoBulk]
theorem small {H : Type} {l : List (DataW H)} (hk : Rows.uptoSmall H l = true) : Rows.uptoBulkAll l ≤ 1048576 := of_decide_eq_true hk

/-- What the rows list. -/
def laidL2 : List (String × DataW Unit) := [("unicode/utf8.acceptRanges", Rows.laid_unicode_utf8_acceptRanges), ("unicode/utf8.first", Rows.laid_unicode_utf8_first)]
def laidL3 : List (String × DataW Unit) := [("math/bits.deBruijn32tab", Rows.laid_math_bits_deBruijn32tab), ("math/bits.deBruijn64tab", Rows.laid_math_bits_deBruijn64tab), ("internal/strconv.uint64pow10", Rows.laid_internal_strconv_uint64pow10)]
def laidL : List (String × DataW Unit) := ("math/bits.deBruijn32tab", Rows.laid_math_bits_deBruijn32tab) :: ("math/bits.deBruijn64tab", Rows.laid_math_bits_deBruijn64tab) :: ("internal/strconv.uint64pow10", Rows.laid_internal_strconv_uint64pow10) :: laidL2
def tabRen : Go.Shelf.Ren := ⟨fun n => n, fun x => match x with | 119 => 99 | 139 => 102 | 138 => 101 | n => n, fun x => match x with | 3 => 0 | 4 => 1 | n => n⟩
theorem tabTypes : U8Types Tryd.prog tabRen where
  t5 := Tryd.underlying5
  t119 := Tryd.underlying99
  t138 := Tryd.underlying101
  t139 := Tryd.underlying102
theorem tabExtra : U8Extra Tryd.prog tabRen where
  n3 := by kernel_rfl
  n4 := by kernel_rfl
  y3 := by kernel_rfl
  y4 := by kernel_rfl
  c5 := by kernel_rfl
  c119 := by kernel_rfl
  c138 := by kernel_rfl
theorem first_eq : Rows.laid_unicode_utf8_first = Go.Lib.firstData := by kernel_rfl
theorem accept_eq : (Rows.laid_unicode_utf8_acceptRanges : DataW Unit) = Go.Lib.acceptData := by kernel_rfl
theorem tab64_eq : (Rows.laid_math_bits_deBruijn64tab : DataW Unit) = Go.Lib.tabData .u8 tab64Z := by kernel_rfl
/-- A variable's block: so many cells. -/
def Cells (W : World) (g n : Nat) : Prop := ∃ vs e fr, W.heap[g]? = some (.cells vs e fr) ∧ vs.size = n
theorem arr_len {fuel : Nat} {t e : TypeId} {n base : Nat} {sp : Nat → Bool} {held : Bool} {W : World} {cs : List Value} {x : DataW Unit × List MemPlace} (ht : Tryd.prog.underlying t = some (.array n e))
    (h : DataW.trod (fun _ => ()) Tryd.prog W base sp held fuel t cs = some x) : cs.length = Tryd.prog.cellsOf t := by
  cases fuel with
  | zero => simp [DataW.trod] at h
  | succ fuel =>
    simp only [DataW.trod, ht] at h
    split at h
    · assumption
    · cases h
theorem var_cells {W : World} {s : String} {d : DataW Unit} {g : Nat} {t e : TypeId} {n k : Nat} (h : Go.Lib.VarReads Tryd.prog W s d) (hg : Tryd.prog.globalNamed s = some g) (hy : (Tryd.prog.globals[g]?).map (·.type) = some t)
    (ht : Tryd.prog.underlying t = some (.array n e)) (hk : Tryd.prog.cellsOf t = k) : Cells W g k := by
  obtain ⟨g', t', cs, fuel, p, hg', hy', hvar, hd⟩ := h
  obtain rfl := Option.some.inj (hg.symm.trans hg')
  obtain rfl := Option.some.inj (hy.symm.trans hy')
  have hl := arr_len ht hd
  simp only [World.var?, hg, Option.bind_some] at hvar
  split at hvar
  · rename_i vs e fr hb
    cases hvar
    exact ⟨_, _, _, hb, by rw [← hk, ← hl]; simp⟩
  · cases hvar
/-- The tables, cell by cell. -/
structure Tabs (W : World) : Prop where
  u : Lib.Utf8Tabs 0 1 W
  c2 : Cells W 0 256
  c3 : Cells W 1 32
structure Tabs5 (W : World) : Prop extends Tabs W where
  c5 : Cells W 5 64
  z5 : ∀ (i : Nat) (z : Int), tab64Z[i]? = some z → W.cell? ⟨5, i, none⟩ = some (.int .u8 z)
theorem tabs_of {W : World} {l : List (String × DataW Unit)} {ps : List MemPlace} (h : DataW.LaidVars Tryd.prog W l ps) (h1 : ("unicode/utf8.first", Rows.laid_unicode_utf8_first) ∈ l) (h2 : ("unicode/utf8.acceptRanges", Rows.laid_unicode_utf8_acceptRanges) ∈ l) : Tabs W := by
  have r1 := Go.Lib.LaidVars_reads h _ _ h1
  have r2 := Go.Lib.LaidVars_reads h _ _ h2
  exact ⟨utf8Tabs_of_readsT tabTypes tabExtra (by rw [← first_eq]; exact r1) (by rw [← accept_eq]; exact r2),
    var_cells r1 (by kernel_rfl) (by kernel_rfl) Tryd.underlying99 (by kernel_rfl), var_cells r2 (by kernel_rfl) (by kernel_rfl) Tryd.underlying102 (by kernel_rfl)⟩
theorem tabs2 {W : World} (h : laidMetH Tryd.prog laidL2 W) : Tabs W := by
  rw [MakeChecks.laidMetH_plain _ _ _ (by kernel_rfl)] at h
  obtain ⟨ps, h, _⟩ := h
  exact tabs_of h (by simp [laidL2]) (by simp [laidL2])
structure Tab3 (W : World) : Prop where
  c5 : Cells W 5 64
  z5 : ∀ (i : Nat) (z : Int), tab64Z[i]? = some z → W.cell? ⟨5, i, none⟩ = some (.int .u8 z)
theorem tab3_of {W : World} {l : List (String × DataW Unit)} {ps : List MemPlace} (h : DataW.LaidVars Tryd.prog W l ps) (h1 : ("math/bits.deBruijn64tab", Rows.laid_math_bits_deBruijn64tab) ∈ l) : Tab3 W := by
  have r3 := Go.Lib.LaidVars_reads h "math/bits.deBruijn64tab" Rows.laid_math_bits_deBruijn64tab h1
  refine { c5 := var_cells r3 (by kernel_rfl) (by kernel_rfl) Tryd.underlying139 (by kernel_rfl), z5 := fun i z hz => ?_ }
  rw [tab64_eq] at r3
  obtain ⟨g, t, cs, fuel, p, hg, hty, hvar, hd⟩ := r3
  obtain rfl : 5 = g := Option.some.inj ((show Tryd.prog.globalNamed "math/bits.deBruijn64tab" = some 5 by kernel_rfl).symm.trans hg)
  obtain rfl : 139 = t := Option.some.inj ((show (Tryd.prog.globals[5]?).map (·.type) = some 139 by kernel_rfl).symm.trans hty)
  have hcs := Go.Lib.cells_of_tab Tryd.underlying139 Tryd.underlying5 (by kernel_rfl) (by kernel_rfl) hd
  rw [World.var?_cell hg hvar i, ← Array.getElem?_toList, hcs, List.getElem?_map, hz]
  rfl
theorem tabs {W : World} (h : laidMetH Tryd.prog laidL W) : Tabs5 W := by
  rw [MakeChecks.laidMetH_plain _ _ _ (by kernel_rfl)] at h
  obtain ⟨ps, h, _⟩ := h
  have t3 := tab3_of h (by simp [laidL])
  exact { tabs_of h (by simp [laidL, laidL2]) (by simp [laidL, laidL2]) with c5 := t3.c5, z5 := t3.z5 }
theorem tabs3 {W : World} (h : laidMetH Tryd.prog laidL3 W) : Tab3 W := by
  rw [MakeChecks.laidMetH_plain _ _ _ (by kernel_rfl)] at h
  obtain ⟨ps, h, _⟩ := h
  exact tab3_of h (by simp [laidL3])

theorem firstT_eq : ∀ c : Fin 256, ((Lib.firstT c.val : Nat) : Int) = firstT c.val := by decide +kernel
def accZ : List Int := [128, 191, 160, 191, 128, 159, 144, 191, 128, 143] ++ List.replicate 22 0
theorem accL_eq : accL = accZ.map (.int .u8) := rfl
theorem accZ_lo : ∀ i : Fin 16, accZ[2 * i.val]? = some ((Lib.accLo i.val : Nat) : Int) ∧ accZ[2 * i.val + 1]? = some ((Lib.accHi i.val : Nat) : Int) := by decide +kernel
theorem cell_lt {W : World} {a : Addr} {v : Value} (h : W.cell? a = some v) : a.block < W.heap.size := by
  unfold World.cell? at h
  rcases hb : W.heap[a.block]? with _ | o
  · rw [hb] at h; simp at h
  · exact (Array.getElem?_eq_some_iff.1 hb).1
theorem rel_tab {W : World} {g : Nat} {zs : List Int} (h : ∀ i z, zs[i]? = some z → W.cell? ⟨g, i, none⟩ = some (.int .u8 z)) : Rel (im0 W) (.iptr (zs.map (.int .u8))) (.pointer (some ⟨g, 0, none⟩)) := by
  refine .iptr _ _ (fun i => (zs[i]?.map (Value.int .u8)).getD default) (fun _ => rfl) (fun i hi => ?_) (fun i hi => ?_) (fun i x hx => ?_)
  · rw [List.length_map] at hi
    have hz := List.getElem?_eq_getElem hi
    have hc := h i _ hz
    have hlt := cell_lt hc
    simp only [im0, Nat.zero_add]
    rw [if_pos hlt, hc, hz]; rfl
  · rw [List.length_map] at hi
    rw [List.getElem?_eq_getElem hi]; rfl
  · rw [List.getElem?_map] at hx
    obtain ⟨z, hz, rfl⟩ := Option.map_eq_some_iff.1 hx
    rw [hz]; exact .int _ _
theorem rel_first {W : World} (hT : Lib.Utf8Tabs 0 1 W) : Rel (im0 W) (.iptr firstL) (.pointer (some ⟨0, 0, none⟩)) := by
  have e : firstL = ((List.range 256).map firstT).map (AV.int .u8) := by simp [firstL]
  rw [e]
  refine rel_tab fun i z hz => ?_
  rw [List.getElem?_map] at hz
  obtain ⟨j, hj, rfl⟩ := Option.map_eq_some_iff.1 hz
  obtain ⟨hlt, rfl⟩ := List.getElem?_eq_some_iff.1 hj
  rw [List.length_range] at hlt
  rw [List.getElem_range, ← firstT_eq ⟨i, hlt⟩]
  exact hT.1 i hlt
theorem rel_acc {W : World} (hT : Lib.Utf8Tabs 0 1 W) : Rel (im0 W) (.iptr accL) (.pointer (some ⟨1, 0, none⟩)) := by
  rw [accL_eq]
  refine rel_tab fun i z hz => ?_
  have hlt : i < 32 := (List.getElem?_eq_some_iff.1 hz).1
  have hk := accZ_lo ⟨i / 2, by omega⟩
  have ht := hT.2 (i / 2) (by omega)
  simp only at hk
  rcases Nat.mod_two_eq_zero_or_one i with e | e
  · have ei : i = 2 * (i / 2) := by omega
    rw [ei] at hz ⊢
    rw [hk.1] at hz; cases hz; exact ht.1
  · have ei : i = 2 * (i / 2) + 1 := by omega
    rw [ei] at hz ⊢
    rw [hk.2] at hz; cases hz; exact ht.2
theorem lt_of {W : World} {g n : Nat} (h : Cells W g n) : g < W.heap.size := by obtain ⟨_, _, _, h, _⟩ := h; exact (Array.getElem?_eq_some_iff.1 h).1
theorem firstL_len : firstL.length = 256 := by simp [firstL]
theorem rel_64 {W : World} (hT : Tab3 W) : Rel (im0 W) (.iptr tab64L) (.pointer (some ⟨5, 0, none⟩)) := rel_tab hT.z5
theorem tab64L_len : tab64L.length = 64 := by simp [tab64L, tab64Z]
theorem startU {W : World} (hT : Tabs5 W) : Sat Gu W.heap.size W (im0 W) [] W := by
  have h0 := Sat.start W
  refine ⟨h0.below, h0.base, h0.cell, h0.size, h0.nodup, h0.obj, fun g cs hg => ?_⟩
  match g, hg with
  | 0, hg =>
    obtain rfl : firstL = cs := Option.some.inj hg
    exact ⟨⟨lt_of hT.c2, by rw [firstL_len]; exact hT.c2⟩, rel_first hT.u⟩
  | 1, hg =>
    obtain rfl : accL = cs := Option.some.inj hg
    exact ⟨⟨lt_of hT.c3, by rw [acl]; exact hT.c3⟩, rel_acc hT.u⟩
  | 5, hg =>
    obtain rfl : tab64L = cs := Option.some.inj hg
    exact ⟨⟨lt_of hT.c5, by rw [tab64L_len]; exact hT.c5⟩, rel_64 ⟨hT.c5, hT.z5⟩⟩
def G5 : Nat → Option (List AV) := fun g => match g with | 5 => some tab64L | _ => none
theorem start3 {W : World} (hT : Tab3 W) : Sat G5 W.heap.size W (im0 W) [] W := by
  have h0 := Sat.start W
  refine ⟨h0.below, h0.base, h0.cell, h0.size, h0.nodup, h0.obj, fun g cs hg => ?_⟩
  match g, hg with
  | 5, hg =>
    obtain rfl : tab64L = cs := Option.some.inj hg
    exact ⟨⟨lt_of hT.c5, by rw [tab64L_len]; exact hT.c5⟩, rel_64 hT⟩
theorem law_trueS {G : Nat → Option (List AV)} {T : XT} (hT : TOk G Tryd.prog (plainT T)) {f : Nat} {F : AFun} {hs : List Hint} (hF : compF Tryd.prog f hs = some F) {W : World} (hS : Sat G W.heap.size W (im0 W) [] W) {args : Array Value} (avs : List AV)
    (hr : RelL (im0 W) avs args.toList) (h : ∀ K : Kv, (∀ H, K.ap (.bool true) H) → @xF ⟨G, Tryd.prog, T⟩ F avs [] K) : Calls Tryd.prog f args W fun e W' => e = .returned (.bool true) ∧ Below W.heap.size W W' := by
  have hA := okF mixed hT hF avs [] _ (h ⟨fun v _ => v = .bool true⟩ fun _ => rfl)
  refine (hA.2 W.heap.size W (im0 W) W args hS hr).mono ?_
  rintro e W' ⟨v, cv, m', H', rfl, h1, h2, h3, rfl⟩
  cases h3
  exact ⟨rfl, h2.below⟩
theorem i32_rng {n : Int} (h : (Lit.int .i32 n).wf = true) : -2147483648 ≤ n ∧ n < 2147483648 := by
  simp only [Lit.wf, Bool.and_eq_true, decide_eq_true_eq] at h
  have h1 : IntKind.min .i32 = -2147483648 := by decide
  have h2 : IntKind.max .i32 = 2147483647 := by decide
  omega
theorem eok : EOk Tryd.prog := ⟨mixed, fun _ xs H K => lib.h95 xs H K, fun _ xs H K => lib.h110 xs H K, fun _ xs H K => lib.h47 xs H K, fun _ xs H K => lib.h54 xs H K, fun _ xs H K => lib.h55 xs H K, f15_ok, f16_ok, f17_ok, f18_ok, f20_ok, f39_ok, f40_ok, f41_ok, f42_ok, f43_ok, f44_ok, f45_ok, f46_ok, f48_ok, f49_ok, f50_ok, f51_ok, f52_ok, f53_ok, f57_ok, f65_ok, f73_ok, f74_ok, f75_ok, f76_ok, f77_ok, f81_ok, f84_ok, f85_ok, f88_ok, f89_ok, f90_ok, f94_ok, f98_ok, f99_ok, f102_ok, f111_ok, f116_ok, f117_ok, f121_ok⟩
/-- A world for the witness: the settled one, the tables as their initialisers lay them. -/
def putCells (xs : List Value) : Obj → Obj
  | .cells _ t frozen => .cells xs.toArray t frozen
  | o => o
def z32 : List Int := [0, 1, 28, 2, 29, 14, 24, 3, 30, 22, 20, 15, 25, 17, 4, 8, 31, 27, 13, 23, 21, 19, 16, 7, 26, 12, 18, 6, 11, 5, 10, 9]
def z10 : List Int := [1, 10, 100, 1000, 10000, 100000, 1000000, 10000000, 100000000, 1000000000, 10000000000, 100000000000, 1000000000000, 10000000000000, 100000000000000, 1000000000000000, 10000000000000000, 100000000000000000, 1000000000000000000, 10000000000000000000]
noncomputable def laidWorld (os : Os) : World :=
  { World.holding Tryd.prog os ⟨#[], #[], []⟩ with heap := (((((World.holding Tryd.prog os ⟨#[], #[], []⟩).heap.modify 0 (putCells (Go.Lib.firstTab.map (Value.int .u8)))).modify 1 (putCells (accZ.map (Value.int .u8)))).modify 3 (putCells (z10.map (Value.int .u64)))).modify 4 (putCells (z32.map (Value.int .u8)))).modify 5 (putCells (tab64Z.map (Value.int .u8))) }
theorem laid_met (os : Os) (args : Array Value) : laidMet Tryd.prog laidL ((laidWorld os).forCall (fun _ _ => 0) ⟨#[], args, []⟩).memory :=
  laidMet_of_run' 8 (by kernel_rfl) (by kernel_rfl)
theorem laid_met3 (os : Os) (args : Array Value) : laidMet Tryd.prog laidL3 ((laidWorld os).forCall (fun _ _ => 0) ⟨#[], args, []⟩).memory :=
  laidMet_of_run' 8 (by kernel_rfl) (by kernel_rfl)
theorem laid_met2 (os : Os) (args : Array Value) : laidMet Tryd.prog laidL2 ((laidWorld os).forCall (fun _ _ => 0) ⟨#[], args, []⟩).memory :=
  laidMet_of_run' 8 (by kernel_rfl) (by kernel_rfl)
end Go.Proofs.YtijioomcpecdhaaDoor.law
