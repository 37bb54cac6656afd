/- What all laws of this seat share: the program's facts, the count of the rows, the tables that the rows list. -/
import Derived.Test.YtddaadmoibhgbaaDoorTie
import Derived.Test.YtddaadmoibhgbaaDoorCards
import Derived.Test.YtddaadmoibhgbaaDoorU12
import Derived.WalkKit
import Derived.ProofKit
import Derived.OpenShut
import Derived.JoinedCond
import Derived.Deep.DeepHandedRow
import Derived.LaidMore
import Derived.MakeChecks
import Derived.Lib.LaidU8T
set_option maxRecDepth 100000
namespace Go.Proofs.YtddaadmoibhgbaaDoor.law
open Go.ChangeShapes Go.WideShapes Go.ChangeAt Go.RowKit Go.AL Go.AL.Fun

theorem own : ownKnob Tryd.prog.godebug = none := by kernel_rfl
theorem mixed : Tryd.prog.follows .mixedOrders = true := by kernel_rfl
theorem bulk {H : Type} : BK (H := H) Rows.uptoBulk Rows.uptoBulkAll where
  slice e s := by simp only [Rows.uptoBulk]; omega
  str s := by simp [Rows.uptoBulk]
  agg ps := by simp only [Rows.uptoBulk]; omega
  nil := by simp [Rows.uptoBulkAll]
  cons d r := by simp [Rows.uptoBulkAll]
  one d := by
    cases d with
    | lit l => cases l <;> simp [Rows.uptoBulk]
    | _ => simp [Rows.uptoBulk]
theorem small {H : Type} {l : List (DataW H)} (hk : Rows.uptoSmall H l = true) : Rows.uptoBulkAll l ≤ 1048576 := of_decide_eq_true hk

/-- What the rows list. -/
def laidL : List (String × DataW Unit) := [("unicode/utf8.acceptRanges", Rows.laid_unicode_utf8_acceptRanges), ("unicode/utf8.first", Rows.laid_unicode_utf8_first)]
def tabRen : Go.Shelf.Ren := ⟨fun n => n, fun x => match x with | 119 => 56 | 139 => 59 | 138 => 58 | n => n, fun x => match x with | 3 => 0 | 4 => 1 | n => n⟩
theorem tabTypes : U8Types Tryd.prog tabRen where
  t5 := Tryd.underlying5
  t119 := Tryd.underlying56
  t138 := Tryd.underlying58
  t139 := Tryd.underlying59
theorem tabExtra : U8Extra Tryd.prog tabRen where
  n3 := by kernel_rfl
  n4 := by kernel_rfl
  y3 := by kernel_rfl
  y4 := by kernel_rfl
  c5 := by kernel_rfl
  c119 := by kernel_rfl
  c138 := by kernel_rfl
theorem first_eq : Rows.laid_unicode_utf8_first = Go.Lib.firstData := by kernel_rfl
theorem accept_eq : (Rows.laid_unicode_utf8_acceptRanges : DataW Unit) = Go.Lib.acceptData := by kernel_rfl
/-- The tables, cell by cell. -/
theorem tabs {W : World} (h : laidMetH Tryd.prog laidL W) : Lib.Utf8Tabs 0 1 W := by
  rw [MakeChecks.laidMetH_plain _ _ _ (by kernel_rfl)] at h
  obtain ⟨ps, h, _⟩ := h
  exact utf8Tabs_of_readsT tabTypes tabExtra (Go.Lib.LaidVars_reads h _ _ (by rw [← first_eq]; simp [laidL])) (Go.Lib.LaidVars_reads h _ _ (by rw [← accept_eq]; simp [laidL]))

theorem firstT_eq : ∀ c : Fin 256, ((Lib.firstT c.val : Nat) : Int) = firstT c.val := by decide +kernel
def accZ : List Int := [128, 191, 160, 191, 128, 159, 144, 191, 128, 143] ++ List.replicate 22 0
theorem accL_eq : accL = accZ.map (.int .u8) := rfl
theorem accZ_lo : ∀ i : Fin 16, accZ[2 * i.val]? = some ((Lib.accLo i.val : Nat) : Int) ∧ accZ[2 * i.val + 1]? = some ((Lib.accHi i.val : Nat) : Int) := by decide +kernel
theorem cell_lt {W : World} {a : Addr} {v : Value} (h : W.cell? a = some v) : a.block < W.heap.size := by
  unfold World.cell? at h
  rcases hb : W.heap[a.block]? with _ | o
  · rw [hb] at h; simp at h
  · exact (Array.getElem?_eq_some_iff.1 hb).1
theorem rel_tab {W : World} {g : Nat} {zs : List Int} (h : ∀ i z, zs[i]? = some z → W.cell? ⟨g, i, none⟩ = some (.int .u8 z)) : Rel (im0 W) (.iptr (zs.map (.int .u8))) (.pointer (some ⟨g, 0, none⟩)) := by
  refine .iptr _ _ (fun i => (zs[i]?.map (Value.int .u8)).getD default) (fun _ => rfl) (fun i hi => ?_) (fun i hi => ?_) (fun i x hx => ?_)
  · rw [List.length_map] at hi
    have hz := List.getElem?_eq_getElem hi
    have hc := h i _ hz
    have hlt := cell_lt hc
    simp only [im0, Nat.zero_add]
    rw [if_pos hlt, hc, hz]; rfl
  · rw [List.length_map] at hi
    rw [List.getElem?_eq_getElem hi]; rfl
  · rw [List.getElem?_map] at hx
    obtain ⟨z, hz, rfl⟩ := Option.map_eq_some_iff.1 hx
    rw [hz]; exact .int _ _
theorem start {W : World} (hT : Lib.Utf8Tabs 0 1 W) : Sat Gu W.heap.size W (im0 W) [] W := by
  have h0 := Sat.start W
  refine ⟨h0.below, h0.base, h0.cell, h0.size, h0.nodup, h0.obj, fun g cs hg => ?_⟩
  match g, hg with
  | 0, hg =>
    obtain rfl : firstL = cs := Option.some.inj hg
    have e : firstL = ((List.range 256).map firstT).map (AV.int .u8) := by simp [firstL]
    rw [e]
    refine rel_tab fun i z hz => ?_
    rw [List.getElem?_map] at hz
    obtain ⟨j, hj, rfl⟩ := Option.map_eq_some_iff.1 hz
    obtain ⟨hlt, rfl⟩ := List.getElem?_eq_some_iff.1 hj
    rw [List.length_range] at hlt
    rw [List.getElem_range, ← firstT_eq ⟨i, hlt⟩]
    exact hT.1 i hlt
  | 1, hg =>
    obtain rfl : accL = cs := Option.some.inj hg
    rw [accL_eq]
    refine rel_tab fun i z hz => ?_
    have hlt : i < 32 := (List.getElem?_eq_some_iff.1 hz).1
    have hk := accZ_lo ⟨i / 2, by omega⟩
    have ht := hT.2 (i / 2) (by omega)
    simp only at hk
    rcases Nat.mod_two_eq_zero_or_one i with e | e
    · have ei : i = 2 * (i / 2) := by omega
      rw [ei] at hz ⊢
      rw [hk.1] at hz; cases hz; exact ht.1
    · have ei : i = 2 * (i / 2) + 1 := by omega
      rw [ei] at hz ⊢
      rw [hk.2] at hz; cases hz; exact ht.2
  | n + 2, hg => cases hg

theorem calls_trueG {W : World} (hT : Lib.Utf8Tabs 0 1 W) {f : Nat} {avs : List AV} {args : Array Value} (h : ACalls Gu Tryd.prog f avs [] fun v _ => v = .bool true) (hr : RelL (im0 W) avs args.toList) :
    Calls Tryd.prog f args W fun e W' => e = .returned (.bool true) ∧ Below W.heap.size W W' := by
  refine (h.2 W.heap.size W (im0 W) W args (start hT) hr).mono ?_
  rintro e W' ⟨v, cv, m', H', rfl, h1, h2, h3, rfl⟩
  cases h3
  exact ⟨rfl, h2.below⟩
theorem law_trueG {T : XT} (hT : TOk Gu Tryd.prog (plainT T)) {f : Nat} {F : AFun} {hs : List Hint} (hF : compF Tryd.prog f hs = some F) {W : World} (hW : Lib.Utf8Tabs 0 1 W) {args : Array Value} (avs : List AV)
    (hr : RelL (im0 W) avs args.toList) (h : ∀ K : Kv, (∀ H, K.ap (.bool true) H) → @xF ⟨Gu, Tryd.prog, T⟩ F avs [] K) : Calls Tryd.prog f args W fun e W' => e = .returned (.bool true) ∧ Below W.heap.size W W' :=
  calls_trueG hW (okF mixed hT hF avs [] _ (h ⟨fun v _ => v = .bool true⟩ fun _ => rfl)) hr

theorem uok : UOk Tryd.prog := ⟨mixed, fun xs H K => lib.h31 xs H K, f9_ok, f10_ok, f11_ok, f12_ok, f13_ok, f14_ok, f17_ok, f18_ok, f19_ok, f20_ok, f22_ok, f23_ok, f24_ok, f25_ok, f26_ok, f27_ok, f28_ok, f29_ok, f32_ok, f33_ok⟩
/-- A world for the witness: the settled one, the two tables as their initialisers lay them. -/
def putCells (xs : List Value) : Obj → Obj
  | .cells _ t frozen => .cells xs.toArray t frozen
  | o => o
noncomputable def laidWorld (os : Os) : World :=
  { World.holding Tryd.prog os ⟨#[], #[], []⟩ with heap := ((World.holding Tryd.prog os ⟨#[], #[], []⟩).heap.modify 0 (putCells (Go.Lib.firstTab.map (Value.int .u8)))).modify 1 (putCells (accZ.map (Value.int .u8))) }
theorem laid_met (os : Os) (args : Array Value) : laidMet Tryd.prog laidL ((laidWorld os).forCall (fun _ _ => 0) ⟨#[], args, []⟩).memory :=
  laidMet_of_run' 8 (by kernel_rfl) (by kernel_rfl)
end Go.Proofs.YtddaadmoibhgbaaDoor.law
