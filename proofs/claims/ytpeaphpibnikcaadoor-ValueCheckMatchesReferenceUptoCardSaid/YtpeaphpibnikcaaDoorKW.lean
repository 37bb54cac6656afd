/- Law 6: what its row lists, read. -/
import Derived.Test.YtpeaphpibnikcaaDoorK6
import Derived.Test.YtpeaphpibnikcaaDoorT22
set_option linter.unusedSimpArgs false
set_option linter.unusedVariables false
set_option maxRecDepth 100000
namespace Go.Proofs.YtpeaphpibnikcaaDoor.law
open Go.ChangeShapes Go.WideShapes Go.ChangeAt Go.RowKit Go.AL Go.AL.Fun

def laidL6 : List (String × DataW Unit) := ("math/bits.deBruijn32tab", Rows.laid_math_bits_deBruijn32tab) :: ("math/bits.deBruijn64tab", Rows.laid_math_bits_deBruijn64tab) :: ("internal/strconv.uint64pow10", Rows.laid_internal_strconv_uint64pow10) :: laidL
theorem pow_eq : (Rows.laid_internal_strconv_uint64pow10 : DataW Unit) = Go.Lib.tabData .u64 Lib.pow10Tab := by kernel_rfl
/-- A variable's block: so many cells. -/
def Cells (W : World) (g n : Nat) : Prop := ∃ vs e fr, W.heap[g]? = some (.cells vs e fr) ∧ vs.size = n
theorem arr_len {fuel : Nat} {t e : TypeId} {n base : Nat} {sp : Nat → Bool} {held : Bool} {W : World} {cs : List Value} {x : DataW Unit × List MemPlace} (ht : Tryd.prog.underlying t = some (.array n e))
    (h : DataW.trod (fun _ => ()) Tryd.prog W base sp held fuel t cs = some x) : cs.length = Tryd.prog.cellsOf t := by
  cases fuel with
  | zero => simp [DataW.trod] at h
  | succ fuel =>
    simp only [DataW.trod, ht] at h
    split at h
    · assumption
    · cases h
theorem var_cells {W : World} {s : String} {d : DataW Unit} {g : Nat} {t e : TypeId} {n k : Nat} (h : Go.Lib.VarReads Tryd.prog W s d) (hg : Tryd.prog.globalNamed s = some g) (hy : (Tryd.prog.globals[g]?).map (·.type) = some t)
    (ht : Tryd.prog.underlying t = some (.array n e)) (hk : Tryd.prog.cellsOf t = k) : Cells W g k := by
  obtain ⟨g', t', cs, fuel, p, hg', hy', hvar, hd⟩ := h
  obtain rfl := Option.some.inj (hg.symm.trans hg')
  obtain rfl := Option.some.inj (hy.symm.trans hy')
  have hl := arr_len ht hd
  simp only [World.var?, hg, Option.bind_some] at hvar
  split at hvar
  · rename_i vs e fr hb
    cases hvar
    exact ⟨_, _, _, hb, by rw [← hk, ← hl]; simp⟩
  · cases hvar
structure TabP (W : World) : Prop where
  c : Cells W 0 20
  z : ∀ (i : Nat) (z : Int), Lib.pow10Tab[i]? = some z → W.cell? ⟨0, i, none⟩ = some (.int .u64 z)
theorem tabP {W : World} (h : laidMetH Tryd.prog laidL6 W) : TabP W := by
  rw [MakeChecks.laidMetH_plain _ _ _ (by kernel_rfl)] at h
  obtain ⟨ps, h, _⟩ := h
  have r3 := Go.Lib.LaidVars_reads h "internal/strconv.uint64pow10" Rows.laid_internal_strconv_uint64pow10 (by simp [laidL6])
  refine { c := var_cells r3 (by kernel_rfl) (by kernel_rfl) Tryd.underlying99 (by kernel_rfl), z := fun i z hz => ?_ }
  rw [pow_eq] at r3
  obtain ⟨g, t, cs, fuel, p, hg, hty, hvar, hd⟩ := r3
  obtain rfl : 0 = g := Option.some.inj ((show Tryd.prog.globalNamed "internal/strconv.uint64pow10" = some 0 by kernel_rfl).symm.trans hg)
  obtain rfl : 99 = t := Option.some.inj ((show (Tryd.prog.globals[0]?).map (·.type) = some 99 by kernel_rfl).symm.trans hty)
  have hcs := Go.Lib.cells_of_tab Tryd.underlying99 Tryd.underlying103 (by kernel_rfl) (by kernel_rfl) hd
  rw [World.var?_cell hg hvar i, ← Array.getElem?_toList, hcs, List.getElem?_map, hz]
  rfl
theorem cell_lt {W : World} {a : Addr} {v : Value} (h : W.cell? a = some v) : a.block < W.heap.size := by
  unfold World.cell? at h
  rcases hb : W.heap[a.block]? with _ | o
  · rw [hb] at h; simp at h
  · exact (Array.getElem?_eq_some_iff.1 hb).1
theorem lt_of {W : World} {g n : Nat} (h : Cells W g n) : g < W.heap.size := by obtain ⟨_, _, _, h, _⟩ := h; exact (Array.getElem?_eq_some_iff.1 h).1
theorem rel_tabK {W : World} {g : Nat} {k : IntKind} {zs : List Int} (h : ∀ i z, zs[i]? = some z → W.cell? ⟨g, i, none⟩ = some (.int k z)) : Rel (im0 W) (.iptr (zs.map (.int k))) (.pointer (some ⟨g, 0, none⟩)) := by
  refine .iptr _ _ (fun i => (zs[i]?.map (Value.int k)).getD default) (fun _ => rfl) (fun i hi => ?_) (fun i hi => ?_) (fun i x hx => ?_)
  · rw [List.length_map] at hi
    have hz := List.getElem?_eq_getElem hi
    have hc := h i _ hz
    have hlt := cell_lt hc
    simp only [im0, Nat.zero_add]
    rw [if_pos hlt, hc, hz]; rfl
  · rw [List.length_map] at hi
    rw [List.getElem?_eq_getElem hi]; rfl
  · rw [List.getElem?_map] at hx
    obtain ⟨z, hz, rfl⟩ := Option.map_eq_some_iff.1 hx
    rw [hz]; exact .int _ _
def G6 : Nat → Option (List AV) := fun g => match g with | 0 => some (Lib.pow10Tab.map (AV.int .u64)) | _ => none
theorem start6 {W : World} (hT : TabP W) : Sat G6 W.heap.size W (im0 W) [] W := by
  have h0 := Sat.start W
  refine ⟨h0.below, h0.base, h0.cell, h0.size, h0.nodup, h0.obj, fun g cs hg => ?_⟩
  match g, hg with
  | 0, hg =>
    obtain rfl : Lib.pow10Tab.map (AV.int .u64) = cs := Option.some.inj hg
    exact ⟨⟨lt_of hT.c, by rw [List.length_map]; exact hT.c⟩, rel_tabK hT.z⟩
theorem law_trueS {G : Nat → Option (List AV)} {T : XT} (hT : TOk G Tryd.prog (plainT T)) {f : Nat} {F : AFun} {hs : List Hint} (hF : compF Tryd.prog f hs = some F) {W : World} (hS : Sat G W.heap.size W (im0 W) [] W) {args : Array Value} (avs : List AV)
    (hr : RelL (im0 W) avs args.toList) (h : ∀ K : Kv, (∀ H, K.ap (.bool true) H) → @xF ⟨G, Tryd.prog, T⟩ F avs [] K) : Calls Tryd.prog f args W fun e W' => e = .returned (.bool true) ∧ Below W.heap.size W W' := by
  have hA := okF mixed hT hF avs [] _ (h ⟨fun v _ => v = .bool true⟩ fun _ => rfl)
  refine (hA.2 W.heap.size W (im0 W) W args hS hr).mono ?_
  rintro e W' ⟨v, cv, m', H', rfl, h1, h2, h3, rfl⟩
  cases h3
  exact ⟨rfl, h2.below⟩
theorem d6 : D6 Tryd.prog G6 := ⟨dok, lib.h37 rfl, f19_ok, f20_ok, f21_ok, f22_ok, f23_ok, f38_ok, f39_ok, f40_ok, f41_ok, f42_ok, f43_ok, f48_ok, f49_ok⟩
def tab64Z : List Int := [0, 1, 56, 2, 57, 49, 28, 3, 61, 58, 42, 50, 38, 29, 17, 4, 62, 47, 59, 36, 45, 43, 51, 22, 53, 39, 33, 30, 24, 18, 12, 5, 63, 55, 48, 27, 60, 41, 37, 16, 46, 35, 44, 21, 52, 32, 23, 11, 54, 26, 40, 15, 34, 20, 31, 10, 25, 14, 19, 9, 13, 8, 7, 6]
def z32 : List Int := [0, 1, 28, 2, 29, 14, 24, 3, 30, 22, 20, 15, 25, 17, 4, 8, 31, 27, 13, 23, 21, 19, 16, 7, 26, 12, 18, 6, 11, 5, 10, 9]
def z10 : List Int := [1, 10, 100, 1000, 10000, 100000, 1000000, 10000000, 100000000, 1000000000, 10000000000, 100000000000, 1000000000000, 10000000000000, 100000000000000, 1000000000000000, 10000000000000000, 100000000000000000, 1000000000000000000, 10000000000000000000]
noncomputable def laidWorld6 (os : Os) : World :=
  { World.holding Tryd.prog os ⟨#[], #[], []⟩ with heap := (((((World.holding Tryd.prog os ⟨#[], #[], []⟩).heap.modify 2 (putCells (Go.Lib.firstTab.map (Value.int .u8)))).modify 3 (putCells (accZ.map (Value.int .u8)))).modify 0 (putCells (z10.map (Value.int .u64)))).modify 4 (putCells (z32.map (Value.int .u8)))).modify 5 (putCells (tab64Z.map (Value.int .u8))) }
theorem laid_met6 (os : Os) (args : Array Value) : laidMet Tryd.prog laidL6 ((laidWorld6 os).forCall (fun _ _ => 0) ⟨#[], args, []⟩).memory :=
  laidMet_of_run' 8 (by kernel_rfl) (by kernel_rfl)
section
variable {H : Type} {enc : TypeId × Value → H} {W : World}
theorem arg_valO {base : Nat} {v : Value} {d0 : DataW H} {ps : List MemPlace} (hok : Value.okWide Tryd.prog W .any base 25 v) (h : DataW.Trod enc Tryd.prog W 0 (fun _ => true) true 25 v d0 ps) :
    ∃ x : Val, Rel (im0 W) (.agg x.cs) v ∧ x.wt ≤ Rows.uptoBulk d0 ∧ x.ok := by
  obtain ⟨fuel, h⟩ := h
  obtain ⟨avs, h1, h2, x, rfl, ho, h3⟩ := rd_val _ _ _ h
  obtain ⟨ca, rfl⟩ : ∃ ca, v = .agg ca := by
    have hu := Tryd.underlying25
    cases v with
    | agg ca => exact ⟨ca, rfl⟩
    | _ => exfalso; simp_all [Value.okWide]
  have e : (Value.agg ca).cells.toList = ca.toList := rfl
  rw [e] at h1 h2
  refine ⟨x, .agg _ _ (by simpa using h1.1) (fun i y hy => h2 y ?_) (fun i a y ha hy => h1.2 i a y ha ?_), h3, ho⟩
  · exact List.mem_of_getElem? (i := i) (by simpa using hy)
  · simpa using hy
end
end Go.Proofs.YtpeaphpibnikcaaDoor.law
