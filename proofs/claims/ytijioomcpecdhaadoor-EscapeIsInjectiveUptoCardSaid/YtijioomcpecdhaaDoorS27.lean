/- strings.Contains at one byte, abstractly. -/
import Derived.Test.YtijioomcpecdhaaDoorS26
import Derived.Test.YtijioomcpecdhaaDoorS20
import Derived.Shelf.Strings.Search3
set_option linter.unusedSimpArgs false
set_option linter.unusedVariables false
set_option maxRecDepth 100000
set_option maxHeartbeats 4000000
namespace Go.AL.Fun
open Go Go.AL
def c24 (xs : List AV) (H : Heap) (K : Kv) : Prop := ∃ s : List UInt8, xs = [.str s, .str [0]] ∧ K.ap (.bool (decide ((0 : UInt8) ∈ s))) H
structure LOk (P : Program) : Prop where
  i : IOk P
  k24 : ∀ (G : Nat → Option (List AV)) xs H K, c24 xs H ⟨K⟩ → ACalls G P 24 xs H K
theorem e24 {P : Program} (h : LOk P) (xs : List AV) (H : Heap) (K : AV → Heap → Prop) (c : c24 xs H ⟨K⟩) : ACalls Gu P 24 xs H K := h.k24 Gu xs H K c
end Go.AL.Fun
namespace Go.Proofs.YtijioomcpecdhaaDoor.lib
open Go.AL Go.AL.Fun Go.RowKit Go.Proofs
def ctLayRen : Go.Shelf.Ren := ⟨fun x => match x with | 143 => 63 | 144 => 24 | 217 => 108 | 219 => 87 | 224 => 96 | 225 => 97 | 266 => 118 | 267 => 109 | 314 => 119 | n => n, fun x => match x with | 3 => 3 | 4 => 4 | 5 => 5 | 9 => 9 | 46 => 94 | 51 => 116 | 146 => 123 | n => n, fun x => match x with | 1 => 2 | n => n⟩
theorem ctLay : Lays.n144 Tryd.prog ctLayRen where
  mixed := by kernel_rfl
  f143 := Tryd.func63.trans (congrArg some (by kernel_rfl))
  f144 := Tryd.func24.trans (congrArg some (by kernel_rfl))
  f217 := Tryd.func108.trans (congrArg some (by kernel_rfl))
  f219 := Tryd.func87.trans (congrArg some (by kernel_rfl))
  f224 := Tryd.func96.trans (congrArg some (by kernel_rfl))
  f225 := Tryd.func97.trans (congrArg some (by kernel_rfl))
  f266 := Tryd.func118.trans (congrArg some (by kernel_rfl))
  f267 := Tryd.func109.trans (congrArg some (by kernel_rfl))
  f314 := Tryd.func119.trans (congrArg some (by kernel_rfl))
  t3 := Tryd.underlying3
  a3 := Tryd.isAgg3
  z3 := Tryd.sizeOf3
  v3 := Tryd.zeroValue3
  t4 := Tryd.underlying4
  a4 := Tryd.isAgg4
  z4 := Tryd.sizeOf4
  v4 := Tryd.zeroValue4
  t5 := Tryd.underlying5
  a5 := Tryd.isAgg5
  z5 := Tryd.sizeOf5
  v5 := Tryd.zeroValue5
  t9 := Tryd.underlying9
  a9 := Tryd.isAgg9
  z9 := Tryd.sizeOf9
  v9 := Tryd.zeroValue9
  t46 := Tryd.underlying94
  a46 := Tryd.isAgg94
  z46 := Tryd.sizeOf94
  v46 := Tryd.zeroValue94
  t51 := Tryd.underlying116
  a51 := Tryd.isAgg116
  z51 := Tryd.sizeOf116
  v51 := Tryd.zeroValue116
  t146 := Tryd.underlying123
  a146 := Tryd.isAgg123
  z146 := Tryd.sizeOf123
  v146 := Tryd.zeroValue123
  g1 := by kernel_rfl
theorem h24 {G : Nat → Option (List AV)} : ∀ xs H K, c24 xs H ⟨K⟩ → ACalls G Tryd.prog 24 xs H K := by
  rintro xs H K ⟨s, rfl, k⟩
  refine ⟨⟨Tryd.f24, Tryd.func24, by kernel_rfl, by kernel_rfl⟩, fun B w0 m w cargs hs hr => ?_⟩
  obtain ⟨v1, r1, e1, h1, hr⟩ := hr.uncons
  obtain ⟨v2, r2, e2, h2, hr⟩ := hr.uncons
  have e3 := hr.unnil
  subst e2 e3
  obtain rfl : cargs = #[v1, v2] := by cases cargs; simp_all
  obtain ⟨s1, rfl, rfl⟩ := rel_str h1
  obtain ⟨s2, rfl, hs2⟩ := rel_str h2
  obtain rfl : s2 = ⟨#[0]⟩ := by
    have : s2.data = #[0] := Array.toList_inj.1 hs2
    cases s2; simpa using this
  refine (Any.strings_Contains_one ctLay s1 0 w).mono ?_
  rintro e w' ⟨rfl, rfl⟩
  refine ⟨_, _, m, H, rfl, .refl m, hs, .bool _, ?_⟩
  rw [show decide (0 ≤ Lib.indexByte s1.data.toList 0) = decide ((0 : UInt8) ∈ s1.data.toList) by rw [decide_eq_decide]; exact ib_mem _ _]
  exact k
end Go.Proofs.YtijioomcpecdhaaDoor.lib
