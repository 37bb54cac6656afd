/- The library's Count and Index at one byte: the kit's contracts, as contracts of the abstract layer. -/
import Derived.Test.YtpeaphpibnikcaaDoorF1
import Derived.Test.YtpeaphpibnikcaaDoorF2
import Derived.Test.YtpeaphpibnikcaaDoorT0
import Derived.Shelf.Strings.Count
import Derived.Shelf.Strings.Search3
set_option maxRecDepth 100000
namespace Go.AL.Fun
open Go Go.AL
def c53 (xs : List AV) (H : Heap) (K : Kv) : Prop := ∃ (s : List UInt8) (c : UInt8), xs = [.str s, .str [c]] ∧ K.ap (.int .i64 (s.count c : Nat)) H
def c54 (xs : List AV) (H : Heap) (K : Kv) : Prop := ∃ (s : List UInt8) (c : UInt8), xs = [.str s, .str [c]] ∧ K.ap (.int .i64 (Lib.indexByte s c)) H
end Go.AL.Fun
namespace Go.Proofs.YtpeaphpibnikcaaDoor.lib
open Go.AL Go.AL.Fun Go.RowKit Go.Proofs

def countLayRen : Go.Shelf.Ren := ⟨fun x => match x with | 138 => 53 | 143 => 54 | 195 => 62 | 217 => 75 | 218 => 64 | 219 => 65 | 224 => 77 | 225 => 76 | 266 => 91 | 267 => 78 | 314 => 92 | n => n, fun x => match x with | 0 => 0 | 3 => 3 | 4 => 4 | 5 => 5 | 9 => 9 | 46 => 103 | 51 => 100 | 146 => 121 | n => n, fun x => match x with | 1 => 1 | n => n⟩
theorem countLay : Lays.n138 Tryd.prog countLayRen where
  mixed := by kernel_rfl
  f138 := Tryd.func53.trans (congrArg some (by kernel_rfl))
  f143 := Tryd.func54.trans (congrArg some (by kernel_rfl))
  f195 := Tryd.func62.trans (congrArg some (by kernel_rfl))
  f217 := Tryd.func75.trans (congrArg some (by kernel_rfl))
  f218 := Tryd.func64.trans (congrArg some (by kernel_rfl))
  f219 := Tryd.func65.trans (congrArg some (by kernel_rfl))
  f224 := Tryd.func77.trans (congrArg some (by kernel_rfl))
  f225 := Tryd.func76.trans (congrArg some (by kernel_rfl))
  f266 := Tryd.func91.trans (congrArg some (by kernel_rfl))
  f267 := Tryd.func78.trans (congrArg some (by kernel_rfl))
  f314 := Tryd.func92.trans (congrArg some (by kernel_rfl))
  t0 := Tryd.underlying0
  a0 := Tryd.isAgg0
  z0 := Tryd.sizeOf0
  v0 := Tryd.zeroValue0
  t3 := Tryd.underlying3
  a3 := Tryd.isAgg3
  z3 := Tryd.sizeOf3
  v3 := Tryd.zeroValue3
  t4 := Tryd.underlying4
  a4 := Tryd.isAgg4
  z4 := Tryd.sizeOf4
  v4 := Tryd.zeroValue4
  t5 := Tryd.underlying5
  a5 := Tryd.isAgg5
  z5 := Tryd.sizeOf5
  v5 := Tryd.zeroValue5
  t9 := Tryd.underlying9
  a9 := Tryd.isAgg9
  z9 := Tryd.sizeOf9
  v9 := Tryd.zeroValue9
  t46 := Tryd.underlying103
  a46 := Tryd.isAgg103
  z46 := Tryd.sizeOf103
  v46 := Tryd.zeroValue103
  t51 := Tryd.underlying100
  a51 := Tryd.isAgg100
  z51 := Tryd.sizeOf100
  v51 := Tryd.zeroValue100
  t146 := Tryd.underlying121
  a146 := Tryd.isAgg121
  z146 := Tryd.sizeOf121
  v146 := Tryd.zeroValue121
  g1 := by kernel_rfl
def indexLayRen : Go.Shelf.Ren := ⟨fun x => match x with | 143 => 54 | 217 => 75 | 219 => 65 | 224 => 77 | 225 => 76 | 266 => 91 | 267 => 78 | 314 => 92 | n => n, fun x => match x with | 3 => 3 | 4 => 4 | 5 => 5 | 9 => 9 | 46 => 103 | 51 => 100 | 146 => 121 | n => n, fun x => match x with | 1 => 1 | n => n⟩
theorem indexLay : Lays.n143 Tryd.prog indexLayRen where
  mixed := by kernel_rfl
  f143 := Tryd.func54.trans (congrArg some (by kernel_rfl))
  f217 := Tryd.func75.trans (congrArg some (by kernel_rfl))
  f219 := Tryd.func65.trans (congrArg some (by kernel_rfl))
  f224 := Tryd.func77.trans (congrArg some (by kernel_rfl))
  f225 := Tryd.func76.trans (congrArg some (by kernel_rfl))
  f266 := Tryd.func91.trans (congrArg some (by kernel_rfl))
  f267 := Tryd.func78.trans (congrArg some (by kernel_rfl))
  f314 := Tryd.func92.trans (congrArg some (by kernel_rfl))
  t3 := Tryd.underlying3
  a3 := Tryd.isAgg3
  z3 := Tryd.sizeOf3
  v3 := Tryd.zeroValue3
  t4 := Tryd.underlying4
  a4 := Tryd.isAgg4
  z4 := Tryd.sizeOf4
  v4 := Tryd.zeroValue4
  t5 := Tryd.underlying5
  a5 := Tryd.isAgg5
  z5 := Tryd.sizeOf5
  v5 := Tryd.zeroValue5
  t9 := Tryd.underlying9
  a9 := Tryd.isAgg9
  z9 := Tryd.sizeOf9
  v9 := Tryd.zeroValue9
  t46 := Tryd.underlying103
  a46 := Tryd.isAgg103
  z46 := Tryd.sizeOf103
  v46 := Tryd.zeroValue103
  t51 := Tryd.underlying100
  a51 := Tryd.isAgg100
  z51 := Tryd.sizeOf100
  v51 := Tryd.zeroValue100
  t146 := Tryd.underlying121
  a146 := Tryd.isAgg121
  z146 := Tryd.sizeOf121
  v146 := Tryd.zeroValue121
  g1 := by kernel_rfl

theorem rel_str {m : Im} {l : List UInt8} {v : Value} (h : Rel m (.str l) v) : ∃ s : ByteArray, v = .string s ∧ s.data.toList = l := by
  cases h with
  | str s => exact ⟨s, rfl, rfl⟩
theorem one_str {s : ByteArray} {c : UInt8} (h : s.data.toList = [c]) : s = ⟨#[c]⟩ := by
  obtain ⟨⟨l⟩⟩ := s
  simp at h; subst h; rfl
theorem h53 {G : Nat → Option (List AV)} : ∀ xs H K, c53 xs H ⟨K⟩ → ACalls G Tryd.prog 53 xs H K := by
  rintro xs H K ⟨s, c, rfl, k⟩
  refine ⟨fnOk_of f53_ok, fun B w0 m w cargs hs hr => ?_⟩
  obtain ⟨v1, r1, e1, h1, hr⟩ := hr.uncons
  obtain ⟨v2, r2, e2, h2, hr⟩ := hr.uncons
  have e3 := hr.unnil
  subst e2 e3
  obtain rfl : cargs = #[v1, v2] := by cases cargs; simp_all
  obtain ⟨s1, rfl, rfl⟩ := rel_str h1
  obtain ⟨s2, rfl, e⟩ := rel_str h2
  obtain rfl := one_str e
  refine (Any.strings_Count_one countLay s1 c w).mono ?_
  rintro e w' ⟨rfl, rfl⟩
  exact ⟨_, _, m, H, rfl, .refl m, hs, .int _ _, k⟩
theorem h54 {G : Nat → Option (List AV)} : ∀ xs H K, c54 xs H ⟨K⟩ → ACalls G Tryd.prog 54 xs H K := by
  rintro xs H K ⟨s, c, rfl, k⟩
  refine ⟨fnOk_of f54_ok, fun B w0 m w cargs hs hr => ?_⟩
  obtain ⟨v1, r1, e1, h1, hr⟩ := hr.uncons
  obtain ⟨v2, r2, e2, h2, hr⟩ := hr.uncons
  have e3 := hr.unnil
  subst e2 e3
  obtain rfl : cargs = #[v1, v2] := by cases cargs; simp_all
  obtain ⟨s1, rfl, rfl⟩ := rel_str h1
  obtain ⟨s2, rfl, e⟩ := rel_str h2
  obtain rfl := one_str e
  refine (Any.strings_Index_one indexLay s1 c w).mono ?_
  rintro e w' ⟨rfl, rfl⟩
  exact ⟨_, _, m, H, rfl, .refl m, hs, .int _ _, k⟩
end Go.Proofs.YtpeaphpibnikcaaDoor.lib
