/- strings.Repeat, abstractly. -/
import Derived.Test.YtfgkkkknkojlgaaDoorJH
import Derived.Test.YtfgkkkknkojlgaaDoorJ10
import Derived.Shelf.Strings.Repeat
set_option linter.unusedSimpArgs false
set_option linter.unusedVariables false
set_option maxRecDepth 100000
set_option maxHeartbeats 4000000
namespace Go.Proofs.YtfgkkkknkojlgaaDoor.lib
open Go.AL Go.AL.Fun Go.RowKit Go.Proofs
def repLayRen : Go.Shelf.Ren := ⟨fun x => match x with | 99 => 31 | 105 => 26 | 165 => 43 | 166 => 12 | 169 => 13 | 170 => 44 | 206 => 46 | 212 => 42 | 240 => 27 | 241 => 59 | 263 => 57 | 264 => 58 | 276 => 45 | 277 => 66 | n => n, fun x => match x with | 0 => 0 | 3 => 3 | 4 => 4 | 5 => 5 | 9 => 9 | 20 => 20 | 37 => 33 | 46 => 63 | 51 => 74 | 53 => 76 | 70 => 36 | 72 => 38 | 75 => 41 | 76 => 42 | 80 => 44 | 109 => 64 | 127 => 53 | 146 => 81 | 148 => 83 | 164 => 68 | n => n, fun n => n⟩
theorem repLay : Lays.n105 Tryd.prog repLayRen where
  mixed := by kernel_rfl
  f99 := Tryd.func31.trans (congrArg some (by kernel_rfl))
  f105 := Tryd.func26.trans (congrArg some (by kernel_rfl))
  f165 := Tryd.func43.trans (congrArg some (by kernel_rfl))
  f166 := Tryd.func12.trans (congrArg some (by kernel_rfl))
  f169 := Tryd.func13.trans (congrArg some (by kernel_rfl))
  f170 := Tryd.func44.trans (congrArg some (by kernel_rfl))
  f206 := Tryd.func46.trans (congrArg some (by kernel_rfl))
  f212 := Tryd.func42.trans (congrArg some (by kernel_rfl))
  f240 := Tryd.func27.trans (congrArg some (by kernel_rfl))
  f241 := Tryd.func59.trans (congrArg some (by kernel_rfl))
  f263 := Tryd.func57.trans (congrArg some (by kernel_rfl))
  f264 := Tryd.func58.trans (congrArg some (by kernel_rfl))
  f276 := Tryd.func45.trans (congrArg some (by kernel_rfl))
  f277 := Tryd.func66.trans (congrArg some (by kernel_rfl))
  t0 := Tryd.underlying0
  a0 := Tryd.isAgg0
  z0 := Tryd.sizeOf0
  v0 := Tryd.zeroValue0
  t3 := Tryd.underlying3
  a3 := Tryd.isAgg3
  z3 := Tryd.sizeOf3
  v3 := Tryd.zeroValue3
  t4 := Tryd.underlying4
  a4 := Tryd.isAgg4
  z4 := Tryd.sizeOf4
  v4 := Tryd.zeroValue4
  t5 := Tryd.underlying5
  a5 := Tryd.isAgg5
  z5 := Tryd.sizeOf5
  v5 := Tryd.zeroValue5
  t9 := Tryd.underlying9
  a9 := Tryd.isAgg9
  z9 := Tryd.sizeOf9
  v9 := Tryd.zeroValue9
  t20 := Tryd.underlying20
  a20 := Tryd.isAgg20
  z20 := Tryd.sizeOf20
  v20 := Tryd.zeroValue20
  t37 := Tryd.underlying33
  a37 := Tryd.isAgg33
  z37 := Tryd.sizeOf33
  v37 := Tryd.zeroValue33
  t46 := Tryd.underlying63
  a46 := Tryd.isAgg63
  z46 := Tryd.sizeOf63
  v46 := Tryd.zeroValue63
  t51 := Tryd.underlying74
  a51 := Tryd.isAgg74
  z51 := Tryd.sizeOf74
  v51 := Tryd.zeroValue74
  t53 := Tryd.underlying76
  a53 := Tryd.isAgg76
  z53 := Tryd.sizeOf76
  v53 := Tryd.zeroValue76
  t70 := Tryd.underlying36
  a70 := Tryd.isAgg36
  z70 := Tryd.sizeOf36
  v70 := Tryd.zeroValue36
  t72 := Tryd.underlying38
  a72 := Tryd.isAgg38
  z72 := Tryd.sizeOf38
  v72 := Tryd.zeroValue38
  t75 := Tryd.underlying41
  a75 := Tryd.isAgg41
  z75 := Tryd.sizeOf41
  v75 := Tryd.zeroValue41
  t76 := Tryd.underlying42
  a76 := Tryd.isAgg42
  z76 := Tryd.sizeOf42
  v76 := Tryd.zeroValue42
  t109 := Tryd.underlying64
  a109 := Tryd.isAgg64
  z109 := Tryd.sizeOf64
  v109 := Tryd.zeroValue64
  t127 := Tryd.underlying53
  a127 := Tryd.isAgg53
  z127 := Tryd.sizeOf53
  v127 := Tryd.zeroValue53
  t146 := Tryd.underlying81
  a146 := Tryd.isAgg81
  z146 := Tryd.sizeOf81
  v146 := Tryd.zeroValue81
  t148 := Tryd.underlying83
  a148 := Tryd.isAgg83
  z148 := Tryd.sizeOf83
  v148 := Tryd.zeroValue83
  t164 := Tryd.underlying68
  a164 := Tryd.isAgg68
  z164 := Tryd.sizeOf68
  v164 := Tryd.zeroValue68
theorem rep48 : ∀ c : Nat, Lib.repeatL [48] c = List.replicate c (48 : UInt8)
  | 0 => rfl
  | c + 1 => by
    have := rep48 c
    simp [Lib.repeatL, List.replicate_succ] at this ⊢
    try exact this
theorem below_le {B n : Nat} {a b : World} (h : Below n a b) (hB : B ≤ n) : Below B a b := ⟨h.1, h.2, h.3, h.size, fun k hk => h.5 k (by omega)⟩
theorem h47 {G : Nat → Option (List AV)} : ∀ xs H K, c47 xs H ⟨K⟩ → ACalls G Tryd.prog 26 xs H K := by
  rintro xs H K ⟨c, rfl, hc, k⟩
  refine ⟨⟨Tryd.f26, Tryd.func26, by kernel_rfl, by kernel_rfl⟩, fun B w0 m w cargs hs hr => ?_⟩
  obtain ⟨v1, r1, e1, h1, hr⟩ := hr.uncons
  obtain ⟨v2, r2, e2, h2, hr⟩ := hr.uncons
  have e3 := hr.unnil
  subst e2 e3
  obtain rfl : cargs = #[v1, v2] := by cases cargs; simp_all
  obtain ⟨s1, rfl, hs1⟩ := rel_str h1
  obtain rfl := rel_int h2
  have hsz : s1.size = 1 := by
    have : s1.data.toList.length = 1 := by rw [hs1]; rfl
    simpa using this
  refine (Any.strings_Repeat repLay (bX rfl rfl) s1 c w (by omega) (by rw [hsz]; omega)).mono ?_
  rintro e w' ⟨rfl, hB⟩
  have hS := sat_some (A := []) (R := H) (A' := []) hs (.refl _) (below_le hB hs.base) [] (fun k _ hk => hB.5 k hk) (fun k hk => by cases hk) (fun k n hk => by cases hk) (fun k hk => by cases hk) (fun id o ho => by cases ho) hs.nodup
  refine ⟨_, _, m, H, rfl, .refl m, hS, ?_, k⟩
  have := Rel.str (m := m) ⟨(List.replicate c (48 : UInt8)).toArray⟩
  rw [hs1, rep48]
  simpa using this
theorem idxB_eq (s : List UInt8) (b : UInt8) : Lib.indexByte s b = idxB s b := by
  induction s with
  | nil => rfl
  | cons x s ih => simp only [Lib.indexByte, idxB, ih]

theorem h64 : ∀ xs H K, j64 xs H ⟨K⟩ → ACalls GH Tryd.prog 48 xs H K := fun xs H K ⟨s, b, e, k⟩ => h95 xs H K ⟨s, b, e, by rw [idxB_eq]; exact k⟩
end Go.Proofs.YtfgkkkknkojlgaaDoor.lib
