/- strings.Repeat, abstractly. -/
import Derived.Test.YtijioomcpecdhaaDoorS15
import Derived.Shelf.Strings.Repeat
set_option linter.unusedSimpArgs false
set_option linter.unusedVariables false
set_option maxRecDepth 100000
set_option maxHeartbeats 4000000
namespace Go.Proofs.YtijioomcpecdhaaDoor.lib
open Go.AL Go.AL.Fun Go.RowKit Go.Proofs
def repLayRen : Go.Shelf.Ren := ⟨fun x => match x with | 99 => 79 | 105 => 47 | 165 => 70 | 166 => 54 | 169 => 55 | 170 => 80 | 206 => 105 | 212 => 78 | 240 => 82 | 241 => 93 | 263 => 103 | 264 => 104 | 276 => 106 | 277 => 112 | n => n, fun x => match x with | 0 => 0 | 3 => 3 | 4 => 4 | 5 => 5 | 9 => 9 | 20 => 20 | 37 => 29 | 46 => 94 | 51 => 116 | 53 => 118 | 70 => 69 | 72 => 71 | 75 => 73 | 76 => 74 | 80 => 76 | 109 => 95 | 127 => 97 | 146 => 123 | 148 => 125 | 164 => 127 | n => n, fun n => n⟩
theorem repLay : Lays.n105 Tryd.prog repLayRen where
  mixed := by kernel_rfl
  f99 := Tryd.func79.trans (congrArg some (by kernel_rfl))
  f105 := Tryd.func47.trans (congrArg some (by kernel_rfl))
  f165 := Tryd.func70.trans (congrArg some (by kernel_rfl))
  f166 := Tryd.func54.trans (congrArg some (by kernel_rfl))
  f169 := Tryd.func55.trans (congrArg some (by kernel_rfl))
  f170 := Tryd.func80.trans (congrArg some (by kernel_rfl))
  f206 := Tryd.func105.trans (congrArg some (by kernel_rfl))
  f212 := Tryd.func78.trans (congrArg some (by kernel_rfl))
  f240 := Tryd.func82.trans (congrArg some (by kernel_rfl))
  f241 := Tryd.func93.trans (congrArg some (by kernel_rfl))
  f263 := Tryd.func103.trans (congrArg some (by kernel_rfl))
  f264 := Tryd.func104.trans (congrArg some (by kernel_rfl))
  f276 := Tryd.func106.trans (congrArg some (by kernel_rfl))
  f277 := Tryd.func112.trans (congrArg some (by kernel_rfl))
  t0 := Tryd.underlying0
  a0 := Tryd.isAgg0
  z0 := Tryd.sizeOf0
  v0 := Tryd.zeroValue0
  t3 := Tryd.underlying3
  a3 := Tryd.isAgg3
  z3 := Tryd.sizeOf3
  v3 := Tryd.zeroValue3
  t4 := Tryd.underlying4
  a4 := Tryd.isAgg4
  z4 := Tryd.sizeOf4
  v4 := Tryd.zeroValue4
  t5 := Tryd.underlying5
  a5 := Tryd.isAgg5
  z5 := Tryd.sizeOf5
  v5 := Tryd.zeroValue5
  t9 := Tryd.underlying9
  a9 := Tryd.isAgg9
  z9 := Tryd.sizeOf9
  v9 := Tryd.zeroValue9
  t20 := Tryd.underlying20
  a20 := Tryd.isAgg20
  z20 := Tryd.sizeOf20
  v20 := Tryd.zeroValue20
  t37 := Tryd.underlying29
  a37 := Tryd.isAgg29
  z37 := Tryd.sizeOf29
  v37 := Tryd.zeroValue29
  t46 := Tryd.underlying94
  a46 := Tryd.isAgg94
  z46 := Tryd.sizeOf94
  v46 := Tryd.zeroValue94
  t51 := Tryd.underlying116
  a51 := Tryd.isAgg116
  z51 := Tryd.sizeOf116
  v51 := Tryd.zeroValue116
  t53 := Tryd.underlying118
  a53 := Tryd.isAgg118
  z53 := Tryd.sizeOf118
  v53 := Tryd.zeroValue118
  t70 := Tryd.underlying69
  a70 := Tryd.isAgg69
  z70 := Tryd.sizeOf69
  v70 := Tryd.zeroValue69
  t72 := Tryd.underlying71
  a72 := Tryd.isAgg71
  z72 := Tryd.sizeOf71
  v72 := Tryd.zeroValue71
  t75 := Tryd.underlying73
  a75 := Tryd.isAgg73
  z75 := Tryd.sizeOf73
  v75 := Tryd.zeroValue73
  t76 := Tryd.underlying74
  a76 := Tryd.isAgg74
  z76 := Tryd.sizeOf74
  v76 := Tryd.zeroValue74
  t109 := Tryd.underlying95
  a109 := Tryd.isAgg95
  z109 := Tryd.sizeOf95
  v109 := Tryd.zeroValue95
  t127 := Tryd.underlying97
  a127 := Tryd.isAgg97
  z127 := Tryd.sizeOf97
  v127 := Tryd.zeroValue97
  t146 := Tryd.underlying123
  a146 := Tryd.isAgg123
  z146 := Tryd.sizeOf123
  v146 := Tryd.zeroValue123
  t148 := Tryd.underlying125
  a148 := Tryd.isAgg125
  z148 := Tryd.sizeOf125
  v148 := Tryd.zeroValue125
  t164 := Tryd.underlying127
  a164 := Tryd.isAgg127
  z164 := Tryd.sizeOf127
  v164 := Tryd.zeroValue127

theorem rep48 : ∀ c : Nat, Lib.repeatL [48] c = List.replicate c (48 : UInt8)
  | 0 => rfl
  | c + 1 => by
    have := rep48 c
    simp [Lib.repeatL, List.replicate_succ] at this ⊢
    try exact this
theorem below_le {B n : Nat} {a b : World} (h : Below n a b) (hB : B ≤ n) : Below B a b := ⟨h.1, h.2, h.3, h.size, fun k hk => h.5 k (by omega)⟩
theorem h47 {G : Nat → Option (List AV)} : ∀ xs H K, c47 xs H ⟨K⟩ → ACalls G Tryd.prog 47 xs H K := by
  rintro xs H K ⟨c, rfl, hc, k⟩
  refine ⟨⟨Tryd.f47, Tryd.func47, by kernel_rfl, by kernel_rfl⟩, fun B w0 m w cargs hs hr => ?_⟩
  obtain ⟨v1, r1, e1, h1, hr⟩ := hr.uncons
  obtain ⟨v2, r2, e2, h2, hr⟩ := hr.uncons
  have e3 := hr.unnil
  subst e2 e3
  obtain rfl : cargs = #[v1, v2] := by cases cargs; simp_all
  obtain ⟨s1, rfl, hs1⟩ := rel_str h1
  obtain rfl := rel_int h2
  have hsz : s1.size = 1 := by
    have : s1.data.toList.length = 1 := by rw [hs1]; rfl
    simpa using this
  refine (Any.strings_Repeat repLay (bX rfl rfl) s1 c w (by omega) (by rw [hsz]; omega)).mono ?_
  rintro e w' ⟨rfl, hB⟩
  have hS := sat_some (A := []) (R := H) (A' := []) hs (.refl _) (below_le hB hs.base) [] (fun k _ hk => hB.5 k hk) (fun k hk => by cases hk) (fun k n hk => by cases hk) (fun k hk => by cases hk) (fun id o ho => by cases ho) hs.nodup
  refine ⟨_, _, m, H, rfl, .refl m, hS, ?_, k⟩
  have := Rel.str (m := m) ⟨(List.replicate c (48 : UInt8)).toArray⟩
  rw [hs1, rep48]
  simpa using this
end Go.Proofs.YtijioomcpecdhaaDoor.lib
