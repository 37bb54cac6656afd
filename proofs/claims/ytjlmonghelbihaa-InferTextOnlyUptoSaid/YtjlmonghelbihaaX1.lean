/- The library's IndexByte: what the model's own entry for bytealg says, as a contract of the function that calls it. -/
import Derived.Test.YtjlmonghelbihaaF1
import Derived.Test.YtjlmonghelbihaaH10
import Derived.Lib.Strings
import Derived.Lib.Slices
import Derived.Lib.Walk
import Derived.Lib.Bytealg
namespace Go.Proofs.Ytjlmonghelbihaa.lib
open Go.AL Go.AL.Fun Go.RowKit Go.Proofs

set_option maxHeartbeats 1000000 in
set_option maxRecDepth 100000 in
theorem idx64 (s : ByteArray) (c : Int) (w : World) :
    Calls Try.prog 64 #[.string s, .int .u8 c] w fun e w' => e = .returned (.int .i64 (Lib.indexByte s.data.toList c.toNat.toUInt8)) ∧ w' = w := by
  go_enter Try.func64, Try.ntmps64
  go_wp2
  rw [run_callFunc_extern Try.func69 (by kernel_rfl) (by kernel_rfl) (by kernel_rfl) (e := Extern.BytealgIndexByte.indexByte) (by kernel_rfl), Lib.run_indexByteString]
  simp only [Result.andThen]
  rw [Oper.upon_value]
  go_wp2
  go_ret
  exact ⟨rfl, rfl⟩

theorem idxB_eq (s : List UInt8) (b : UInt8) : Lib.indexByte s b = idxB s b := by
  induction s with
  | nil => rfl
  | cons x s ih => simp only [Lib.indexByte, idxB, ih]

theorem h64 : ∀ xs H K, c64 xs H ⟨K⟩ → ACalls (fun _ => none) Try.prog 64 xs H K := by
  rintro xs H K ⟨s, b, rfl, k⟩
  refine ⟨fnOk_of f64_ok, fun B w0 m w cargs hs hr => ?_⟩
  obtain ⟨v1, r1, e1, h1, hr⟩ := hr.uncons
  obtain ⟨v2, r2, e2, h2, hr⟩ := hr.uncons
  have e3 := hr.unnil
  subst e2 e3
  obtain rfl : cargs = #[v1, v2] := by cases cargs; simp_all
  generalize hv1 : AV.str s = x1 at h1
  cases h1 <;> cases hv1
  rename_i s
  generalize hv2 : AV.int IntKind.u8 (n8 b) = x2 at h2
  cases h2 <;> cases hv2
  refine (idx64 s (n8 b) w).mono ?_
  rintro e w' ⟨rfl, rfl⟩
  refine ⟨_, _, m, H, rfl, .refl m, hs, .int _ _, ?_⟩
  have e4 : (n8 b).toNat.toUInt8 = b := of_n8 b
  rw [e4, idxB_eq]
  exact k
theorem hok : HOk Try.prog := ⟨by kernel_rfl, h64, f38_ok, f39_ok, f58_ok, f42_ok, f40_ok, f43_ok, f57_ok, f41_ok, f59_ok, f46_ok, f26_ok, f27_ok, f44_ok, f45_ok, f29_ok, f28_ok, f12_ok, f14_ok, f17_ok, f11_ok⟩
end Go.Proofs.Ytjlmonghelbihaa.lib
