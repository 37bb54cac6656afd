/- The reference automaton: the table holds. -/
import Derived.Test.YtjlmonghelbihaaH15
set_option linter.unusedSimpArgs false
set_option linter.unusedVariables false
namespace Go.AL.Fun
open Go Go.AL

/-- What is wanted of a program, for the reference. -/
structure ROk (P : Program) : Prop where
  ho : HOk P
  h13 : OkAt P 13 f13
  h15 : OkAt P 15 f15
  h16 : OkAt P 16 f16
  h30 : OkAt P 30 f30
  h31 : OkAt P 31 f31
  h32 : OkAt P 32 f32
  h33 : OkAt P 33 f33
  h47 : OkAt P 47 f47
  h48 : OkAt P 48 f48
  h49 : OkAt P 49 f49
  h50 : OkAt P 50 f50
  h51 : OkAt P 51 f51
  h52 : OkAt P 52 f52

section
variable {P : Program} (h : ROk P)
include h
theorem rk52 (xs : List AV) (H : Heap) (K : AV → Heap → Prop) (c : r52 xs H ⟨K⟩) : ACalls NG P 52 xs H K := okF h.ho.hm .nilX h.h52 _ _ _ (r52_of P c)
theorem u1_ok : TOk NG P (plainT (u1 P).T) := .consX (rk52 h) .nilX
theorem rk47 (xs : List AV) (H : Heap) (K : AV → Heap → Prop) (c : r47 xs H ⟨K⟩) : ACalls NG P 47 xs H K := okF h.ho.hm (u1_ok h) h.h47 _ _ _ (r47_of P c)
theorem rk48 (xs : List AV) (H : Heap) (K : AV → Heap → Prop) (c : r48 xs H ⟨K⟩) : ACalls NG P 48 xs H K := okC h.ho.hm (u1_ok h) h.h48 _ _ _ (r48_of P (K := ⟨K⟩) c)
theorem rk49 (xs : List AV) (H : Heap) (K : AV → Heap → Prop) (c : r49 xs H ⟨K⟩) : ACalls NG P 49 xs H K := okC h.ho.hm .nilX h.h49 _ _ _ (r49_of P (K := ⟨K⟩) c)
theorem rk50 (xs : List AV) (H : Heap) (K : AV → Heap → Prop) (c : r50 xs H ⟨K⟩) : ACalls NG P 50 xs H K := okF h.ho.hm .nilX h.h50 _ _ _ (r50_of P c)
theorem rk51 (xs : List AV) (H : Heap) (K : AV → Heap → Prop) (c : r51 xs H ⟨K⟩) : ACalls NG P 51 xs H K := okF h.ho.hm .nilX h.h51 _ _ _ (r51_of P c)
theorem u2_ok : TOk NG P (plainT (u2 P).T) := .consX (rk52 h) (.consX (rk47 h) (.consX (rk48 h) (.consX (rk49 h) (.consX (rk50 h) (.consX (rk51 h) .nilX)))))
theorem rk30 (xs : List AV) (H : Heap) (K : AV → Heap → Prop) (c : r30 xs H ⟨K⟩) : ACalls NG P 30 xs H K := okC h.ho.hm (u2_ok h) h.h30 _ _ _ (r30_of P (K := ⟨K⟩) c)
theorem rk31 (xs : List AV) (H : Heap) (K : AV → Heap → Prop) (c : r31 xs H ⟨K⟩) : ACalls NG P 31 xs H K := okC h.ho.hm (u2_ok h) h.h31 _ _ _ (r31_of P (K := ⟨K⟩) c)
theorem rk32 (xs : List AV) (H : Heap) (K : AV → Heap → Prop) (c : r32 xs H ⟨K⟩) : ACalls NG P 32 xs H K := okC h.ho.hm (u2_ok h) h.h32 _ _ _ (r32_of P (K := ⟨K⟩) c)
theorem rk33 (xs : List AV) (H : Heap) (K : AV → Heap → Prop) (c : r33 xs H ⟨K⟩) : ACalls NG P 33 xs H K := okC h.ho.hm (u2_ok h) h.h33 _ _ _ (r33_of P (K := ⟨K⟩) c)
theorem u3_ok : TOk NG P (plainT (u3 P).T) := .consX (rk30 h) (.consX (rk31 h) (.consX (rk32 h) (.consX (rk33 h) .nilX)))
theorem rk13 (xs : List AV) (H : Heap) (K : AV → Heap → Prop) (c : r13 xs H ⟨K⟩) : ACalls NG P 13 xs H K := okC h.ho.hm (u3_ok h) h.h13 _ _ _ (r13_of P (K := ⟨K⟩) c)
theorem rk15 (xs : List AV) (H : Heap) (K : AV → Heap → Prop) (c : c14 xs H ⟨K⟩) : ACalls NG P 15 xs H K := okC h.ho.hm .nilX h.h15 _ _ _ (r15_of P (K := ⟨K⟩) c)
theorem rk16 (xs : List AV) (H : Heap) (K : AV → Heap → Prop) (c : r16 xs H ⟨K⟩) : ACalls NG P 16 xs H K := by
  obtain ⟨ctx, name, attr, part, rfl, k⟩ := c
  exact okC h.ho.hm .nilX h.h16 _ _ _ (r16_of P (K := ⟨K⟩) k)
theorem tH_ok : TOk NG P (plainT (tH P).T) := .consX (rk13 h) (.consX (rk15 h) (.consX (rk16 h) (tG_ok h.ho)))
end
end Go.AL.Fun
