/- The HTML context automaton: the tables hold. -/
import Derived.Test.YtfgkkkknkojlgaaDoorJ8
set_option linter.unusedSimpArgs false
set_option linter.unusedVariables false
namespace Go.AL.Fun
open Go Go.AL

def OkAt (P : Program) (i : Nat) (F : AFun) : Prop := compF P i F.body.hints = some F
/-- What is wanted of a program. -/
structure HOk (P : Program) : Prop where
  hm : P.follows .mixedOrders = true
  h64 : ∀ xs H K, j64 xs H ⟨K⟩ → ACalls GH P 48 xs H K
  h38 : OkAt P 28 f28
  h39 : OkAt P 29 f29
  h58 : OkAt P 47 f47
  h42 : OkAt P 32 f32
  h40 : OkAt P 30 f30
  h43 : OkAt P 33 f33
  h57 : OkAt P 46 f46
  h41 : OkAt P 31 f31
  h46 : OkAt P 36 f36
  h26 : OkAt P 14 f14
  h27 : OkAt P 15 f15
  h44 : OkAt P 34 f34
  h45 : OkAt P 35 f35
  h29 : OkAt P 17 f17
  h28 : OkAt P 16 f16
  h12 : OkAt P 9 f9
  h14 : OkAt P 7 f7
  h17 : OkAt P 6 f6
  h11 : OkAt P 5 f5

section
variable {P : Program} (h : HOk P)
include h
theorem ok38 (xs : List AV) (H : Heap) (K : AV → Heap → Prop) (c : j38 xs H ⟨K⟩) : ACalls GH P 28 xs H K := okF h.hm .nilX h.h38 _ _ _ (j38_of P c)
theorem ok39 (xs : List AV) (H : Heap) (K : AV → Heap → Prop) (c : j39 xs H ⟨K⟩) : ACalls GH P 29 xs H K := okC h.hm .nilX h.h39 _ _ _ (j39_of P (K := ⟨K⟩) c)
theorem tA_ok : TOk GH P (plainT (tA P).T) := .consX (ok39 h) (.consX (ok38 h) .nilX)
theorem ok58 (xs : List AV) (H : Heap) (K : AV → Heap → Prop) (c : j58 xs H ⟨K⟩) : ACalls GH P 47 xs H K := okF h.hm (tA_ok h) h.h58 _ _ _ (j58_of P c)
theorem ok42 (xs : List AV) (H : Heap) (K : AV → Heap → Prop) (c : d42 xs H ⟨K⟩) : ACalls GH P 32 xs H K := by
  obtain ⟨ctx, name, attr, part, nc, e, k⟩ := c
  exact okC h.hm .nilX h.h42 _ _ _ (j42_of P (K := ⟨K⟩) ⟨⟨ctx, name, attr, part⟩, nc, e, k⟩)
theorem ok40 (xs : List AV) (H : Heap) (K : AV → Heap → Prop) (c : j40 xs H ⟨K⟩) : ACalls GH P 30 xs H K := by
  obtain ⟨ctx, name, attr, part, np, rfl, k⟩ := c
  exact okC h.hm .nilX h.h40 _ _ _ (w40 P _ fun H' hl => ⟨H, hl, k⟩)
theorem ok43 (xs : List AV) (H : Heap) (K : AV → Heap → Prop) (c : j43 xs H ⟨K⟩) : ACalls GH P 33 xs H K := by
  obtain ⟨ctx, name, attr, part, rfl, k⟩ := c
  exact okC h.hm .nilX h.h43 _ _ _ (w43 P _ fun H' hl => ⟨H, hl, k⟩)
theorem ok57 (xs : List AV) (H : Heap) (K : AV → Heap → Prop) (c : j41 xs H ⟨K⟩) : ACalls GH P 46 xs H K := by
  obtain ⟨a, b, rfl, k⟩ := c; exact okF h.hm .nilX h.h57 _ _ _ (w57 P _ k)
theorem ok41 (xs : List AV) (H : Heap) (K : AV → Heap → Prop) (c : j41 xs H ⟨K⟩) : ACalls GH P 31 xs H K := by
  obtain ⟨a, b, rfl, k⟩ := c; exact okF h.hm (.consX (ok57 h) .nilX) h.h41 _ _ _ (w41 P _ k)
theorem ok46 (xs : List AV) (H : Heap) (K : AV → Heap → Prop) (c : j46 xs H ⟨K⟩) : ACalls GH P 36 xs H K := by
  obtain ⟨b, rfl, k⟩ := c; exact okF h.hm (.consX h.h64 .nilX) h.h46 _ _ _ (w46 P _ k)
theorem tB_ok : TOk GH P (plainT (tB P).T) := .consX (ok40 h) (.consX (ok42 h) (.consX (ok43 h) (.consX (ok41 h) (.consX (ok46 h) (.consX (ok39 h) (.consX (ok38 h) (.consX (ok58 h) .nilX)))))))
theorem ok26 (xs : List AV) (H : Heap) (K : AV → Heap → Prop) (c : j26 xs H ⟨K⟩) : ACalls GH P 14 xs H K := by
  obtain ⟨ctx, name, attr, part, b, rfl, k⟩ := c
  exact okC h.hm (tB_ok h) h.h26 _ _ _ (w26 P _ fun H' hl => ⟨H, hl, k⟩)
theorem ok27 (xs : List AV) (H : Heap) (K : AV → Heap → Prop) (c : j27 xs H ⟨K⟩) : ACalls GH P 15 xs H K := by
  obtain ⟨ctx, name, attr, part, b, rfl, s, k⟩ := c
  exact okC h.hm (tB_ok h) h.h27 _ _ _ (w27 P s _ fun H' hl => ⟨H, hl, k⟩)
theorem ok44 (xs : List AV) (H : Heap) (K : AV → Heap → Prop) (c : j44 xs H ⟨K⟩) : ACalls GH P 34 xs H K := by
  obtain ⟨ctx, name, attr, part, b, rfl, k⟩ := c
  exact okC h.hm (tB_ok h) h.h44 _ _ _ (w44 P _ fun H' hl => ⟨H, hl, k⟩)
theorem ok45 (xs : List AV) (H : Heap) (K : AV → Heap → Prop) (c : j45 xs H ⟨K⟩) : ACalls GH P 35 xs H K := by
  obtain ⟨ctx, name, attr, part, b, rfl, s, k⟩ := c
  exact okC h.hm (tB_ok h) h.h45 _ _ _ (w45 P s.1 s.2 _ fun H' hl => ⟨H, hl, k⟩)
theorem tC_ok : TOk GH P (plainT (tC P).T) := .consX (ok44 h) (.consX (ok45 h) (tB_ok h))
theorem ok29 (xs : List AV) (H : Heap) (K : AV → Heap → Prop) (c : j29 xs H ⟨K⟩) : ACalls GH P 17 xs H K := by
  obtain ⟨ctx, name, attr, part, b, rfl, s, k⟩ := c
  exact okC h.hm (tC_ok h) h.h29 _ _ _ (w29 P s.1 s.2 _ fun H' hl => ⟨H, hl, k⟩)
theorem ok28 (xs : List AV) (H : Heap) (K : AV → Heap → Prop) (c : j28 xs H ⟨K⟩) : ACalls GH P 16 xs H K := okC h.hm (tB_ok h) h.h28 _ _ _ (w28 P (K := ⟨K⟩) c)
theorem tD_ok : TOk GH P (plainT (tD P).T) := .consX (ok28 h) (.consX (ok29 h) (.consX (ok26 h) (.consX (ok27 h) (tC_ok h))))
theorem tE_ok : TOk GH P (plainT (tE P).T) := .consX (fun xs H K c => okC h.hm (tD_ok h) h.h12 _ _ _ (j12_of P (K := ⟨K⟩) c)) (.consX (fun xs H K c => okC h.hm .nilX h.h14 _ _ _ (j14_of P (K := ⟨K⟩) c)) (tD_ok h))
theorem tF_ok : TOk GH P (plainT (tF P).T) := .consX (fun xs H K c => okC h.hm (tE_ok h) h.h17 _ _ _ (j17_of P (K := ⟨K⟩) c)) (tE_ok h)
theorem tG_ok : TOk GH P (plainT (tG P).T) := .consX (fun xs H K c => okC h.hm (tF_ok h) h.h11 _ _ _ (j11_of P (K := ⟨K⟩) c)) (tF_ok h)
end
end Go.AL.Fun
