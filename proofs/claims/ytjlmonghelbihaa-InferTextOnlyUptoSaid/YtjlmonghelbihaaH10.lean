/- The HTML context automaton: the tables hold. -/
import Derived.Test.YtjlmonghelbihaaH8
set_option linter.unusedSimpArgs false
set_option linter.unusedVariables false
namespace Go.AL.Fun
open Go Go.AL

def OkAt (P : Program) (i : Nat) (F : AFun) : Prop := compF P i F.body.hints = some F
/-- What is wanted of a program. -/
structure HOk (P : Program) : Prop where
  hm : P.follows .mixedOrders = true
  h64 : ∀ xs H K, c64 xs H ⟨K⟩ → ACalls (fun _ => none) P 64 xs H K
  h38 : OkAt P 38 f38
  h39 : OkAt P 39 f39
  h58 : OkAt P 58 f58
  h42 : OkAt P 42 f42
  h40 : OkAt P 40 f40
  h43 : OkAt P 43 f43
  h57 : OkAt P 57 f57
  h41 : OkAt P 41 f41
  h59 : OkAt P 59 f59
  h46 : OkAt P 46 f46
  h26 : OkAt P 26 f26
  h27 : OkAt P 27 f27
  h44 : OkAt P 44 f44
  h45 : OkAt P 45 f45
  h29 : OkAt P 29 f29
  h28 : OkAt P 28 f28
  h12 : OkAt P 12 f12
  h14 : OkAt P 14 f14
  h17 : OkAt P 17 f17
  h11 : OkAt P 11 f11

section
variable {P : Program} (h : HOk P)
include h
abbrev NG : Nat → Option (List AV) := fun _ => none
theorem ok38 (xs : List AV) (H : Heap) (K : AV → Heap → Prop) (c : c38 xs H ⟨K⟩) : ACalls NG P 38 xs H K := okF h.hm .nilX h.h38 _ _ _ (c38_of P c)
theorem ok39 (xs : List AV) (H : Heap) (K : AV → Heap → Prop) (c : c39 xs H ⟨K⟩) : ACalls NG P 39 xs H K := okC h.hm .nilX h.h39 _ _ _ (c39_of P (K := ⟨K⟩) c)
theorem tA_ok : TOk NG P (plainT (tA P).T) := .consX (ok39 h) (.consX (ok38 h) .nilX)
theorem ok58 (xs : List AV) (H : Heap) (K : AV → Heap → Prop) (c : c58 xs H ⟨K⟩) : ACalls NG P 58 xs H K := okF h.hm (tA_ok h) h.h58 _ _ _ (c58_of P c)
theorem ok42 (xs : List AV) (H : Heap) (K : AV → Heap → Prop) (c : d42 xs H ⟨K⟩) : ACalls NG P 42 xs H K := by
  obtain ⟨ctx, name, attr, part, nc, e, k⟩ := c
  exact okC h.hm .nilX h.h42 _ _ _ (c42_of P (K := ⟨K⟩) ⟨⟨ctx, name, attr, part⟩, nc, e, k⟩)
theorem ok40 (xs : List AV) (H : Heap) (K : AV → Heap → Prop) (c : c40 xs H ⟨K⟩) : ACalls NG P 40 xs H K := by
  obtain ⟨ctx, name, attr, part, np, rfl, k⟩ := c
  exact okC h.hm .nilX h.h40 _ _ _ (w40 P _ fun H' hl => ⟨H, hl, k⟩)
theorem ok43 (xs : List AV) (H : Heap) (K : AV → Heap → Prop) (c : c43 xs H ⟨K⟩) : ACalls NG P 43 xs H K := by
  obtain ⟨ctx, name, attr, part, rfl, k⟩ := c
  exact okC h.hm .nilX h.h43 _ _ _ (w43 P _ fun H' hl => ⟨H, hl, k⟩)
theorem ok57 (xs : List AV) (H : Heap) (K : AV → Heap → Prop) (c : c41 xs H ⟨K⟩) : ACalls NG P 57 xs H K := by
  obtain ⟨a, b, rfl, k⟩ := c; exact okF h.hm .nilX h.h57 _ _ _ (w57 P _ k)
theorem ok41 (xs : List AV) (H : Heap) (K : AV → Heap → Prop) (c : c41 xs H ⟨K⟩) : ACalls NG P 41 xs H K := by
  obtain ⟨a, b, rfl, k⟩ := c; exact okF h.hm (.consX (ok57 h) .nilX) h.h41 _ _ _ (w41 P _ k)
theorem ok59 (xs : List AV) (H : Heap) (K : AV → Heap → Prop) (c : c64 xs H ⟨K⟩) : ACalls NG P 59 xs H K := by
  obtain ⟨a, b, rfl, k⟩ := c; exact okF h.hm (.consX h.h64 .nilX) h.h59 _ _ _ (w59 P _ k)
theorem ok46 (xs : List AV) (H : Heap) (K : AV → Heap → Prop) (c : c46 xs H ⟨K⟩) : ACalls NG P 46 xs H K := by
  obtain ⟨b, rfl, k⟩ := c; exact okF h.hm (.consX (ok59 h) .nilX) h.h46 _ _ _ (w46 P _ k)
theorem tB_ok : TOk NG P (plainT (tB P).T) := .consX (ok40 h) (.consX (ok42 h) (.consX (ok43 h) (.consX (ok41 h) (.consX (ok46 h) (.consX (ok39 h) (.consX (ok38 h) (.consX (ok58 h) .nilX)))))))
theorem ok26 (xs : List AV) (H : Heap) (K : AV → Heap → Prop) (c : c26 xs H ⟨K⟩) : ACalls NG P 26 xs H K := by
  obtain ⟨ctx, name, attr, part, b, rfl, k⟩ := c
  exact okC h.hm (tB_ok h) h.h26 _ _ _ (w26 P _ fun H' hl => ⟨H, hl, k⟩)
theorem ok27 (xs : List AV) (H : Heap) (K : AV → Heap → Prop) (c : c27 xs H ⟨K⟩) : ACalls NG P 27 xs H K := by
  obtain ⟨ctx, name, attr, part, b, rfl, s, k⟩ := c
  exact okC h.hm (tB_ok h) h.h27 _ _ _ (w27 P s _ fun H' hl => ⟨H, hl, k⟩)
theorem ok44 (xs : List AV) (H : Heap) (K : AV → Heap → Prop) (c : c44 xs H ⟨K⟩) : ACalls NG P 44 xs H K := by
  obtain ⟨ctx, name, attr, part, b, rfl, k⟩ := c
  exact okC h.hm (tB_ok h) h.h44 _ _ _ (w44 P _ fun H' hl => ⟨H, hl, k⟩)
theorem ok45 (xs : List AV) (H : Heap) (K : AV → Heap → Prop) (c : c45 xs H ⟨K⟩) : ACalls NG P 45 xs H K := by
  obtain ⟨ctx, name, attr, part, b, rfl, s, k⟩ := c
  exact okC h.hm (tB_ok h) h.h45 _ _ _ (w45 P s.1 s.2 _ fun H' hl => ⟨H, hl, k⟩)
theorem tC_ok : TOk NG P (plainT (tC P).T) := .consX (ok44 h) (.consX (ok45 h) (tB_ok h))
theorem ok29 (xs : List AV) (H : Heap) (K : AV → Heap → Prop) (c : c29 xs H ⟨K⟩) : ACalls NG P 29 xs H K := by
  obtain ⟨ctx, name, attr, part, b, rfl, s, k⟩ := c
  exact okC h.hm (tC_ok h) h.h29 _ _ _ (w29 P s.1 s.2 _ fun H' hl => ⟨H, hl, k⟩)
theorem ok28 (xs : List AV) (H : Heap) (K : AV → Heap → Prop) (c : c28 xs H ⟨K⟩) : ACalls NG P 28 xs H K := okC h.hm (tB_ok h) h.h28 _ _ _ (w28 P (K := ⟨K⟩) c)
theorem tD_ok : TOk NG P (plainT (tD P).T) := .consX (ok28 h) (.consX (ok29 h) (.consX (ok26 h) (.consX (ok27 h) (tC_ok h))))
theorem tE_ok : TOk NG P (plainT (tE P).T) := .consX (fun xs H K c => okC h.hm (tD_ok h) h.h12 _ _ _ (c12_of P (K := ⟨K⟩) c)) (.consX (fun xs H K c => okC h.hm .nilX h.h14 _ _ _ (c14_of P (K := ⟨K⟩) c)) (tD_ok h))
theorem tF_ok : TOk NG P (plainT (tF P).T) := .consX (fun xs H K c => okC h.hm (tE_ok h) h.h17 _ _ _ (c17_of P (K := ⟨K⟩) c)) (tE_ok h)
theorem tG_ok : TOk NG P (plainT (tG P).T) := .consX (fun xs H K c => okC h.hm (tF_ok h) h.h11 _ _ _ (c11_of P (K := ⟨K⟩) c)) (tF_ok h)
end
end Go.AL.Fun
