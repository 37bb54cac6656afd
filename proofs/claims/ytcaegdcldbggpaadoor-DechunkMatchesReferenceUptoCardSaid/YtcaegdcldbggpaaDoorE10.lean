/- The tables of the laws hold. -/
import Derived.Test.YtcaegdcldbggpaaDoorE9
set_option linter.unusedSimpArgs false
set_option linter.unusedVariables false
namespace Go.AL
theorem ACalls.monoG {P : Program} {G G' : Nat → Option (List AV)} (hG : ∀ g cs, G g = some cs → G' g = some cs) {f : Nat} {xs : List AV} {H : Heap} {K : AV → Heap → Prop} (h : ACalls G P f xs H K) : ACalls G' P f xs H K :=
  ⟨h.1, fun B w0 m w cargs hs hr => (h.2 B w0 m w cargs ⟨hs.below, hs.base, hs.cell, hs.size, hs.nodup, hs.obj, fun g cs hg => hs.glob g cs (hG g cs hg)⟩ hr).mono fun _ _ ⟨v, cv, m', H', e1, e2, e3, e4, e5⟩ =>
    ⟨v, cv, m', H', e1, e2, ⟨e3.below, e3.base, e3.cell, e3.size, e3.nodup, e3.obj, fun g cs hg => ⟨(hs.glob g cs hg).1, (hs.glob g cs hg).2.mono e2⟩⟩, e4, e5⟩⟩
end Go.AL
namespace Go.AL.Fun
open Go Go.AL

def OkAt (P : Program) (i : Nat) (F : AFun) : Prop := compF P i F.body.hints = some F
theorem Gu_Gh : ∀ g cs, Gu g = some cs → Gh g = some cs := by
  intro g cs h
  match g, h with
  | 2, h => exact h
  | 3, h => exact h
  | 0, h => cases h
  | 1, h => cases h
  | n + 4, h => cases h
/-- What is wanted of a program. -/
structure EOk (P : Program) : Prop where
  hm : P.follows .mixedOrders = true
  k37 : ∀ (G : Nat → Option (List AV)) xs H K, c37 xs H ⟨K⟩ → ACalls G P 37 xs H K
  h24 : OkAt P 24 f24
  h25 : OkAt P 25 f25
  h26 : OkAt P 26 f26
  h27 : OkAt P 27 f27
  h28 : OkAt P 28 f28
  h32 : OkAt P 32 f32
  h33 : OkAt P 33 f33
  h34 : OkAt P 34 f34
  h35 : OkAt P 35 f35
  h36 : OkAt P 36 f36
  h38 : OkAt P 38 f38
  h41 : OkAt P 41 f41
  h42 : OkAt P 42 f42
  h43 : OkAt P 43 f43
  h45 : OkAt P 45 f45
  h46 : OkAt P 46 f46
  h47 : OkAt P 47 f47
  h54 : OkAt P 54 f54
  h55 : OkAt P 55 f55
  h59 : OkAt P 59 f59
  h60 : OkAt P 60 f60
  h62 : OkAt P 62 f62
section
variable {P : Program} (h : EOk P)
include h
theorem ok55 (xs : List AV) (H : Heap) (K : AV → Heap → Prop) (c : c55 xs H ⟨K⟩) : ACalls Gu P 55 xs H K := okC h.hm .nilX h.h55 _ _ _ (c55_of P (K := ⟨K⟩) c)
theorem ok46 (xs : List AV) (H : Heap) (K : AV → Heap → Prop) (c : c46 xs H ⟨K⟩) : ACalls Gu P 46 xs H K := okC h.hm (.consX (ok55 h) .nilX) h.h46 _ _ _ (c46_of P (K := ⟨K⟩) c)
theorem ok47 {G : Nat → Option (List AV)} (xs : List AV) (H : Heap) (K : AV → Heap → Prop) (c : c47 xs H ⟨K⟩) : ACalls G P 47 xs H K := okF h.hm .nilX h.h47 _ _ _ (c47_of P (K := ⟨K⟩) c)
theorem ok43 {G : Nat → Option (List AV)} (xs : List AV) (H : Heap) (K : AV → Heap → Prop) (c : c43 xs H ⟨K⟩) : ACalls G P 43 xs H K := okC h.hm (.consX (h.k37 G) (.consX (ok47 h) .nilX)) h.h43 _ _ _ (c43_of P (K := ⟨K⟩) c)
theorem ok36 {G : Nat → Option (List AV)} (xs : List AV) (H : Heap) (K : AV → Heap → Prop) (c : c36 xs H ⟨K⟩) : ACalls G P 36 xs H K := okF h.hm (.consX (ok43 h) .nilX) h.h36 _ _ _ (c36_of P (K := ⟨K⟩) c)
theorem ok35 {G : Nat → Option (List AV)} (xs : List AV) (H : Heap) (K : AV → Heap → Prop) (c : c35 xs H ⟨K⟩) : ACalls G P 35 xs H K := okF h.hm (.consX (ok36 h) .nilX) h.h35 _ _ _ (c35_of P (K := ⟨K⟩) c)
theorem ok42 (xs : List AV) (H : Heap) (K : AV → Heap → Prop) (c : c42 xs H ⟨K⟩) : ACalls Gu P 42 xs H K := okC h.hm (.consX (ok46 h) (.consX (ok35 h) .nilX)) h.h42 _ _ _ (c42_of P (K := ⟨K⟩) c)
theorem ok34 (xs : List AV) (H : Heap) (K : AV → Heap → Prop) (c : c34 xs H ⟨K⟩) : ACalls Gu P 34 xs H K := okF h.hm (.consX (ok42 h) .nilX) h.h34 _ _ _ (c34_of P (K := ⟨K⟩) c)
theorem ok27u (xs : List AV) (H : Heap) (K : AV → Heap → Prop) (c : c27 xs H ⟨K⟩) : ACalls Gu P 27 xs H K := okC h.hm (.consX (ok34 h) (.consX (h.k37 Gu) .nilX)) h.h27 _ _ _ (c27_of P (K := ⟨K⟩) c)
theorem ok27 (xs : List AV) (H : Heap) (K : AV → Heap → Prop) (c : c27 xs H ⟨K⟩) : ACalls Gh P 27 xs H K := (ok27u h xs H K c).monoG Gu_Gh
theorem ok38 {G : Nat → Option (List AV)} (xs : List AV) (H : Heap) (K : AV → Heap → Prop) (c : c38 xs H ⟨K⟩) : ACalls G P 38 xs H K := okF h.hm .nilX h.h38 _ _ _ (c38_of P (K := ⟨K⟩) c)
theorem ok28 {G : Nat → Option (List AV)} (xs : List AV) (H : Heap) (K : AV → Heap → Prop) (c : c28 xs H ⟨K⟩) : ACalls G P 28 xs H K := okC h.hm (.consX (ok38 h) .nilX) h.h28 _ _ _ (c28_of P (K := ⟨K⟩) c)
theorem ok33 {G : Nat → Option (List AV)} (xs : List AV) (H : Heap) (K : AV → Heap → Prop) (c : c33 xs H ⟨K⟩) : ACalls G P 33 xs H K := okC h.hm .nilX h.h33 _ _ _ (c33_of P (K := ⟨K⟩) c)
theorem ok25 {G : Nat → Option (List AV)} (xs : List AV) (H : Heap) (K : AV → Heap → Prop) (c : c25 xs H ⟨K⟩) : ACalls G P 25 xs H K := okC h.hm (.consX (ok33 h) .nilX) h.h25 _ _ _ (c25_of P (K := ⟨K⟩) c)
theorem ok62 (xs : List AV) (H : Heap) (K : AV → Heap → Prop) (c : c62 xs H ⟨K⟩) : ACalls Gh P 62 xs H K := okC h.hm .nilX h.h62 _ _ _ (c62_of P (K := ⟨K⟩) c)
theorem ok60 (xs : List AV) (H : Heap) (K : AV → Heap → Prop) (c : c60 xs H ⟨K⟩) : ACalls Gh P 60 xs H K := okF h.hm (.consX (ok62 h) .nilX) h.h60 _ _ _ (c60_of P (K := ⟨K⟩) c)
theorem ok59 (xs : List AV) (H : Heap) (K : AV → Heap → Prop) (c : c59 xs H ⟨K⟩) : ACalls Gh P 59 xs H K := okF h.hm .nilX h.h59 _ _ _ (c59_of P (K := ⟨K⟩) c)
theorem ok54 (xs : List AV) (H : Heap) (K : AV → Heap → Prop) (c : c54 xs H ⟨K⟩) : ACalls Gh P 54 xs H K := okC h.hm (.consX (ok59 h) (.consX (ok60 h) .nilX)) h.h54 _ _ _ (c54_of P (K := ⟨K⟩) c)
theorem ok45 (xs : List AV) (H : Heap) (K : AV → Heap → Prop) (c : c45 xs H ⟨K⟩) : ACalls Gh P 45 xs H K := okF h.hm (.consX (ok54 h) .nilX) h.h45 _ _ _ (c45_of P (K := ⟨K⟩) c)
theorem ok41 (xs : List AV) (H : Heap) (K : AV → Heap → Prop) (c : c41 xs H ⟨K⟩) : ACalls Gh P 41 xs H K := okF h.hm (.consX (ok45 h) .nilX) h.h41 _ _ _ (c41_of P (K := ⟨K⟩) c)
theorem ok32 (xs : List AV) (H : Heap) (K : AV → Heap → Prop) (c : c32 xs H ⟨K⟩) : ACalls Gh P 32 xs H K := okF h.hm (.consX (ok41 h) .nilX) h.h32 _ _ _ (c32_of P (K := ⟨K⟩) c)
theorem ok24 (xs : List AV) (H : Heap) (K : AV → Heap → Prop) (c : c24 xs H ⟨K⟩) : ACalls Gh P 24 xs H K := okC h.hm (.consX (ok32 h) .nilX) h.h24 _ _ _ (c24_of P (K := ⟨K⟩) c)
theorem ok26 (xs : List AV) (H : Heap) (K : AV → Heap → Prop) (c : c26 xs H ⟨K⟩) : ACalls Gh P 26 xs H K := okC h.hm (.consX (ok24 h) (.consX (ok27 h) .nilX)) h.h26 _ _ _ (c26_of P (K := ⟨K⟩) c)
theorem tE_ok : TOk Gh P (plainT tE) := .consX (ok24 h) (.consX (ok25 h) (.consX (ok26 h) (.consX (ok27 h) (.consX (ok28 h) .nilX))))
end
end Go.AL.Fun
