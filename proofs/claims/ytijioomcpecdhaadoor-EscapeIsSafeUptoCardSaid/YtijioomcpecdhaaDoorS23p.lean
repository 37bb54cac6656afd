/- The table of what Safe reaches. Printed by gs22p.py. -/
import Derived.Test.YtijioomcpecdhaaDoorS22p
import Derived.Test.YtijioomcpecdhaaDoorS20
set_option linter.unusedSimpArgs false
set_option linter.unusedVariables false
namespace Go.AL.Fun
open Go Go.AL Go.Proofs

/-- What is wanted of a program. -/
structure JOk (P : Program) : Prop where
  i : IOk P
  h60 : OkAt P 60 f60
  h59 : OkAt P 59 f59
  h107 : OkAt P 107 f107
  h86 : OkAt P 86 f86
  h58 : OkAt P 58 f58
  h21 : OkAt P 21 f21
theorem e60 {P : Program} (h : JOk P) (xs : List AV) (H : Heap) (K : AV → Heap → Prop) (c : c60 xs H ⟨K⟩) : ACalls Gu P 60 xs H K := okF h.i.e.hm (.consX (e41 Gu5 h.i.e) (.consX (e42 Gu5 h.i.e) (.consX (e44 Gu5 h.i.e) (.consX (e45 Gu5 h.i.e) .nilX)))) h.h60 _ _ _ (c60_of P (K := ⟨K⟩) c)
theorem e59 {P : Program} (h : JOk P) (xs : List AV) (H : Heap) (K : AV → Heap → Prop) (c : c59 xs H ⟨K⟩) : ACalls Gu P 59 xs H K := okF h.i.e.hm (.consX (e60 h) .nilX) h.h59 _ _ _ (c59_of P (K := ⟨K⟩) c)
theorem e107 {P : Program} (h : JOk P) (xs : List AV) (H : Heap) (K : AV → Heap → Prop) (c : c107 xs H ⟨K⟩) : ACalls Gu P 107 xs H K := okC h.i.e.hm (.consX (e59 h) .nilX) h.h107 _ _ _ (c107_of P (K := ⟨K⟩) c)
theorem e86 {P : Program} (h : JOk P) (xs : List AV) (H : Heap) (K : AV → Heap → Prop) (c : c86 xs H ⟨K⟩) : ACalls Gu P 86 xs H K := okF h.i.e.hm (.consX (e107 h) .nilX) h.h86 _ _ _ (c86_of P (K := ⟨K⟩) c)
theorem e58 {P : Program} (h : JOk P) (xs : List AV) (H : Heap) (K : AV → Heap → Prop) (c : c58 xs H ⟨K⟩) : ACalls Gu P 58 xs H K := okF h.i.e.hm (.consX (e86 h) .nilX) h.h58 _ _ _ (c58_of P (K := ⟨K⟩) c)
theorem e21 {P : Program} (h : JOk P) (xs : List AV) (H : Heap) (K : AV → Heap → Prop) (c : c21 xs H ⟨K⟩) : ACalls Gu P 21 xs H K := okC h.i.e.hm (.consX (e53 Gu5 h.i.e) (.consX (e19 h.i) (.consX (e58 h) .nilX))) h.h21 _ _ _ (c21_of P (K := ⟨K⟩) c)
end Go.AL.Fun
