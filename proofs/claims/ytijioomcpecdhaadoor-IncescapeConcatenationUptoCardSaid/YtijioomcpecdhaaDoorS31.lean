/- The table of what the last law of the incremental escaper calls. -/
import Derived.Test.YtijioomcpecdhaaDoorLW14
set_option linter.unusedSimpArgs false
set_option linter.unusedVariables false
namespace Go.AL.Fun
open Go Go.AL Go.Proofs

/-- What is wanted of a program. -/
structure VOk (P : Program) : Prop where
  i : IOk P
  h38 : OkAt P 38 f38
  a69 : ∀ xs H K, c69 xs H ⟨K⟩ → ACalls Gu P 69 xs H K
  a70 : ∀ xs H K, c70 xs H ⟨K⟩ → ACalls Gu P 70 xs H K
  a54 : ∀ xs H K, c54g xs H ⟨K⟩ → ACalls Gu P 54 xs H K
  a71 : ∀ xs H K, c71 xs H ⟨K⟩ → ACalls Gu P 71 xs H K
  a72 : ∀ xs H K, c72 xs H ⟨K⟩ → ACalls Gu P 72 xs H K
  a55 : ∀ xs H K, c55g xs H ⟨K⟩ → ACalls Gu P 55 xs H K
theorem e38 {P : Program} (h : VOk P) (xs : List AV) (H : Heap) (K : AV → Heap → Prop) (c : c38 xs H ⟨K⟩) : ACalls Gu P 38 xs H K := okC h.i.e.hm (.consX h.a69 (.consX h.a70 (.consX h.a54 (.consX h.a71 (.consX h.a72 (.consX h.a55 .nilX)))))) h.h38 _ _ _ (c38_of P (K := ⟨K⟩) c)
theorem t14_ok {P : Program} (v : VOk P) : TOk Gu P (plainT t14) := .consX (e38 v) (.consX (e18 Gu5 v.i.e) (.consX (e25 v.i) (.consX (e26 v.i) (.consX (e27 v.i) (.consX (e28 v.i) (.consX (e29 v.i) (.consX (e30 v.i) (.consX (e31 v.i) .nilX))))))))
end Go.AL.Fun
