/- The provider: law 4's table holds. -/
import Derived.Test.YtpeaphpibnikcaaV17
import Derived.Test.YtpeaphpibnikcaaVE
set_option linter.unusedSimpArgs false
set_option linter.unusedVariables false
namespace Go.AL.Fun
open Go Go.AL
section
variable {P : Program} (h : POk P)
include h
theorem okm17 (xs : List AV) (H : Heap) (K : AV → Heap → Prop) (c : m17 xs H ⟨K⟩) : ACalls NG P 17 xs H K := okC h.hm .nilX h.h17 _ _ _ (m17_of P (K := ⟨K⟩) c)
theorem okq7 (xs : List AV) (H : Heap) (K : AV → Heap → Prop) (c : q7 xs H ⟨K⟩) : ACalls NG P 7 xs H K := by
  rcases c with c | c
  · exact oko7 h xs H K c
  · exact okF h.hm (.consX (okm17 h) .nilX) h.h7 _ _ _ (m7_of P c)
theorem okm10 (xs : List AV) (H : Heap) (K : AV → Heap → Prop) (c : c10m xs H ⟨K⟩) : ACalls NG P 10 xs H K :=
  okC h.hm (.consX (m19_ok (ok19 h)) (.consX (m20_ok (ok20 h)) .nilX)) h.h10 _ _ _ (c10m_of P (K := ⟨K⟩) c)
theorem tI_ok : TOk NG P (plainT (tI P).T) := .consX (oko6 h) (.consX (okq7 h) (.consX (ok8 h) (.consX (ok9 h) (.consX (okm10 h) (.consX (ok11 h) (.consX (oks12 h) (.consX (ok13 h 1099511627776) (.consX (ok14 h) .nilX))))))))
end
end Go.AL.Fun
