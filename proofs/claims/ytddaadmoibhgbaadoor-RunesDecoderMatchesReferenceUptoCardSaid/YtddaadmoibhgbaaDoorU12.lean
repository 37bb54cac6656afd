/- The laws, and the table of the functions. -/
import Derived.Test.YtddaadmoibhgbaaDoorU13
set_option linter.unusedSimpArgs false
set_option linter.unusedVariables false
set_option maxRecDepth 100000
set_option maxHeartbeats 4000000
namespace Go.AL.Fun
open Go Go.AL Go.Proofs

structure UOk (P : Program) : Prop where
  mx : P.follows .mixedOrders = true
  k31 : ∀ xs H K, c31 xs H ⟨K⟩ → ACalls Gu P 31 xs H K
  o9 : compF P 9 f9.body.hints = some f9
  o10 : compF P 10 f10.body.hints = some f10
  o11 : compF P 11 f11.body.hints = some f11
  o12 : compF P 12 f12.body.hints = some f12
  o13 : compF P 13 f13.body.hints = some f13
  o14 : compF P 14 f14.body.hints = some f14
  o17 : compF P 17 f17.body.hints = some f17
  o18 : compF P 18 f18.body.hints = some f18
  o19 : compF P 19 f19.body.hints = some f19
  o20 : compF P 20 f20.body.hints = some f20
  o22 : compF P 22 f22.body.hints = some f22
  o23 : compF P 23 f23.body.hints = some f23
  o24 : compF P 24 f24.body.hints = some f24
  o25 : compF P 25 f25.body.hints = some f25
  o26 : compF P 26 f26.body.hints = some f26
  o27 : compF P 27 f27.body.hints = some f27
  o28 : compF P 28 f28.body.hints = some f28
  o29 : compF P 29 f29.body.hints = some f29
  o32 : compF P 32 f32.body.hints = some f32
  o33 : compF P 33 f33.body.hints = some f33
variable {P : Program}
theorem k26 (u : UOk P) : ∀ xs H K, c26 xs H ⟨K⟩ → ACalls Gu P 26 xs H K := fun xs H K h => okC u.mx .nilX u.o26 xs H K (c26_of P (K := ⟨K⟩) h)
theorem k29 (u : UOk P) : ∀ xs H K, c29 xs H ⟨K⟩ → ACalls Gu P 29 xs H K := fun xs H K h => okF u.mx .nilX u.o29 xs H K (c29_of P (K := ⟨K⟩) h)
theorem k28 (u : UOk P) : ∀ xs H K, c28 xs H ⟨K⟩ → ACalls Gu P 28 xs H K := fun xs H K h => okC u.mx .nilX u.o28 xs H K (c28_of P (K := ⟨K⟩) h)
theorem k22 (u : UOk P) : ∀ xs H K, c22 xs H ⟨K⟩ → ACalls Gu P 22 xs H K := fun xs H K h => okC u.mx (.consX (k26 u) .nilX) u.o22 xs H K (c22_of P (K := ⟨K⟩) h)
theorem k20 (u : UOk P) : ∀ xs H K, c20 xs H ⟨K⟩ → ACalls Gu P 20 xs H K := fun xs H K h => okW u.mx (.consX (k26 u) (.consX (k29 u) .nilX)) u.o20 xs H K (c20_of P (K := ⟨K⟩) h)
theorem k33 (u : UOk P) : ∀ xs H K, c33 xs H ⟨K⟩ → ACalls Gu P 33 xs H K := fun xs H K h => okC u.mx .nilX u.o33 xs H K (c33_of P (K := ⟨K⟩) h.1 h.2)
theorem k27 (u : UOk P) : ∀ xs H K, c27 xs H ⟨K⟩ → ACalls Gu P 27 xs H K := fun xs H K h => okC u.mx (.consX (k33 u) .nilX) u.o27 xs H K (c27_of P (K := ⟨K⟩) h)
theorem k19 (u : UOk P) : ∀ xs H K, c19 xs H ⟨K⟩ → ACalls Gu P 19 xs H K := fun xs H K h => okC u.mx (.consX (k28 u) .nilX) u.o19 xs H K (c19_of P (K := ⟨K⟩) h)
theorem k18 (u : UOk P) : ∀ xs H K, c18 xs H ⟨K⟩ → ACalls Gu P 18 xs H K := fun xs H K h => okC u.mx (.consX (k27 u) .nilX) u.o18 xs H K (c18_of P (K := ⟨K⟩) h)
theorem k17 (u : UOk P) : ∀ xs H K, c17 xs H ⟨K⟩ → ACalls Gu P 17 xs H K := fun xs H K h => okC u.mx .nilX u.o17 xs H K (c17_of P (K := ⟨K⟩) h)
theorem k14 (u : UOk P) : ∀ xs H K, c14 xs H ⟨K⟩ → ACalls Gu P 14 xs H K := fun xs H K h => okC u.mx .nilX u.o14 xs H K (c14_of P (K := ⟨K⟩) h)
theorem k23 (u : UOk P) : ∀ xs H K, c23 xs H ⟨K⟩ → ACalls Gu P 23 xs H K := fun xs H K h => okW u.mx (.consX u.k31 .nilX) u.o23 xs H K (c23_of P (K := ⟨K⟩) h)
theorem k24 (u : UOk P) : ∀ xs H K, c24 xs H ⟨K⟩ → ACalls Gu P 24 xs H K := fun xs H K h => okC u.mx .nilX u.o24 xs H K (c24_of P (K := ⟨K⟩) h)
theorem k32 (u : UOk P) : ∀ xs H K, c32 xs H ⟨K⟩ → ACalls Gu P 32 xs H K := fun xs H K h => okC u.mx .nilX u.o32 xs H K (c32_of P (K := ⟨K⟩) h)
theorem k25 (u : UOk P) : ∀ xs H K, c25 xs H ⟨K⟩ → ACalls Gu P 25 xs H K := fun xs H K h => okC u.mx (.consX (k32 u) .nilX) u.o25 xs H K (c25_of P (K := ⟨K⟩) h)
theorem k9 (u : UOk P) : ∀ xs H K, c9 xs H ⟨K⟩ → ACalls Gu P 9 xs H K := fun xs H K h => okW u.mx (.consX (k23 u) (.consX (k24 u) (.consX (k25 u) .nilX))) u.o9 xs H K (c9_of P (K := ⟨K⟩) h)
theorem k10 (u : UOk P) : ∀ xs H K, c10 xs H ⟨K⟩ → ACalls Gu P 10 xs H K := fun xs H K h => okC u.mx (.consX (k17 u) .nilX) u.o10 xs H K (c10_of P (K := ⟨K⟩) h)
theorem k11 (u : UOk P) : ∀ xs H K, c11 xs H ⟨K⟩ → ACalls Gu P 11 xs H K := fun xs H K h => okC u.mx .nilX u.o11 xs H K (c11_of P (K := ⟨K⟩) h)
theorem k13 (u : UOk P) : ∀ xs H K, c13 xs H ⟨K⟩ → ACalls Gu P 13 xs H K := fun xs H K h => okC u.mx .nilX u.o13 xs H K (c13_of P (K := ⟨K⟩) h)
theorem k12 (u : UOk P) : ∀ xs H K, c12 xs H ⟨K⟩ → ACalls Gu P 12 xs H K := fun xs H K h => okC u.mx (.consX (k17 u) (.consX (k13 u) (.consX (k9 u) (.consX (k11 u) .nilX)))) u.o12 xs H K (c12_of P (K := ⟨K⟩) h)
theorem tA_ok (u : UOk P) : TOk Gu P (plainT tA) := .consX (k12 u) (.consX (k14 u) (.consX (k17 u) (.consX (k18 u) (.consX (k19 u) (.consX (k20 u) (.consX (k22 u) (.consX (k9 u) (.consX (k10 u) (.consX (k11 u) (.consX (k13 u) .nilX))))))))))
end Go.AL.Fun
