/- Law 6: its table holds. -/
import Derived.Test.YtpeaphpibnikcaaDoorT17
import Derived.Test.YtpeaphpibnikcaaDoorX6
set_option linter.unusedSimpArgs false
set_option linter.unusedVariables false
namespace Go.AL.Fun
open Go Go.AL Go.Proofs

structure D6 (P : Program) (G : Nat → Option (List AV)) : Prop where
  d : DOk P
  k37 : ∀ xs H K, c37 xs H ⟨K⟩ → ACalls G P 37 xs H K
  h19 : OkAt P 19 f19
  h20 : OkAt P 20 f20
  h21 : OkAt P 21 f21
  h22 : OkAt P 22 f22
  h23 : OkAt P 23 f23
  h38 : OkAt P 38 f38
  h39 : OkAt P 39 f39
  h40 : OkAt P 40 f40
  h41 : OkAt P 41 f41
  h42 : OkAt P 42 f42
  h43 : OkAt P 43 f43
  h48 : OkAt P 48 f48
  h49 : OkAt P 49 f49

section
variable {P : Program} {G : Nat → Option (List AV)} (h : D6 P G)
include h
theorem ok48 (xs : List AV) (H : Heap) (K : AV → Heap → Prop) (c : c48 xs H ⟨K⟩) : ACalls NG P 48 xs H K := okC h.d.hm .nilX h.h48 _ _ _ (c48_of P (K := ⟨K⟩) c)
theorem ok49 (xs : List AV) (H : Heap) (K : AV → Heap → Prop) (c : c49 xs H ⟨K⟩) : ACalls NG P 49 xs H K := okC h.d.hm .nilX h.h49 _ _ _ (c49_of P (K := ⟨K⟩) c)
theorem ok39 : ∀ (N : Nat) (xs : List AV) (H : Heap) (K : AV → Heap → Prop), c39 N xs H ⟨K⟩ → ACalls NG P 39 xs H K
  | 0 => fun xs H K c => by
    obtain ⟨k, s, n, b, it, is, ft, fs, d, _, hw, _⟩ := c
    have := Val.wt_pos (.mk k s n b it is ft fs)
    exact absurd hw (by omega)
  | N + 1 => fun xs H K c => by
    have ih := ok39 N
    exact okC h.d.hm (.consX ih (.consX (ok48 h) (.consX (ok16 h.d) .nilX))) h.h39 _ _ _ (c39_of P (K := ⟨K⟩) c)
theorem ok40 : ∀ (N : Nat) (xs : List AV) (H : Heap) (K : AV → Heap → Prop), c39 N xs H ⟨K⟩ → ACalls NG P 40 xs H K
  | 0 => fun xs H K c => by
    obtain ⟨k, s, n, b, it, is, ft, fs, d, _, hw, _⟩ := c
    have := Val.wt_pos (.mk k s n b it is ft fs)
    exact absurd hw (by omega)
  | N + 1 => fun xs H K c => by
    have ih := ok40 N
    exact okC h.d.hm (.consX ih (.consX (ok49 h) (.consX (ok17 h.d) .nilX))) h.h40 _ _ _ (c40_of P (K := ⟨K⟩) c)
theorem ok21 (xs : List AV) (H : Heap) (K : AV → Heap → Prop) (c : c21 xs H ⟨K⟩) : ACalls NG P 21 xs H K := okC h.d.hm (.consX (ok39 h 1099511627776) (.consX (ok48 h) (.consX (ok16 h.d) .nilX))) h.h21 _ _ _ (c21_of P (K := ⟨K⟩) c)
theorem ok22 (xs : List AV) (H : Heap) (K : AV → Heap → Prop) (c : c22 xs H ⟨K⟩) : ACalls NG P 22 xs H K := okC h.d.hm (.consX (ok40 h 1099511627776) (.consX (ok49 h) (.consX (ok17 h.d) .nilX))) h.h22 _ _ _ (c22_of P (K := ⟨K⟩) c)
theorem ok13g : ∀ (N : Nat) (xs : List AV) (H : Heap) (K : AV → Heap → Prop), c13g N xs H ⟨K⟩ → ACalls G P 13 xs H K
  | 0 => fun xs H K c => by
    obtain ⟨k, s, n, b, it, is, ft, fs, k2, s2, n2, b2, it2, is2, ft2, fs2, _, hw, _⟩ := c
    have := Val.wt_pos (.mk k s n b it is ft fs)
    exact absurd hw (by omega)
  | N + 1 => fun xs H K c => by
    have ih := ok13g N
    exact okC h.d.hm (.consX ih .nilX) h.d.h13 _ _ _ (c13g_of P (K := ⟨K⟩) c)
theorem ok23 : ∀ (N : Nat) (xs : List AV) (H : Heap) (K : AV → Heap → Prop), c23 N xs H ⟨K⟩ → ACalls G P 23 xs H K
  | 0 => fun xs H K c => by
    obtain ⟨k, s, n, b, it, is, ft, fs, k2, s2, n2, b2, it2, is2, ft2, fs2, _, hw, _⟩ := c
    have := Val.wt_pos (.mk k s n b it is ft fs)
    exact absurd hw (by omega)
  | N + 1 => fun xs H K c => by
    have ih := ok23 N
    have i41 : ∀ xs H K, c41 N xs H ⟨K⟩ → ACalls G P 41 xs H K := fun xs H K c => okC h.d.hm (.consX ih .nilX) h.h41 _ _ _ (c41_of P (K := ⟨K⟩) c)
    have i43 : ∀ xs H K, c43 N xs H ⟨K⟩ → ACalls G P 43 xs H K := fun xs H K c => okC h.d.hm (.consX ih .nilX) h.h43 _ _ _ (c43_of P (K := ⟨K⟩) c)
    have i42 : ∀ xs H K, c42 N xs H ⟨K⟩ → ACalls G P 42 xs H K := fun xs H K c => okC h.d.hm (.consX i43 .nilX) h.h42 _ _ _ (c42_of P (K := ⟨K⟩) c)
    exact okC h.d.hm (.consX i41 (.consX i42 .nilX)) h.h23 _ _ _ (c23_of P (K := ⟨K⟩) c)
theorem ok38 (xs : List AV) (H : Heap) (K : AV → Heap → Prop) (c : c38 xs H ⟨K⟩) : ACalls G P 38 xs H K := okC h.d.hm .nilX h.h38 _ _ _ (c38_of P (K := ⟨K⟩) c)
theorem ok19 (xs : List AV) (H : Heap) (K : AV → Heap → Prop) (c : c19 xs H ⟨K⟩) : ACalls G P 19 xs H K := okC h.d.hm (.consX h.k37 .nilX) h.h19 _ _ _ (c19_of P (K := ⟨K⟩) c)
theorem ok20 (xs : List AV) (H : Heap) (K : AV → Heap → Prop) (c : c20 xs H ⟨K⟩) : ACalls G P 20 xs H K := okC h.d.hm (.consX (ok38 h) .nilX) h.h20 _ _ _ (c20_of P (K := ⟨K⟩) c)
theorem tE_ok : TOk G P (plainT tE) := .consX (fun xs H K c => (ok9 h.d xs H K c).tabs) (.consX (fun xs H K c => (ok10 h.d xs H K c).tabs) (.consX (ok13g h 1099511627776) (.consX (ok19 h) (.consX (ok20 h) (.consX (fun xs H K c => (ok21 h xs H K c).tabs) (.consX (fun xs H K c => (ok22 h xs H K c).tabs) (.consX (ok23 h 1099511627776) .nilX)))))))
end
end Go.AL.Fun
