/- The table of the decoder's functions. Printed by gf12d.py. -/
import Derived.Test.YtcmgeflfapffoaaDoorFL10w
set_option linter.unusedSimpArgs false
set_option linter.unusedVariables false
namespace Go.AL
theorem ACalls.monoG {P : Program} {G G' : Nat → Option (List AV)} (hG : ∀ g cs, G g = some cs → G' g = some cs) {f : Nat} {xs : List AV} {H : Heap} {K : AV → Heap → Prop} (h : ACalls G P f xs H K) : ACalls G' P f xs H K :=
  ⟨h.1, fun B w0 m w cargs hs hr => (h.2 B w0 m w cargs ⟨hs.below, hs.base, hs.cell, hs.size, hs.nodup, hs.obj, fun g cs hg => hs.glob g cs (hG g cs hg)⟩ hr).mono fun _ _ ⟨v, cv, m', H', e1, e2, e3, e4, e5⟩ =>
    ⟨v, cv, m', H', e1, e2, ⟨e3.below, e3.base, e3.cell, e3.size, e3.nodup, e3.obj, fun g cs hg => ⟨(hs.glob g cs hg).1, (hs.glob g cs hg).2.mono e2⟩⟩, e4, e5⟩⟩
end Go.AL
namespace Go.AL.Fun
open Go Go.AL Go.Proofs

theorem Gu_Gd : ∀ g cs, Gu g = some cs → Gd g = some cs := by
  intro g cs h
  match g, h with
  | 2, h => exact h
  | 3, h => exact h
  | 0, h => cases h
  | 1, h => cases h
  | n + 4, h => cases h
theorem Gh_Gd : ∀ g cs, Gh g = some cs → Gd g = some cs := by
  intro g cs h
  match g, h with
  | 5, h => exact h
  | 0, h => cases h
  | 1, h => cases h
  | 2, h => cases h
  | 3, h => cases h
  | 4, h => cases h
  | n + 6, h => cases h
/-- What is wanted of a program. -/
structure DOkP (P : Program) : Prop where
  hm : P.follows .mixedOrders = true
  k54 : ∀ (G : Nat → Option (List AV)) xs H K, c37 xs H ⟨K⟩ → ACalls G P 54 xs H K
  k12 : ∀ xs H K, d12 xs H ⟨K⟩ → ACalls Gh P 12 xs H K
  h73 : OkAt P 73 f73
  h63 : OkAt P 63 f63
  h64 : OkAt P 64 f64
  h57 : OkAt P 57 f57
  h53 : OkAt P 53 f53
  h52 : OkAt P 52 f52
  h56 : OkAt P 56 f56
  h51 : OkAt P 51 f51
  h49 : OkAt P 49 f49
  h46 : OkAt P 46 f46
  h45 : OkAt P 45 f45
  h40 : OkAt P 40 f40
  h29 : OkAt P 29 f29
  h38 : OkAt P 38 f38
  h32 : OkAt P 32 f32
  h31 : OkAt P 31 f31
  h30 : OkAt P 30 f30
  h33 : OkAt P 33 f33
  h28 : OkAt P 28 f28
  h27 : OkAt P 27 f27
  h26 : OkAt P 26 f26
theorem p73 {P : Program} (h : DOkP P) (xs : List AV) (H : Heap) (K : AV → Heap → Prop) (c : c55 xs H ⟨K⟩) : ACalls Gu P 73 xs H K := okC h.hm .nilX h.h73 _ _ _ (c55_of P (K := ⟨K⟩) c)
theorem p63 {P : Program} (h : DOkP P) (xs : List AV) (H : Heap) (K : AV → Heap → Prop) (c : c46 xs H ⟨K⟩) : ACalls Gu P 63 xs H K := okC h.hm (.consX (p73 h) .nilX) h.h63 _ _ _ (c46_of P (K := ⟨K⟩) c)
theorem p64 {P : Program} {G : Nat → Option (List AV)} (h : DOkP P) (xs : List AV) (H : Heap) (K : AV → Heap → Prop) (c : c47 xs H ⟨K⟩) : ACalls G P 64 xs H K := okF h.hm .nilX h.h64 _ _ _ (c47_of P (K := ⟨K⟩) c)
theorem p57 {P : Program} {G : Nat → Option (List AV)} (h : DOkP P) (xs : List AV) (H : Heap) (K : AV → Heap → Prop) (c : c43 xs H ⟨K⟩) : ACalls G P 57 xs H K := okC h.hm (.consX (h.k54 G) (.consX (p64 h) .nilX)) h.h57 _ _ _ (c43_of P (K := ⟨K⟩) c)
theorem p53 {P : Program} {G : Nat → Option (List AV)} (h : DOkP P) (xs : List AV) (H : Heap) (K : AV → Heap → Prop) (c : c36 xs H ⟨K⟩) : ACalls G P 53 xs H K := okF h.hm (.consX (p57 h) .nilX) h.h53 _ _ _ (c36_of P (K := ⟨K⟩) c)
theorem p52 {P : Program} {G : Nat → Option (List AV)} (h : DOkP P) (xs : List AV) (H : Heap) (K : AV → Heap → Prop) (c : c35 xs H ⟨K⟩) : ACalls G P 52 xs H K := okF h.hm (.consX (p53 h) .nilX) h.h52 _ _ _ (c35_of P (K := ⟨K⟩) c)
theorem p56 {P : Program} (h : DOkP P) (xs : List AV) (H : Heap) (K : AV → Heap → Prop) (c : c42 xs H ⟨K⟩) : ACalls Gu P 56 xs H K := okC h.hm (.consX (p63 h) (.consX (p52 h) .nilX)) h.h56 _ _ _ (c42_of P (K := ⟨K⟩) c)
theorem p51 {P : Program} (h : DOkP P) (xs : List AV) (H : Heap) (K : AV → Heap → Prop) (c : c34 xs H ⟨K⟩) : ACalls Gu P 51 xs H K := okF h.hm (.consX (p56 h) .nilX) h.h51 _ _ _ (c34_of P (K := ⟨K⟩) c)
theorem p49 {P : Program} (h : DOkP P) (xs : List AV) (H : Heap) (K : AV → Heap → Prop) (c : c27 xs H ⟨K⟩) : ACalls Gu P 49 xs H K := okC h.hm (.consX (p51 h) (.consX (h.k54 Gu) .nilX)) h.h49 _ _ _ (c27_of P (K := ⟨K⟩) c)
theorem p46 {P : Program} {G : Nat → Option (List AV)} (h : DOkP P) (xs : List AV) (H : Heap) (K : AV → Heap → Prop) (c : c40 xs H ⟨K⟩) : ACalls G P 46 xs H K := okC h.hm .nilX h.h46 _ _ _ (c40_of P (K := ⟨K⟩) c)
theorem p45 {P : Program} (h : DOkP P) (xs : List AV) (H : Heap) (K : AV → Heap → Prop) (c : c39 xs H ⟨K⟩) : ACalls Gu P 45 xs H K := okC h.hm (.consX (p49 h) .nilX) h.h45 _ _ _ (c39_of P (K := ⟨K⟩) c)
theorem p40 {P : Program} (h : DOkP P) (xs : List AV) (H : Heap) (K : AV → Heap → Prop) (c : c29 xs H ⟨K⟩) : ACalls Gu P 40 xs H K := okC h.hm (.consX (p45 h) (.consX (p46 h) .nilX)) h.h40 _ _ _ (c29_of P (K := ⟨K⟩) c)
theorem p29 {P : Program} (h : DOkP P) (xs : List AV) (H : Heap) (K : AV → Heap → Prop) (c : c14 xs H ⟨K⟩) : ACalls Gu P 29 xs H K := okC h.hm (.consX (p40 h) .nilX) h.h29 _ _ _ (c14_of P (K := ⟨K⟩) c)
theorem p38 {P : Program} {G : Nat → Option (List AV)} (h : DOkP P) (xs : List AV) (H : Heap) (K : AV → Heap → Prop) (c : c30 xs H ⟨K⟩) : ACalls G P 38 xs H K := okC h.hm .nilX h.h38 _ _ _ (c30_of P (K := ⟨K⟩) c)
theorem p32 {P : Program} {G : Nat → Option (List AV)} (h : DOkP P) (xs : List AV) (H : Heap) (K : AV → Heap → Prop) (c : c15 xs H ⟨K⟩) : ACalls G P 32 xs H K := okC h.hm (.consX (p38 h) .nilX) h.h32 _ _ _ (c15_of P (K := ⟨K⟩) c)
theorem p31 {P : Program} {G : Nat → Option (List AV)} (h : DOkP P) (xs : List AV) (H : Heap) (K : AV → Heap → Prop) (c : c17 xs H ⟨K⟩) : ACalls G P 31 xs H K := okC h.hm .nilX h.h31 _ _ _ (c17_of P (K := ⟨K⟩) c)
theorem p30 {P : Program} {G : Nat → Option (List AV)} (h : DOkP P) (xs : List AV) (H : Heap) (K : AV → Heap → Prop) (c : c18 xs H ⟨K⟩) : ACalls G P 30 xs H K := okC h.hm .nilX h.h30 _ _ _ (c18_of P (K := ⟨K⟩) c)
theorem p33 {P : Program} {G : Nat → Option (List AV)} (h : DOkP P) (xs : List AV) (H : Heap) (K : AV → Heap → Prop) (c : c19 xs H ⟨K⟩) : ACalls G P 33 xs H K := okC h.hm .nilX h.h33 _ _ _ (c19_of P (K := ⟨K⟩) c)
theorem p28 {P : Program} {G : Nat → Option (List AV)} (h : DOkP P) (xs : List AV) (H : Heap) (K : AV → Heap → Prop) (c : c20 xs H ⟨K⟩) : ACalls G P 28 xs H K := okC h.hm .nilX h.h28 _ _ _ (c20_of P (K := ⟨K⟩) c)
theorem p27 {P : Program} (h : DOkP P) (xs : List AV) (H : Heap) (K : AV → Heap → Prop) (c : c12 xs H ⟨K⟩) : ACalls Gu P 27 xs H K := okC h.hm (.consX (p29 h) (.consX (p30 h) (.consX (p28 h) .nilX))) h.h27 _ _ _ (c12_of P (K := ⟨K⟩) c)
theorem p26 {P : Program} (h : DOkP P) (xs : List AV) (H : Heap) (K : AV → Heap → Prop) (c : c11 xs H ⟨K⟩) : ACalls Gu P 26 xs H K := okC h.hm (.consX (p27 h) .nilX) h.h26 _ _ _ (c11_of P (K := ⟨K⟩) c)
theorem tD_ok {P : Program} (h : DOkP P) : TOk Gd P (plainT tD) := .consX (fun xs H K c => (p26 h xs H K c).monoG Gu_Gd) (.consX (fun xs H K c => (p27 h xs H K c).monoG Gu_Gd) (.consX (fun xs H K c => (h.k12 xs H K c).monoG Gh_Gd) (.consX (p28 h) (.consX (fun xs H K c => (p29 h xs H K c).monoG Gu_Gd) (.consX (p30 h) (.consX (p31 h) (.consX (p32 h) (.consX (p33 h) .nilX))))))))
end Go.AL.Fun
