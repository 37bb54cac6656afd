/- Bytes and letters; what the texts of the reference's lexer and parser build on. -/
import Derived.Test.YthphaolkihageaaB3
import Derived.Test.YthphaolkihageaaF1
set_option linter.unusedSimpArgs false
set_option linter.unusedVariables false
set_option maxRecDepth 100000
namespace Go.AL.Fun
open Go Go.AL

def n8 (b : UInt8) : Int := (b.toNat : Int)
theorem n8_lt (b : UInt8) : 0 ≤ n8 b ∧ n8 b < 256 := by have := b.toNat_lt; unfold n8; omega
def letB (b : UInt8) : Bool := decide (97 ≤ n8 b ∧ n8 b ≤ 122 ∨ 65 ≤ n8 b ∧ n8 b ≤ 90)
theorem n8_inj {b : UInt8} {k : UInt8} (h : n8 b = n8 k) : b = k := by
  unfold n8 at h; exact UInt8.toNat_inj.1 (by omega)
@[reducible] def t0 (P : Program) : Th := ⟨fun _ => none, P, []⟩
theorem byteAV_n8 (b : UInt8) : byteAV b = .int .u8 (n8 b) := rfl
theorem n8_eq {b c : UInt8} : n8 b = n8 c ↔ b = c := ⟨n8_inj, fun h => by rw [h]⟩
theorem of_n8 (b : UInt8) : UInt8.ofNat (n8 b).toNat = b := by unfold n8; simp
theorem hle2 {H : Heap} {x y : Nat × AObj} : Hle H (x :: y :: H) := .of_sub (.cons _ (.cons _ (.refl _)))
theorem hle3 {H : Heap} {x y z : Nat × AObj} : Hle H (x :: y :: z :: H) := .of_sub (.cons _ (.cons _ (.cons _ (.refl _))))
theorem nk1 {p q : Nat} {x : AObj} {H : Heap} (h : q ∉ Heap.keys ((p, x) :: H)) : ¬ q = p ∧ ¬ q ∈ Heap.keys H := by simpa [Heap.keys] using h
theorem nk2 {p q r : Nat} {x y : AObj} {H : Heap} (h : r ∉ Heap.keys ((q, y) :: (p, x) :: H)) : ¬ r = q ∧ ¬ r = p ∧ ¬ r ∈ Heap.keys H := by simpa [Heap.keys] using h
theorem nk3 {p q r u : Nat} {x y z : AObj} {H : Heap} (h : u ∉ Heap.keys ((r, z) :: (q, y) :: (p, x) :: H)) : ¬ u = r ∧ ¬ u = q ∧ ¬ u = p ∧ ¬ u ∈ Heap.keys H := by simpa [Heap.keys] using h
theorem n8q (b k : UInt8) (n : Int) (h : n8 k = n) : (b = k) = (n8 b = n) := by subst h; exact propext ⟨fun h => by rw [h], fun h => n8_inj h⟩
end Go.AL.Fun
