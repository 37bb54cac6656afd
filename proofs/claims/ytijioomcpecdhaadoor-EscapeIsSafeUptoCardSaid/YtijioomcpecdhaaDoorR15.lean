/- Eight bytes as one word: is each below 128? -/
import Derived.Test.YtijioomcpecdhaaDoorS17
set_option maxRecDepth 100000
namespace Go.AL.Fun
def M80 : Nat := 9259542123273814144
theorem hi_bitf : ∀ (k : Fin 8) (b : Fin 256), ((b.val <<< (8 * k.val)) &&& M80 = 0) = (b.val < 128) := by decide +kernel
theorem hi_bit (k b : Nat) (hk : k < 8) (hb : b < 256) : ((b <<< (8 * k)) &&& M80 = 0) = (b < 128) := hi_bitf ⟨k, hk⟩ ⟨b, hb⟩
theorem or_m (a b : Nat) : ((a ||| b) &&& M80 = 0) = ((a &&& M80 = 0) ∧ (b &&& M80 = 0)) := by
  rw [Nat.and_or_distrib_right]
  exact propext ⟨fun h => ⟨by have := Nat.or_eq_zero_iff.1 h; exact this.1, (Nat.or_eq_zero_iff.1 h).2⟩, fun h => Nat.or_eq_zero_iff.2 h⟩
def wordN (b0 b1 b2 b3 b4 b5 b6 b7 : Nat) : Nat := ((((((b0 ||| b1 <<< 8) ||| b2 <<< 16) ||| b3 <<< 24) ||| b4 <<< 32) ||| b5 <<< 40) ||| b6 <<< 48) ||| b7 <<< 56
theorem word_ok {b0 b1 b2 b3 b4 b5 b6 b7 : Nat} (h0 : b0 < 256) (h1 : b1 < 256) (h2 : b2 < 256) (h3 : b3 < 256) (h4 : b4 < 256) (h5 : b5 < 256) (h6 : b6 < 256) (h7 : b7 < 256) :
    (wordN b0 b1 b2 b3 b4 b5 b6 b7 &&& M80 = 0) = (((((((b0 < 128 ∧ b1 < 128) ∧ b2 < 128) ∧ b3 < 128) ∧ b4 < 128) ∧ b5 < 128) ∧ b6 < 128) ∧ b7 < 128) := by
  unfold wordN
  rw [or_m, or_m, or_m, or_m, or_m, or_m, or_m]
  have e0 := hi_bit 0 b0 (by decide) h0
  have e1 := hi_bit 1 b1 (by decide) h1
  have e2 := hi_bit 2 b2 (by decide) h2
  have e3 := hi_bit 3 b3 (by decide) h3
  have e4 := hi_bit 4 b4 (by decide) h4
  have e5 := hi_bit 5 b5 (by decide) h5
  have e6 := hi_bit 6 b6 (by decide) h6
  have e7 := hi_bit 7 b7 (by decide) h7
  simp only [Nat.mul_zero, Nat.shiftLeft_zero] at e0
  rw [e0, show b1 <<< 8 = b1 <<< (8 * 1) from rfl, e1, show b2 <<< 16 = b2 <<< (8 * 2) from rfl, e2, show b3 <<< 24 = b3 <<< (8 * 3) from rfl, e3, show b4 <<< 32 = b4 <<< (8 * 4) from rfl, e4, show b5 <<< 40 = b5 <<< (8 * 5) from rfl, e5, show b6 <<< 48 = b6 <<< (8 * 6) from rfl, e6, show b7 <<< 56 = b7 <<< (8 * 7) from rfl, e7]
end Go.AL.Fun
