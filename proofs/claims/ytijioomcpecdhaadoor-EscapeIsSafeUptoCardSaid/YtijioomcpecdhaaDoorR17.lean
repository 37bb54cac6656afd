/- ValidString walked. -/
import Derived.Test.YtijioomcpecdhaaDoorR16
set_option linter.unusedSimpArgs false
set_option linter.unusedVariables false
set_option maxRecDepth 100000
set_option maxHeartbeats 4000000
namespace Go.AL.Fun
open Go Go.AL

theorem valid_lo {c : UInt8} {r : List UInt8} (h : c.toNat < 128) : validP (c :: r) = validP r := by
  have e : fst (c :: r) = (1, false) := by rw [fst, if_pos h]
  rw [validP_step (by simp), e]
  simp
theorem valid_skip : ∀ (n : Nat) (t : List UInt8), n ≤ t.length → (∀ x ∈ t.take n, x.toNat < 128) → validP (t.drop n) = validP t
  | 0, t, _, _ => rfl
  | n + 1, [], h, _ => by simp at h
  | n + 1, c :: r, h, hx => by
    rw [valid_lo (hx c (by simp)), List.drop_succ_cons]
    exact valid_skip n r (by simpa using h) (fun x hm => hx x (by simp [hm]))
theorem wordL_skip {t : List UInt8} (h : 8 ≤ t.length) (hw : wordL t &&& M80 = 0) : validP (t.drop 8) = validP t := by
  refine valid_skip 8 t h ?_
  rcases t with _ | ⟨a, _ | ⟨b, _ | ⟨c, _ | ⟨d, _ | ⟨e, _ | ⟨f, _ | ⟨g, _ | ⟨i, r⟩⟩⟩⟩⟩⟩⟩⟩
  all_goals first | (simp only [List.length_cons, List.length_nil] at h; omega) | skip
  have k := word_ok a.toNat_lt b.toNat_lt c.toNat_lt d.toNat_lt e.toNat_lt f.toNat_lt g.toNat_lt i.toNat_lt
  have hw' : wordN a.toNat b.toNat c.toNat d.toNat e.toNat f.toNat g.toNat i.toNat &&& M80 = 0 := hw
  rw [k] at hw'
  obtain ⟨⟨⟨⟨⟨⟨⟨k0, k1⟩, k2⟩, k3⟩, k4⟩, k5⟩, k6⟩, k7⟩ := hw'
  intro x hx
  simp only [List.take_succ_cons, List.take_zero, List.mem_cons, List.not_mem_nil, or_false] at hx
  rcases hx with rfl | rfl | rfl | rfl | rfl | rfl | rfl | rfl <;> assumption
theorem wordL_lt (t : List UInt8) : wordL t < 18446744073709551616 := by
  have sh : ∀ (b : UInt8) (k : Nat), k ≤ 56 → b.toNat <<< k < 18446744073709551616 := fun b k hk => (shb k hk b).2
  unfold wordL wordN
  exact orS (orS (orS (orS (orS (orS (orS (by have := (t[0]?.getD 0).toNat_lt; omega) (sh _ 8 (by decide))) (sh _ 16 (by decide))) (sh _ 24 (by decide))) (sh _ 32 (by decide))) (sh _ 40 (by decide))) (sh _ 48 (by decide))) (sh _ 56 (by decide))
theorem x_c83 {s : List UInt8} {H : Heap} {K : Kv} (h : 8 ≤ s.length) (k : K.ap (.int .u64 (wordL s)) H) : c83 [.str s] H K := ⟨s, rfl, h, k⟩
end Go.AL.Fun
