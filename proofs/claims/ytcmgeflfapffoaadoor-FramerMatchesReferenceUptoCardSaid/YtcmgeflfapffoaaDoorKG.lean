/- Lists of acts, read. -/
import Derived.Test.YtcmgeflfapffoaaDoorKF
import Derived.Test.YtcmgeflfapffoaaDoorFL6w
namespace Go.AL
open Go.AL.Fun
abbrev VI : List AV → Nat → Prop := fun avs b => 1 ≤ b ∧ ∃ n, avs = [.int .i64 n] ∧ (Lit.int .i64 n).wf = true
abbrev VB : List AV → Nat → Prop := fun avs n => ∃ xs tok m, avs = [.sl xs tok] ∧ ((tok = .nil ∧ xs = []) ∨ tok = .no) ∧ SlV false 1 (fun avs b => 1 ≤ b ∧ ∃ n, avs = [.int .u8 n] ∧ (Lit.int .u8 n).wf = true) xs m ∧ m + 1 ≤ n
abbrev VA : List AV → Nat → Prop := fun avs n => ∃ m, StV [VI, VB, VI] avs m ∧ m ≤ n
theorem va_act {avs : List AV} {n : Nat} (h : VA avs n) : ∃ a : Fun.Act, avs = [.int .i64 a.kind, .sl (bytesAV a.b) a.tok, .int .i64 a.n] ∧ a.b.length + 1 ≤ n ∧ -9223372036854775808 ≤ a.n ∧ a.n < 9223372036854775808 := by
  obtain ⟨m, ⟨a, r, m1, k1, rfl, ⟨h1, k, rfl, w1⟩, ⟨b, r2, m2, k2, rfl, ⟨xs, tok, m3, rfl, _, h3, h4⟩, ⟨c, r3, m5, k3, rfl, ⟨h6, z, rfl, w2⟩, h7, h8⟩, h9⟩, h10⟩, h11⟩ := h
  cases h7
  have h5 := slv_len (fun _ _ h => h.1) h3
  obtain ⟨bs, rfl⟩ := slv_bytes h3
  rw [by_len] at h5
  obtain ⟨lo, hi⟩ := Go.bounds_i64 w2
  exact ⟨⟨k, bs, tok, z⟩, rfl, by show bs.length + 1 ≤ n; omega, lo, by show z < _; omega⟩
theorem slv_acts {xs : List AV} {n : Nat} (h : SlV true 3 VA xs n) : ∃ l : List Fun.Act, xs = actsAV l ∧ actSum l + l.length ≤ n ∧ ∀ a ∈ l, -9223372036854775808 ≤ a.n ∧ a.n < 9223372036854775808 := by
  induction h with
  | nil => exact ⟨[], rfl, Nat.le_refl _, by simp⟩
  | one avs x b xs n hv hg _ _ _ ih =>
    obtain ⟨a, rfl, h1, h2⟩ := va_act hv
    obtain ⟨l, rfl, h4, h5⟩ := ih
    simp only [if_true] at hg
    subst hg
    refine ⟨a :: l, rfl, ?_, ?_⟩
    · simp only [actSum, List.map_cons, List.sum_cons, List.length_cons] at h4 ⊢; omega
    · intro c hc
      rcases List.mem_cons.1 hc with rfl | hc
      · exact h2
      · exact h5 c hc
end Go.AL
