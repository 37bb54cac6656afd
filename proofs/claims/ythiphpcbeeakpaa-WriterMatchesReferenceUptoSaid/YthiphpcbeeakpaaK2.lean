/- Lists of byte slices, read. -/
import Derived.Test.YthiphpcbeeakpaaK1
import Derived.Test.YthiphpcbeeakpaaW2
namespace Go.AL
open Go.AL.Fun
theorem slv_bb {xs : List AV} {n : Nat} (h : SlV false 1 (fun avs n => ∃ xs tok m, avs = [.sl xs tok] ∧ ((tok = .nil ∧ xs = []) ∨ tok = .no) ∧ SlV false 1 (fun avs b => 1 ≤ b ∧ ∃ n, avs = [.int .u8 n] ∧ (Lit.int .u8 n).wf = true) xs m ∧ m + 1 ≤ n) xs n) :
    ∃ l : List (List UInt8 × Tok), xs = bbAV l ∧ bbSum l + l.length ≤ n := by
  induction h with
  | nil => exact ⟨[], rfl, Nat.le_refl _⟩
  | one avs x b xs n hv hg _ _ _ ih =>
    obtain ⟨ys, tok, m, rfl, _, h2, h3⟩ := hv
    obtain ⟨l, rfl, h4⟩ := ih
    simp only [Bool.false_eq_true, if_false, List.cons.injEq, and_true] at hg
    subst hg
    have h5 := slv_len (fun _ _ h => h.1) h2
    obtain ⟨bs, rfl⟩ := slv_bytes h2
    rw [by_len] at h5
    refine ⟨(bs, tok) :: l, rfl, ?_⟩
    simp only [bbSum, List.map_cons, List.sum_cons, List.length_cons] at h4 ⊢
    omega
end Go.AL
