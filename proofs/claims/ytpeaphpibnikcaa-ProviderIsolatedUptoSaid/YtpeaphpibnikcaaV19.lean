/- Cells of a list of wide elements. -/
import Derived.Test.YtpeaphpibnikcaaV18
set_option linter.unusedSimpArgs false
set_option linter.unusedVariables false
namespace Go.AL.Fun
open Go Go.AL

theorem flat_get {sz : Nat} : ∀ {xs : List AV} (_ : AllSz sz xs) {i : Nat} {x : AV} (_ : xs[i]? = some x), ((flat xs).drop (i * sz)).take sz = x.cells
  | [], _, i, x, hx => by simp at hx
  | a :: xs, h, 0, x, hx => by
    simp at hx; subst hx
    have ha := h a List.mem_cons_self
    rw [Nat.zero_mul, List.drop_zero, flat, List.flatMap_cons, ← ha, List.take_left']
    rfl
  | a :: xs, h, i + 1, x, hx => by
    have ha := h a List.mem_cons_self
    have e : (i + 1) * sz = a.cells.length + i * sz := by rw [ha, Nat.add_mul, Nat.one_mul, Nat.add_comm]
    rw [flat, List.flatMap_cons, e, ← List.drop_drop, List.drop_left']
    · exact flat_get (fun y hy => h y (List.mem_cons_of_mem _ hy)) (by simpa using hx)
    · rfl
theorem flat_len {sz : Nat} : ∀ {xs : List AV} (_ : AllSz sz xs), (flat xs).length = xs.length * sz
  | [], _ => by simp [flat]
  | a :: xs, h => by
    have ha := h a List.mem_cons_self
    have := flat_len (fun y hy => h y (List.mem_cons_of_mem _ hy)) (xs := xs)
    rw [flat, List.flatMap_cons, List.length_append, ha, List.length_cons, Nat.add_mul, Nat.one_mul, Nat.add_comm]
    unfold flat at this
    rw [this]
end Go.AL.Fun
