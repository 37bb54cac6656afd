/- The abstract layer, part 25: tables of functions, contracts, and the end of a law's proof. -/
import Derived.Test.YtpeaphpibnikcaaA24
namespace Go.AL
open Go.RowKit Go.ChangeShapes

section
variable {G : Nat → Option (List AV)} {P : Program}
abbrev XT := List (Nat × (List AV → Heap → Kv → Prop))

theorem TOk.nilX : TOk G P (plainT []) := fun _ h => by cases h
theorem TOk.consX {f : Nat} {c : List AV → Heap → Kv → Prop} {T : XT} (h : ∀ xs H K, c xs H ⟨K⟩ → ACalls G P f xs H K) (hT : TOk G P (plainT T)) : TOk G P (plainT ((f, c) :: T)) := TOk.cons h hT

/-- A function that is walked in place. -/
theorem okF {T : XT} (hm : P.follows .mixedOrders = true) (hT : TOk G P (plainT T)) {f : Nat} {F : AFun} {hs : List Hint} (hF : compF P f hs = some F) (xs : List AV) (H : Heap) (K : AV → Heap → Prop)
    (h : @xF ⟨G, P, T⟩ F xs H ⟨K⟩) : ACalls G P f xs H K := denFS_sound hm hT hF h

/-- What a call leaves behind need not be kept. -/
theorem ACalls.drop {f : Nat} {xs : List AV} {H : Heap} {K : AV → Heap → Prop} (h : ACalls G P f xs H fun v H' => ∃ H0, Hle H0 H' ∧ K v H0) : ACalls G P f xs H K :=
  ⟨h.1, fun B w0 m w cargs h1 h2 => (h.2 B w0 m w cargs h1 h2).mono fun _ _ ⟨v, cv, m', _, e1, e2, e3, e4, H0, e5, e6⟩ => ⟨v, cv, m', H0, e1, e2, e3.weak e5, e4, e6⟩⟩

/-- A function's contract. -/
theorem okC {T : XT} (hm : P.follows .mixedOrders = true) (hT : TOk G P (plainT T)) {f : Nat} {F : AFun} {hs : List Hint} (hF : compF P f hs = some F) (xs : List AV) (H : Heap) (K : AV → Heap → Prop)
    (h : @xF ⟨G, P, T⟩ F xs H ⟨fun v H' => ∃ H0, Hle H0 H' ∧ K v H0⟩) : ACalls G P f xs H K := (denFS_sound hm hT hF h).drop
end

/-- The end of a proof of a law. -/
theorem law_true {P : Program} {T : XT} (hm : P.follows .mixedOrders = true) (hT : TOk (fun _ => none) P (plainT T)) {f : Nat} {F : AFun} {hs : List Hint} (hF : compF P f hs = some F) {W : World} {args : Array Value} (avs : List AV)
    (hr : RelL (im0 W) avs args.toList) (h : ∀ K : Kv, (∀ H, K.ap (.bool true) H) → @xF ⟨fun _ => none, P, T⟩ F avs [] K) : Calls P f args W fun e W' => e = .returned (.bool true) ∧ Below W.heap.size W W' :=
  calls_true (okF hm hT hF avs [] _ (h ⟨fun v _ => v = .bool true⟩ fun _ => rfl)) hr
end Go.AL
