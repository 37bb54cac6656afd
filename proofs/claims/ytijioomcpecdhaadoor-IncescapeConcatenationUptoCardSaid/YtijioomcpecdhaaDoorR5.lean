/- Lists of runes: encoded, decoded, compared. -/
import Derived.Test.YtijioomcpecdhaaDoorR4
set_option linter.unusedSimpArgs false
set_option linter.unusedVariables false
set_option maxRecDepth 100000
set_option maxHeartbeats 4000000
namespace Go.AL.Fun
open Go Go.AL

/-- A value that is read as a list of runes. -/
inductive RSrc (H : Heap) : AV → List Int → Prop
  | sl (l : List Int) (t : Tok) : RSrc H (.sl (i32AV l) t) l
  | msl (id : Nat) (l : List Int) (h : lookH id H = some (.cells (i32AV l))) : RSrc H (.msl id 0 l.length 1) l

def I32 (l : List Int) : Prop := ∀ r ∈ l, -2147483648 ≤ r ∧ r < 2147483648
theorem encP_app (a b : List Int) : encP (a ++ b) = encP a ++ encP b := by simp [encP]
theorem encP_len (l : List Int) : (encP l).length ≤ 4 * l.length := by
  induction l with
  | nil => simp [encP]
  | cons r l ih => rw [encP_cons, List.length_append, List.length_cons]; have := (enc1_len r).1; omega
theorem encP_take {l : List Int} {i : Nat} {r : Int} (h : l[i]? = some r) : encP (l.take (i + 1)) = encP (l.take i) ++ enc1 r := by
  rw [List.take_add_one, h, encP_app]; simp [encP]

theorem x_c81 {H : Heap} {K : Kv} (r : Int) (h : -2147483648 ≤ r ∧ r < 2147483648) (k : K.ap (.str (enc1 r)) H) : c81 [.int .i32 r] H K := ⟨r, rfl, h.1, h.2, k⟩
def c48 (xs : List AV) (H : Heap) (K : Kv) : Prop := ∃ (x : AV) (l : List Int), xs = [x] ∧ RSrc H x l ∧ l.length ≤ 1073741824 ∧ I32 l ∧ K.ap (.str (encP l)) H
theorem c48_of (P : Program) {G : Nat → Option (List AV)} {xs : List AV} {H : Heap} {K : Kv} (h : c48 xs H K) : @xF ⟨G, P, [(81, c81)]⟩ f48 xs H ⟨fun v H' => ∃ H0, Hle H0 H' ∧ K.ap v H0⟩ := by
  obtain ⟨x, l, rfl, hx, hl, hr, h⟩ := h
  simp (implicitDefEqProofs := false) only [sB, simprocAttr, f48]
  refine i_loopJ (fun σ H1 => ∃ (i : Nat), H1 = H ∧ i ≤ l.length ∧ σ = [(0, x), (3, .str (encP (l.take i))), (4, .int .i64 i)])
    (fun σ _ => match σ.get 4 with | .int _ n => l.length - n.toNat | _ => 0)
    (fun e σ H1 => H1 = H ∧ e = .exit 0 ∧ σ.get 3 = .str (encP l))
    ⟨_, .refl _, 0, rfl, by omega, rfl⟩ ?_ ?_
  · rintro e σ H1 ⟨rfl, rfl, q3⟩
    simp (implicitDefEqProofs := false) only [sB, simprocAttr, q3]
    exact ⟨_, .refl _, h⟩
  · rintro Q hQ σ H1 ⟨i, rfl, hi, rfl⟩
    have i0 : (0 : Int) ≤ (i : Int) := by omega
    have r9 := w_i64 ((i : Int) + 1) (by omega) (by omega)
    by_cases c : (i : Int) < l.length
    · have c' : i < l.length := by omega
      have hy : l[i]? = some l[i] := List.getElem?_eq_getElem c'
      have hb := hr l[i] (List.getElem_mem c')
      have e1 := encP_take hy
      have e2 := encP_len (l.take i)
      have e3 := (enc1_len l[i]).1
      have e4 : (l.take i).length = i := by rw [List.length_take]; omega
      have e5 : (encP (l.take i)).length + (enc1 l[i]).length ≤ 281474976710655 := by omega
      cases hx with
      | sl l t =>
        simp (implicitDefEqProofs := false) only [sB, simprocAttr, i32_len, c, i0, i32_get, hy, Option.map_some]
        refine x_c81 _ hb ?_
        simp (implicitDefEqProofs := false) only [sB, simprocAttr, r9]
        exact ⟨by omega, _, .refl _, ⟨i + 1, rfl, by omega, by rw [e1]; simp⟩, by omega⟩
      | msl id l hid =>
        simp (implicitDefEqProofs := false) only [sB, simprocAttr, hid, c, i0, i32_get, hy, Option.map_some]
        refine x_c81 _ hb ?_
        simp (implicitDefEqProofs := false) only [sB, simprocAttr, r9]
        exact ⟨by omega, _, .refl _, ⟨i + 1, rfl, by omega, by rw [e1]; simp⟩, by omega⟩
    · have e1 : i = l.length := by omega
      subst e1
      rw [List.take_length]
      cases hx with
      | sl l t =>
        simp (implicitDefEqProofs := false) only [sB, simprocAttr, i32_len, c]
        exact hQ _ _ _ ⟨rfl, rfl, rfl⟩
      | msl id l hid =>
        simp (implicitDefEqProofs := false) only [sB, simprocAttr, c]
        exact hQ _ _ _ ⟨rfl, rfl, rfl⟩

theorem x_c76 {H R : Heap} {K : Kv} {bs : List UInt8} {tk : Tok} {r : Int} (hp : H.Perm (tokH tk ++ R)) (hn : H.keys.Nodup) (hg : GC 1 (bytesAV bs) tk) (hl : bs.length ≤ 1099511627776) (hb : -2147483648 ≤ r ∧ r < 2147483648)
  (k : ∀ tk' H', GC 1 (bytesAV (bs ++ enc1 r)) tk' → H'.Perm (tokH tk' ++ R) → H'.keys.Nodup → K.ap (.sl (bytesAV (bs ++ enc1 r)) tk') H') : c76 [.sl (bytesAV bs) tk, .int .i32 r] H K := ⟨bs, tk, R, r, rfl, hp, hn, hg, hl, hb.1, hb.2, k⟩
end Go.AL.Fun
