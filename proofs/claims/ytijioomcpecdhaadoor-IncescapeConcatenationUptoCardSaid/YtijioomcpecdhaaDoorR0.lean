/- The library's slices.Grow of nil: the kit's contract, as a contract of the abstract layer. -/
import Derived.Test.YtijioomcpecdhaaDoorF1
import Derived.Shelf.Spec.SlicesGrow
set_option maxRecDepth 100000
namespace Go.AL.Fun
open Go Go.AL
/-- A nil list with room. -/
def c110 (xs : List AV) (H : Heap) (K : Kv) : Prop := ∃ n : Nat, xs = [.sl [] .nil, .int .i64 n] ∧ n ≤ 1099511627776 ∧ (n = 0 → K.ap (.sl [] .nil) H) ∧ (0 < n → ∀ id, id ∉ H.keys → K.ap (.sl [] (.at id 0 1)) ((id, .spare 0) :: H))
end Go.AL.Fun
namespace Go.Proofs.YtijioomcpecdhaaDoor.lib
open Go.AL Go.AL.Fun Go.RowKit Go.Proofs

def growRen : Go.Shelf.Ren := ⟨fun x => match x with | 4 => 110 | n => n, fun x => match x with | 22 => 29 | 25 => 5 | n => n, fun n => n⟩
theorem growLays : Lays8.n4 Tryd.prog growRen where
  mixed := by kernel_rfl
  f4 := ⟨Tryd.f110.name, by decide, Tryd.func110.trans (congrArg some (by kernel_rfl))⟩
  t0 := Tryd.underlying0
  a0 := Tryd.isAgg0
  z0 := Tryd.sizeOf0
  v0 := Tryd.zeroValue0
  t3 := Tryd.underlying3
  a3 := Tryd.isAgg3
  z3 := Tryd.sizeOf3
  v3 := Tryd.zeroValue3
  t4 := Tryd.underlying4
  a4 := Tryd.isAgg4
  z4 := Tryd.sizeOf4
  v4 := Tryd.zeroValue4
  t9 := Tryd.underlying9
  a9 := Tryd.isAgg9
  z9 := Tryd.sizeOf9
  v9 := Tryd.zeroValue9
  t20 := Tryd.underlying20
  a20 := Tryd.isAgg20
  z20 := Tryd.sizeOf20
  v20 := Tryd.zeroValue20
  t22 := Tryd.underlying29
  a22 := Tryd.isAgg29
  z22 := Tryd.sizeOf29
  v22 := Tryd.zeroValue29

theorem h110 {G : Nat → Option (List AV)} : ∀ xs H K, c110 xs H ⟨K⟩ → ACalls G Tryd.prog 110 xs H K := by
  rintro xs H K ⟨n, rfl, hn, k0, k1⟩
  refine ⟨⟨Tryd.f110, Tryd.func110, by kernel_rfl, by kernel_rfl⟩, fun B w0 m w cargs hs hr => ?_⟩
  obtain ⟨v1, r1, e1, h1, hr⟩ := hr.uncons
  obtain ⟨v2, r2, e2, h2, hr⟩ := hr.uncons
  have e3 := hr.unnil
  subst e2 e3
  obtain rfl : cargs = #[v1, v2] := by cases cargs; simp_all
  generalize hv1 : AV.sl [] .nil = x1 at h1
  obtain rfl : v1 = .slice none 0 0 := by
    cases h1 with
    | slnil => rfl
    | sl xs t a len cap sz f ht hl hlc hcm hs' hz hc h1' hr' hk => cases hv1; exact absurd rfl ht
    | _ => cases hv1
  generalize hv2 : AV.int IntKind.i64 (n : Int) = x2 at h2
  cases h2 <;> cases hv2
  rcases Nat.eq_zero_or_pos n with rfl | hp
  · refine (Any8.slices_Grow_room growLays none 0 0 0 w (Nat.le_refl _) (by omega) (by omega) (Nat.le_refl _)).mono ?_
    rintro e w' ⟨rfl, rfl⟩
    exact ⟨_, _, m, H, rfl, .refl m, hs, .slnil, k0 rfl⟩
  · obtain ⟨i0, e1, e0⟩ := Option.map_eq_some_iff.1 (show (Tryd.prog.info? 5).map (fun i => (i.zero, i.size, i.bytes)) = some (some (.int .u8 0), 1, 1) by kernel_rfl)
    have e2 : i0.zero = some (.int .u8 0) ∧ i0.size = 1 ∧ i0.bytes = 1 := by simpa using e0
    refine (Any8.slices_Grow_grow growLays i0 (.int .u8 0) e1 e2.1 (by rw [e2.2.1]; decide) none 0 0 n [] w (Nat.le_refl _) (by omega) (by rw [e2.2.2]; omega) (by omega) (by simp) (fun _ => rfl) (fun a h => by cases h)).mono ?_
    rintro e w' ⟨rfl, rfl⟩
    obtain ⟨m', l1, l2, l3, l4⟩ := hs.drew.newRow (n := 0) (cs := (([] : List Value).toArray ++ Builtin.zeroCells (Value.int .u8 0).cells (0 + n - 0) ++ Builtin.zeroCells (Value.int .u8 0).cells (grownCap w (0 + n) 0 5 - (0 + n)))) 5 (Nat.zero_le _)
    refine ⟨.sl [] (.at w.heap.size 0 1), _, m', _, rfl, l1, l2, ?_, k1 hp w.heap.size hs.fresh⟩
    have gc := grown_le w (0 + n) 0 5 (show 0 + n ≤ maxLen by unfold maxLen; omega)
    have sz : (([] : List Value).toArray ++ Builtin.zeroCells (Value.int .u8 0).cells (0 + n - 0) ++ Builtin.zeroCells (Value.int .u8 0).cells (grownCap w (0 + n) 0 5 - (0 + n))).size = grownCap w (0 + n) 0 5 := by
      rw [Array.size_append, Array.size_append, size_zeroCells, size_zeroCells]
      show 0 + (0 + n - 0) * 1 + (grownCap w (0 + n) 0 5 - (0 + n)) * 1 = _
      omega
    rw [sz] at l4
    exact rel_sl (ys := []) (sz := 1) (t := .at w.heap.size 0 1) (g := fun _ => default) (by simp) (by intro x hx; cases hx) (Nat.zero_le _) gc.2 (fun i hi => by simp at hi) (fun i hi => by simp at hi) (fun i x hx => by simp [flat] at hx)
      (fun b e s h => by cases h; exact ⟨rfl, rfl, rfl, _, l4, by show 0 + grownCap w (0 + n) 0 5 * 1 ≤ _; omega⟩)
end Go.Proofs.YtijioomcpecdhaaDoor.lib
