/- Format, of the program and of the reference; the example. -/
import Derived.Test.YtcaegdcldbggpaaDoorE7
set_option linter.unusedSimpArgs false
set_option linter.unusedVariables false
set_option maxRecDepth 100000
set_option maxHeartbeats 4000000
namespace Go.AL.Fun
open Go Go.AL

def c45 (xs : List AV) (H : Heap) (K : Kv) : Prop := ∃ n : Nat, xs = [.sl [] .nil, .int .u64 n, .int .i64 16] ∧ n ≤ 65536 ∧ H.keys.Nodup ∧ ∀ tk H', GC 1 (bytesAV (hexL n)) tk → H'.Perm (tokH tk ++ H) → H'.keys.Nodup → K.ap (.sl (bytesAV (hexL n)) tk) H'
theorem c45_of (P : Program) {G : Nat → Option (List AV)} {xs : List AV} {H : Heap} {K : Kv} (h : c45 xs H K) : @xF ⟨G, P, [(54, c54)]⟩ f45 xs H K := by
  obtain ⟨n, rfl, hn, hnd, k⟩ := h
  simp (implicitDefEqProofs := false) only [sB, simprocAttr, f45]
  refine ⟨n, rfl, hn, hnd, fun tk H' g1 g2 g3 => ?_⟩
  simp (implicitDefEqProofs := false) only [sB, simprocAttr]
  exact k tk H' g1 g2 g3
def c41 (xs : List AV) (H : Heap) (K : Kv) : Prop := ∃ n : Nat, xs = [.sl [] .nil, .int .i64 n, .int .i64 16] ∧ n ≤ 65536 ∧ H.keys.Nodup ∧ ∀ tk H', GC 1 (bytesAV (hexL n)) tk → H'.Perm (tokH tk ++ H) → H'.keys.Nodup → K.ap (.sl (bytesAV (hexL n)) tk) H'
theorem c41_of (P : Program) {G : Nat → Option (List AV)} {xs : List AV} {H : Heap} {K : Kv} (h : c41 xs H K) : @xF ⟨G, P, [(45, c45)]⟩ f41 xs H K := by
  obtain ⟨n, rfl, hn, hnd, k⟩ := h
  have r1 := w_u64 (n : Int) (by omega) (by omega)
  have r2 : ¬ (n : Int) < 0 := by omega
  simp (implicitDefEqProofs := false) only [sB, simprocAttr, f41, r1, r2]
  refine ⟨n, rfl, hn, hnd, fun tk H' g1 g2 g3 => ?_⟩
  simp (implicitDefEqProofs := false) only [sB, simprocAttr]
  exact k tk H' g1 g2 g3
def c32 (xs : List AV) (H : Heap) (K : Kv) : Prop := ∃ n : Nat, xs = [.sl [] .nil, .int .i64 n, .int .i64 16] ∧ n ≤ 65536 ∧ H.keys.Nodup ∧ ∀ tk H', GC 1 (bytesAV (hexL n)) tk → H'.Perm (tokH tk ++ H) → H'.keys.Nodup → K.ap (.sl (bytesAV (hexL n)) tk) H'
theorem c32_of (P : Program) {G : Nat → Option (List AV)} {xs : List AV} {H : Heap} {K : Kv} (h : c32 xs H K) : @xF ⟨G, P, [(41, c41)]⟩ f32 xs H K := by
  obtain ⟨n, rfl, hn, hnd, k⟩ := h
  simp (implicitDefEqProofs := false) only [sB, simprocAttr, f32]
  refine ⟨n, rfl, hn, hnd, fun tk H' g1 g2 g3 => ?_⟩
  simp (implicitDefEqProofs := false) only [sB, simprocAttr]
  exact k tk H' g1 g2 g3
def lineL (n : Nat) : List UInt8 := hexL n ++ [13, 10]
def c24 (xs : List AV) (H : Heap) (K : Kv) : Prop := ∃ n : Int, xs = [.int .i64 n] ∧ H.keys.Nodup ∧ (n < 0 ∨ 65536 < n → K.ap (.tup [.sl [] .nil, .int .i64 3]) H) ∧
  (0 ≤ n → n ≤ 65536 → ∀ tk, K.ap (.tup [.sl (bytesAV (lineL n.toNat)) tk, .int .i64 0]) H)
theorem c24_of (P : Program) {G : Nat → Option (List AV)} {xs : List AV} {H : Heap} {K : Kv} (h : c24 xs H K) : @xF ⟨G, P, [(32, c32)]⟩ f24 xs H ⟨fun v H' => ∃ H0, Hle H0 H' ∧ K.ap v H0⟩ := by
  obtain ⟨n, rfl, hnd, k1, k2⟩ := h
  by_cases c1 : n < 0
  · simp (implicitDefEqProofs := false) only [sB, simprocAttr, f24, c1]
    exact ⟨_, .refl _, k1 (.inl c1)⟩
  by_cases c2 : 65536 < n
  · simp (implicitDefEqProofs := false) only [sB, simprocAttr, f24, c1, c2]
    exact ⟨_, .refl _, k1 (.inr c2)⟩
  obtain ⟨m, rfl⟩ : ∃ m : Nat, n = m := ⟨n.toNat, by omega⟩
  have k3 := k2 (by omega) (by omega)
  rw [Int.toNat_natCast] at k3
  have hlen : (hexL m).length ≤ 100 := by
    have := hexL_len_le 65536 m 65536 (Nat.le_refl _) (by omega)
    have h2 : (hexL 65536).length = 5 := by
      rw [hexL_ge (by decide), hexL_ge (by decide), hexL_ge (by decide), hexL_ge (by decide), hexL_lt (by decide)]; rfl
    omega
  simp (implicitDefEqProofs := false) only [sB, simprocAttr, f24, c1, c2]
  refine ⟨m, rfl, by omega, hnd, fun tk H' g1 g2 g3 => ?_⟩
  simp (implicitDefEqProofs := false) only [sB, simprocAttr]
  refine i_appC (by decide) (A := []) (R := H) (ys := bytesAV [13, 10]) g2 g3 g1 (fun K' k' => by rw [xsrc_str]; exact k') (allSz_bytes _) ?_ ?_ fun tk2 H2 q1 q2 q3 => ?_
  · simp only [by_len, maxLen_eq, List.length_cons, List.length_nil]; omega
  · simp only [by_len, List.length_cons, List.length_nil]; omega
  rw [by_app]
  simp (implicitDefEqProofs := false) only [sB, simprocAttr]
  exact ⟨H, hle_sub (X := H) q2 (List.sublist_append_right (tokH tk2) H), k3 tk2⟩
def c25 (xs : List AV) (H : Heap) (K : Kv) : Prop := ∃ n : Int, xs = [.int .i64 n] ∧ (n < 0 ∨ 65536 < n → K.ap (.tup [.sl [] .nil, .int .i64 3]) H) ∧
  (0 ≤ n → n ≤ 65536 → ∀ id, id ∉ H.keys → K.ap (.tup [.msl id 0 (lineL n.toNat).length 1, .int .i64 0]) ((id, .cells (bytesAV (lineL n.toNat))) :: H))
theorem c25_of (P : Program) {G : Nat → Option (List AV)} {xs : List AV} {H : Heap} {K : Kv} (h : c25 xs H K) : @xF ⟨G, P, [(33, c33)]⟩ f25 xs H ⟨fun v H' => ∃ H0, Hle H0 H' ∧ K.ap v H0⟩ := by
  obtain ⟨n, rfl, k1, k2⟩ := h
  by_cases c1 : n < 0
  · simp (implicitDefEqProofs := false) only [sB, simprocAttr, f25, c1]
    exact ⟨_, .refl _, k1 (.inl c1)⟩
  by_cases c2 : 65536 < n
  · simp (implicitDefEqProofs := false) only [sB, simprocAttr, f25, c1, c2]
    exact ⟨_, .refl _, k1 (.inr c2)⟩
  obtain ⟨m, rfl⟩ : ∃ m : Nat, n = m := ⟨n.toNat, by omega⟩
  have k3 := k2 (by omega) (by omega)
  rw [Int.toNat_natCast] at k3
  have hlen : (hexL m).length ≤ 100 := by
    have := hexL_len_le 65536 m 65536 (Nat.le_refl _) (by omega)
    have h2 : (hexL 65536).length = 5 := by
      rw [hexL_ge (by decide), hexL_ge (by decide), hexL_ge (by decide), hexL_ge (by decide), hexL_lt (by decide)]; rfl
    omega
  simp (implicitDefEqProofs := false) only [sB, simprocAttr, f25, c1, c2]
  refine ⟨m, rfl, by omega, ?_⟩
  simp (implicitDefEqProofs := false) only [sB, simprocAttr]
  refine ⟨by omega, by omega, i_new fun id hid => ?_⟩
  simp (implicitDefEqProofs := false) only [sB, simprocAttr]
  have := k3 id hid
  unfold lineL at this
  rw [List.length_append] at this
  exact ⟨_, .refl _, this⟩
/-- The example. -/
theorem ex26 : lineL 26 = [49, 97, 13, 10] := by unfold lineL; rw [hexL_ge (by decide), hexL_lt (by decide)]; rfl
theorem exA : parseP [49, 65] = (0, 0, 5) := by decide
theorem exB : parseP [49, 97] = (0, 0, 7) := by decide
def c26 (xs : List AV) (H : Heap) (K : Kv) : Prop := xs = [] ∧ H.keys.Nodup ∧ K.ap (.bool true) H
theorem c26_of (P : Program) {G : Nat → Option (List AV)} {xs : List AV} {H : Heap} {K : Kv} (h : c26 xs H K) : @xF ⟨G, P, [(24, c24), (27, c27)]⟩ f26 xs H ⟨fun v H' => ∃ H0, Hle H0 H' ∧ K.ap v H0⟩ := by
  obtain ⟨rfl, hn, k⟩ := h
  simp (implicitDefEqProofs := false) only [sB, simprocAttr, f26]
  refine ⟨26, rfl, hn, fun h => by omega, fun _ _ tk => ?_⟩
  rw [show (26 : Int).toNat = 26 from rfl, ex26]
  simp (implicitDefEqProofs := false) only [sB, simprocAttr]
  refine i_new fun a ha => ?_
  simp (implicitDefEqProofs := false) only [sB, simprocAttr]
  refine ⟨[49, 65], _, rfl, by decide, ?_⟩
  rw [exA]
  simp (implicitDefEqProofs := false) only [sB, simprocAttr, tup3]
  refine i_new fun b hb => ?_
  simp (implicitDefEqProofs := false) only [sB, simprocAttr]
  refine ⟨[49, 97], _, rfl, by decide, ?_⟩
  rw [exB]
  simp (implicitDefEqProofs := false) only [sB, simprocAttr, tup3]
  exact ⟨_, Hle.right [_, _] H, k⟩
end Go.AL.Fun
