/- Format, of the program and of the reference; the example. -/
import Derived.Test.YtcmgeflfapffoaaDoorY7
set_option linter.unusedSimpArgs false
set_option linter.unusedVariables false
set_option maxRecDepth 100000
set_option maxHeartbeats 4000000
namespace Go.AL.Fun
open Go Go.AL

def c45 (xs : List AV) (H : Heap) (K : Kv) : Prop := ∃ n : Nat, xs = [.sl [] .nil, .int .u64 n, .int .i64 16] ∧ n ≤ 65536 ∧ H.keys.Nodup ∧ ∀ tk H', GC 1 (bytesAV (hexL n)) tk → H'.Perm (tokH tk ++ H) → H'.keys.Nodup → K.ap (.sl (bytesAV (hexL n)) tk) H'
theorem c45_of (P : Program) {G : Nat → Option (List AV)} {xs : List AV} {H : Heap} {K : Kv} (h : c45 xs H K) : @xF ⟨G, P, [(62, c54)]⟩ f55 xs H K := by
  obtain ⟨n, rfl, hn, hnd, k⟩ := h
  simp (implicitDefEqProofs := false) only [sB, simprocAttr, f55]
  refine ⟨n, rfl, hn, hnd, fun tk H' g1 g2 g3 => ?_⟩
  simp (implicitDefEqProofs := false) only [sB, simprocAttr]
  exact k tk H' g1 g2 g3
def c41 (xs : List AV) (H : Heap) (K : Kv) : Prop := ∃ n : Nat, xs = [.sl [] .nil, .int .i64 n, .int .i64 16] ∧ n ≤ 65536 ∧ H.keys.Nodup ∧ ∀ tk H', GC 1 (bytesAV (hexL n)) tk → H'.Perm (tokH tk ++ H) → H'.keys.Nodup → K.ap (.sl (bytesAV (hexL n)) tk) H'
theorem c41_of (P : Program) {G : Nat → Option (List AV)} {xs : List AV} {H : Heap} {K : Kv} (h : c41 xs H K) : @xF ⟨G, P, [(55, c45)]⟩ f50 xs H K := by
  obtain ⟨n, rfl, hn, hnd, k⟩ := h
  have r1 := w_u64 (n : Int) (by omega) (by omega)
  have r2 : ¬ (n : Int) < 0 := by omega
  simp (implicitDefEqProofs := false) only [sB, simprocAttr, f50, r1, r2]
  refine ⟨n, rfl, hn, hnd, fun tk H' g1 g2 g3 => ?_⟩
  simp (implicitDefEqProofs := false) only [sB, simprocAttr]
  exact k tk H' g1 g2 g3
def c32 (xs : List AV) (H : Heap) (K : Kv) : Prop := ∃ n : Nat, xs = [.sl [] .nil, .int .i64 n, .int .i64 16] ∧ n ≤ 65536 ∧ H.keys.Nodup ∧ ∀ tk H', GC 1 (bytesAV (hexL n)) tk → H'.Perm (tokH tk ++ H) → H'.keys.Nodup → K.ap (.sl (bytesAV (hexL n)) tk) H'
theorem c32_of (P : Program) {G : Nat → Option (List AV)} {xs : List AV} {H : Heap} {K : Kv} (h : c32 xs H K) : @xF ⟨G, P, [(50, c41)]⟩ f47 xs H K := by
  obtain ⟨n, rfl, hn, hnd, k⟩ := h
  simp (implicitDefEqProofs := false) only [sB, simprocAttr, f47]
  refine ⟨n, rfl, hn, hnd, fun tk H' g1 g2 g3 => ?_⟩
  simp (implicitDefEqProofs := false) only [sB, simprocAttr]
  exact k tk H' g1 g2 g3
def lineL (n : Nat) : List UInt8 := hexL n ++ [13, 10]
def c24 (xs : List AV) (H : Heap) (K : Kv) : Prop := ∃ n : Int, xs = [.int .i64 n] ∧ H.keys.Nodup ∧ (n < 0 ∨ 65536 < n → K.ap (.tup [.sl [] .nil, .int .i64 3]) H) ∧
  (0 ≤ n → n ≤ 65536 → ∀ tk, K.ap (.tup [.sl (bytesAV (lineL n.toNat)) tk, .int .i64 0]) H)
theorem c24_of (P : Program) {G : Nat → Option (List AV)} {xs : List AV} {H : Heap} {K : Kv} (h : c24 xs H K) : @xF ⟨G, P, [(47, c32)]⟩ f42 xs H ⟨fun v H' => ∃ H0, Hle H0 H' ∧ K.ap v H0⟩ := by
  obtain ⟨n, rfl, hnd, k1, k2⟩ := h
  by_cases c1 : n < 0
  · simp (implicitDefEqProofs := false) only [sB, simprocAttr, f42, c1]
    exact ⟨_, .refl _, k1 (.inl c1)⟩
  by_cases c2 : 65536 < n
  · simp (implicitDefEqProofs := false) only [sB, simprocAttr, f42, c1, c2]
    exact ⟨_, .refl _, k1 (.inr c2)⟩
  obtain ⟨m, rfl⟩ : ∃ m : Nat, n = m := ⟨n.toNat, by omega⟩
  have k3 := k2 (by omega) (by omega)
  rw [Int.toNat_natCast] at k3
  have hlen : (hexL m).length ≤ 100 := by
    have := hexL_len_le 65536 m 65536 (Nat.le_refl _) (by omega)
    have h2 : (hexL 65536).length = 5 := by
      rw [hexL_ge (by decide), hexL_ge (by decide), hexL_ge (by decide), hexL_ge (by decide), hexL_lt (by decide)]; rfl
    omega
  simp (implicitDefEqProofs := false) only [sB, simprocAttr, f42, c1, c2]
  refine ⟨m, rfl, by omega, hnd, fun tk H' g1 g2 g3 => ?_⟩
  simp (implicitDefEqProofs := false) only [sB, simprocAttr]
  refine i_appC (by decide) (A := []) (R := H) (ys := bytesAV [13, 10]) g2 g3 g1 (fun K' k' => by rw [xsrc_str]; exact k') (allSz_bytes _) ?_ ?_ fun tk2 H2 q1 q2 q3 => ?_
  · simp only [by_len, maxLen_eq, List.length_cons, List.length_nil]; omega
  · simp only [by_len, List.length_cons, List.length_nil]; omega
  rw [by_app]
  simp (implicitDefEqProofs := false) only [sB, simprocAttr]
  exact ⟨H, hle_sub (X := H) q2 (List.sublist_append_right (tokH tk2) H), k3 tk2⟩
def c25 (xs : List AV) (H : Heap) (K : Kv) : Prop := ∃ n : Int, xs = [.int .i64 n] ∧ (n < 0 ∨ 65536 < n → K.ap (.tup [.sl [] .nil, .int .i64 3]) H) ∧
  (0 ≤ n → n ≤ 65536 → ∀ id, id ∉ H.keys → K.ap (.tup [.msl id 0 (lineL n.toNat).length 1, .int .i64 0]) ((id, .cells (bytesAV (lineL n.toNat))) :: H))
theorem c25_of (P : Program) {G : Nat → Option (List AV)} {xs : List AV} {H : Heap} {K : Kv} (h : c25 xs H K) : @xF ⟨G, P, [(44, c33)]⟩ f39 xs H ⟨fun v H' => ∃ H0, Hle H0 H' ∧ K.ap v H0⟩ := by
  obtain ⟨n, rfl, k1, k2⟩ := h
  by_cases c1 : n < 0
  · simp (implicitDefEqProofs := false) only [sB, simprocAttr, f39, c1]
    exact ⟨_, .refl _, k1 (.inl c1)⟩
  by_cases c2 : 65536 < n
  · simp (implicitDefEqProofs := false) only [sB, simprocAttr, f39, c1, c2]
    exact ⟨_, .refl _, k1 (.inr c2)⟩
  obtain ⟨m, rfl⟩ : ∃ m : Nat, n = m := ⟨n.toNat, by omega⟩
  have k3 := k2 (by omega) (by omega)
  rw [Int.toNat_natCast] at k3
  have hlen : (hexL m).length ≤ 100 := by
    have := hexL_len_le 65536 m 65536 (Nat.le_refl _) (by omega)
    have h2 : (hexL 65536).length = 5 := by
      rw [hexL_ge (by decide), hexL_ge (by decide), hexL_ge (by decide), hexL_ge (by decide), hexL_lt (by decide)]; rfl
    omega
  simp (implicitDefEqProofs := false) only [sB, simprocAttr, f39, c1, c2]
  refine ⟨m, rfl, by omega, ?_⟩
  simp (implicitDefEqProofs := false) only [sB, simprocAttr]
  refine ⟨by omega, by omega, i_new fun id hid => ?_⟩
  simp (implicitDefEqProofs := false) only [sB, simprocAttr]
  have := k3 id hid
  unfold lineL at this
  rw [List.length_append] at this
  exact ⟨_, .refl _, this⟩
end Go.AL.Fun
