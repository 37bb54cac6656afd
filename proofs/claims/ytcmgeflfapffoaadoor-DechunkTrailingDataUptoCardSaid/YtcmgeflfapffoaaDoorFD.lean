/- What Encode's closure does: the pending bytes are put behind the output and marked as delivered. -/
import Derived.Test.YtcmgeflfapffoaaDoorFC
set_option linter.unusedSimpArgs false
set_option linter.unusedVariables false
set_option maxRecDepth 100000
set_option maxHeartbeats 4000000
namespace Go.AL.Fun
open Go Go.AL

def bR (p bp bf : Nat) (R : Heap) : Heap := (bp, .cells [.fn (.func 16) [.ptr p 0] []]) :: (bf, .cells [.ptr p 0]) :: R
/-- Encode's state: the framer, the output's box, the boxes of the method's value and of the framer. -/
def DE (p bp bo bf : Nat) (s : FS) (out : List UInt8) (H R : Heap) : Prop := ∃ to, GT (bytesAV out) to ∧ FX p s H ((bo, .cells [.sl (bytesAV out) to]) :: (tokH to ++ bR p bp bf R))
theorem mid3 (a b : Nat × AObj) (A R : Heap) : (a :: b :: (A ++ R)).Perm (b :: (A ++ a :: R)) := (List.Perm.swap _ _ _).trans ((List.perm_middle.symm).cons _)
def d34 (xs : List AV) (H : Heap) (K : Kv) : Prop := ∃ (p bp bo bf : Nat) (s : FS) (out : List UInt8) (R : Heap), xs = [.int .i64 0, .ptr bp 0, .ptr bo 0, .ptr bf 0] ∧ DE p bp bo bf s out H R ∧ out.length + s.pend.length ≤ 1073741824 ∧
  ∀ H', DE p bp bo bf { s with pend := [] } (out ++ s.pend) H' R → K.ap (.int .i64 0) H'
theorem d34_of (P : Program) {G : Nat → Option (List AV)} {xs : List AV} {H : Heap} {K : Kv} (h : d34 xs H K) : @xF ⟨G, P, [(16, d16), (20, d20)]⟩ f34 xs H ⟨fun v H' => ∃ H0, Hle H0 H' ∧ K.ap v H0⟩ := by
  obtain ⟨p, bp, bo, bf, s, out, R, rfl, ⟨to, hg, hX⟩, hl, k⟩ := h
  have hlp : lookH bp H = some (.cells [.fn (.func 16) [.ptr p 0] []]) := by
    obtain ⟨hn, tk, ht, hp⟩ := hX
    rw [lookH_iff hn]; exact hp.mem_iff.2 (List.mem_cons_of_mem _ (List.mem_cons_of_mem _ (List.mem_append_right _ List.mem_cons_self)))
  have hlo : lookH bo H = some (.cells [.sl (bytesAV out) to]) := by
    obtain ⟨hn, tk, ht, hp⟩ := hX
    rw [lookH_iff hn]; exact hp.mem_iff.2 (List.mem_cons_of_mem _ List.mem_cons_self)
  simp (implicitDefEqProofs := false) only [sB, simprocAttr, f34, hlp]
  refine .inr ⟨p, s, _, rfl, hX, by omega, .inl fun t' => ?_⟩
  simp (implicitDefEqProofs := false) only [sB, simprocAttr, hlo]
  obtain ⟨hn, tk, ht, hp⟩ := hX
  refine i_app (A := [(p, fO s tk), (bo, .cells [.sl (bytesAV out) to])]) (R := bR p bp bf R) (tk := to) (xs := bytesAV out) (ys := bytesAV s.pend) hp hn hg (.inl ⟨_, rfl⟩) (allSz_bytes _) (allSz_bytes _) ?_ ?_ fun t2 H2 q1 q2 q3 => ?_
  · simp only [by_len, maxLen_eq]; omega
  · simp only [by_len]; omega
  rw [by_app] at q1 ⊢
  have q4 : H2.Perm ((bo, .cells [.sl (bytesAV out) to]) :: (p, fO s tk) :: (tokH t2 ++ bR p bp bf R)) := q2.trans (.swap _ _ _)
  have hl2 := look_head q4 q3
  have q5 := set_head (.cells [.sl (bytesAV (out ++ s.pend)) t2]) q4 q3
  have q6 := set_nodup (p := bo) (.cells [.sl (bytesAV (out ++ s.pend)) t2]) q3
  have hlf : lookH bf H2 = some (.cells [.ptr p 0]) := by
    rw [lookH_iff q3]; exact q4.mem_iff.2 (List.mem_cons_of_mem _ (List.mem_cons_of_mem _ (List.mem_append_right _ (List.mem_cons_of_mem _ List.mem_cons_self))))
  have hne : ¬ bf = bo := fun e => by
    subst e
    rw [hl2] at hlf
    cases hlf
  simp (implicitDefEqProofs := false) only [sB, simprocAttr, hl2, hlf, hne]
  refine .inr ⟨p, s, _, _, rfl, ⟨q6, tk, ht, q5.trans (.swap _ _ _)⟩, fun h => by omega, fun _ _ H4 hX4 => ?_⟩
  simp (implicitDefEqProofs := false) only [sB, simprocAttr]
  rw [Int.toNat_natCast, List.drop_length] at hX4
  exact ⟨_, .refl _, k _ ⟨t2, q1, hX4⟩⟩
/-- How many chunks there are. -/
def cntN (k len : Nat) : Nat := (len + k - 1) / k
theorem cntN_lt {k len j : Nat} (hk : 1 ≤ k) (h : j < cntN k len) : j * k < len := by
  unfold cntN at h
  have h1 : (j + 1) * k ≤ len + k - 1 := (Nat.le_div_iff_mul_le (by omega)).1 h
  rw [Nat.add_mul] at h1
  omega
theorem cntN_ge {k len : Nat} (hk : 1 ≤ k) : len ≤ cntN k len * k := by
  unfold cntN
  have h1 := Nat.div_add_mod (len + k - 1) k
  have h2 := Nat.mod_lt (len + k - 1) (show 0 < k by omega)
  rw [Nat.mul_comm] at h1
  omega
end Go.AL.Fun
