/- Pulls, where the result may be written; what law 4 calls. -/
import Derived.Test.YtpeaphpibnikcaaVC
set_option linter.unusedSimpArgs false
set_option linter.unusedVariables false
set_option maxRecDepth 100000
set_option maxHeartbeats 4000000
namespace Go.AL.Fun
open Go Go.AL

def m17 (xs : List AV) (H : Heap) (K : Kv) : Prop := ∃ (l : List (List UInt8)) (t : Tok), xs = [.sl (strsAV l) t] ∧ t ≠ .nil ∧ l.length ≤ 1048576 ∧ H.keys.Nodup ∧ ∀ id, id ∉ H.keys → K.ap (.msl id 0 l.length 1) ((id, .cells (strsAV l)) :: H)
theorem m17_of (P : Program) {xs : List AV} {H : Heap} {K : Kv} (h : m17 xs H K) : @xF (t0 P) f17 xs H ⟨fun v H' => ∃ H0, Hle H0 H' ∧ K.ap v H0⟩ := by
  obtain ⟨l, t, rfl, c, hl, hn, k⟩ := h
  simp (implicitDefEqProofs := false) only [sB, simprocAttr, f17, c]
  refine i_msl (i_new fun id hid => ?_)
  simp (implicitDefEqProofs := false) only [sB, simprocAttr]
  refine ⟨strs_all l, ⟨by rw [strs_len]; omega, by rw [strs_len]; omega⟩, hid, i_otherM fun id2 hid2 => ?_⟩
  simp (implicitDefEqProofs := false) only [sB, simprocAttr, strs_len]
  rw [strs_flat]
  exact ⟨_, .refl _, k id2 hid2⟩
def m7 (xs : List AV) (H : Heap) (K : Kv) : Prop := ∃ (p : Nat) (A B : AV) (l : List (List UInt8)) (t : Tok), xs = [.ptr p 0] ∧ lookH p H = some (.cells [A, B, .sl (strsAV l) t]) ∧ t ≠ .nil ∧ l.length ≤ 1048576 ∧ H.keys.Nodup ∧ ∀ id, id ∉ H.keys → K.ap (.msl id 0 l.length 1) ((id, .cells (strsAV l)) :: H)
theorem m7_of (P : Program) {xs : List AV} {H : Heap} {K : Kv} (h : m7 xs H K) : @xF ⟨fun _ => none, P, [(17, m17)]⟩ f7 xs H K := by
  obtain ⟨p, A, B, l, t, rfl, hlk, c, hl, hn, k⟩ := h
  simp (implicitDefEqProofs := false) only [sB, simprocAttr, f7, hlk]
  refine ⟨l, t, rfl, c, hl, hn, fun id hid => ?_⟩
  simp (implicitDefEqProofs := false) only [sB, simprocAttr]
  exact k id hid
def q7 (xs : List AV) (H : Heap) (K : Kv) : Prop := o7 xs H K ∨ m7 xs H K
@[reducible] def tI (P : Program) : Th := ⟨fun _ => none, P, [(6, o6), (7, q7), (8, c8), (9, c9), (10, c10m), (11, c11), (12, s12), (13, c13 1099511627776), (14, c14)]⟩
end Go.AL.Fun
