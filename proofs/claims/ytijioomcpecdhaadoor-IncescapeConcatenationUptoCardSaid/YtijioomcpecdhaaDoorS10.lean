/- The escaped form of a rune: plainly, and by the program. -/
import Derived.Test.YtijioomcpecdhaaDoorS7
import Derived.Shelf.Strings.Repeat
set_option linter.unusedSimpArgs false
set_option linter.unusedVariables false
set_option maxRecDepth 100000
set_option maxHeartbeats 4000000
namespace Go.AL.Fun
open Go Go.AL

def okB (r : Int) : Bool := decide (0 ≤ r ∧ r ≤ 1114111 ∧ ¬ (55296 ≤ r ∧ r ≤ 57343))
theorem okB_iff {r : Int} : okB r = true ↔ okR r := by unfold okB okR; exact decide_eq_true_iff
def letP (r : Int) : Bool := decide ((97 ≤ r ∧ r ≤ 122) ∨ (65 ≤ r ∧ r ≤ 90) ∨ (48 ≤ r ∧ r ≤ 57))
def ctlP (r : Int) : Bool := decide (r < 32 ∨ r = 127)
def sepP (r : Int) : Bool := decide (r = 8232 ∨ r = 8233)
def normP (e r : Int) : Int := if okB r = false ∨ (r = 0 ∧ e ≠ 2 ∧ e ≠ 3) then 65533 else r
def htmlP (r : Int) : List UInt8 := if r = 38 then [38, 97, 109, 112, 59] else if r = 60 then [38, 108, 116, 59] else if r = 62 then [38, 103, 116, 59] else if r = 34 then [38, 35, 51, 52, 59] else if r = 39 then [38, 35, 51, 57, 59] else if r = 96 then [38, 35, 57, 54, 59] else [38, 35, 54, 49, 59]
def txS : List UInt8 := [60, 62, 34, 39]
def unS : List UInt8 := [45, 46, 95, 126]
def jsS : List UInt8 := [34, 38, 39, 47, 60, 61, 62, 92, 96]
def csS : List UInt8 := [34, 38, 39, 40, 41, 47, 58, 59, 60, 62, 92, 123, 125]
def up (d : Nat) : UInt8 := if d < 10 then UInt8.ofNat (48 + d) else UInt8.ofNat (55 + d)
def pct1 (c : UInt8) : List UInt8 := [37, up (c.toNat / 16), up (c.toNat % 16)]
def pct (s : List UInt8) : List UInt8 := s.flatMap pct1
def hex4 (r : Int) : List UInt8 := List.replicate (4 - (hexL r.toNat).length) 48 ++ hexL r.toNat
/-- The escaped form of a rune that is in order. -/
def runeQ (e r : Int) : List UInt8 :=
  if e = 1 ∧ (r = 96 ∨ r = 61) then htmlP r
  else if (e = 0 ∨ e = 1) ∧ (r = 38 ∨ hasR txS r = true) then htmlP r
  else if e = 2 ∧ letP r = false ∧ hasR unS r = false then pct (enc1 r)
  else if e = 3 ∧ (ctlP r = true ∨ sepP r = true ∨ hasR jsS r = true) then [92, 117] ++ hex4 r
  else if e = 4 ∧ (ctlP r = true ∨ hasR csS r = true) then [92] ++ hexL r.toNat ++ [32]
  else enc1 r
def runeP (e r : Int) : List UInt8 := runeQ e (normP e r)
theorem normP_ok (e r : Int) : okR (normP e r) := by
  unfold normP
  split
  · unfold okR; omega
  · rename_i h
    rw [not_or] at h
    exact okB_iff.1 (by simpa using h.1)

theorem enc_utf8 {r : Int} (h : okR r) : (Utf8.encode r).data.toList = enc1 r := by
  obtain ⟨h0, h1, h2⟩ := h
  have hv : Utf8.valid r = true := by unfold Utf8.valid; simp; omega
  have he : encC r = r.toNat := by unfold encC; rw [if_neg (by omega)]
  unfold Utf8.encode enc1
  rw [if_pos hv, he]
  simp only
  repeat' split
  all_goals first
    | rfl
    | (exfalso; omega)
theorem up_at : ∀ d : Fin 16, ([48, 49, 50, 51, 52, 53, 54, 55, 56, 57, 65, 66, 67, 68, 69, 70] : List UInt8)[d.val]? = some (up d.val) := by decide
theorem up_get {d : Nat} (h : d < 16) : ([48, 49, 50, 51, 52, 53, 54, 55, 56, 57, 65, 66, 67, 68, 69, 70] : List UInt8)[d]? = some (up d) := up_at ⟨d, h⟩

def c42 (xs : List AV) (H : Heap) (K : Kv) : Prop := ∃ r : Int, xs = [.int .i32 r] ∧ K.ap (.bool (letP r)) H
theorem c42_of (P : Program) {G : Nat → Option (List AV)} {xs : List AV} {H : Heap} {K : Kv} (h : c42 xs H K) : @xF ⟨G, P, []⟩ f42 xs H K := by
  obtain ⟨r, rfl, k⟩ := h
  unfold letP at k
  by_cases a1 : 97 ≤ r <;> by_cases a2 : r ≤ 122 <;> by_cases b1 : 65 ≤ r <;> by_cases b2 : r ≤ 90 <;> by_cases d1 : 48 ≤ r <;> by_cases d2 : r ≤ 57 <;>
    simp only [a1, a2, b1, b2, d1, d2, and_self, and_true, true_and, and_false, false_and, or_self, or_true, true_or, or_false, false_or, decide_true, decide_false] at k <;>
    (simp (implicitDefEqProofs := false) only [sB, simprocAttr, f42, a1, a2, b1, b2, d1, d2]; exact k)
def c44 (xs : List AV) (H : Heap) (K : Kv) : Prop := ∃ r : Int, xs = [.int .i32 r] ∧ K.ap (.bool (ctlP r)) H
theorem c44_of (P : Program) {G : Nat → Option (List AV)} {xs : List AV} {H : Heap} {K : Kv} (h : c44 xs H K) : @xF ⟨G, P, []⟩ f44 xs H K := by
  obtain ⟨r, rfl, k⟩ := h
  unfold ctlP at k
  by_cases a1 : r < 32 <;> by_cases a2 : r = 127 <;>
    simp only [a1, a2, or_self, or_true, true_or, or_false, false_or, decide_true, decide_false] at k <;>
    (simp (implicitDefEqProofs := false) only [sB, simprocAttr, f44, a1, a2]; exact k)
def c45 (xs : List AV) (H : Heap) (K : Kv) : Prop := ∃ r : Int, xs = [.int .i32 r] ∧ K.ap (.bool (sepP r)) H
theorem c45_of (P : Program) {G : Nat → Option (List AV)} {xs : List AV} {H : Heap} {K : Kv} (h : c45 xs H K) : @xF ⟨G, P, []⟩ f45 xs H K := by
  obtain ⟨r, rfl, k⟩ := h
  unfold sepP at k
  by_cases a1 : r = 8232 <;> by_cases a2 : r = 8233 <;>
    simp only [a1, a2, or_self, or_true, true_or, or_false, false_or, decide_true, decide_false] at k <;>
    (simp (implicitDefEqProofs := false) only [sB, simprocAttr, f45, a1, a2]; exact k)
/-- utf8.ValidRune. -/
def c73' (xs : List AV) (H : Heap) (K : Kv) : Prop := ∃ r : Int, xs = [.int .i32 r] ∧ K.ap (.bool (okB r)) H
theorem c73'_of (P : Program) {G : Nat → Option (List AV)} {xs : List AV} {H : Heap} {K : Kv} (h : c73' xs H K) : @xF ⟨G, P, []⟩ f73 xs H K := by
  obtain ⟨r, rfl, k⟩ := h
  unfold okB at k
  by_cases a1 : 0 ≤ r <;> by_cases a2 : r < 55296 <;> by_cases a3 : 57343 < r <;> by_cases a4 : r ≤ 1114111 <;>
    first
      | (rw [decide_eq_true (by omega)] at k; simp (implicitDefEqProofs := false) only [sB, simprocAttr, f73, a1, a2, a3, a4]; exact k)
      | (rw [decide_eq_false (by omega)] at k; simp (implicitDefEqProofs := false) only [sB, simprocAttr, f73, a1, a2, a3, a4]; exact k)
      | (exfalso; omega)
def c39 (xs : List AV) (H : Heap) (K : Kv) : Prop := ∃ (e r : Int), xs = [.int .i64 e, .int .i32 r] ∧ K.ap (.int .i32 (normP e r)) H
theorem c39_of (P : Program) {G : Nat → Option (List AV)} {xs : List AV} {H : Heap} {K : Kv} (h : c39 xs H K) : @xF ⟨G, P, [(73, c73')]⟩ f39 xs H K := by
  obtain ⟨e, r, rfl, k⟩ := h
  unfold normP at k
  simp (implicitDefEqProofs := false) only [sB, simprocAttr, f39]
  refine ⟨r, rfl, ?_⟩
  cases hb : okB r with
  | false =>
    rw [if_pos (.inl hb)] at k
    simp (implicitDefEqProofs := false) only [sB, simprocAttr]
    exact k
  | true =>
    by_cases h0 : r = 0
    · by_cases e2 : e = 2
      · rw [if_neg (by rw [hb]; simp [e2])] at k
        simp (implicitDefEqProofs := false) only [sB, simprocAttr, h0, e2]
        rw [← h0]; exact k
      · by_cases e3 : e = 3
        · rw [if_neg (by rw [hb]; simp [e3])] at k
          simp (implicitDefEqProofs := false) only [sB, simprocAttr, h0, e2, e3]
          rw [← h0]; exact k
        · rw [if_pos (.inr ⟨h0, e2, e3⟩)] at k
          simp (implicitDefEqProofs := false) only [sB, simprocAttr, h0, e2, e3]
          exact k
    · rw [if_neg (by rw [hb]; simp [h0])] at k
      simp (implicitDefEqProofs := false) only [sB, simprocAttr, h0]
      exact k
/-- Two digits. -/
def isD (r : Int) (s : List UInt8) : Prop := (r = 34 ∧ s = [51, 52]) ∨ (r = 39 ∧ s = [51, 57]) ∨ (r = 96 ∧ s = [57, 54]) ∨ (r = 61 ∧ s = [54, 49])
def cD (xs : List AV) (H : Heap) (K : Kv) : Prop := ∃ (r : Int) (s : List UInt8), xs = [.int .i64 r] ∧ isD r s ∧ K.ap (.str s) H
def cD2 (xs : List AV) (H : Heap) (K : Kv) : Prop := ∃ (r : Int) (s : List UInt8), xs = [.int .i64 r, .int .i64 10] ∧ isD r s ∧ K.ap (.str s) H
theorem c99_of (P : Program) {G : Nat → Option (List AV)} {xs : List AV} {H : Heap} {K : Kv} (h : cD xs H K) : @xF ⟨G, P, []⟩ f99 xs H K := by
  obtain ⟨r, s, rfl, hd, k⟩ := h
  rcases hd with ⟨rfl, rfl⟩ | ⟨rfl, rfl⟩ | ⟨rfl, rfl⟩ | ⟨rfl, rfl⟩ <;> (simp (implicitDefEqProofs := false) only [sB, simprocAttr, f99]; exact k)
def c77 (xs : List AV) (H : Heap) (K : Kv) : Prop := (∃ (r : Int) (s : List UInt8), xs = [.int .i64 r, .int .i64 10] ∧ isD r s ∧ K.ap (.str s) H) ∨ (∃ n : Nat, xs = [.int .i64 n, .int .i64 16] ∧ n ≤ 65536 ∧ H.keys.Nodup ∧ K.ap (.str (hexL n)) H)
theorem c77_of (P : Program) {G : Nat → Option (List AV)} {xs : List AV} {H : Heap} {K : Kv} (h : c77 xs H K) : @xF ⟨G, P, [(99, cD), (102, c102)]⟩ f77 xs H K := by
  rcases h with ⟨r, s, rfl, hd, k⟩ | ⟨n, rfl, hn, hnd, k⟩
  · have h0 : 0 ≤ r := by unfold isD at hd; omega
    have h1 : r < 100 := by unfold isD at hd; omega
    simp (implicitDefEqProofs := false) only [sB, simprocAttr, f77, h0, h1]
    refine ⟨r, s, rfl, hd, ?_⟩
    simp (implicitDefEqProofs := false) only [sB, simprocAttr]
    exact k
  · have h0 : ¬ (n : Int) < 0 := by omega
    have w1 := w_u64 (n : Int) (by omega) (by omega)
    simp (implicitDefEqProofs := false) only [sB, simprocAttr, f77, h0, w1]
    refine ⟨n, rfl, hn, hnd, ?_⟩
    simp (implicitDefEqProofs := false) only [sB, simprocAttr]
    exact k
theorem c94_of (P : Program) {G : Nat → Option (List AV)} {xs : List AV} {H : Heap} {K : Kv} (h : cD xs H K) : @xF ⟨G, P, [(77, c77)]⟩ f94 xs H K := by
  obtain ⟨r, s, rfl, hd, k⟩ := h
  simp (implicitDefEqProofs := false) only [sB, simprocAttr, f94]
  refine .inl ⟨r, s, rfl, hd, ?_⟩
  simp (implicitDefEqProofs := false) only [sB, simprocAttr]
  exact k
theorem c74_of (P : Program) {G : Nat → Option (List AV)} {xs : List AV} {H : Heap} {K : Kv} (h : cD xs H K) : @xF ⟨G, P, [(94, cD)]⟩ f74 xs H K := by
  obtain ⟨r, s, rfl, hd, k⟩ := h
  simp (implicitDefEqProofs := false) only [sB, simprocAttr, f74]
  refine ⟨r, s, rfl, hd, ?_⟩
  simp (implicitDefEqProofs := false) only [sB, simprocAttr]
  exact k
def c46 (xs : List AV) (H : Heap) (K : Kv) : Prop := ∃ n : Nat, xs = [.int .i64 n, .int .i64 16] ∧ n ≤ 65536 ∧ H.keys.Nodup ∧ K.ap (.str (hexL n)) H
theorem c46_of (P : Program) {G : Nat → Option (List AV)} {xs : List AV} {H : Heap} {K : Kv} (h : c46 xs H K) : @xF ⟨G, P, [(77, c77)]⟩ f46 xs H K := by
  obtain ⟨n, rfl, hn, hnd, k⟩ := h
  simp (implicitDefEqProofs := false) only [sB, simprocAttr, f46]
  refine .inr ⟨n, rfl, hn, hnd, ?_⟩
  simp (implicitDefEqProofs := false) only [sB, simprocAttr]
  exact k
def htmlR (r : Int) : Prop := r = 38 ∨ r = 60 ∨ r = 62 ∨ r = 34 ∨ r = 39 ∨ r = 96 ∨ r = 61
def c40 (xs : List AV) (H : Heap) (K : Kv) : Prop := ∃ r : Int, xs = [.int .i32 r] ∧ htmlR r ∧ K.ap (.str (htmlP r)) H
theorem c40_of (P : Program) {G : Nat → Option (List AV)} {xs : List AV} {H : Heap} {K : Kv} (h : c40 xs H K) : @xF ⟨G, P, [(74, cD)]⟩ f40 xs H K := by
  obtain ⟨r, rfl, hd, k⟩ := h
  rcases hd with rfl | rfl | rfl | rfl | rfl | rfl | rfl
  · simp (implicitDefEqProofs := false) only [sB, simprocAttr, f40]
    exact k
  · simp (implicitDefEqProofs := false) only [sB, simprocAttr, f40]
    exact k
  · simp (implicitDefEqProofs := false) only [sB, simprocAttr, f40]
    exact k
  · simp (implicitDefEqProofs := false) only [sB, simprocAttr, f40]
    refine ⟨34, [51, 52], rfl, .inl ⟨rfl, rfl⟩, ?_⟩
    simp (implicitDefEqProofs := false) only [sB, simprocAttr]
    exact k
  · simp (implicitDefEqProofs := false) only [sB, simprocAttr, f40]
    refine ⟨39, [51, 57], rfl, .inr (.inl ⟨rfl, rfl⟩), ?_⟩
    simp (implicitDefEqProofs := false) only [sB, simprocAttr]
    exact k
  · simp (implicitDefEqProofs := false) only [sB, simprocAttr, f40]
    refine ⟨96, [57, 54], rfl, .inr (.inr (.inl ⟨rfl, rfl⟩)), ?_⟩
    simp (implicitDefEqProofs := false) only [sB, simprocAttr]
    exact k
  · simp (implicitDefEqProofs := false) only [sB, simprocAttr, f40]
    refine ⟨61, [54, 49], rfl, .inr (.inr (.inr ⟨rfl, rfl⟩)), ?_⟩
    simp (implicitDefEqProofs := false) only [sB, simprocAttr]
    exact k
end Go.AL.Fun
