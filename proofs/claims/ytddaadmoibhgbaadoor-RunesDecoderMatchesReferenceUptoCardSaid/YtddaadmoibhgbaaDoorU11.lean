/- The example that every law runs. -/
import Derived.Test.YtddaadmoibhgbaaDoorU10
set_option linter.unusedSimpArgs false
set_option linter.unusedVariables false
set_option maxRecDepth 100000
set_option maxHeartbeats 4000000
namespace Go.AL.Fun
open Go Go.AL

theorem x_c9 {pp : Nat} {h p : List UInt8} {tk : Tok} {x : AV} {H R : Heap} {K : Kv} (hp : H.Perm ((pp, dO h tk) :: R)) (hn : H.keys.Nodup) (hx : BSrc H x p) (hl : h.length + p.length ≤ 1073741824)
  (k : ∀ tk2 H', H'.Perm ((pp, dO (wrP (h ++ p)).2 tk2) :: R) → H'.keys.Nodup → K.ap (.sl (i32AV (wrP (h ++ p)).1) (tokc (wrP (h ++ p)).1)) H') : c9 [.ptr pp 0, x] H K := ⟨pp, h, p, tk, x, R, rfl, hp, hn, hx, hl, k⟩
theorem x_c11 {pp : Nat} {h : List UInt8} {tk : Tok} {H : Heap} {K : Kv} (hl : lookH pp H = some (dO h tk)) (k : K.ap (.int .i64 h.length) H) : c11 [.ptr pp 0] H K := ⟨pp, h, tk, rfl, hl, k⟩
theorem x_c13 {H : Heap} {K : Kv} (k : ∀ pp, pp ∉ H.keys → K.ap (.ptr pp 0) ((pp, dO [] .nil) :: H)) : c13 [] H K := ⟨rfl, k⟩
theorem x_c10 {pp : Nat} {h : List UInt8} {tk : Tok} {H R : Heap} {K : Kv} (hp : H.Perm ((pp, dO h tk) :: R)) (hn : H.keys.Nodup) (hl : h.length ≤ 1073741824)
  (k : ∀ id H', H'.Perm ((id, .cells (i32AV (decP h))) :: (pp, dO [] .nil) :: R) → H'.keys.Nodup → K.ap (.msl id 0 (decP h).length 1) H') : c10 [.ptr pp 0] H K := ⟨pp, h, tk, R, rfl, hp, hn, hl, k⟩
theorem al1 : decP [97, 255, 98] = [97, 65533, 98] := by decide
theorem al2 : wrP [195] = ([], [195]) := by decide
theorem al3 : wrP [195, 164] = ([228], []) := by decide
def c12 (xs : List AV) (H : Heap) (K : Kv) : Prop := xs = [] ∧ H.keys.Nodup ∧ K.ap (.bool true) H
theorem c12_of (P : Program) {G : Nat → Option (List AV)} {xs : List AV} {H : Heap} {K : Kv} (h : c12 xs H K) : @xF ⟨G, P, [(17, c17), (13, c13), (9, c9), (11, c11)]⟩ f12 xs H ⟨fun v H' => ∃ H0, Hle H0 H' ∧ K.ap v H0⟩ := by
  obtain ⟨rfl, hn, k⟩ := h
  simp (implicitDefEqProofs := false) only [sB, simprocAttr, f12]
  refine x_c17 hn (by simp) fun id H1 g1 g2 => ?_
  rw [al1] at g1
  have hid := look_head g1 g2
  simp (implicitDefEqProofs := false) only [sB, simprocAttr]
  refine x_c13 fun pp hpp => ?_
  have n1 : ¬ id = pp := key_ne hid hpp
  have n1' : ¬ pp = id := fun e => n1 e.symm
  have hid' : lookH id H1 = some (.cells [.int .i32 97, .int .i32 65533, .int .i32 98]) := hid
  simp (implicitDefEqProofs := false) only [sB, simprocAttr, al1, hid', n1, n1', List.length_cons, List.length_nil]
  refine i_new fun a ha => ?_
  simp (implicitDefEqProofs := false) only [sB, simprocAttr]
  have hnA := List.nodup_cons.2 ⟨ha, List.nodup_cons.2 ⟨hpp, g2⟩⟩
  refine x_c9 (h := []) (p := [195]) (R := (a, .cells [.int .u8 195]) :: H1) (.swap _ _ _) hnA (.msl a 0 [.int .u8 195] [195] (by simp [lookH]) (by simp) rfl) (by simp) fun tk2 H2 p1 p2 => ?_
  rw [List.nil_append, al2] at p1 ⊢
  have hl2 := look_head p1 p2
  simp (implicitDefEqProofs := false) only [sB, simprocAttr]
  refine x_c11 hl2 ?_
  simp (implicitDefEqProofs := false) only [sB, simprocAttr]
  refine i_new fun b hb => ?_
  simp (implicitDefEqProofs := false) only [sB, simprocAttr]
  have hnB := List.nodup_cons.2 ⟨hb, p2⟩
  refine x_c9 (h := [195]) (p := [164]) (R := (b, .cells [.int .u8 164]) :: (a, .cells [.int .u8 195]) :: H1) ((p1.cons _).trans (.swap _ _ _)) hnB (.msl b 0 [.int .u8 164] [164] (by simp [lookH]) (by simp) rfl) (by simp) fun tk3 H3 p3 p4 => ?_
  rw [show ([195] : List UInt8) ++ [164] = [195, 164] from rfl, al3] at p3 ⊢
  have hl3 := look_head p3 p4
  have e0 : (i32AV [228])[0]? = some (.int .i32 228) := rfl
  simp (implicitDefEqProofs := false) only [sB, simprocAttr, e0]
  refine x_c11 hl3 ?_
  simp (implicitDefEqProofs := false) only [sB, simprocAttr]
  exact ⟨H, (hle_sub g1 (List.sublist_cons_self _ _)).trans (hle_sub p3 (.cons _ (.cons _ (List.sublist_cons_self _ _)))), k⟩
end Go.AL.Fun
