/- The program's analysis walked: errors, a node. -/
import Derived.Test.YtjlmonghelbihaaL7
import Derived.Test.YtjlmonghelbihaaI1
import Derived.Test.YtjlmonghelbihaaH8
import Derived.Test.YtjlmonghelbihaaH13
set_option linter.unusedSimpArgs false
set_option linter.unusedVariables false
set_option maxRecDepth 100000
set_option maxHeartbeats 4000000
namespace Go.AL.Fun
open Go Go.AL

def intsAV (l : List Int) : List AV := l.map (.int .i64)
theorem ints_len (l : List Int) : (intsAV l).length = l.length := by simp [intsAV]
theorem ints_get (l : List Int) (i : Nat) : (intsAV l)[i]? = (l[i]?).map (.int .i64) := by simp [intsAV]
theorem ints_all (l : List Int) : AllSz 1 (intsAV l) := by
  intro x hx; obtain ⟨n, _, rfl⟩ := List.mem_map.1 hx; rfl
theorem ints_tok (l : List Int) : tokc (intsAV l) = tokc l := tokc_map _ _
def anO (a : An) (tk : Tok) : AObj := .cells [.sl (intsAV a.escs) tk, .int .i64 a.at_, .int .i64 a.err]
def anH (pp : Nat) (a : An) (tk : Tok) (R : Heap) : Heap := (pp, anO a tk) :: (tokH tk ++ R)
theorem fail_escs (a : An) (p e : Int) : (a.fail p e).escs = a.escs := by unfold An.fail; split <;> rfl
theorem anH_look {pp : Nat} {a : An} {tk : Tok} {R H : Heap} (hp : H.Perm (anH pp a tk R)) (hn : H.keys.Nodup) : lookH pp H = some (anO a tk) := look_head hp hn
theorem anH_set {pp : Nat} {a a' : An} {tk tk' : Tok} {R H : Heap} (hp : H.Perm (anH pp a tk R)) (hn : H.keys.Nodup) : (setH pp (anO a' tk) H).Perm (anH pp a' tk R) := set_head _ hp hn
/-- What else lies there. -/
theorem lkR {pp id : Nat} {o x : AObj} {tk : Tok} {R H : Heap} (hp : H.Perm ((pp, o) :: (tokH tk ++ R))) (hn : H.keys.Nodup) (h : lookH id R = some x) : lookH id H = some x := by
  have hs : R.Sublist ((pp, o) :: (tokH tk ++ R)) := .cons _ (List.sublist_append_right _ _)
  rw [lookH_iff hn]
  exact hp.mem_iff.2 (hs.subset ((lookH_iff (nodup_sub hp hs hn)).1 h))

def c56 (xs : List AV) (H : Heap) (K : Kv) : Prop := ∃ (pp : Nat) (a : An) (tk : Tok) (n : Nd) (p e : Int), xs = [.ptr pp 0, .agg n.cs, .int .i64 e] ∧ n.cs[1]? = some (.int .i64 p) ∧ lookH pp H = some (anO a tk) ∧ K.ap (.tup []) (setH pp (anO (a.fail p e) tk) H)
theorem c56_of (P : Program) {xs : List AV} {H : Heap} {K : Kv} (h : c56 xs H K) : @xF (t0 P) f56 xs H ⟨fun v H' => ∃ H0, Hle H0 H' ∧ K.ap v H0⟩ := by
  obtain ⟨pp, a, tk, n, p, e, rfl, hp1, hl, h⟩ := h
  obtain ⟨k, p', t, q, hp', he, b, el⟩ := n
  simp only [Nd.cs, List.getElem?_cons_succ, List.getElem?_cons_zero, Option.some.injEq, AV.int.injEq, true_and] at hp1
  subst hp1
  have hlk : lookH pp H = some (.cells [.sl (intsAV a.escs) tk, .int .i64 a.at_, .int .i64 a.err]) := hl
  simp (implicitDefEqProofs := false) only [sB, simprocAttr, f56, Nd.cs]
  refine i_new fun p4 hp4 => ?_
  have n4 : ¬ pp = p4 := key_ne hl hp4
  have n4' : ¬ p4 = pp := fun e => n4 e.symm
  by_cases e0 : a.err = 0
  · rw [An.fail_ok e0] at h
    simp (implicitDefEqProofs := false) only [sB, simprocAttr, n4, n4', hlk, e0]
    exact ⟨_, .tail _ _, h⟩
  · rw [An.fail_err e0, set_same hl] at h
    simp (implicitDefEqProofs := false) only [sB, simprocAttr, n4, n4', hlk, e0]
    exact ⟨_, .tail _ _, h⟩

def c36 (xs : List AV) (H : Heap) (K : Kv) : Prop := ∃ (pp : Nat) (a : An) (tk : Tok) (n : Nd) (p e : Int) (g w : St), xs = [.ptr pp 0, .agg n.cs, stAV g, stAV w, .int .i64 e] ∧ n.cs[1]? = some (.int .i64 p) ∧ lookH pp H = some (anO a tk) ∧
  K.ap (.tup []) (setH pp (anO (if g ≠ w then a.fail p e else a) tk) H)
@[reducible] def t56 (P : Program) : Th := ⟨fun _ => none, P, [(56, c56)]⟩
theorem c36_of (P : Program) {xs : List AV} {H : Heap} {K : Kv} (h : c36 xs H K) : @xF (t56 P) f36 xs H ⟨fun v H' => ∃ H0, Hle H0 H' ∧ K.ap v H0⟩ := by
  obtain ⟨pp, a, tk, n, p, e, ⟨g1, g2, g3, g4⟩, ⟨w1, w2, w3, w4⟩, rfl, hp1, hl, h⟩ := h
  obtain ⟨k, p', t, q, hp', he, b, el⟩ := n
  simp (implicitDefEqProofs := false) only [sB, simprocAttr, f36, Nd.cs, stAV]
  refine i_new fun p6 hp6 => ?_
  have n6 : ¬ pp = p6 := key_ne hl hp6
  have n6' : ¬ p6 = pp := fun e => n6 e.symm
  simp (implicitDefEqProofs := false) only [sB, simprocAttr]
  refine i_new fun p7 hp7 => ?_
  have hp7' := hp7
  simp (implicitDefEqProofs := false) only [sB, simprocAttr, Heap.keys] at hp7'
  have n76 : ¬ p7 = p6 := hp7'.1
  have n67 : ¬ p6 = p7 := fun e => n76 e.symm
  have n7 : ¬ pp = p7 := key_ne hl hp7'.2
  have n7' : ¬ p7 = pp := fun e => n7 e.symm
  simp (implicitDefEqProofs := false) only [sB, simprocAttr]
  refine i_new fun p8 hp8 => ?_
  have hp8' := hp8
  simp (implicitDefEqProofs := false) only [sB, simprocAttr, Heap.keys] at hp8'
  have n87 : ¬ p8 = p7 := hp8'.1
  have n78 : ¬ p7 = p8 := fun e => n87 e.symm
  have n86 : ¬ p8 = p6 := hp8'.2.1
  have n68 : ¬ p6 = p8 := fun e => n86 e.symm
  have n8 : ¬ pp = p8 := key_ne hl hp8'.2.2
  have n8' : ¬ p8 = pp := fun e => n8 e.symm
  simp (implicitDefEqProofs := false) only [sB, simprocAttr, n6, n6', n7, n7', n8, n8', n76, n67, n87, n78, n86, n68, x_eqst]
  by_cases e0 : St.mk g1 g2 g3 g4 = St.mk w1 w2 w3 w4
  · rw [if_neg (by simp [e0]), set_same hl] at h
    simp (implicitDefEqProofs := false) only [sB, simprocAttr, e0]
    exact ⟨_, .of_sub (.cons _ (.cons _ (.cons _ (.refl _)))), h⟩
  · rw [if_pos e0] at h
    simp (implicitDefEqProofs := false) only [sB, simprocAttr, e0, n6, n6', n7, n7', n8, n8', n76, n67, n87, n78, n86, n68]
    refine ⟨pp, a, tk, .mk k p' t q hp' he b el, p, e, rfl, hp1, by simp only [lookH, n6, n7, n8, if_false, hl], ?_⟩
    simp (implicitDefEqProofs := false) only [sB, simprocAttr, n6, n6', n7, n7', n8, n8', n76, n67, n87, n78, n86, n68]
    exact ⟨_, .of_sub (.cons _ (.cons _ (.cons _ (.refl _)))), h⟩
end Go.AL.Fun
