/- The framer's methods: New, ready, encode, Start, Finish, Pending, Advance, Done; chunks put together. -/
import Derived.Test.YtcmgeflfapffoaaDoorY6
import Derived.Test.YtcmgeflfapffoaaDoorY8
set_option linter.unusedSimpArgs false
set_option linter.unusedVariables false
set_option maxRecDepth 100000
set_option maxHeartbeats 4000000
namespace Go.AL.Fun
open Go Go.AL

/-- slices.Concat of three. -/
def d43 (xs : List AV) (H : Heap) (K : Kv) : Prop := ∃ (x y z : AV) (a b c : List UInt8) (t : Tok), xs = [.sl [x, y, z] t] ∧ H.keys.Nodup ∧ BSrc H x a ∧ BSrc H y b ∧ BSrc H z c ∧ a.length + b.length + c.length ≤ 1073741824 ∧ 0 < c.length ∧ K.ap (.sl (bytesAV (a ++ (b ++ c))) .no) H
def Cat3 (H1 H2 : Heap) (tk : Tok) (acc : List UInt8) : Prop := H2.Perm (tokH tk ++ H1) ∧ H2.keys.Nodup ∧ GD 1 (bytesAV acc) tk ∧ tk ≠ .nil
theorem Cat3.end {acc : List UInt8} {H1 H2 : Heap} {tk : Tok} (h : Cat3 H1 H2 tk acc) : AVle (.sl (bytesAV acc) tk) (.sl (bytesAV acc) .no) := by
  obtain ⟨_, _, hg, y⟩ := h
  cases tk with
  | nil => exact absurd rfl y
  | no => exact hg.elim
  | «at» q e s => exact .no _ _ _ _
theorem cat_step {t : Th} {H1 H2 : Heap} {tk : Tok} {acc bs : List UInt8} {w : AV} {K : Kv} (hC : Cat3 H1 H2 tk acc) (hw : BSrc H1 w bs) (hl : acc.length + bs.length ≤ 1073741824) (k : ∀ t2 H3, Cat3 H1 H3 t2 (acc ++ bs) → K.ap (.sl (bytesAV (acc ++ bs)) t2) H3) : xE (t := t) (.app 1 1) [.sl (bytesAV acc) tk, w] H2 (K := K) := by
  obtain ⟨hp2, hn2, hg2, y⟩ := hC
  refine i_appD (by decide) (A := []) (R := H1) (tk := tk) hp2 hn2 hg2 (bs_src (hw.mono (look_app hp2 hn2))) (by rw [by_all]; trivial) ?_ ?_ fun t2 H3 g1 g2 g3 g4 g5 => ?_
  · simp only [by_len, maxLen_eq]; omega
  · simp only [by_len]; omega
  rw [by_app] at g1 g2 ⊢
  exact k t2 H3 ⟨g4, g5, g1, g3 y⟩
theorem d43_of (P : Program) {G : Nat → Option (List AV)} {xs : List AV} {H : Heap} {K : Kv} (h : d43 xs H K) : @xF ⟨G, P, [(48, d48)]⟩ f43 xs H ⟨fun v H' => ∃ H0, Hle H0 H' ∧ ∃ v', AVle v v' ∧ K.ap v' H0⟩ := by
  obtain ⟨x, y, z, a, b, c, t, rfl, hn, hx, hy, hz, hl, hc, h⟩ := h
  have hxc := hx.cells
  have hyc := hy.cells
  have hzc := hz.cells
  simp (implicitDefEqProofs := false) only [sB, simprocAttr, f43]
  refine i_loopJ (fun σ H1 => ∃ (i n : Nat), H1 = H ∧ (i = 0 ∧ n = 0 ∨ i = 1 ∧ n = a.length ∨ i = 2 ∧ n = a.length + b.length ∨ i = 3 ∧ n = a.length + b.length + c.length) ∧ σ = [(0, .sl [x, y, z] t), (3, .int .i64 n), (9, .sl [x, y, z] t), (10, .int .i64 3), (11, .int .i64 i)])
    (fun σ _ => match σ.get 11 with | .int _ n => 3 - n.toNat | _ => 0)
    (fun e σ H1 => H1 = H ∧ e = .exit 0 ∧ σ.get 0 = .sl [x, y, z] t ∧ σ.get 3 = .int .i64 ((a.length + b.length + c.length : Nat) : Int))
    ⟨_, .refl _, 0, 0, rfl, .inl ⟨rfl, rfl⟩, rfl⟩ ?_ ?_
  · rintro e σ H1 ⟨rfl, rfl, q0, q3⟩
    simp (implicitDefEqProofs := false) only [sB, simprocAttr, q0, q3]
    refine x_d48 (by omega) hn fun tk H' hp hn' hg z1 z2 => ?_
    simp (implicitDefEqProofs := false) only [sB, simprocAttr]
    refine i_loopJ (fun σ H2 => ∃ (i : Nat) (tk' : Tok) (acc : List UInt8), Cat3 H1 H2 tk' acc ∧ (i = 0 ∧ acc = [] ∨ i = 1 ∧ acc = a ∨ i = 2 ∧ acc = a ++ b ∨ i = 3 ∧ acc = a ++ (b ++ c)) ∧ σ = [(6, .sl (bytesAV acc) tk'), (25, .sl [x, y, z] t), (26, .int .i64 3), (27, .int .i64 i)])
      (fun σ _ => match σ.get 27 with | .int _ n => 3 - n.toNat | _ => 0)
      (fun e σ H2 => e = .exit 2 ∧ ∃ tk', Cat3 H1 H2 tk' (a ++ (b ++ c)) ∧ σ.get 6 = .sl (bytesAV (a ++ (b ++ c))) tk')
      ⟨_, .refl _, 0, tk, [], ⟨hp, hn', hg, z2 (by omega)⟩, .inl ⟨rfl, rfl⟩, rfl⟩ ?_ ?_
    · rintro e σ H2 ⟨rfl, tk', hC, q6⟩
      simp (implicitDefEqProofs := false) only [sB, simprocAttr, q6]
      exact ⟨H1, hle_tok hC.1, _, hC.end, h⟩
    · rintro Q hQ σ H2 ⟨i, tk', acc, hC, ⟨rfl, rfl⟩ | ⟨rfl, rfl⟩ | ⟨rfl, rfl⟩ | ⟨rfl, rfl⟩, rfl⟩
      · simp (implicitDefEqProofs := false) only [sB, simprocAttr, hxc]
        refine cat_step (acc := []) hC hx (by simp only [List.length_nil]; omega) fun t2 H3 g => ?_
        simp (implicitDefEqProofs := false) only [sB, simprocAttr]
        exact ⟨H3, .refl _, 1, t2, _, g, .inr (.inl ⟨rfl, rfl⟩), by simp⟩
      · simp (implicitDefEqProofs := false) only [sB, simprocAttr, hyc]
        refine cat_step hC hy (by omega) fun t2 H3 g => ?_
        simp (implicitDefEqProofs := false) only [sB, simprocAttr]
        exact ⟨H3, .refl _, 2, t2, _, g, .inr (.inr (.inl ⟨rfl, rfl⟩)), by simp⟩
      · simp (implicitDefEqProofs := false) only [sB, simprocAttr, hzc]
        refine cat_step hC hz (by rw [List.length_append]; omega) fun t2 H3 g => ?_
        rw [List.append_assoc] at g
        simp (implicitDefEqProofs := false) only [sB, simprocAttr]
        exact ⟨H3, .refl _, 3, t2, _, g, .inr (.inr (.inr ⟨rfl, rfl⟩)), by simp⟩
      · simp (implicitDefEqProofs := false) only [sB, simprocAttr]
        exact hQ _ _ _ ⟨rfl, tk', hC, rfl⟩
  · have r1 := w_i64 (a.length : Int) (by omega) (by omega)
    have r2 := w_i64 ((a.length : Int) + b.length) (by omega) (by omega)
    have r3 := w_i64 (((a.length + b.length : Nat) : Int) + c.length) (by omega) (by omega)
    have k1 : ¬ (a.length : Int) < 0 := by omega
    have k2 : ¬ (a.length : Int) + b.length < 0 := by omega
    have k3 : ¬ ((a.length + b.length : Nat) : Int) + c.length < 0 := by omega
    rintro Q hQ σ H1 ⟨i, n, rfl, ⟨rfl, rfl⟩ | ⟨rfl, rfl⟩ | ⟨rfl, rfl⟩ | ⟨rfl, rfl⟩, rfl⟩
    · simp (implicitDefEqProofs := false) only [sB, simprocAttr, hxc]
      refine bs_len hx _ ?_
      simp (implicitDefEqProofs := false) only [sB, simprocAttr, r1, k1]
      exact ⟨_, .refl _, 1, a.length, rfl, .inr (.inl ⟨rfl, rfl⟩), by simp, by simp⟩
    · simp (implicitDefEqProofs := false) only [sB, simprocAttr, hyc]
      refine bs_len hy _ ?_
      simp (implicitDefEqProofs := false) only [sB, simprocAttr, r2, k2]
      exact ⟨_, .refl _, 2, a.length + b.length, rfl, .inr (.inr (.inl ⟨rfl, rfl⟩)), by simp, by simp⟩
    · simp (implicitDefEqProofs := false) only [sB, simprocAttr, hzc]
      refine bs_len hz _ ?_
      simp (implicitDefEqProofs := false) only [sB, simprocAttr, r3, k3]
      exact ⟨_, .refl _, 3, a.length + b.length + c.length, rfl, .inr (.inr (.inr ⟨rfl, rfl⟩)), by simp, by simp⟩
    · simp (implicitDefEqProofs := false) only [sB, simprocAttr]
      exact hQ _ _ _ ⟨rfl, rfl, rfl, rfl⟩
end Go.AL.Fun
