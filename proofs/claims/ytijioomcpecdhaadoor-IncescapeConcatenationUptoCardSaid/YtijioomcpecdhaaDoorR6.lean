/- Text decoded; lists of runes compared. -/
import Derived.Test.YtijioomcpecdhaaDoorR5
set_option linter.unusedSimpArgs false
set_option linter.unusedVariables false
set_option maxRecDepth 100000
set_option maxHeartbeats 4000000
namespace Go.AL.Fun
open Go Go.AL

theorem ren_nodup {b id : Nat} {o : AObj} {H : Heap} (hn : H.keys.Nodup) (hbk : b ∈ H.keys) (hid : id ∉ othK b H) : (renH b id o H).keys.Nodup := by
  have hk : (renH b id o H).keys.Perm (id :: othK b H) := by
    clear hid hn
    revert hbk
    induction H with
    | nil => intro h; simp [Heap.keys] at h
    | cons p H ih =>
      obtain ⟨j, o'⟩ := p
      intro hbk
      simp only [othK, renH]
      by_cases h : b = j
      · subst h; rw [if_pos rfl, if_pos rfl]; exact .refl _
      · rw [if_neg h, if_neg h]
        have hb' : b ∈ Heap.keys H := by simpa [Heap.keys, h] using hbk
        exact ((ih hb').cons j).trans (.swap id j _)
  rw [hk.nodup_iff]
  exact List.nodup_cons.2 ⟨hid, (List.nodup_cons.1 ((othK_keys hbk).nodup_iff.1 hn)).2⟩
/-- An append to a list whose cells are told. -/
theorem app_msl {t : Th} {H R : Heap} {K : Kv} {b n bytes : Nat} {vs ys : List AV} {y : AV} (hp : H.Perm ((b, .cells vs) :: R)) (hn : H.keys.Nodup) (hl : vs.length = n) (src : ∀ K' : Kl AV, K'.ap ys → xSrc 1 y H (K := K')) (hf : flat ys = ys)
    (h3 : n + ys.length ≤ maxLen) (h4 : (n + ys.length) * bytes ≤ 140737488355328) (hK : ∀ id H', H'.Perm ((id, .cells (vs ++ ys)) :: R) → H'.keys.Nodup → K.ap (.msl id 0 (n + ys.length) 1) H') : xE (t := t) (.app 1 bytes) [.msl b 0 n 1, y] H (K := K) := by
  rw [x_appm]
  refine ⟨by decide, src _ ⟨⟨rfl, h3, h4⟩, ?_⟩⟩
  have hlk := look_head hp hn
  have hbk : b ∈ H.keys := List.mem_map.2 ⟨_, (lookH_iff hn).1 hlk, rfl⟩
  rw [hlk, x_cells]
  refine ⟨⟨by omega, othK_nodup hn⟩, fun id hid => ?_⟩
  rw [hf]
  refine hK id _ ((renH_perm hp hn).trans ?_) (ren_nodup hn hbk hid)
  simp only [renH, if_true]
  exact .refl _
theorem i32_flat (l : List Int) : flat (i32AV l) = i32AV l := by
  induction l with
  | nil => rfl
  | cons x l ih => simp only [i32AV, List.map_cons, flat, List.flatMap_cons, AV.cells, List.cons_append, List.nil_append] at ih ⊢; rw [ih]
theorem i32_app (a b : List Int) : i32AV a ++ i32AV b = i32AV (a ++ b) := by simp [i32AV]

def c23 (xs : List AV) (H : Heap) (K : Kv) : Prop := ∃ (s : List UInt8), xs = [.str s] ∧ H.keys.Nodup ∧ s.length ≤ 1073741824 ∧
  ∀ id H', H'.Perm ((id, .cells (i32AV (decP s))) :: H) → H'.keys.Nodup → K.ap (.msl id 0 (decP s).length 1) H'
theorem c23_of (P : Program) {G : Nat → Option (List AV)} {xs : List AV} {H : Heap} {K : Kv} (h : c23 xs H K) : @xF ⟨G, P, []⟩ f23 xs H ⟨fun v H' => ∃ H0, Hle H0 H' ∧ K.ap v H0⟩ := by
  obtain ⟨s, rfl, hn, hs, h⟩ := h
  simp (implicitDefEqProofs := false) only [sB, simprocAttr, f23]
  refine ⟨by omega, i_new fun b hb => ?_⟩
  simp (implicitDefEqProofs := false) only [sB, simprocAttr]
  refine i_new fun it hit => ?_
  simp (implicitDefEqProofs := false) only [sB, simprocAttr]
  refine i_loopJ (fun σ H1 => ∃ (i b : Nat) (out : List Int) (V : AV), H1.Perm ((it, .iter s i) :: (b, .cells (i32AV out)) :: H) ∧ H1.keys.Nodup ∧ i ≤ s.length ∧ out.length ≤ i ∧ out ++ decP (s.drop i) = decP s ∧ V = .msl b 0 out.length 1 ∧ σ = [(3, V), (10, .ptr it 0)])
    (fun _ H1 => match lookH it H1 with | some (.iter _ i) => s.length - i | _ => 0)
    (fun e σ H1 => e = .exit 0 ∧ ∃ b, H1.Perm ((it, .iter s s.length) :: (b, .cells (i32AV (decP s))) :: H) ∧ H1.keys.Nodup ∧ σ.get 3 = .msl b 0 (decP s).length 1)
    ⟨_, .refl _, 0, b, [], _, .refl _, List.nodup_cons.2 ⟨hit, List.nodup_cons.2 ⟨hb, hn⟩⟩, by omega, by simp, rfl, rfl, rfl⟩ ?_ ?_
  · rintro e σ H1 ⟨rfl, b, hp, hn1, q3⟩
    simp (implicitDefEqProofs := false) only [sB, simprocAttr, q3]
    exact ⟨_, hle_sub hp (List.sublist_cons_self _ _), h b _ (.refl _) (List.nodup_cons.1 (nodup_perm hp hn1)).2⟩
  · rintro Q hQ σ H1 ⟨i, b, out, V, hp, hn1, hi, ho, hd, hV, rfl⟩
    have hlk := look_head hp hn1
    by_cases c : i < s.length
    · have hu := utf8_dec c
      simp (implicitDefEqProofs := false) only [sB, simprocAttr, hlk, c]
      refine i_sl ⟨⟨i32_all [((Utf8.decode ⟨s.toArray⟩ i).1 : Int)], rfl, rfl⟩, i_new fun z hz => ?_⟩
      have hz' : z ∉ Heap.keys H1 := by rw [← keys_set]; exact hz
      have hp2 : ((z, AObj.spare 1) :: setH it (.iter s (i + (Utf8.decode ⟨s.toArray⟩ i).2)) H1).Perm ((b, .cells (i32AV out)) :: (z, .spare 1) :: (it, .iter s (i + (Utf8.decode ⟨s.toArray⟩ i).2)) :: H) :=
        ((set_head _ hp hn1).cons _).trans ((List.Perm.swap _ _ _).cons _ |>.trans (.swap _ _ _))
      have hn2 : (Heap.keys ((z, AObj.spare 1) :: setH it (.iter s (i + (Utf8.decode ⟨s.toArray⟩ i).2)) H1)).Nodup := List.nodup_cons.2 ⟨hz, set_nodup _ hn1⟩
      have hne : s.drop i ≠ [] := by intro e; have := congrArg List.length e; rw [List.length_drop] at this; simp at this; omega
      rw [decP_step hne] at hd
      have d1 := dec1_pos (s.drop i)
      have d2 := dec1_le hne
      rw [List.length_drop] at d2
      rw [List.drop_drop] at hd
      rw [hu.1, hu.2] at *
      simp (implicitDefEqProofs := false) only [sB, simprocAttr]
      subst hV
      refine app_msl (ys := i32AV [(dec1 (s.drop i)).1]) hp2 hn2 (i32_len _) (src_sl_of _ _ (i32_all _)) (i32_flat _) ?_ ?_ fun id H' g1 g2 => ?_
      · simp only [i32_len, List.length_cons, List.length_nil, maxLen_eq]; omega
      · simp only [i32_len, List.length_cons, List.length_nil]; omega
      rw [i32_app] at g1
      have hX : Hle ((it, .iter s (i + (dec1 (s.drop i)).2)) :: (id, .cells (i32AV (out ++ [(dec1 (s.drop i)).1]))) :: H) H' := by
        obtain ⟨L, l1, l2⟩ := hle_sub (X := (id, AObj.cells (i32AV (out ++ [(dec1 (s.drop i)).1]))) :: (it, .iter s (i + (dec1 (s.drop i)).2)) :: H) g1 (.cons_cons _ (.cons _ (.refl _)))
        exact ⟨L, l1, l2.trans (.swap _ _ _)⟩
      have hnX : (Heap.keys ((it, .iter s (i + (dec1 (s.drop i)).2)) :: (id, .cells (i32AV (out ++ [(dec1 (s.drop i)).1]))) :: H)).Nodup := nodup_perm (.swap _ _ _) (nodup_sub (X := (id, AObj.cells (i32AV (out ++ [(dec1 (s.drop i)).1]))) :: (it, .iter s (i + (dec1 (s.drop i)).2)) :: H) g1 (.cons_cons _ (.cons _ (.refl _))) g2)
      simp (implicitDefEqProofs := false) only [sB, simprocAttr]
      refine ⟨_, hX, ⟨i + (dec1 (s.drop i)).2, id, out ++ [(dec1 (s.drop i)).1], _, .refl _, hnX, by omega, by rw [List.length_append, List.length_singleton]; omega, by rw [List.append_assoc]; exact hd, rfl, by simp [i32AV]⟩, ?_⟩
      rw [hlk]
      simp only [lookH, if_true]
      omega
    · have e1 : i = s.length := by omega
      subst e1
      rw [List.drop_length, decP_nil, List.append_nil] at hd
      subst hd
      simp (implicitDefEqProofs := false) only [sB, simprocAttr, hlk, c]
      exact hQ _ _ _ ⟨rfl, b, hp, hn1, hV⟩

/-- The length and the cells of a list of runes. -/
theorem rs_len {t : Th} {H : Heap} {x : AV} {l : List Int} {K : Kv} (h : RSrc H x l) (k : K.ap (.int .i64 l.length) H) : xE (t := t) (.len 1) [x] H (K := K) := by
  cases h with
  | sl l u => simp (implicitDefEqProofs := false) only [sB, simprocAttr, i32_len]; exact k
  | msl id l hid => simp (implicitDefEqProofs := false) only [sB, simprocAttr]; exact k
end Go.AL.Fun
