/- Bytes put together: slices.Concat of two. -/
import Derived.Test.YtijioomcpecdhaaDoorR6
import Derived.Test.YtijioomcpecdhaaDoorR0
set_option linter.unusedSimpArgs false
set_option linter.unusedVariables false
set_option maxRecDepth 100000
set_option maxHeartbeats 4000000
namespace Go.AL.Fun
open Go Go.AL

/-- A list made by appends; it may be empty and own a place. -/
def GD (sz : Nat) (xs : List AV) : Tok → Prop
  | .nil => xs = []
  | .no => False
  | .at _ _ s => s = sz
theorem i_appD {t : Th} {sz : Nat} (h0 : 0 < sz) {H A R : Heap} {K : Kv} {bytes : Nat} {xs ys : List AV} {tk : Tok} {y : AV} (hp : H.Perm (A ++ (tokH tk ++ R))) (hn : H.keys.Nodup) (hg : GD sz xs tk)
    (src : ∀ K' : Kl AV, K'.ap ys → xSrc sz y H (K := K')) (h2 : AllSz sz xs) (h3 : xs.length + ys.length ≤ maxLen) (h4 : (xs.length + ys.length) * bytes ≤ 140737488355328)
    (hK : ∀ tk' H', GD sz (xs ++ ys) tk' → (tk = .nil → xs ++ ys = [] → tk' = .nil) → (tk ≠ .nil → tk' ≠ .nil) → H'.Perm (A ++ (tokH tk' ++ R)) → H'.keys.Nodup → K.ap (.sl (xs ++ ys) tk') H') : xE (t := t) (.app sz bytes) [.sl xs tk, y] H := by
  cases tk with
  | no => exact hg.elim
  | nil =>
    have hx : xs = [] := hg
    subst hx
    refine i_appC h0 (A := A) (R := R) (tk := .nil) hp hn rfl src h2 h3 h4 fun tk' H' g1 g2 g3 => hK tk' H' ?_ (fun _ e => ?_) (fun h => absurd rfl h) g2 g3
    rotate_left
    · cases tk' with
      | nil => rfl
      | no => exact absurd g1 id
      | «at» b e' s => exact absurd e g1.2
    cases tk' with
    | nil => exact g1
    | no => exact g1
    | «at» b e s => exact g1.1
  | «at» b e s =>
    have hs : s = sz := hg
    subst hs
    rw [x_appat]
    have hl : lookH b H = some (.spare e) := by
      rw [lookH_perm hp hn, lookH_iff (nodup_perm hp hn)]; simp [tokH]
    have hbk : b ∈ H.keys := List.mem_map.2 ⟨_, (lookH_iff hn).1 hl, rfl⟩
    refine ⟨h0, src _ ⟨⟨h2, h3, h4⟩, rfl, ?_⟩⟩
    rw [hl, x_spare]
    refine ⟨⟨rfl, othK_nodup hn⟩, fun id e' hid => hK (.at id e' s) _ rfl (fun h => by cases h) (by simp) ?_ (ren_nodup hn hbk hid)⟩
    refine (renH_perm hp hn).trans ?_
    have hn' := nodup_perm hp hn
    simp only [tokH, Heap.keys, List.map_append, List.map_cons, List.cons_append, List.nil_append] at hn'
    have hba : b ∉ Heap.keys A := by
      have := (List.nodup_append.1 hn').2.2
      intro hm; exact this b hm b (by simp) rfl
    rw [renH_app hba]
    simp only [tokH, List.cons_append, List.nil_append, renH, if_true]
    exact .refl _

/-- A value that is read as bytes. -/
inductive BSrc (H : Heap) : AV → List UInt8 → Prop
  | sl (bs : List UInt8) (t : Tok) : BSrc H (.sl (bytesAV bs) t) bs
  | msl (id off : Nat) (vs : List AV) (bs : List UInt8) (h : lookH id H = some (.cells vs)) (h1 : off + bs.length ≤ vs.length) (h2 : (vs.drop off).take bs.length = bytesAV bs) : BSrc H (.msl id off bs.length 1) bs
theorem BSrc.cells {H : Heap} {x : AV} {bs : List UInt8} (h : BSrc H x bs) : x.cells = [x] := by cases h <;> rfl
theorem bs_len {t : Th} {H : Heap} {x : AV} {bs : List UInt8} {K : Kv} (h : BSrc H x bs) (H' : Heap) (k : K.ap (.int .i64 bs.length) H') : xE (t := t) (.len 1) [x] H' (K := K) := by
  cases h with
  | sl l u => simp (implicitDefEqProofs := false) only [sB, simprocAttr]; exact k
  | msl id off vs bs hid h1 h2 => simp (implicitDefEqProofs := false) only [sB, simprocAttr]; exact k
theorem BSrc.mono {H H' : Heap} {x : AV} {bs : List UInt8} (h : BSrc H x bs) (hl : ∀ id o, lookH id H = some o → lookH id H' = some o) : BSrc H' x bs := by
  cases h with
  | sl l u => exact .sl _ _
  | msl id off vs bs hid h1 h2 => exact .msl id off vs bs (hl _ _ hid) h1 h2
theorem bs_src {H : Heap} {x : AV} {bs : List UInt8} (h : BSrc H x bs) : ∀ K' : Kl AV, K'.ap (bytesAV bs) → xSrc 1 x H (K := K') := by
  intro K' k
  cases h with
  | sl l u => rw [xsrc_sl]; exact ⟨by rw [by_all]; trivial, k⟩
  | msl id off vs bs hid h1 h2 => rw [xsrc_msl1, hid, x_cells]; exact ⟨rfl, ⟨h1, by rw [h2, by_all]; trivial, by rw [h2]; exact by_flat _⟩, by rw [h2]; exact k⟩
theorem look_app {A H H1 : Heap} (hp : H1.Perm (A ++ H)) (hn : H1.keys.Nodup) (id : Nat) (o : AObj) (h : lookH id H = some o) : lookH id H1 = some o := by
  have hnH : H.keys.Nodup := nodup_sub hp (List.sublist_append_right _ _) hn
  rw [lookH_iff hn]
  exact hp.mem_iff.2 (List.mem_append_right _ ((lookH_iff hnH).1 h))
theorem by_tok (l : List UInt8) : tokc (bytesAV l) = tokc l := tokc_map _ _

def c88 (xs : List AV) (H : Heap) (K : Kv) : Prop := ∃ (x y : AV) (a b : List UInt8) (t : Tok), xs = [.sl [x, y] t] ∧ H.keys.Nodup ∧ BSrc H x a ∧ BSrc H y b ∧ a.length ≤ 1073741824 ∧ b.length ≤ 1073741824 ∧ K.ap (.sl (bytesAV (a ++ b)) (tokc (a ++ b))) H
theorem x_c110 {H : Heap} {K : Kv} {n : Nat} (hn : n ≤ 1099511627776) (hnd : H.keys.Nodup) (k : ∀ tk H', H'.Perm (tokH tk ++ H) → H'.keys.Nodup → GD 1 [] tk → (n = 0 → tk = .nil) → (0 < n → tk ≠ .nil) → K.ap (.sl [] tk) H') : c110 [.sl [] .nil, .int .i64 n] H K :=
  ⟨n, rfl, hn, fun e => k .nil H (.refl _) hnd rfl (fun _ => rfl) (fun h => by omega), fun e id hid => k (.at id 0 1) _ (.refl _) (List.nodup_cons.2 ⟨hid, hnd⟩) rfl (fun h => by omega) (fun _ h => by cases h)⟩
def CatI (a b : List UInt8) (H1 H2 : Heap) (i : Nat) (tk : Tok) (acc : List UInt8) : Prop := H2.Perm (tokH tk ++ H1) ∧ H2.keys.Nodup ∧ GD 1 (bytesAV acc) tk ∧ (a.length + b.length = 0 → tk = .nil) ∧ (0 < a.length + b.length → tk ≠ .nil) ∧ (i = 0 ∧ acc = [] ∨ i = 1 ∧ acc = a ∨ i = 2 ∧ acc = a ++ b)
theorem c88_of (P : Program) {G : Nat → Option (List AV)} {xs : List AV} {H : Heap} {K : Kv} (h : c88 xs H K) : @xF ⟨G, P, [(110, c110)]⟩ f88 xs H ⟨fun v H' => ∃ H0, Hle H0 H' ∧ ∃ v', AVle v v' ∧ K.ap v' H0⟩ := by
  obtain ⟨x, y, a, b, t, rfl, hn, hx, hy, ha, hb, h⟩ := h
  have hxc := hx.cells
  have hyc := hy.cells
  simp (implicitDefEqProofs := false) only [sB, simprocAttr, f88]
  refine i_loopJ (fun σ H1 => ∃ (i n : Nat), H1 = H ∧ (i = 0 ∧ n = 0 ∨ i = 1 ∧ n = a.length ∨ i = 2 ∧ n = a.length + b.length) ∧ σ = [(0, .sl [x, y] t), (3, .int .i64 n), (9, .sl [x, y] t), (10, .int .i64 2), (11, .int .i64 i)])
    (fun σ _ => match σ.get 11 with | .int _ n => 2 - n.toNat | _ => 0)
    (fun e σ H1 => H1 = H ∧ e = .exit 0 ∧ σ.get 0 = .sl [x, y] t ∧ σ.get 3 = .int .i64 ((a.length + b.length : Nat) : Int))
    ⟨_, .refl _, 0, 0, rfl, .inl ⟨rfl, rfl⟩, rfl⟩ ?_ ?_
  · rintro e σ H1 ⟨rfl, rfl, q0, q3⟩
    simp (implicitDefEqProofs := false) only [sB, simprocAttr, q0, q3]
    refine x_c110 (by omega) hn fun tk H' hp hn' hg z1 z2 => ?_
    simp (implicitDefEqProofs := false) only [sB, simprocAttr]
    refine i_loopJ (fun σ H2 => ∃ (i : Nat) (tk' : Tok) (acc : List UInt8), CatI a b H1 H2 i tk' acc ∧ σ = [(6, .sl (bytesAV acc) tk'), (25, .sl [x, y] t), (26, .int .i64 2), (27, .int .i64 i)])
      (fun σ _ => match σ.get 27 with | .int _ n => 2 - n.toNat | _ => 0)
      (fun e σ H2 => e = .exit 2 ∧ ∃ tk', H2.Perm (tokH tk' ++ H1) ∧ GD 1 (bytesAV (a ++ b)) tk' ∧ (a.length + b.length = 0 → tk' = .nil) ∧ (0 < a.length + b.length → tk' ≠ .nil) ∧ σ.get 6 = .sl (bytesAV (a ++ b)) tk')
      ⟨_, .refl _, 0, tk, [], ⟨hp, hn', hg, z1, z2, .inl ⟨rfl, rfl⟩⟩, rfl⟩ ?_ ?_
    · rintro e σ H2 ⟨rfl, tk', hp2, hg2, y1, y2, q6⟩
      simp (implicitDefEqProofs := false) only [sB, simprocAttr, q6]
      refine ⟨H1, hle_tok hp2, _, ?_, h⟩
      cases tk' with
      | nil =>
        have : a ++ b = [] := by
          have e : bytesAV (a ++ b) = [] := hg2
          simpa [bytesAV] using e
        rw [this]; exact .refl _
      | no => exact hg2.elim
      | «at» q e s =>
        have : a ++ b ≠ [] := fun e => by
          have := congrArg List.length e
          rw [List.length_append] at this
          have := y1 (by simpa using this)
          cases this
        have e2 : tokc (a ++ b) = .no := by
          generalize a ++ b = l at this
          cases l with
          | nil => exact absurd rfl this
          | cons _ _ => rfl
        rw [e2]; exact .no _ _ _ _
    · rintro Q hQ σ H2 ⟨i, tk', acc, ⟨hp2, hn2, hg2, y1, y2, ⟨rfl, rfl⟩ | ⟨rfl, rfl⟩ | ⟨rfl, rfl⟩⟩, rfl⟩
      · simp (implicitDefEqProofs := false) only [sB, simprocAttr, hxc]
        refine i_appD (by decide) (A := []) (R := H1) (tk := tk') hp2 hn2 hg2 (bs_src (hx.mono (look_app hp2 hn2))) (by intro z hz; cases hz) ?_ ?_ fun t2 H3 g1 g2 g3 g4 g5 => ?_
        · simp only [by_len, maxLen_eq, List.length_nil]; omega
        · simp only [by_len, List.length_nil]; omega
        rw [List.nil_append] at g1 g2 ⊢
        simp (implicitDefEqProofs := false) only [sB, simprocAttr]
        exact ⟨H3, .refl _, 1, t2, a, ⟨g4, g5, g1, fun e => g2 (y1 e) (by rw [List.length_eq_zero_iff.1 (show a.length = 0 by omega)]; rfl), fun e => g3 (y2 e), .inr (.inl ⟨rfl, rfl⟩)⟩, by simp⟩
      · simp (implicitDefEqProofs := false) only [sB, simprocAttr, hyc]
        refine i_appD (by decide) (A := []) (R := H1) (tk := tk') hp2 hn2 hg2 (bs_src (hy.mono (look_app hp2 hn2))) (by rw [by_all]; trivial) ?_ ?_ fun t2 H3 g1 g2 g3 g4 g5 => ?_
        · simp only [by_len, maxLen_eq, List.length_nil]; omega
        · simp only [by_len, List.length_nil]; omega
        rw [by_app] at g1 g2 ⊢
        simp (implicitDefEqProofs := false) only [sB, simprocAttr]
        exact ⟨H3, .refl _, 2, t2, acc ++ b, ⟨g4, g5, g1, fun e => g2 (y1 e) (by rw [List.length_eq_zero_iff.1 (show acc.length = 0 by omega), List.length_eq_zero_iff.1 (show b.length = 0 by omega)]; rfl), fun e => g3 (y2 e), .inr (.inr ⟨rfl, rfl⟩)⟩, by simp⟩
      · simp (implicitDefEqProofs := false) only [sB, simprocAttr]
        exact hQ _ _ _ ⟨rfl, tk', hp2, hg2, y1, y2, rfl⟩
  · have r1 := w_i64 (a.length : Int) (by omega) (by omega)
    have r2 := w_i64 ((a.length : Int) + b.length) (by omega) (by omega)
    have k1 : ¬ (a.length : Int) < 0 := by omega
    have k2 : ¬ (a.length : Int) + b.length < 0 := by omega
    rintro Q hQ σ H1 ⟨i, n, rfl, ⟨rfl, rfl⟩ | ⟨rfl, rfl⟩ | ⟨rfl, rfl⟩, rfl⟩
    · simp (implicitDefEqProofs := false) only [sB, simprocAttr, hxc]
      refine bs_len hx _ ?_
      simp (implicitDefEqProofs := false) only [sB, simprocAttr, r1, k1]
      exact ⟨_, .refl _, 1, a.length, rfl, .inr (.inl ⟨rfl, rfl⟩), by simp, by simp⟩
    · simp (implicitDefEqProofs := false) only [sB, simprocAttr, hyc]
      refine bs_len hy _ ?_
      simp (implicitDefEqProofs := false) only [sB, simprocAttr, r2, k2]
      exact ⟨_, .refl _, 2, a.length + b.length, rfl, .inr (.inr ⟨rfl, rfl⟩), by simp, by simp⟩
    · simp (implicitDefEqProofs := false) only [sB, simprocAttr]
      exact hQ _ _ _ ⟨rfl, rfl, rfl, rfl⟩
end Go.AL.Fun
