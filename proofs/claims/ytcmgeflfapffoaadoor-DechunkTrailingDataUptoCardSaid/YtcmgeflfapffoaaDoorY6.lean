/- Lists made by appends that may be empty; sources of bytes; the library's Grow of nil. -/
import Derived.Test.YtcmgeflfapffoaaDoorY2
import Derived.Shelf.Spec.SlicesGrow
set_option linter.unusedSimpArgs false
set_option linter.unusedVariables false
set_option maxRecDepth 100000
set_option maxHeartbeats 4000000
namespace Go.AL.Fun
open Go Go.AL

theorem ren_nodup {b id : Nat} {o : AObj} {H : Heap} (hn : H.keys.Nodup) (hbk : b ∈ H.keys) (hid : id ∉ othK b H) : (renH b id o H).keys.Nodup := by
  have hk : (renH b id o H).keys.Perm (id :: othK b H) := by
    clear hid hn
    revert hbk
    induction H with
    | nil => intro h; simp [Heap.keys] at h
    | cons p H ih =>
      obtain ⟨j, o'⟩ := p
      intro hbk
      simp only [othK, renH]
      by_cases h : b = j
      · subst h; rw [if_pos rfl, if_pos rfl]; exact .refl _
      · rw [if_neg h, if_neg h]
        have hb' : b ∈ Heap.keys H := by simpa [Heap.keys, h] using hbk
        exact ((ih hb').cons j).trans (.swap id j _)
  rw [hk.nodup_iff]
  exact List.nodup_cons.2 ⟨hid, (List.nodup_cons.1 ((othK_keys hbk).nodup_iff.1 hn)).2⟩
/-- An append to a list whose cells are told. -/
theorem app_msl {t : Th} {H R : Heap} {K : Kv} {b n bytes : Nat} {vs ys : List AV} {y : AV} (hp : H.Perm ((b, .cells vs) :: R)) (hn : H.keys.Nodup) (hl : vs.length = n) (src : ∀ K' : Kl AV, K'.ap ys → xSrc 1 y H (K := K')) (hf : flat ys = ys)
    (h3 : n + ys.length ≤ maxLen) (h4 : (n + ys.length) * bytes ≤ 140737488355328) (hK : ∀ id H', H'.Perm ((id, .cells (vs ++ ys)) :: R) → H'.keys.Nodup → K.ap (.msl id 0 (n + ys.length) 1) H') : xE (t := t) (.app 1 bytes) [.msl b 0 n 1, y] H (K := K) := by
  rw [x_appm]
  refine ⟨by decide, src _ ⟨⟨rfl, h3, h4⟩, ?_⟩⟩
  have hlk := look_head hp hn
  have hbk : b ∈ H.keys := List.mem_map.2 ⟨_, (lookH_iff hn).1 hlk, rfl⟩
  rw [hlk, x_cells]
  refine ⟨⟨by omega, othK_nodup hn⟩, fun id hid => ?_⟩
  rw [hf]
  refine hK id _ ((renH_perm hp hn).trans ?_) (ren_nodup hn hbk hid)
  simp only [renH, if_true]
  exact .refl _
/-- A list made by appends; it may be empty and own a place. -/
def GD (sz : Nat) (xs : List AV) : Tok → Prop
  | .nil => xs = []
  | .no => False
  | .at _ _ s => s = sz
theorem i_appD {t : Th} {sz : Nat} (h0 : 0 < sz) {H A R : Heap} {K : Kv} {bytes : Nat} {xs ys : List AV} {tk : Tok} {y : AV} (hp : H.Perm (A ++ (tokH tk ++ R))) (hn : H.keys.Nodup) (hg : GD sz xs tk)
    (src : ∀ K' : Kl AV, K'.ap ys → xSrc sz y H (K := K')) (h2 : AllSz sz xs) (h3 : xs.length + ys.length ≤ maxLen) (h4 : (xs.length + ys.length) * bytes ≤ 140737488355328)
    (hK : ∀ tk' H', GD sz (xs ++ ys) tk' → (tk = .nil → xs ++ ys = [] → tk' = .nil) → (tk ≠ .nil → tk' ≠ .nil) → H'.Perm (A ++ (tokH tk' ++ R)) → H'.keys.Nodup → K.ap (.sl (xs ++ ys) tk') H') : xE (t := t) (.app sz bytes) [.sl xs tk, y] H := by
  cases tk with
  | no => exact hg.elim
  | nil =>
    have hx : xs = [] := hg
    subst hx
    refine i_appC h0 (A := A) (R := R) (tk := .nil) hp hn rfl src h2 h3 h4 fun tk' H' g1 g2 g3 => hK tk' H' ?_ (fun _ e => ?_) (fun h => absurd rfl h) g2 g3
    rotate_left
    · cases tk' with
      | nil => rfl
      | no => exact absurd g1 id
      | «at» b e' s => exact absurd e g1.2
    cases tk' with
    | nil => exact g1
    | no => exact g1
    | «at» b e s => exact g1.1
  | «at» b e s =>
    have hs : s = sz := hg
    subst hs
    rw [x_appat]
    have hl : lookH b H = some (.spare e) := by
      rw [lookH_perm hp hn, lookH_iff (nodup_perm hp hn)]; simp [tokH]
    have hbk : b ∈ H.keys := List.mem_map.2 ⟨_, (lookH_iff hn).1 hl, rfl⟩
    refine ⟨h0, src _ ⟨⟨h2, h3, h4⟩, rfl, ?_⟩⟩
    rw [hl, x_spare]
    refine ⟨⟨rfl, othK_nodup hn⟩, fun id e' hid => hK (.at id e' s) _ rfl (fun h => by cases h) (by simp) ?_ (ren_nodup hn hbk hid)⟩
    refine (renH_perm hp hn).trans ?_
    have hn' := nodup_perm hp hn
    simp only [tokH, Heap.keys, List.map_append, List.map_cons, List.cons_append, List.nil_append] at hn'
    have hba : b ∉ Heap.keys A := by
      have := (List.nodup_append.1 hn').2.2
      intro hm; exact this b hm b (by simp) rfl
    rw [renH_app hba]
    simp only [tokH, List.cons_append, List.nil_append, renH, if_true]
    exact .refl _

/-- A value that is read as bytes. -/
inductive BSrc (H : Heap) : AV → List UInt8 → Prop
  | sl (bs : List UInt8) (t : Tok) : BSrc H (.sl (bytesAV bs) t) bs
  | msl (id off : Nat) (vs : List AV) (bs : List UInt8) (h : lookH id H = some (.cells vs)) (h1 : off + bs.length ≤ vs.length) (h2 : (vs.drop off).take bs.length = bytesAV bs) : BSrc H (.msl id off bs.length 1) bs
theorem BSrc.cells {H : Heap} {x : AV} {bs : List UInt8} (h : BSrc H x bs) : x.cells = [x] := by cases h <;> rfl
theorem bs_len {t : Th} {H : Heap} {x : AV} {bs : List UInt8} {K : Kv} (h : BSrc H x bs) (H' : Heap) (k : K.ap (.int .i64 bs.length) H') : xE (t := t) (.len 1) [x] H' (K := K) := by
  cases h with
  | sl l u => simp (implicitDefEqProofs := false) only [sB, simprocAttr]; exact k
  | msl id off vs bs hid h1 h2 => simp (implicitDefEqProofs := false) only [sB, simprocAttr]; exact k
theorem BSrc.mono {H H' : Heap} {x : AV} {bs : List UInt8} (h : BSrc H x bs) (hl : ∀ id o, lookH id H = some o → lookH id H' = some o) : BSrc H' x bs := by
  cases h with
  | sl l u => exact .sl _ _
  | msl id off vs bs hid h1 h2 => exact .msl id off vs bs (hl _ _ hid) h1 h2
theorem bs_src {H : Heap} {x : AV} {bs : List UInt8} (h : BSrc H x bs) : ∀ K' : Kl AV, K'.ap (bytesAV bs) → xSrc 1 x H (K := K') := by
  intro K' k
  cases h with
  | sl l u => rw [xsrc_sl]; exact ⟨by rw [by_all]; trivial, k⟩
  | msl id off vs bs hid h1 h2 => rw [xsrc_msl1, hid, x_cells]; exact ⟨rfl, ⟨h1, by rw [h2, by_all]; trivial, by rw [h2]; exact by_flat _⟩, by rw [h2]; exact k⟩
theorem look_app {A H H1 : Heap} (hp : H1.Perm (A ++ H)) (hn : H1.keys.Nodup) (id : Nat) (o : AObj) (h : lookH id H = some o) : lookH id H1 = some o := by
  have hnH : H.keys.Nodup := nodup_sub hp (List.sublist_append_right _ _) hn
  rw [lookH_iff hn]
  exact hp.mem_iff.2 (List.mem_append_right _ ((lookH_iff hnH).1 h))
theorem by_tok (l : List UInt8) : tokc (bytesAV l) = tokc l := tokc_map _ _

/-- A nil list with room. -/
def d48 (xs : List AV) (H : Heap) (K : Kv) : Prop := ∃ n : Nat, xs = [.sl [] .nil, .int .i64 n] ∧ n ≤ 1099511627776 ∧ (n = 0 → K.ap (.sl [] .nil) H) ∧ (0 < n → ∀ id, id ∉ H.keys → K.ap (.sl [] (.at id 0 1)) ((id, .spare 0) :: H))
theorem x_d48 {H : Heap} {K : Kv} {n : Nat} (hn : n ≤ 1099511627776) (hnd : H.keys.Nodup) (k : ∀ tk H', H'.Perm (tokH tk ++ H) → H'.keys.Nodup → GD 1 [] tk → (n = 0 → tk = .nil) → (0 < n → tk ≠ .nil) → K.ap (.sl [] tk) H') : d48 [.sl [] .nil, .int .i64 n] H K :=
  ⟨n, rfl, hn, fun e => k .nil H (.refl _) hnd rfl (fun _ => rfl) (fun h => by omega), fun e id hid => k (.at id 0 1) _ (.refl _) (List.nodup_cons.2 ⟨hid, hnd⟩) rfl (fun h => by omega) (fun _ h => by cases h)⟩
end Go.AL.Fun
namespace Go.Proofs.YtcmgeflfapffoaaDoor.lib
open Go.AL Go.AL.Fun Go.RowKit Go.Proofs

def growRen : Go.Shelf.Ren := ⟨fun x => match x with | 4 => 48 | n => n, fun x => match x with | 22 => 22 | 25 => 5 | n => n, fun n => n⟩
theorem growLay : Lays8.n4 Tryd.prog growRen where
  mixed := by kernel_rfl
  f4 := ⟨Tryd.f48.name, by decide, Tryd.func48.trans (congrArg some (by kernel_rfl))⟩
  t0 := Tryd.underlying0
  a0 := Tryd.isAgg0
  z0 := Tryd.sizeOf0
  v0 := Tryd.zeroValue0
  t3 := Tryd.underlying3
  a3 := Tryd.isAgg3
  z3 := Tryd.sizeOf3
  v3 := Tryd.zeroValue3
  t4 := Tryd.underlying4
  a4 := Tryd.isAgg4
  z4 := Tryd.sizeOf4
  v4 := Tryd.zeroValue4
  t9 := Tryd.underlying9
  a9 := Tryd.isAgg9
  z9 := Tryd.sizeOf9
  v9 := Tryd.zeroValue9
  t20 := Tryd.underlying20
  a20 := Tryd.isAgg20
  z20 := Tryd.sizeOf20
  v20 := Tryd.zeroValue20
  t22 := Tryd.underlying22
  a22 := Tryd.isAgg22
  z22 := Tryd.sizeOf22
  v22 := Tryd.zeroValue22

theorem h48 {G : Nat → Option (List AV)} : ∀ xs H K, d48 xs H ⟨K⟩ → ACalls G Tryd.prog 48 xs H K := by
  rintro xs H K ⟨n, rfl, hn, k0, k1⟩
  refine ⟨fnOk_of f48_ok, fun B w0 m w cargs hs hr => ?_⟩
  obtain ⟨v1, r1, e1, h1, hr⟩ := hr.uncons
  obtain ⟨v2, r2, e2, h2, hr⟩ := hr.uncons
  have e3 := hr.unnil
  subst e2 e3
  obtain rfl : cargs = #[v1, v2] := by cases cargs; simp_all
  generalize hv1 : AV.sl [] .nil = x1 at h1
  obtain rfl : v1 = .slice none 0 0 := by
    cases h1 with
    | slnil => rfl
    | sl xs t a len cap sz f ht hl hlc hcm hs' hz hc h1' hr' hk => cases hv1; exact absurd rfl ht
    | _ => cases hv1
  generalize hv2 : AV.int IntKind.i64 (n : Int) = x2 at h2
  cases h2 <;> cases hv2
  rcases Nat.eq_zero_or_pos n with rfl | hp
  · refine (Any8.slices_Grow_room growLay none 0 0 0 w (Nat.le_refl _) (by omega) (by omega) (Nat.le_refl _)).mono ?_
    rintro e w' ⟨rfl, rfl⟩
    exact ⟨_, _, m, H, rfl, .refl m, hs, .slnil, k0 rfl⟩
  · obtain ⟨i0, e1, e0⟩ := Option.map_eq_some_iff.1 (show (Tryd.prog.info? 5).map (fun i => (i.zero, i.size, i.bytes)) = some (some (.int .u8 0), 1, 1) by kernel_rfl)
    have e2 : i0.zero = some (.int .u8 0) ∧ i0.size = 1 ∧ i0.bytes = 1 := by simpa using e0
    refine (Any8.slices_Grow_grow growLay i0 (.int .u8 0) e1 e2.1 (by rw [e2.2.1]; decide) none 0 0 n [] w (Nat.le_refl _) (by omega) (by rw [e2.2.2]; omega) (by omega) (by simp) (fun _ => rfl) (fun a h => by cases h)).mono ?_
    rintro e w' ⟨rfl, rfl⟩
    obtain ⟨m', l1, l2, l3, l4⟩ := hs.drew.newRow (n := 0) (cs := (([] : List Value).toArray ++ Builtin.zeroCells (Value.int .u8 0).cells (0 + n - 0) ++ Builtin.zeroCells (Value.int .u8 0).cells (grownCap w (0 + n) 0 5 - (0 + n)))) 5 (Nat.zero_le _)
    refine ⟨.sl [] (.at w.heap.size 0 1), _, m', _, rfl, l1, l2, ?_, k1 hp w.heap.size hs.fresh⟩
    have gc := grown_le w (0 + n) 0 5 (show 0 + n ≤ maxLen by unfold maxLen; omega)
    have sz : (([] : List Value).toArray ++ Builtin.zeroCells (Value.int .u8 0).cells (0 + n - 0) ++ Builtin.zeroCells (Value.int .u8 0).cells (grownCap w (0 + n) 0 5 - (0 + n))).size = grownCap w (0 + n) 0 5 := by
      rw [Array.size_append, Array.size_append, size_zeroCells, size_zeroCells]
      show 0 + (0 + n - 0) * 1 + (grownCap w (0 + n) 0 5 - (0 + n)) * 1 = _
      omega
    rw [sz] at l4
    exact rel_sl (ys := []) (sz := 1) (t := .at w.heap.size 0 1) (g := fun _ => default) (by simp) (by intro x hx; cases hx) (Nat.zero_le _) gc.2 (fun i hi => by simp at hi) (fun i hi => by simp at hi) (fun i x hx => by simp [flat] at hx)
      (fun b e s h => by cases h; exact ⟨rfl, rfl, rfl, _, l4, by show 0 + grownCap w (0 + n) 0 5 * 1 ≤ _; omega⟩)
end Go.Proofs.YtcmgeflfapffoaaDoor.lib
