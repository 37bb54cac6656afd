/- The abstract layer, part 27: heaps in any order, slices that own their spare place. -/
import Derived.Test.YtpeaphpibnikcaaA26
namespace Go.AL
open Go.RowKit

theorem lookH_iff {id : Nat} {o : AObj} : ∀ {H : Heap}, H.keys.Nodup → (lookH id H = some o ↔ (id, o) ∈ H)
  | [], _ => by simp [lookH]
  | (j, p) :: H, hn => by
    simp only [Heap.keys, List.map_cons, List.nodup_cons] at hn
    simp only [lookH, List.mem_cons, Prod.mk.injEq]
    by_cases h : id = j
    · subst h
      rw [if_pos rfl]
      constructor
      · intro e; cases e; exact .inl ⟨rfl, rfl⟩
      · rintro (⟨_, rfl⟩ | e)
        · rfl
        · exact absurd (List.mem_map.2 ⟨_, e, rfl⟩) hn.1
    · rw [if_neg h, lookH_iff hn.2]
      constructor
      · exact .inr
      · rintro (⟨e, _⟩ | e)
        · exact absurd e h
        · exact e

theorem keys_perm {H H' : Heap} (hp : H.Perm H') : H.keys.Perm H'.keys := hp.map _
theorem nodup_perm {H H' : Heap} (hp : H.Perm H') (hn : H.keys.Nodup) : H'.keys.Nodup := (keys_perm hp).nodup_iff.1 hn

theorem lookH_perm {H H' : Heap} (hp : H.Perm H') (hn : H.keys.Nodup) (id : Nat) : lookH id H = lookH id H' := by
  cases h : lookH id H' with
  | none =>
    cases h2 : lookH id H with
    | none => rfl
    | some o => rw [lookH_iff hn] at h2; rw [(lookH_iff (nodup_perm hp hn)).2 (hp.mem_iff.1 h2)] at h; cases h
  | some o => rw [lookH_iff hn]; rw [lookH_iff (nodup_perm hp hn)] at h; exact hp.mem_iff.2 h

theorem renH_not {b id : Nat} {o : AObj} : ∀ {H : Heap}, b ∉ H.keys → renH b id o H = H
  | [], _ => rfl
  | (j, p) :: H, h => by
    simp only [Heap.keys, List.map_cons, List.mem_cons, not_or] at h
    simp only [renH]
    rw [if_neg h.1, renH_not h.2]

theorem renH_map {b id : Nat} {o : AObj} : ∀ {H : Heap}, H.keys.Nodup → renH b id o H = H.map fun p => if b = p.1 then (id, o) else p
  | [], _ => rfl
  | (j, p) :: H, hn => by
    simp only [Heap.keys, List.map_cons, List.nodup_cons] at hn
    simp only [renH, List.map_cons]
    by_cases h : b = j
    · subst h
      rw [if_pos rfl, if_pos rfl]
      congr 1
      rw [← renH_map hn.2, renH_not hn.1]
    · rw [if_neg h, if_neg h, renH_map hn.2]

theorem renH_perm {b id : Nat} {o : AObj} {H H' : Heap} (hp : H.Perm H') (hn : H.keys.Nodup) : (renH b id o H).Perm (renH b id o H') := by
  rw [renH_map hn, renH_map (nodup_perm hp hn)]; exact hp.map _
theorem setH_perm {id : Nat} {o : AObj} {H H' : Heap} (hp : H.Perm H') (hn : H.keys.Nodup) : (setH id o H).Perm (setH id o H') := renH_perm hp hn
theorem keys_set (id : Nat) (o : AObj) (H : Heap) : (setH id o H).keys = H.keys := keys_ren id o H

theorem lookH_app {id : Nat} {A H : Heap} (h : id ∉ A.keys) : lookH id (A ++ H) = lookH id H := by
  induction A with
  | nil => rfl
  | cons p A ih =>
    obtain ⟨j, o⟩ := p
    simp only [Heap.keys, List.map_cons, List.mem_cons, not_or] at h
    simp only [List.cons_append, lookH]
    rw [if_neg h.1, ih h.2]
theorem renH_app {b id : Nat} {o : AObj} {A H : Heap} (h : b ∉ A.keys) : renH b id o (A ++ H) = A ++ renH b id o H := by
  induction A with
  | nil => rfl
  | cons p A ih =>
    obtain ⟨j, q⟩ := p
    simp only [Heap.keys, List.map_cons, List.mem_cons, not_or] at h
    simp only [List.cons_append, renH]
    rw [if_neg h.1, ih h.2]
theorem othK_nodup {b : Nat} : ∀ {H : Heap}, H.keys.Nodup → b ∉ othK b H
  | [], _ => by simp [othK]
  | (j, p) :: H, hn => by
    simp only [Heap.keys, List.map_cons, List.nodup_cons] at hn
    simp only [othK]
    by_cases h : b = j
    · subst h; rw [if_pos rfl]; exact hn.1
    · rw [if_neg h]; simp only [List.mem_cons, not_or]; exact ⟨h, othK_nodup hn.2⟩
theorem othK_keys {b : Nat} {H : Heap} (hb : b ∈ H.keys) : H.keys.Perm (b :: othK b H) := by
  induction H with
  | nil => simp [Heap.keys] at hb
  | cons p H ih =>
    obtain ⟨j, o⟩ := p
    simp only [othK]
    by_cases h : b = j
    · subst h; rw [if_pos rfl]; exact .refl _
    · rw [if_neg h]
      have hb' : b ∈ Heap.keys H := by simpa [Heap.keys, h] using hb
      exact ((ih hb').cons j).trans (.swap b j _)

/-- The entry that a slice's spare place has. -/
def tokH : Tok → Heap
  | .at b e _ => [(b, .spare e)]
  | _ => []
/-- A list that may grow. -/
def GT (xs : List AV) : Tok → Prop
  | .nil => xs = []
  | .no => False
  | .at _ _ s => s = 1
theorem GT.of_at {xs ys : List AV} {t : Tok} (h : GT xs t) (h2 : ys ≠ [] → xs ≠ []) : GT ys t := by
  cases t with
  | nil =>
    cases ys with
    | nil => rfl
    | cons y ys => exact absurd h (h2 (by simp))
  | no => exact h
  | «at» b e s => exact h

/-- An append to a list that owns its spare place. -/
theorem i_appX {t : Th} {H A R : Heap} {K : Kv} {bytes : Nat} {xs ys : List AV} {tk : Tok} {y : AV} (hp : H.Perm (A ++ (tokH tk ++ R))) (hn : H.keys.Nodup) (hg : GT xs tk)
    (src : ∀ K' : Kl AV, K'.ap ys → xSrc 1 y H (K := K')) (h2 : AllSz 1 xs) (h3 : xs.length + ys.length ≤ maxLen) (h4 : (xs.length + ys.length) * bytes ≤ 140737488355328)
    (hK : ∀ tk' H', GT (xs ++ ys) tk' → H'.Perm (A ++ (tokH tk' ++ R)) → H'.keys.Nodup → K.ap (.sl (xs ++ ys) tk') H') : xE (.app 1 bytes) [.sl xs tk, y] H := by
  cases tk with
  | no => exact hg.elim
  | nil =>
    have hx : xs = [] := hg
    subst hx
    rw [x_appnil]
    refine ⟨by omega, src _ ⟨⟨by simpa using h3, by simpa using h4⟩, fun e => ?_, fun e id e' hid => ?_⟩⟩
    · subst e; exact hK .nil H rfl hp hn
    · refine hK (.at id e' 1) _ rfl ?_ ?_
      · simp only [tokH, List.nil_append, List.cons_append] at hp ⊢
        exact (hp.cons _).trans List.perm_middle.symm
      · exact List.nodup_cons.2 ⟨hid, hn⟩
  | «at» b e s =>
    have hs : s = 1 := hg
    subst hs
    rw [x_appat]
    have hl : lookH b H = some (.spare e) := by
      rw [lookH_perm hp hn, lookH_iff (nodup_perm hp hn)]; simp [tokH]
    have hbk : b ∈ H.keys := List.mem_map.2 ⟨_, (lookH_iff hn).1 hl, rfl⟩
    refine ⟨by omega, src _ ⟨⟨h2, h3, h4⟩, rfl, ?_⟩⟩
    rw [hl, x_spare]
    refine ⟨⟨rfl, othK_nodup hn⟩, fun id e' hid => hK (.at id e' 1) _ rfl ?_ ?_⟩
    · refine (renH_perm hp hn).trans ?_
      have hn' := nodup_perm hp hn
      simp only [tokH, Heap.keys, List.map_append, List.map_cons, List.cons_append, List.nil_append] at hn'
      have hba : b ∉ Heap.keys A := by
        have := (List.nodup_append.1 hn').2.2
        intro hm; exact this b hm b (by simp) rfl
      rw [renH_app hba]
      simp only [tokH, List.cons_append, List.nil_append, renH, if_true]
      exact .refl _
    · have hk : (renH b id (.spare e') H).keys.Perm (id :: othK b H) := by
        clear hK hp hl hid hn src
        revert hbk
        induction H with
        | nil => intro h; simp [Heap.keys] at h
        | cons p H ih =>
          obtain ⟨j, o⟩ := p
          intro hbk
          simp only [othK, renH]
          by_cases h : b = j
          · subst h; rw [if_pos rfl, if_pos rfl]; exact .refl _
          · rw [if_neg h, if_neg h]
            have hb' : b ∈ Heap.keys H := by simpa [Heap.keys, h] using hbk
            exact ((ih hb').cons j).trans (.swap id j _)
      rw [hk.nodup_iff]
      exact List.nodup_cons.2 ⟨hid, (List.nodup_cons.1 ((othK_keys hbk).nodup_iff.1 hn)).2⟩

theorem i_app {t : Th} {H A R : Heap} {K : Kv} {bytes : Nat} {xs ys : List AV} {tk : Tok} {y : AV} (hp : H.Perm (A ++ (tokH tk ++ R))) (hn : H.keys.Nodup) (hg : GT xs tk)
    (hy : (∃ tok, y = .sl ys tok) ∨ ∃ s, y = .str s ∧ ys = bytesAV s) (h1 : AllSz 1 ys) (h2 : AllSz 1 xs) (h3 : xs.length + ys.length ≤ maxLen) (h4 : (xs.length + ys.length) * bytes ≤ 140737488355328)
    (hK : ∀ tk' H', GT (xs ++ ys) tk' → H'.Perm (A ++ (tokH tk' ++ R)) → H'.keys.Nodup → K.ap (.sl (xs ++ ys) tk') H') : xE (.app 1 bytes) [.sl xs tk, y] H := by
  refine i_appX hp hn hg (fun K' h => ?_) h2 h3 h4 hK
  rcases hy with ⟨tok, rfl⟩ | ⟨s, rfl, rfl⟩
  · rw [xsrc_sl]; exact ⟨h1, h⟩
  · rw [xsrc_str]; exact h
/-- Cells handed to an append. -/
theorem src_cells {H : Heap} {id : Nat} {xs : List AV} (h : lookH id H = some (.cells xs)) (h1 : AllSz 1 xs) (hf : flat xs = xs) : ∀ K' : Kl AV, K'.ap xs → xSrc 1 (.msl id 0 xs.length 1) H (K := K') := by
  intro K' hk
  rw [xsrc_msl1, h, x_cells]
  simp only [List.drop_zero, List.take_length, Nat.zero_add, Nat.le_refl, true_and, h1, hf]
  exact hk

/-- An empty literal that will grow. -/
theorem i_emp {H : Heap} {K : Kn} {p : Prop} (hn : H.keys.Nodup) (h : ∀ id, id ∉ H.keys → (Heap.keys ((id, .spare 0) :: H)).Nodup → K.ap id) :
    xSel (K := ⟨p, (AllSz 1 [] ∧ ([] : List AV).length = 0 ∧ flat [] = []) ∧ xFr H (K := K)⟩) :=
  i_sl ⟨⟨by rw [allSz_nil]; trivial, rfl, rfl⟩, i_new fun id hid => h id hid (List.nodup_cons.2 ⟨hid, hn⟩)⟩
/-- A loop whose ends are told. -/
theorem i_loopJ {t : Th} {ks : List Nat} {b : ACode} {σ : Env} {H : Heap} {Q : Kx} (I : Env → Heap → Prop) (μ : Env → Heap → Nat) (J : Exit → Env → Heap → Prop) (h0 : ∃ H0, Hle H0 H ∧ I (σ.keep ks) H0)
    (hJ : ∀ e σ H, J e σ H → Q.ap e σ H)
    (h1 : ∀ Q' : Kx, (∀ e σ H, J e σ H → Q'.ap e σ H) → ∀ σ1 H1, I σ1 H1 → xD b σ1 H1 (K := ⟨fun e σ2 H2 => xT e σ2 H2 (N := ⟨fun σ3 H3 => ∃ H0, Hle H0 H3 ∧ I (σ3.keep ks) H0 ∧ μ (σ3.keep ks) H0 < μ σ1 H1⟩) (K := Q')⟩)) : xD (.loop ks b) σ H := i_loop I μ h0 (h1 Q hJ)
theorem look_head {H X : Heap} {p : Nat} {c : AObj} (hp : H.Perm ((p, c) :: X)) (hn : H.keys.Nodup) : lookH p H = some c := by
  rw [lookH_perm hp hn]; simp [lookH]
theorem set_head {H X : Heap} {p : Nat} {c : AObj} (c' : AObj) (hp : H.Perm ((p, c) :: X)) (hn : H.keys.Nodup) : (setH p c' H).Perm ((p, c') :: X) := by
  have := setH_perm (id := p) (o := c') hp hn
  simpa [setH, renH] using this
theorem set_nodup {H : Heap} {p : Nat} (c' : AObj) (hn : H.keys.Nodup) : (setH p c' H).keys.Nodup := by rw [keys_set]; exact hn
theorem Hle.trans {A B C : Heap} (h : Hle A B) (k : Hle B C) : Hle A C := by
  obtain ⟨L, h1, h2⟩ := h
  obtain ⟨M, k1, k2⟩ := k
  obtain ⟨L', q1, q2⟩ := List.exists_perm_sublist h1 k2.symm
  exact ⟨L', q2.trans k1, q1.trans h2⟩

section
variable {G : Nat → Option (List AV)} {P : Program}

theorem ACalls.perm {f : Nat} {xs : List AV} {H H' : Heap} {K : AV → Heap → Prop} (hp : Hle H' H) (h : ACalls G P f xs H' K) : ACalls G P f xs H K :=
  ⟨h.1, fun B w0 m w cargs h1 h2 => h.2 B w0 m w cargs (h1.weak hp) h2⟩
theorem fnOk_of {f : Nat} {F : AFun} {hs : List Hint} (hF : compF P f hs = some F) : FnOk P f := by
  unfold compF at hF
  cases hf : P.funcs[f]? with
  | none => rw [hf] at hF; cases hF
  | some fn =>
    rw [hf] at hF
    simp only [Option.bind_some] at hF
    cases hname : fn.name == "runtime.NumGoroutine" with
    | true => rw [hname] at hF; cases hF
    | false =>
      rw [hname] at hF
      simp only [Bool.false_eq_true, if_false, Option.bind_eq_some_iff] at hF
      obtain ⟨c, hb, _⟩ := hF
      exact ⟨fn, hf, hname, by rw [hb]; rfl⟩

/-- A function's contract over a part of the heap, the keys known to differ. -/
theorem okS {T : XT} (hm : P.follows .mixedOrders = true) (hT : TOk G P (plainT T)) {f : Nat} {F : AFun} {hs : List Hint} (hF : compF P f hs = some F) (xs : List AV) (H H1 : Heap) (hp : Hle H1 H) (K : AV → Heap → Prop)
    (h : H1.keys.Nodup → @xF ⟨G, P, T⟩ F xs H1 ⟨fun v H' => ∃ H0, Hle H0 H' ∧ K v H0⟩) : ACalls G P f xs H K := by
  refine ACalls.perm hp ?_
  by_cases hn : H1.keys.Nodup
  · exact okC hm hT hF xs H1 K (h hn)
  · exact ⟨fnOk_of hF, fun B w0 m w cargs h1 _ => absurd h1.nodup hn⟩
end
end Go.AL
