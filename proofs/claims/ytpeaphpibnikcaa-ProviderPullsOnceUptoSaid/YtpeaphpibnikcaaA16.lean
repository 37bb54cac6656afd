/- The abstract layer, part 16: regions that draw their order. -/
import Derived.Test.YtpeaphpibnikcaaA15
namespace Go.AL
open Go.RowKit

/-- Does a quiet operation look at memory that may turn? -/
def AOp.reads : AOp → Bool
  | .ld _ _ | .len 2 | .lkp _ _ _ | .cvb => true
  | _ => false

structure Item where
  i : Nat
  o : AOper
  ob : List Nat

structure Pend where
  i : Nat
  op : AOp
  xs : List AV
  v : AV

/-- What was read stays as it was read. -/
def oblP (ob : List Nat) (pend : List Pend) (H : Heap) (X : Prop) : Prop :=
  match ob with
  | [] => X
  | _ => (∀ p ∈ pend, p.i ∈ ob → Rd p.op p.xs H p.v) ∧ X

def seqD (G : Nat → Option (List AV)) (P : Program) : List Item → List Pend → Env → Heap → (Env → Heap → Prop) → Prop
  | [], _, σ, H, K => K σ H
  | x :: l, pend, σ, H, K =>
    gate σ x.o.guard
      (if x.o.op.quiet then ∃ v, Rd x.o.op (x.o.args.map (opE G σ)) H v ∧ seqD G P l (⟨x.i, x.o.op, x.o.args.map (opE G σ), v⟩ :: pend) (σ.put x.o.dst v) H K
       else eff G P x.o.op (x.o.args.map (opE G σ)) H fun v H' => oblP x.ob pend H' (seqD G P l pend (σ.put x.o.dst v) H' K))
      (seqD G P l pend (σ.put x.o.dst .undef) H K)

def tmpsOf (o : AOper) : List Nat := (o.args.filterMap fun | .tmp t => some t | _ => none) ++ (match o.guard with | some (t, _) => [t] | none => [])

/-- Two operations that do not touch each other's slots. -/
def apartO (x y : AOper) : Bool :=
  (match x.dst with | some d => !(tmpsOf y).contains d && y.dst != some d | none => true) && (match y.dst with | some d => !(tmpsOf x).contains d | none => true)

/-- x may be done behind j, though it stands before it. -/
def pairOk (x j : Item) : Bool := x.o.op.quiet && apartO x.o j.o && (j.o.op.quiet || !x.o.op.reads || j.ob.contains x.i)

section
variable {G : Nat → Option (List AV)} {B : Nat} {w0 w w' : World} {m m' : Im} {H H' : Heap} {P : Program} {n : Nat} {σ : Env} {a : Act} {ops : Array Oper}

theorem ACalls.mono {f : FuncId} {xs : List AV} {K K' : AV → Heap → Prop} (h : ACalls G P f xs H K) (hK : ∀ v H, K v H → K' v H) : ACalls G P f xs H K' :=
  ⟨h.1, fun B w0 m w cargs h1 h2 => (h.2 B w0 m w cargs h1 h2).mono fun _ _ ⟨v, cv, m', H', e1, e2, e3, e4, e5⟩ => ⟨v, cv, m', H', e1, e2, e3, e4, hK _ _ e5⟩⟩

theorem ef_mono {op : AOp} {xs : List AV} {K K' : AV → Heap → Prop} (hK : ∀ v H, K v H → K' v H) (h : ef op xs H K) : ef op xs H K' := by
  unfold ef at h ⊢
  split at h
  · obtain ⟨id, off, vs, H', h1, h2, h3, h4, h5, h6⟩ := h; exact ⟨id, off, vs, H', h1, h2, h3, h4, h5, hK _ _ h6⟩
  · exact ⟨h.1, fun id hid => hK _ _ (h.2 id hid)⟩
  · exact fun id hid => hK _ _ (h id hid)
  · obtain ⟨cs, h1, h2⟩ := h
    exact ⟨cs, h1, h2.imp (fun h id hid => hK _ _ (h id hid)) (fun ⟨ys, g1, g2, g3, g4⟩ => ⟨ys, g1, g2, g3, fun id hid => hK _ _ (g4 id hid)⟩)⟩
  · exact ⟨h.1, h.2.imp (fun h id hid => hK _ _ (h id hid)) (fun h id hid => hK _ _ (h id hid))⟩
  · obtain ⟨h0, h1, vs, h2, h3, h4⟩ := h
    exact ⟨h0, h1, vs, h2, h3, h4.imp (fun h => hK _ _ h) (fun ⟨g0, g1, H', g2, g3⟩ => ⟨g0, g1, H', g2, hK _ _ g3⟩)⟩
  · obtain ⟨h1, h2, h3, h4, h5⟩ := h; exact ⟨h1, h2, h3, h4, fun id hid => hK _ _ (h5 id hid)⟩
  · exact fun id hid => hK _ _ (h id hid)
  · obtain ⟨es, es', H', h1, h2, h3, h4, h5, h6⟩ := h; exact ⟨es, es', H', h1, h2, h3, h4, h5, hK _ _ h6⟩
  · exact fun id hid => hK _ _ (h id hid)
  · obtain ⟨s, pos, h1, h2, h3⟩ := h
    exact ⟨s, pos, fun hlt => (let ⟨H', g1, g2⟩ := h1 hlt; ⟨H', g1, hK _ _ g2⟩), fun hle => ⟨(h2 hle).1, hK _ _ (h2 hle).2⟩, h3⟩
  · obtain ⟨ys, h1, h0, h2⟩ := h
    refine ⟨ys, h1, h0, ?_⟩
    split at h2
    · obtain ⟨g1, g2, g3, g4⟩ := h2
      refine ⟨g1, g2, g3, ?_⟩
      split at g4
      · exact ⟨fun e => hK _ _ (g4.1 e), fun e id ee hid => hK _ _ (g4.2 e id ee hid)⟩
      · exact ⟨g4.1, g4.2.1, fun id e' H' q1 q2 => hK _ _ (g4.2.2 id e' H' q1 q2)⟩
      · exact g4
    · obtain ⟨g1, g2, g3, vs, g4, g5, g6⟩ := h2
      exact ⟨g1, g2, g3, vs, g4, g5, fun id H' q1 q2 => hK _ _ (g6 id H' q1 q2)⟩
    · exact h2
  · obtain ⟨ys, h1, h2⟩ := h
    refine ⟨ys, h1, ?_⟩
    split at h2
    · obtain ⟨g1, vs, H', g2, g3, g4⟩ := h2; exact ⟨g1, vs, H', g2, g3, hK _ _ g4⟩
    · exact hK _ _ h2
    · exact h2
  · exact h

theorem eff_mono {op : AOp} {xs : List AV} {K K' : AV → Heap → Prop} (hK : ∀ v H, K v H → K' v H) (h : eff G P op xs H K) : eff G P op xs H K' := by
  unfold eff at h ⊢
  split at h
  · exact h.mono hK
  · split at h
    · exact ACalls.mono h hK
    · exact h
  · cases hq : op.quiet with
    | true => rw [hq] at h; obtain ⟨v, h1, h2⟩ := h; exact ⟨v, h1, hK _ _ h2⟩
    | false => rw [hq] at h; exact ef_mono hK h

theorem gate_mono {g : Option (Nat × Bool)} {p q p' q' : Prop} (h1 : p → p') (h2 : q → q') (h : gate σ g p q) : gate σ g p' q' := by
  unfold gate at h ⊢
  split at h
  · exact h1 h
  · split at h
    · rename_i b _
      split at h
      · rename_i hb; rw [if_pos hb]; exact h1 h
      · rename_i hb; rw [if_neg hb]; exact h2 h
    · exact h2 h
    · exact h

theorem oblP_mono {ob : List Nat} {pend pend' : List Pend} {X Y : Prop} (hp : ∀ p ∈ pend', p ∈ pend) (hX : X → Y) (h : oblP ob pend H X) : oblP ob pend' H Y := by
  unfold oblP at h ⊢
  split at h
  · exact hX h
  · exact ⟨fun p hp' hi => h.1 p (hp p hp') hi, hX h.2⟩

/-- Slots that read alike. -/
def Env.same (σ σ' : Env) : Prop := ∀ t, σ.get t = σ'.get t
theorem Env.same.put {σ σ' : Env} (h : σ.same σ') (d : Option Nat) (v : AV) : (σ.put d v).same (σ'.put d v) := by
  intro t
  cases d with
  | none => exact h t
  | some s => simp only [Env.put, Env.get]; split; rfl; exact h t
theorem Env.same.opE {σ σ' : Env} (h : σ.same σ') (x : Operand) : Go.AL.opE G σ x = Go.AL.opE G σ' x := by
  cases x <;> simp [Go.AL.opE, h _]
theorem Env.same.args {σ σ' : Env} (h : σ.same σ') (l : List Operand) : l.map (Go.AL.opE G σ) = l.map (Go.AL.opE G σ') := List.map_congr_left fun x _ => h.opE x
theorem Env.same.gate {σ σ' : Env} (h : σ.same σ') (g : Option (Nat × Bool)) (p q : Prop) : Go.AL.gate σ g p q = Go.AL.gate σ' g p q := by
  unfold Go.AL.gate
  cases g with
  | none => rfl
  | some tw => simp only; rw [h]
theorem Env.put_comm {σ : Env} {d e : Option Nat} (h : ∀ t, d = some t → e ≠ some t) (u v : AV) : ((σ.put d u).put e v).same ((σ.put e v).put d u) := by
  intro t
  cases d with
  | none => rfl
  | some x =>
    cases e with
    | none => rfl
    | some y =>
      have : x ≠ y := fun e => h x rfl (by rw [e])
      simp only [Env.put, Env.get]
      by_cases h1 : t = y
      · subst h1; simp [Ne.symm this]
      · simp [h1]

def KExt (K : Env → Heap → Prop) : Prop := ∀ σ σ' H, Env.same σ σ' → K σ H → K σ' H

theorem seqD_ext {K : Env → Heap → Prop} (hK : KExt K) : ∀ (l : List Item) (pend pend' : List Pend) (σ σ' : Env) (H : Heap), (∀ p ∈ pend', p ∈ pend) → σ.same σ' → seqD G P l pend σ H K → seqD G P l pend' σ' H K
  | [], pend, pend', σ, σ', H, _, hs, h => hK σ σ' H hs h
  | x :: l, pend, pend', σ, σ', H, hp, hs, h => by
    simp only [seqD] at h ⊢
    rw [← hs.gate, ← hs.args]
    refine gate_mono (fun h => ?_) (fun h => seqD_ext hK l pend pend' _ _ H hp (hs.put _ _) h) h
    split at h
    · rename_i hq
      rw [if_pos hq]
      obtain ⟨v, h1, h2⟩ := h
      refine ⟨v, h1, seqD_ext hK l _ _ _ _ H (fun p hm => ?_) (hs.put _ _) h2⟩
      rcases List.mem_cons.1 hm with rfl | hm
      · exact List.mem_cons_self
      · exact List.mem_cons_of_mem _ (hp p hm)
    · rename_i hq
      rw [if_neg hq]
      exact eff_mono (fun v H' h => oblP_mono hp (seqD_ext hK l pend pend' _ _ H' hp (hs.put _ _)) h) h

theorem apartO_spec {x y : AOper} (h : apartO x y = true) : (∀ d, x.dst = some d → d ∉ tmpsOf y ∧ y.dst ≠ some d) ∧ (∀ d, y.dst = some d → d ∉ tmpsOf x) := by
  unfold apartO at h
  rw [Bool.and_eq_true] at h
  refine ⟨fun d hd => ?_, fun d hd => ?_⟩
  · have := h.1; rw [hd] at this; simpa using this
  · have := h.2; rw [hd] at this; simpa using this

theorem put_args {x : AOper} {d : Option Nat} (h : ∀ t, d = some t → t ∉ tmpsOf x) (v : AV) : x.args.map (opE G (σ.put d v)) = x.args.map (opE G σ) := by
  refine List.map_congr_left fun y hy => ?_
  cases y with
  | tmp t =>
    cases d with
    | none => rfl
    | some s =>
      have : t ≠ s := by
        intro e; subst e
        exact h t rfl (List.mem_append_left _ (List.mem_filterMap.2 ⟨_, hy, rfl⟩))
      simp [opE, Env.put, Env.get, this]
  | _ => rfl

theorem put_gate {x : AOper} {d : Option Nat} (h : ∀ t, d = some t → t ∉ tmpsOf x) (v : AV) (p q : Prop) : gate (σ.put d v) x.guard p q = gate σ x.guard p q := by
  unfold gate
  cases hg : x.guard with
  | none => rfl
  | some tw =>
    obtain ⟨t, want⟩ := tw
    cases d with
    | none => rfl
    | some s =>
      have : t ≠ s := by
        intro e; subst e
        exact h t rfl (List.mem_append_right _ (by rw [hg]; simp))
      simp [Env.put, Env.get, this]

theorem Rd_heap {op : AOp} {xs : List AV} {v : AV} (hr : op.reads = false) (h : Rd op xs H v) : Rd op xs H' v := by
  unfold Rd at h ⊢
  rcases h with h | h
  · exact .inl h
  · exfalso
    split at h <;> first | (simp [AOp.reads] at hr; done) | exact h

/-- Two neighbours change their places. -/
theorem seqD_swap {K : Env → Heap → Prop} (hK : KExt K) {x j : Item} (hp : pairOk x j = true) {l : List Item} {pend : List Pend} (h : seqD G P (x :: j :: l) pend σ H K) : seqD G P (j :: x :: l) pend σ H K := by
  simp only [pairOk, Bool.and_eq_true, Bool.or_eq_true, Bool.not_eq_true'] at hp
  obtain ⟨⟨hxq, hap⟩, hob⟩ := hp
  obtain ⟨ha1, ha2⟩ := apartO_spec hap
  have hxj : ∀ t, x.o.dst = some t → t ∉ tmpsOf j.o := fun t ht => (ha1 t ht).1
  have hjx : ∀ t, j.o.dst = some t → t ∉ tmpsOf x.o := ha2
  have hdd : ∀ t, x.o.dst = some t → j.o.dst ≠ some t := fun t ht => (ha1 t ht).2
  have hX : ∀ (pend' : List Pend) (u : AV) (H0 : Heap), seqD G P (j :: l) pend' (σ.put x.o.dst u) H0 K →
      gate σ j.o.guard
        (if j.o.op.quiet then ∃ v, Rd j.o.op (j.o.args.map (opE G σ)) H0 v ∧ seqD G P l (⟨j.i, j.o.op, j.o.args.map (opE G σ), v⟩ :: pend') ((σ.put j.o.dst v).put x.o.dst u) H0 K
         else eff G P j.o.op (j.o.args.map (opE G σ)) H0 fun v H' => oblP j.ob pend' H' (seqD G P l pend' ((σ.put j.o.dst v).put x.o.dst u) H' K))
        (seqD G P l pend' ((σ.put j.o.dst .undef).put x.o.dst u) H0 K) := by
    intro pend' u H0 h
    simp only [seqD] at h
    rw [put_gate hxj, put_args hxj] at h
    refine gate_mono (fun h => ?_) (fun h => seqD_ext hK _ _ _ _ _ _ (fun _ h => h) (Env.put_comm hdd _ _) h) h
    split at h
    · rename_i hq; rw [if_pos hq]
      obtain ⟨v, h1, h2⟩ := h
      exact ⟨v, h1, seqD_ext hK _ _ _ _ _ _ (fun _ h => h) (Env.put_comm hdd _ _) h2⟩
    · rename_i hq; rw [if_neg hq]
      exact eff_mono (fun v H' h => oblP_mono (fun _ h => h) (seqD_ext hK _ _ _ _ _ _ (fun _ h => h) (Env.put_comm hdd _ _)) h) h
  rw [seqD] at h
  -- is x wanted?
  have key : (∃ u : AV, u = .undef ∧ (∀ p q : Prop, gate σ x.o.guard p q = q) ∧ seqD G P (j :: l) pend (σ.put x.o.dst u) H K) ∨
      ((∀ p q : Prop, gate σ x.o.guard p q = p) ∧ ∃ u, Rd x.o.op (x.o.args.map (opE G σ)) H u ∧ seqD G P (j :: l) (⟨x.i, x.o.op, x.o.args.map (opE G σ), u⟩ :: pend) (σ.put x.o.dst u) H K) := by
    rw [if_pos hxq] at h
    unfold gate at h ⊢
    cases hg : x.o.guard with
    | none => rw [hg] at h; exact .inr ⟨fun _ _ => rfl, h⟩
    | some tw =>
      obtain ⟨t, want⟩ := tw
      rw [hg] at h
      dsimp only at h
      cases hgt : σ.get t <;> rw [hgt] at h <;> try (exact False.elim h)
      · rename_i b
        by_cases hb : b = want
        · dsimp only at h; rw [if_pos hb] at h; exact .inr ⟨fun _ _ => by dsimp only; rw [hgt]; exact if_pos hb, h⟩
        · dsimp only at h; rw [if_neg hb] at h; exact .inl ⟨_, rfl, fun _ _ => by dsimp only; rw [hgt]; exact if_neg hb, h⟩
      · rename_i vs
        cases vs with
        | nil => exact .inl ⟨_, rfl, fun _ _ => by dsimp only; rw [hgt], h⟩
        | cons _ _ => exact False.elim h
  rcases key with ⟨u, rfl, hg, h⟩ | ⟨hg, u, hu, h⟩
  · rw [seqD]
    have hstep : ∀ (pd : List Pend) (v : AV) (H0 : Heap), seqD G P l pd ((σ.put j.o.dst v).put x.o.dst .undef) H0 K → seqD G P (x :: l) pd (σ.put j.o.dst v) H0 K := by
      intro pd v H0 h
      rw [seqD, put_gate hjx, hg]; exact h
    refine gate_mono (fun h => ?_) (hstep _ _ _) (hX pend _ H h)
    split at h
    · rename_i hq; rw [if_pos hq]
      obtain ⟨v, h1, h2⟩ := h
      exact ⟨v, h1, hstep _ _ _ h2⟩
    · rename_i hq; rw [if_neg hq]
      exact eff_mono (fun v H' h => oblP_mono (fun _ h => h) (hstep _ _ _) h) h
  · rw [seqD]
    have hstep : ∀ (pd : List Pend) (v : AV) (H0 : Heap), Rd x.o.op (x.o.args.map (opE G σ)) H0 u → seqD G P l (⟨x.i, x.o.op, x.o.args.map (opE G σ), u⟩ :: pd) ((σ.put j.o.dst v).put x.o.dst u) H0 K → seqD G P (x :: l) pd (σ.put j.o.dst v) H0 K := by
      intro pd v H0 hr h
      rw [seqD, put_gate hjx, hg, if_pos hxq, put_args hjx]; exact ⟨u, hr, h⟩
    refine gate_mono (fun h => ?_) (hstep _ _ _ hu) (hX _ u H h)
    split at h
    · rename_i hq; rw [if_pos hq]
      obtain ⟨v, h1, h2⟩ := h
      refine ⟨v, h1, hstep _ _ _ hu (seqD_ext hK _ _ _ _ _ _ (fun p hp => ?_) (fun _ => rfl) h2)⟩
      simp only [List.mem_cons] at hp ⊢
      rcases hp with h | h | h
      · exact .inr (.inl h)
      · exact .inl h
      · exact .inr (.inr h)
    · rename_i hq; rw [if_neg hq]
      refine eff_mono (fun v H' h => ?_) h
      have hobl : oblP j.ob pend H' (Rd x.o.op (x.o.args.map (opE G σ)) H' u ∧ seqD G P l (⟨x.i, x.o.op, x.o.args.map (opE G σ), u⟩ :: pend) ((σ.put j.o.dst v).put x.o.dst u) H' K) := by
        have hmem : x.o.op.reads = false ∨ x.i ∈ j.ob := by
          rcases hob with (h | h) | h
          · rw [h] at hq; exact absurd rfl hq
          · exact .inl h
          · exact .inr (by simpa using h)
        unfold oblP at h ⊢
        split at h
        · rename_i hnil
          rcases hmem with hr | hi
          · exact ⟨Rd_heap hr hu, h⟩
          · rw [hnil] at hi; cases hi
        · refine ⟨fun p hp hi => h.1 p (List.mem_cons_of_mem _ hp) hi, ?_, h.2⟩
          rcases hmem with hr | hi
          · exact Rd_heap hr hu
          · exact h.1 _ List.mem_cons_self hi
      exact oblP_mono (fun _ h => h) (fun ⟨h1, h2⟩ => hstep _ _ _ h1 h2) hobl

/-- One that is ready comes to the front. -/
theorem seqD_front {K : Env → Heap → Prop} (hK : KExt K) {j : Item} {l2 : List Item} : ∀ (l1 : List Item) (pend : List Pend) (σ : Env) (H : Heap), (∀ x ∈ l1, pairOk x j = true) → seqD G P (l1 ++ j :: l2) pend σ H K → seqD G P (j :: (l1 ++ l2)) pend σ H K
  | [], pend, σ, H, _, h => h
  | x :: l1, pend, σ, H, hp, h => by
    refine seqD_swap hK (hp x List.mem_cons_self) ?_
    simp only [List.cons_append] at h
    rw [seqD] at h ⊢
    have ih := fun pd s H0 => seqD_front hK (j := j) (l2 := l2) l1 pd s H0 (fun y hy => hp y (List.mem_cons_of_mem _ hy))
    refine gate_mono (fun h => ?_) (ih _ _ _) h
    split at h
    · rename_i hq; rw [if_pos hq]
      obtain ⟨v, h1, h2⟩ := h
      exact ⟨v, h1, ih _ _ _ h2⟩
    · rename_i hq; rw [if_neg hq]
      exact eff_mono (fun v H' h => oblP_mono (fun _ h => h) (ih _ _ _) h) h

end
end Go.AL
