/- The abstract layer, part 17b: regions in which two writing operations stand in no order: both orders. -/
import Derived.Test.YtpeaphpibnikcaaA17
set_option linter.unusedVariables false
namespace Go.AL
open Go.RowKit

/-- As seqD, up to a place where it goes on with what was read. -/
def seqP (G : Nat → Option (List AV)) (P : Program) : List Item → List Pend → Env → Heap → (List Pend → Env → Heap → Prop) → Prop
  | [], pend, σ, H, K => K pend σ H
  | x :: l, pend, σ, H, K =>
    gate σ x.o.guard
      (if x.o.op.quiet then ∃ v, Rd x.o.op (x.o.args.map (opE G σ)) H v ∧ seqP G P l (⟨x.i, x.o.op, x.o.args.map (opE G σ), v⟩ :: pend) (σ.put x.o.dst v) H K
       else eff G P x.o.op (x.o.args.map (opE G σ)) H fun v H' => oblP x.ob pend H' (seqP G P l pend (σ.put x.o.dst v) H' K))
      (seqP G P l pend (σ.put x.o.dst .undef) H K)
def KExtP (K : List Pend → Env → Heap → Prop) : Prop := ∀ pend pend' σ σ' H, (∀ p ∈ pend', p ∈ pend) → Env.same σ σ' → K pend σ H → K pend' σ' H

section
variable {G : Nat → Option (List AV)} {B : Nat} {w0 w w' : World} {m m' : Im} {H H' : Heap} {P : Program} {n : Nat} {σ : Env} {a : Act} {ops : Array Oper}

theorem seqP_ext {K : List Pend → Env → Heap → Prop} (hK : KExtP K) : ∀ (l : List Item) (pend pend' : List Pend) (σ σ' : Env) (H : Heap), (∀ p ∈ pend', p ∈ pend) → σ.same σ' → seqP G P l pend σ H K → seqP G P l pend' σ' H K
  | [], pend, pend', σ, σ', H, hp, hs, h => hK pend pend' σ σ' H hp hs h
  | x :: l, pend, pend', σ, σ', H, hp, hs, h => by
    simp only [seqP] at h ⊢
    rw [← hs.gate, ← hs.args]
    refine gate_mono (fun h => ?_) (fun h => seqP_ext hK l pend pend' _ _ H hp (hs.put _ _) h) h
    split at h
    · rename_i hq
      rw [if_pos hq]
      obtain ⟨v, h1, h2⟩ := h
      refine ⟨v, h1, seqP_ext hK l _ _ _ _ H (fun p hm => ?_) (hs.put _ _) h2⟩
      rcases List.mem_cons.1 hm with rfl | hm
      · exact List.mem_cons_self
      · exact List.mem_cons_of_mem _ (hp p hm)
    · rename_i hq
      rw [if_neg hq]
      exact eff_mono (fun v H' h => oblP_mono hp (seqP_ext hK l pend pend' _ _ H' hp (hs.put _ _)) h) h

/-- Two neighbours change their places. -/
theorem seqP_swap {K : List Pend → Env → Heap → Prop} (hK : KExtP K) {x j : Item} (hp : pairOk x j = true) {l : List Item} {pend : List Pend} (h : seqP G P (x :: j :: l) pend σ H K) : seqP G P (j :: x :: l) pend σ H K := by
  simp only [pairOk, Bool.and_eq_true, Bool.or_eq_true, Bool.not_eq_true'] at hp
  obtain ⟨⟨hxq, hap⟩, hob⟩ := hp
  obtain ⟨ha1, ha2⟩ := apartO_spec hap
  have hxj : ∀ t, x.o.dst = some t → t ∉ tmpsOf j.o := fun t ht => (ha1 t ht).1
  have hjx : ∀ t, j.o.dst = some t → t ∉ tmpsOf x.o := ha2
  have hdd : ∀ t, x.o.dst = some t → j.o.dst ≠ some t := fun t ht => (ha1 t ht).2
  have hX : ∀ (pend' : List Pend) (u : AV) (H0 : Heap), seqP G P (j :: l) pend' (σ.put x.o.dst u) H0 K →
      gate σ j.o.guard
        (if j.o.op.quiet then ∃ v, Rd j.o.op (j.o.args.map (opE G σ)) H0 v ∧ seqP G P l (⟨j.i, j.o.op, j.o.args.map (opE G σ), v⟩ :: pend') ((σ.put j.o.dst v).put x.o.dst u) H0 K
         else eff G P j.o.op (j.o.args.map (opE G σ)) H0 fun v H' => oblP j.ob pend' H' (seqP G P l pend' ((σ.put j.o.dst v).put x.o.dst u) H' K))
        (seqP G P l pend' ((σ.put j.o.dst .undef).put x.o.dst u) H0 K) := by
    intro pend' u H0 h
    simp only [seqP] at h
    rw [put_gate hxj, put_args hxj] at h
    refine gate_mono (fun h => ?_) (fun h => seqP_ext hK _ _ _ _ _ _ (fun _ h => h) (Env.put_comm hdd _ _) h) h
    split at h
    · rename_i hq; rw [if_pos hq]
      obtain ⟨v, h1, h2⟩ := h
      exact ⟨v, h1, seqP_ext hK _ _ _ _ _ _ (fun _ h => h) (Env.put_comm hdd _ _) h2⟩
    · rename_i hq; rw [if_neg hq]
      exact eff_mono (fun v H' h => oblP_mono (fun _ h => h) (seqP_ext hK _ _ _ _ _ _ (fun _ h => h) (Env.put_comm hdd _ _)) h) h
  rw [seqP] at h
  -- is x wanted?
  have key : (∃ u : AV, u = .undef ∧ (∀ p q : Prop, gate σ x.o.guard p q = q) ∧ seqP G P (j :: l) pend (σ.put x.o.dst u) H K) ∨
      ((∀ p q : Prop, gate σ x.o.guard p q = p) ∧ ∃ u, Rd x.o.op (x.o.args.map (opE G σ)) H u ∧ seqP G P (j :: l) (⟨x.i, x.o.op, x.o.args.map (opE G σ), u⟩ :: pend) (σ.put x.o.dst u) H K) := by
    rw [if_pos hxq] at h
    unfold gate at h ⊢
    cases hg : x.o.guard with
    | none => rw [hg] at h; exact .inr ⟨fun _ _ => rfl, h⟩
    | some tw =>
      obtain ⟨t, want⟩ := tw
      rw [hg] at h
      dsimp only at h
      cases hgt : σ.get t <;> rw [hgt] at h <;> try (exact False.elim h)
      · rename_i b
        by_cases hb : b = want
        · dsimp only at h; rw [if_pos hb] at h; exact .inr ⟨fun _ _ => by dsimp only; rw [hgt]; exact if_pos hb, h⟩
        · dsimp only at h; rw [if_neg hb] at h; exact .inl ⟨_, rfl, fun _ _ => by dsimp only; rw [hgt]; exact if_neg hb, h⟩
      · rename_i vs
        cases vs with
        | nil => exact .inl ⟨_, rfl, fun _ _ => by dsimp only; rw [hgt], h⟩
        | cons _ _ => exact False.elim h
  rcases key with ⟨u, rfl, hg, h⟩ | ⟨hg, u, hu, h⟩
  · rw [seqP]
    have hstep : ∀ (pd : List Pend) (v : AV) (H0 : Heap), seqP G P l pd ((σ.put j.o.dst v).put x.o.dst .undef) H0 K → seqP G P (x :: l) pd (σ.put j.o.dst v) H0 K := by
      intro pd v H0 h
      rw [seqP, put_gate hjx, hg]; exact h
    refine gate_mono (fun h => ?_) (hstep _ _ _) (hX pend _ H h)
    split at h
    · rename_i hq; rw [if_pos hq]
      obtain ⟨v, h1, h2⟩ := h
      exact ⟨v, h1, hstep _ _ _ h2⟩
    · rename_i hq; rw [if_neg hq]
      exact eff_mono (fun v H' h => oblP_mono (fun _ h => h) (hstep _ _ _) h) h
  · rw [seqP]
    have hstep : ∀ (pd : List Pend) (v : AV) (H0 : Heap), Rd x.o.op (x.o.args.map (opE G σ)) H0 u → seqP G P l (⟨x.i, x.o.op, x.o.args.map (opE G σ), u⟩ :: pd) ((σ.put j.o.dst v).put x.o.dst u) H0 K → seqP G P (x :: l) pd (σ.put j.o.dst v) H0 K := by
      intro pd v H0 hr h
      rw [seqP, put_gate hjx, hg, if_pos hxq, put_args hjx]; exact ⟨u, hr, h⟩
    refine gate_mono (fun h => ?_) (hstep _ _ _ hu) (hX _ u H h)
    split at h
    · rename_i hq; rw [if_pos hq]
      obtain ⟨v, h1, h2⟩ := h
      refine ⟨v, h1, hstep _ _ _ hu (seqP_ext hK _ _ _ _ _ _ (fun p hp => ?_) (fun _ => rfl) h2)⟩
      simp only [List.mem_cons] at hp ⊢
      rcases hp with h | h | h
      · exact .inr (.inl h)
      · exact .inl h
      · exact .inr (.inr h)
    · rename_i hq; rw [if_neg hq]
      refine eff_mono (fun v H' h => ?_) h
      have hobl : oblP j.ob pend H' (Rd x.o.op (x.o.args.map (opE G σ)) H' u ∧ seqP G P l (⟨x.i, x.o.op, x.o.args.map (opE G σ), u⟩ :: pend) ((σ.put j.o.dst v).put x.o.dst u) H' K) := by
        have hmem : x.o.op.reads = false ∨ x.i ∈ j.ob := by
          rcases hob with (h | h) | h
          · rw [h] at hq; exact absurd rfl hq
          · exact .inl h
          · exact .inr (by simpa using h)
        unfold oblP at h ⊢
        split at h
        · rename_i hnil
          rcases hmem with hr | hi
          · exact ⟨Rd_heap hr hu, h⟩
          · rw [hnil] at hi; cases hi
        · refine ⟨fun p hp hi => h.1 p (List.mem_cons_of_mem _ hp) hi, ?_, h.2⟩
          rcases hmem with hr | hi
          · exact Rd_heap hr hu
          · exact h.1 _ List.mem_cons_self hi
      exact oblP_mono (fun _ h => h) (fun ⟨h1, h2⟩ => hstep _ _ _ h1 h2) hobl

/-- One that is ready comes to the front. -/
theorem seqP_front {K : List Pend → Env → Heap → Prop} (hK : KExtP K) {j : Item} {l2 : List Item} : ∀ (l1 : List Item) (pend : List Pend) (σ : Env) (H : Heap), (∀ x ∈ l1, pairOk x j = true) → seqP G P (l1 ++ j :: l2) pend σ H K → seqP G P (j :: (l1 ++ l2)) pend σ H K
  | [], pend, σ, H, _, h => h
  | x :: l1, pend, σ, H, hp, h => by
    refine seqP_swap hK (hp x List.mem_cons_self) ?_
    simp only [List.cons_append] at h
    rw [seqP] at h ⊢
    have ih := fun pd s H0 => seqP_front hK (j := j) (l2 := l2) l1 pd s H0 (fun y hy => hp y (List.mem_cons_of_mem _ hy))
    refine gate_mono (fun h => ?_) (ih _ _ _) h
    split at h
    · rename_i hq; rw [if_pos hq]
      obtain ⟨v, h1, h2⟩ := h
      exact ⟨v, h1, ih _ _ _ h2⟩
    · rename_i hq; rw [if_neg hq]
      exact eff_mono (fun v H' h => oblP_mono (fun _ h => h) (ih _ _ _) h) h

theorem seqP_doOp {x : Item} {l : List Item} {pend : List Pend} {K : List Pend → Env → Heap → Prop} (hK : KExtP K) (h : seqP G P (x :: l) pend σ H K) : doOp G P x.o σ H fun σ' H' => seqP G P l [] σ' H' K := by
  rw [seqP] at h
  unfold doOp
  refine gate_mono (fun h => ?_) (fun h => seqP_ext hK _ _ _ _ _ _ (fun _ h => by cases h) (fun _ => rfl) h) h
  cases hq : x.o.op.quiet with
  | true =>
    rw [hq, if_pos rfl] at h
    obtain ⟨v, h1, h2⟩ := h
    have h2 := seqP_ext hK _ _ [] _ (σ.put x.o.dst v) _ (fun _ h => by cases h) (fun _ => rfl) h2
    unfold eff
    split
    · rename_i ho; rw [ho] at hq; cases hq
    · rename_i ho; rw [ho] at hq; cases hq
    · rw [if_pos hq]; exact ⟨v, h1, h2⟩
  | false =>
    rw [hq] at h
    refine eff_mono (fun v H' h => ?_) h
    have h' : seqP G P l pend (σ.put x.o.dst v) H' K := by
      unfold oblP at h
      split at h
      · exact h
      · exact h.2
    exact seqP_ext hK _ _ _ _ _ _ (fun _ h => by cases h) (fun _ => rfl) h'


theorem seqP_mono {K K' : List Pend → Env → Heap → Prop} (hK : ∀ pd σ H, K pd σ H → K' pd σ H) : ∀ (l : List Item) (pend : List Pend) (σ : Env) (H : Heap), seqP G P l pend σ H K → seqP G P l pend σ H K'
  | [], _, _, _, h => hK _ _ _ h
  | x :: l, pend, σ, H, h => by
    simp only [seqP] at h ⊢
    refine gate_mono (fun h => ?_) (seqP_mono hK l _ _ _) h
    cases hq : x.o.op.quiet with
    | true => rw [hq] at h; obtain ⟨v, h1, h2⟩ := h; exact ⟨v, h1, seqP_mono hK l _ _ _ h2⟩
    | false => rw [hq] at h; exact eff_mono (fun v H' h => oblP_mono (fun _ h => h) (seqP_mono hK l _ _ _) h) h

theorem seqP_app {K : Env → Heap → Prop} {l2 : List Item} : ∀ (l : List Item) (pend : List Pend) (σ : Env) (H : Heap), seqP G P l pend σ H (fun pd s h => seqD G P l2 pd s h K) → seqD G P (l ++ l2) pend σ H K
  | [], _, _, _, h => h
  | x :: l, pend, σ, H, h => by
    simp only [List.cons_append, seqP] at h ⊢
    rw [seqD]
    refine gate_mono (fun h => ?_) (seqP_app l _ _ _) h
    cases hq : x.o.op.quiet with
    | true => rw [hq] at h; obtain ⟨v, h1, h2⟩ := h; exact ⟨v, h1, seqP_app l _ _ _ h2⟩
    | false => rw [hq] at h; exact eff_mono (fun v H' h => oblP_mono (fun _ h => h) (seqP_app l _ _ _) h) h

def forkK (G : Nat → Option (List AV)) (P : Program) (l1 l2 : List Item) (K : Env → Heap → Prop) : List Pend → Env → Heap → Prop := fun pd s h => seqD G P l1 pd s h K ∧ seqD G P l2 pd s h K
theorem forkK_ext {l1 l2 : List Item} {K : Env → Heap → Prop} (hK : KExt K) : KExtP (forkK G P l1 l2 K) :=
  fun pd pd' σ σ' H hp hs h => ⟨seqD_ext hK _ _ _ _ _ _ hp hs h.1, seqD_ext hK _ _ _ _ _ _ hp hs h.2⟩

/-- What is asked of a fork: pre comes ahead; x :: r1 and y :: r2 are the two ways. -/
structure Fork (es : List (List Nat)) (bef : List Nat) (pre : List Item) (x y : Item) (r1 r2 : List Item) : Prop where
  p1 : (pre ++ r1).Pairwise (PairR es bef)
  p2 : (pre ++ r2).Pairwise (PairR es bef)
  hx : ∀ z ∈ pre, PairR es bef z x
  hy : ∀ z ∈ pre, PairR es bef z y
  xr : ∀ j ∈ r1, j.i ∉ es.getD x.i [] ∧ j.i ≠ x.i
  yr : ∀ j ∈ r2, j.i ≠ y.i
  tl : ∀ j ∈ r1, j.i = y.i ∨ (bef.getD j.i 0).testBit x.i = true ∨ (bef.getD j.i 0).testBit y.i = true

theorem wpAny_fork {aos : List AOper} (hcs : ∀ (i : Nat) (o : Oper), ops[i]? = some o → ∃ ao : AOper, aos[i]? = some ao ∧ compO P n ops o = some ao) {es : List (List Nat)} {bef : List Nat} (hes : es = edgesOf ops) (hbo : befOk es bef = true) (hEdge : ∀ i e, e ∈ es.getD i [] → e < ops.size)
    {K : Env → Heap → Prop} (hKe : KExt K) {Q : Exit → Act → World → Prop} {x y : Item} {r1 r2 : List Item} :
    ∀ (fuel : Nat) (listed : Array Bool) (pre : List Item) (m : Im) (w : World) (a : Act) (σ : Env) (H : Heap), listed.size = ops.size → Closed es listed → (pre ++ x :: r1).length = fuel → (pre ++ y :: r2).length = fuel → Fork es bef pre x y r1 r2 →
      (∀ z ∈ pre ++ x :: r1, z.i ∉ es.getD z.i [] ∧ aos[z.i]? = some z.o ∧ z.i < ops.size ∧ listed.getD z.i false = false) → (∀ z ∈ pre ++ y :: r2, z.i ∉ es.getD z.i [] ∧ aos[z.i]? = some z.o ∧ z.i < ops.size ∧ listed.getD z.i false = false) →
      (∀ i, i < ops.size → listed.getD i false = false → ∃ z ∈ pre ++ x :: r1, z.i = i) → (∀ i, i < ops.size → listed.getD i false = false → ∃ z ∈ pre ++ y :: r2, z.i = i) →
      Sat G B w0 m H w → RelT m n σ a → seqP G P pre [] σ H (forkK G P (x :: r1) (y :: r2) K) →
      (∀ m' w' a' σ' H', m.le m' → Sat G B w0 m' H' w' → RelT m' n σ' a' → K σ' H' → Q .normal a' w') → wpAny P .any ops Q fuel listed a w
  | 0, listed, pre, m, w, a, σ, H, hsz, hcl, hlen, hlen2, hF, hit, hit2, hcov, hcov2, hsat, hrel, h, hK => by simp at hlen
  | fuel + 1, listed, pre, m, w, a, σ, H, hsz, hcl, hlen, hlen2, hF, hit, hit2, hcov, hcov2, hsat, hrel, h, hK => by
    have hlf : ∀ i, i < ops.size → listed.getD i true = listed.getD i false := by
      intro i hi
      rw [Array.getD_eq_getD_getElem?, Array.getD_eq_getD_getElem?, Array.getElem?_eq_getElem (by omega)]; rfl
    refine ⟨fun hr => ?_, fun i hi => ?_⟩
    · exfalso
      -- the first is ready
      obtain ⟨z, hz, hzr⟩ : ∃ z ∈ pre ++ x :: r1, ∀ j ∈ pre ++ x :: r1, j.i ∉ es.getD z.i [] := by
        cases pre with
        | nil =>
          refine ⟨x, List.mem_cons_self, fun j hj => ?_⟩
          rcases List.mem_cons.1 hj with rfl | hj
          · exact (hit _ List.mem_cons_self).1
          · exact (hF.xr j hj).1
        | cons z pre =>
          refine ⟨z, List.mem_cons_self, fun j hj => ?_⟩
          rcases List.mem_cons.1 hj with rfl | hj
          · exact (hit _ List.mem_cons_self).1
          · rcases List.mem_append.1 hj with hj | hj
            · exact (List.rel_of_pairwise_cons hF.p1 (List.mem_append_left _ hj)).1
            · rcases List.mem_cons.1 hj with rfl | hj
              · exact (hF.hx z List.mem_cons_self).1
              · exact (List.rel_of_pairwise_cons hF.p1 (List.mem_append_right _ hj)).1
      obtain ⟨g1, g2, g3, g4⟩ := hit z hz
      have : z.i ∈ Region.ready .any ops listed := by
        refine ready_of g3 (by rw [hlf _ g3]; exact g4) (fun e he => ?_)
        rw [← hes] at he
        cases hl : listed.getD e false with
        | true => rfl
        | false =>
          by_cases heo : e < ops.size
          · obtain ⟨j, hj, rfl⟩ := hcov e heo hl
            exact absurd he (hzr j hj)
          · exact absurd (hEdge _ _ he) heo
      rw [hr] at this; cases this
    · obtain ⟨h1, h2, h3⟩ := ready_mem hi
      rw [← hes] at h3
      have h2' : listed.getD i false = false := by rw [← hlf i h1]; exact h2
      have hset : ∀ j k, j < ops.size → (listed.setIfInBounds j true).getD k false = if j = k then true else listed.getD k false := by
        intro j k hj
        simp only [Array.getD_eq_getD_getElem?, Array.getElem?_setIfInBounds]
        split
        · rename_i e; subst e; rw [if_pos (by omega)]; rfl
        · rfl
      have hcl' : Closed es (listed.setIfInBounds i true) := by
        intro k hk e he
        rw [hset i _ h1] at hk ⊢
        split at hk
        · rename_i e'; subst e'
          rw [h3 e he]; simp
        · rw [hcl k hk e he]; simp
      have one : ∀ (j : Item), j.i = i → aos[j.i]? = some j.o → ∀ {K' : Env → Heap → Prop}, doOp G P j.o σ H K' →
          (∀ m' w' a' σ' H', m.le m' → Sat G B w0 m' H' w' → RelT m' n σ' a' → K' σ' H' → wpAny P .any ops Q fuel (listed.setIfInBounds i true) a' w') →
          wpOp P ops Q i (wpAny P .any ops Q fuel (listed.setIfInBounds i true)) a w := by
        rintro j rfl hj K' hd hk
        obtain ⟨ao, ha, hco⟩ := hcs j.i ops[j.i] (Array.getElem?_eq_getElem h1)
        have : ao = j.o := by rw [hj] at ha; cases ha; rfl
        subst this
        exact doOp_sound hsat hrel (Array.getElem?_eq_getElem h1) hco hd hk
      have late : ∀ z j : Item, j.i = i → listed.getD z.i false = false → PairR es bef z j → pairOk z j = true := by
        rintro z j rfl hz ⟨_, _, hb | hb⟩
        · rw [bef_listed hbo hcl j.i h3 _ hb] at hz; cases hz
        · exact hb
      have keep : ∀ (z j : Item), j.i = i → z.i ≠ j.i → listed.getD z.i false = false → (listed.setIfInBounds i true).getD z.i false = false := by
        rintro z j rfl hne hz
        rw [hset _ _ h1, if_neg (Ne.symm hne)]; exact hz
      have unl : ∀ k, k < ops.size → (listed.setIfInBounds i true).getD k false = false → i ≠ k ∧ listed.getD k false = false := by
        intro k _ hk
        rw [hset _ _ h1] at hk
        split at hk
        · cases hk
        · rename_i hne; exact ⟨hne, hk⟩
      obtain ⟨j, hj, hji⟩ := hcov i h1 h2'
      rcases List.mem_append.1 hj with hjp | hjx
      · obtain ⟨p1, p2, rfl⟩ := List.append_of_mem hjp
        have hpw1 := hF.p1
        rw [List.append_assoc, List.cons_append] at hpw1
        have hpw2 := hF.p2
        rw [List.append_assoc, List.cons_append] at hpw2
        have hpp := List.pairwise_append.1 hpw1
        have hsub1 : ∀ z, z ∈ p1 → z ∈ (p1 ++ j :: p2) ++ x :: r1 := fun z h => List.mem_append_left _ (List.mem_append_left _ h)
        have hp : ∀ z ∈ p1, pairOk z j = true := fun z hz => late z j hji (hit z (hsub1 z hz)).2.2.2 (hpp.2.2 z hz j List.mem_cons_self)
        have hd := seqP_doOp (forkK_ext hKe) (seqP_front (forkK_ext hKe) p1 [] σ H hp h)
        refine one j hji (hit j hj).2.1 hd fun m' w' a' σ' H' q1 q2 q3 q4 => ?_
        have hne1 : ∀ z, z ∈ p1 ++ p2 → z.i ≠ j.i := by
          intro z hz
          rcases List.mem_append.1 hz with hz | hz
          · exact (hpp.2.2 z hz j List.mem_cons_self).2.1
          · exact Ne.symm (List.rel_of_pairwise_cons hpp.2.1 (List.mem_append_left _ hz)).2.1
        have hner1 : ∀ z ∈ r1, z.i ≠ j.i := fun z hz => Ne.symm (List.rel_of_pairwise_cons hpp.2.1 (List.mem_append_right _ hz)).2.1
        have hner2 : ∀ z ∈ r2, z.i ≠ j.i := fun z hz => Ne.symm (List.rel_of_pairwise_cons (List.pairwise_append.1 hpw2).2.1 (List.mem_append_right _ hz)).2.1
        have hjx : x.i ≠ j.i := Ne.symm (hF.hx j hjp).2.1
        have hjy : y.i ≠ j.i := Ne.symm (hF.hy j hjp).2.1
        have hsubp : ∀ z, z ∈ p1 ++ p2 → z ∈ p1 ++ j :: p2 := by
          intro z hz
          rcases List.mem_append.1 hz with hz | hz
          · exact List.mem_append_left _ hz
          · exact List.mem_append_right _ (List.mem_cons_of_mem _ hz)
        have hF' : Fork es bef (p1 ++ p2) x y r1 r2 := by
          refine ⟨?_, ?_, fun z hz => hF.hx z (hsubp z hz), fun z hz => hF.hy z (hsubp z hz), hF.xr, hF.yr, hF.tl⟩
          · rw [List.append_assoc]; exact hpw1.sublist (List.Sublist.append (List.Sublist.refl p1) (List.sublist_cons_self j _))
          · rw [List.append_assoc]; exact hpw2.sublist (List.Sublist.append (List.Sublist.refl p1) (List.sublist_cons_self j _))
        refine wpAny_fork hcs hes hbo hEdge hKe fuel _ (p1 ++ p2) m' w' a' σ' H' (by simpa using hsz) hcl' ?_ ?_ hF' ?_ ?_ ?_ ?_ q2 q3 q4 (fun m2 w2 a2 σ2 H2 g1 g2 g3 g4 => hK m2 w2 a2 σ2 H2 (q1.trans g1) g2 g3 g4)
        · simp only [List.length_append, List.length_cons] at hlen ⊢; omega
        · simp only [List.length_append, List.length_cons] at hlen2 ⊢; omega
        · intro z hz
          have hz' : z ∈ (p1 ++ j :: p2) ++ x :: r1 := by
            rcases List.mem_append.1 hz with hz | hz
            · exact List.mem_append_left _ (hsubp z hz)
            · exact List.mem_append_right _ hz
          have hne : z.i ≠ j.i := by
            rcases List.mem_append.1 hz with hz | hz
            · exact hne1 z hz
            · rcases List.mem_cons.1 hz with rfl | hz
              · exact hjx
              · exact hner1 z hz
          obtain ⟨g1, g2, g3, g4⟩ := hit z hz'
          exact ⟨g1, g2, g3, keep z j hji hne g4⟩
        · intro z hz
          have hz' : z ∈ (p1 ++ j :: p2) ++ y :: r2 := by
            rcases List.mem_append.1 hz with hz | hz
            · exact List.mem_append_left _ (hsubp z hz)
            · exact List.mem_append_right _ hz
          have hne : z.i ≠ j.i := by
            rcases List.mem_append.1 hz with hz | hz
            · exact hne1 z hz
            · rcases List.mem_cons.1 hz with rfl | hz
              · exact hjy
              · exact hner2 z hz
          obtain ⟨g1, g2, g3, g4⟩ := hit2 z hz'
          exact ⟨g1, g2, g3, keep z j hji hne g4⟩
        · intro k hk hkl
          obtain ⟨hne, hkl⟩ := unl k hk hkl
          obtain ⟨z, hz, rfl⟩ := hcov k hk hkl
          refine ⟨z, ?_, rfl⟩
          rcases List.mem_append.1 hz with hz | hz
          · rcases List.mem_append.1 hz with hz | hz
            · exact List.mem_append_left _ (List.mem_append_left _ hz)
            · rcases List.mem_cons.1 hz with rfl | hz
              · exact absurd hji (Ne.symm hne)
              · exact List.mem_append_left _ (List.mem_append_right _ hz)
          · exact List.mem_append_right _ hz
        · intro k hk hkl
          obtain ⟨hne, hkl⟩ := unl k hk hkl
          obtain ⟨z, hz, rfl⟩ := hcov2 k hk hkl
          refine ⟨z, ?_, rfl⟩
          rcases List.mem_append.1 hz with hz | hz
          · rcases List.mem_append.1 hz with hz | hz
            · exact List.mem_append_left _ (List.mem_append_left _ hz)
            · rcases List.mem_cons.1 hz with rfl | hz
              · exact absurd hji (Ne.symm hne)
              · exact List.mem_append_left _ (List.mem_append_right _ hz)
          · exact List.mem_append_right _ hz
      · -- one of the two, with its list
        have two : ∀ (u : Item) (r : List Item), u.i = i → (pre ++ u :: r).length = fuel + 1 → (pre ++ r).Pairwise (PairR es bef) → (∀ z ∈ pre, PairR es bef z u) → (∀ z ∈ r, z.i ≠ u.i) →
            (∀ z ∈ pre ++ u :: r, z.i ∉ es.getD z.i [] ∧ aos[z.i]? = some z.o ∧ z.i < ops.size ∧ listed.getD z.i false = false) → (∀ i, i < ops.size → listed.getD i false = false → ∃ z ∈ pre ++ u :: r, z.i = i) →
            seqD G P (pre ++ u :: r) [] σ H K → wpOp P ops Q i (wpAny P .any ops Q fuel (listed.setIfInBounds i true)) a w := by
          intro u r hui hl hpw hu hr hi' hc' hs
          have hmem : u ∈ pre ++ u :: r := List.mem_append_right _ List.mem_cons_self
          have hp : ∀ z ∈ pre, pairOk z u = true := fun z hz => late z u hui (hi' z (List.mem_append_left _ hz)).2.2.2 (hu z hz)
          have hd := seqD_doOp hKe (seqD_front hKe pre [] σ H hp hs)
          refine one u hui (hi' u hmem).2.1 hd fun m' w' a' σ' H' q1 q2 q3 q4 => ?_
          refine wpAny_seqD hcs hes hbo hEdge hKe fuel _ (pre ++ r) m' w' a' σ' H' (by simpa using hsz) hcl' ?_ hpw ?_ ?_ q2 q3 q4 (fun m2 w2 a2 σ2 H2 g1 g2 g3 g4 => hK m2 w2 a2 σ2 H2 (q1.trans g1) g2 g3 g4)
          · simp only [List.length_append, List.length_cons] at hl ⊢; omega
          · intro z hz
            have hz' : z ∈ pre ++ u :: r := by
              rcases List.mem_append.1 hz with hz | hz
              · exact List.mem_append_left _ hz
              · exact List.mem_append_right _ (List.mem_cons_of_mem _ hz)
            have hne : z.i ≠ u.i := by
              rcases List.mem_append.1 hz with hz | hz
              · exact (hu z hz).2.1
              · exact hr z hz
            obtain ⟨g1, g2, g3, g4⟩ := hi' z hz'
            exact ⟨g1, g2, g3, keep z u hui hne g4⟩
          · intro k hk hkl
            obtain ⟨hne, hkl⟩ := unl k hk hkl
            obtain ⟨z, hz, rfl⟩ := hc' k hk hkl
            refine ⟨z, ?_, rfl⟩
            rcases List.mem_append.1 hz with hz | hz
            · exact List.mem_append_left _ hz
            · rcases List.mem_cons.1 hz with rfl | hz
              · exact absurd hui (Ne.symm hne)
              · exact List.mem_append_right _ hz
        have goX : x.i = i → wpOp P ops Q i (wpAny P .any ops Q fuel (listed.setIfInBounds i true)) a w := fun hx =>
          two x r1 hx hlen hF.p1 hF.hx (fun z hz => (hF.xr z hz).2) hit hcov (seqP_app pre [] σ H (seqP_mono (fun _ _ _ h => h.1) _ _ _ _ h))
        have goY : y.i = i → wpOp P ops Q i (wpAny P .any ops Q fuel (listed.setIfInBounds i true)) a w := fun hy =>
          two y r2 hy hlen2 hF.p2 hF.hy hF.yr hit2 hcov2 (seqP_app pre [] σ H (seqP_mono (fun _ _ _ h => h.2) _ _ _ _ h))
        rcases List.mem_cons.1 hjx with rfl | hjr
        · exact goX hji
        · rcases hF.tl j hjr with hb | hb | hb
          · exact goY (by rw [← hb]; exact hji)
          · exfalso
            have := bef_listed hbo hcl j.i (by rw [hji]; exact h3) _ hb
            rw [(hit x (List.mem_append_right _ List.mem_cons_self)).2.2.2] at this; cases this
          · exfalso
            have := bef_listed hbo hcl j.i (by rw [hji]; exact h3) _ hb
            rw [(hit2 y (List.mem_append_right _ List.mem_cons_self)).2.2.2] at this; cases this

/-- The region turned: what comes ahead, and the two ways. -/
def forkOk (es : List (List Nat)) (bef : List Nat) (n : Nat) (pre : List Item) (l1 l2 : List Item) : Bool :=
  match l1, l2 with
  | x :: r1, y :: r2 =>
    pairsOk es bef (pre ++ r1) && pairsOk es bef (pre ++ r2) &&
    (pre.all fun z => !(es.getD z.i []).contains x.i && z.i != x.i && ((bef.getD x.i 0).testBit z.i || pairOk z x)) &&
    (pre.all fun z => !(es.getD z.i []).contains y.i && z.i != y.i && ((bef.getD y.i 0).testBit z.i || pairOk z y)) &&
    (r1.all fun j => !(es.getD x.i []).contains j.i && j.i != x.i) && (r2.all fun j => j.i != y.i) && !(es.getD x.i []).contains x.i && !(es.getD y.i []).contains y.i &&
    (r1.all fun j => j.i == y.i || (bef.getD j.i 0).testBit x.i || (bef.getD j.i 0).testBit y.i) &&
    ((pre ++ x :: r1).length == n) && ((pre ++ y :: r2).length == n) &&
    ((List.range n).all fun i => (pre ++ x :: r1).any fun z => z.i == i) && ((List.range n).all fun i => (pre ++ y :: r2).any fun z => z.i == i)
  | _, _ => false

def compDF (P : Program) (n : Nat) (ops : Array Oper) (op o1 o2 : List (Nat × List Nat)) : Option (List Item × List Item × List Item) :=
  (compR P n ops).bind fun aos =>
    let es := edgesOf ops
    let bef := befs es
    let pre := mkItems aos op
    let l1 := mkItems aos o1
    let l2 := mkItems aos o2
    if befOk es bef && (es.all (fun l => l.all fun e => decide (e < ops.size)) && (es.length == ops.size && (bef.length == ops.size && forkOk es bef ops.size pre l1 l2))) then some (pre, l1, l2) else none

theorem AWp_fork {id : Nat} {pre l1 l2 : List Item} {op o1 o2 : List (Nat × List Nat)} {K : Env → Heap → Prop} {Q : Exit → Env → Heap → Prop} (hm : P.follows .mixedOrders = true) (hc : compDF P n ops op o1 o2 = some (pre, l1, l2)) (hKe : KExt K)
    (h : seqP G P pre [] σ H (forkK G P l1 l2 K)) (hK : ∀ σ H, K σ H → Q .normal σ H) :
    AWp G P n (.region id ops true) σ H Q := by
  intro B w0 m w a hsat hrel
  unfold compDF at hc
  cases hcr : compR P n ops with
  | none => rw [hcr] at hc; cases hc
  | some aos =>
    rw [hcr] at hc
    simp only [Option.bind_some] at hc
    split at hc
    · rename_i hck
      simp only [Option.some.injEq, Prod.mk.injEq] at hc
      obtain ⟨e1, e2, e3⟩ := hc
      simp only [Bool.and_eq_true, beq_iff_eq] at hck
      obtain ⟨c1, c0, c2, c3, c4⟩ := hck
      rw [e1, e2, e3] at c4
      simp only [List.all_eq_true, decide_eq_true_eq] at c0
      have hm0 : ∀ z ∈ pre, aos[z.i]? = some z.o := fun z hz => by rw [← e1] at hz; exact mkItems_mem _ z hz
      have hm1 : ∀ z ∈ l1, aos[z.i]? = some z.o := fun z hz => by rw [← e2] at hz; exact mkItems_mem _ z hz
      have hm2 : ∀ z ∈ l2, aos[z.i]? = some z.o := fun z hz => by rw [← e3] at hz; exact mkItems_mem _ z hz
      cases l1 with
      | nil => simp [forkOk] at c4
      | cons x r1 =>
        cases l2 with
        | nil => simp [forkOk] at c4
        | cons y r2 =>
          simp only [forkOk, Bool.and_eq_true, List.all_eq_true, Bool.not_eq_true', Bool.or_eq_true, bne_iff_ne, ne_eq, beq_iff_eq, List.any_eq_true, List.mem_range] at c4
          obtain ⟨⟨⟨⟨⟨⟨⟨⟨⟨⟨⟨⟨d1, d2⟩, d3⟩, d4⟩, d5⟩, d6⟩, d7⟩, d8⟩, d9⟩, d11⟩, d12⟩, d13⟩, d14⟩ := c4
          obtain ⟨p1, s1⟩ := pairsOk_spec d1
          obtain ⟨p2, s2⟩ := pairsOk_spec d2
          obtain ⟨hcl, hcs⟩ := compR_spec hcr
          have hlt : ∀ z : Item, aos[z.i]? = some z.o → z.i < ops.size := fun z hz => by have := (List.getElem?_eq_some_iff.1 hz).1; omega
          have hun : ∀ i, (Array.replicate ops.size false).getD i false = false := fun i => by rw [Array.getD_eq_getD_getElem?, Array.getElem?_replicate]; split <;> rfl
          have hF : Fork (edgesOf ops) (befs (edgesOf ops)) pre x y r1 r2 := by
            refine ⟨p1, p2, fun z hz => ?_, fun z hz => ?_, fun j hj => ?_, fun j hj => d6 j hj, fun j hj => ?_⟩
            · obtain ⟨⟨g1, g2⟩, g3⟩ := d3 z hz
              exact ⟨by simpa using g1, g2, g3⟩
            · obtain ⟨⟨g1, g2⟩, g3⟩ := d4 z hz
              exact ⟨by simpa using g1, g2, g3⟩
            · obtain ⟨g1, g2⟩ := d5 j hj
              exact ⟨by simpa using g1, g2⟩
            · rcases d9 j hj with (g | g) | g
              · exact .inl g
              · exact .inr (.inl g)
              · exact .inr (.inr g)
          refine wp_region_any hm ?_
          refine wpAny_fork hcs rfl c1 (fun i e he => ?_) hKe ops.size _ pre m _ a σ H (by simp) ?_ d11 d12 hF (fun z hz => ?_) (fun z hz => ?_) (fun i hi _ => ?_) (fun i hi _ => ?_) hsat.drew hrel h (fun m' w' a' σ' H' g1 g2 g3 g4 => ⟨m', σ', H', g1, g2, g3, hK _ _ g4⟩)
          · rw [List.getD_eq_getElem?_getD] at he
            cases hg : (edgesOf ops)[i]? with
            | none => rw [hg] at he; cases he
            | some l => rw [hg] at he; exact c0 l (List.mem_of_getElem? hg) e he
          · intro i hi
            rw [hun] at hi; cases hi
          · rcases List.mem_append.1 hz with hz | hz
            · exact ⟨s1 z (List.mem_append_left _ hz), hm0 z hz, hlt z (hm0 z hz), hun _⟩
            · have ho := hm1 z hz
              refine ⟨?_, ho, hlt z ho, hun _⟩
              rcases List.mem_cons.1 hz with rfl | hz
              · simpa using d7
              · exact s1 z (List.mem_append_right _ hz)
          · rcases List.mem_append.1 hz with hz | hz
            · exact ⟨s1 z (List.mem_append_left _ hz), hm0 z hz, hlt z (hm0 z hz), hun _⟩
            · have ho := hm2 z hz
              refine ⟨?_, ho, hlt z ho, hun _⟩
              rcases List.mem_cons.1 hz with rfl | hz
              · simpa using d8
              · exact s2 z (List.mem_append_right _ hz)
          · obtain ⟨z, hz, he⟩ := d13 i hi
            exact ⟨z, hz, he⟩
          · obtain ⟨z, hz, he⟩ := d14 i hi
            exact ⟨z, hz, he⟩
    · cases hc
end
end Go.AL
