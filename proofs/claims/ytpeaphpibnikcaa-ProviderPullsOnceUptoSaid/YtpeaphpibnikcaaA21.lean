/- The abstract layer, part 21: code and functions, to be computed with. -/
import Derived.Test.YtpeaphpibnikcaaA20
namespace Go.AL
open Go.RowKit

def runS (G : Nat → Option (List AV)) (P : Program) (T : Tbl) : List AOper → Env → Heap → (Env → Heap → Prop) → Prop
  | [], σ, H, K => K σ H
  | ⟨d, op, as, g⟩ :: l, σ, H, K => gate σ g (effS G P T op (as.map (opE G σ)) H fun v H' => runS G P T l (σ.put d v) H' K) (runS G P T l (σ.put d .undef) H K)

def runIS (G : Nat → Option (List AV)) (P : Program) (T : Tbl) : List Item → Env → Heap → (Env → Heap → Prop) → Prop
  | [], σ, H, K => K σ H
  | ⟨_, ⟨d, op, as, g⟩, _⟩ :: l, σ, H, K => gate σ g (effS G P T op (as.map (opE G σ)) H fun v H' => runIS G P T l (σ.put d v) H' K) (runIS G P T l (σ.put d .undef) H K)

/-- What was read would be read again. -/
def aoS (ob : List Nat) (H : Heap) : List Pend → Prop
  | [] => True
  | ⟨i, op, xs, v⟩ :: ps => (if ob.contains i = true then quietS op xs H fun v' => v' = v else True) ∧ aoS ob H ps
def oblS (ob : List Nat) (pend : List Pend) (H : Heap) (X : Prop) : Prop := if ob.isEmpty = true then X else aoS ob H pend ∧ X

def seqS (G : Nat → Option (List AV)) (P : Program) (T : Tbl) : List Item → List Pend → Env → Heap → (Env → Heap → Prop) → Prop
  | [], _, σ, H, K => K σ H
  | ⟨i, ⟨d, op, as, g⟩, ob⟩ :: l, pend, σ, H, K =>
    gate σ g
      (if op.quiet then quietS op (as.map (opE G σ)) H fun v => seqS G P T l (⟨i, op, as.map (opE G σ), v⟩ :: pend) (σ.put d v) H K
       else effS G P T op (as.map (opE G σ)) H fun v H' => oblS ob pend H' (seqS G P T l pend (σ.put d v) H' K))
      (seqS G P T l pend (σ.put d .undef) H K)

/-- As seqS, up to a place where it goes on with what was read. -/
def seqPS (G : Nat → Option (List AV)) (P : Program) (T : Tbl) : List Item → List Pend → Env → Heap → (List Pend → Env → Heap → Prop) → Prop
  | [], pend, σ, H, K => K pend σ H
  | ⟨i, ⟨d, op, as, g⟩, ob⟩ :: l, pend, σ, H, K =>
    gate σ g
      (if op.quiet then quietS op (as.map (opE G σ)) H fun v => seqPS G P T l (⟨i, op, as.map (opE G σ), v⟩ :: pend) (σ.put d v) H K
       else effS G P T op (as.map (opE G σ)) H fun v H' => oblS ob pend H' (seqPS G P T l pend (σ.put d v) H' K))
      (seqPS G P T l pend (σ.put d .undef) H K)

def noOb : List Item → Bool
  | [] => true
  | ⟨_, _, ob⟩ :: l => ob.isEmpty && noOb l

def condS (v : AV) (p q : Prop) : Prop := match v with
  | .bool t => if t = true then p else q
  | _ => False

def denS (G : Nat → Option (List AV)) (P : Program) (T : Tbl) : ACode → Env → Heap → (Exit → Env → Heap → Prop) → Prop
  | .skip, σ, H, Q => Q .normal σ H
  | .run ks l, σ, H, Q => runS G P T l σ H fun σ' H' => Q .normal (σ'.keep ks) H'
  | .runD ks l, σ, H, Q => if noOb l then runIS G P T l σ H fun σ' H' => Q .normal (σ'.keep ks) H' else seqS G P T l [] σ H fun σ' H' => Q .normal (σ'.keep ks) H'
  | .runF ks pre l1 l2, σ, H, Q => seqPS G P T pre [] σ H fun pd s h => seqS G P T l1 pd s h (fun σ' H' => Q .normal (σ'.keep ks) H') ∧ seqS G P T l2 pd s h (fun σ' H' => Q .normal (σ'.keep ks) H')
  | .seq a b, σ, H, Q => denS G P T a σ H (thenE (fun σ' H' => denS G P T b σ' H' Q) Q)
  | .cond c a b, σ, H, Q => condS (opE G σ c) (denS G P T a σ H Q) (denS G P T b σ H Q)
  | .block id b, σ, H, Q => denS G P T b σ H (blockE id Q)
  | .loop ks b, σ, H, Q => ∃ (I : Env → Heap → Prop) (μ : Env → Heap → Nat), (∃ H0, Hle H0 H ∧ I (σ.keep ks) H0) ∧
      ∀ σ1 H1, I σ1 H1 → denS G P T b σ1 H1 (thenE (fun σ2 H2 => ∃ H0, Hle H0 H2 ∧ I (σ2.keep ks) H0 ∧ μ (σ2.keep ks) H0 < μ σ1 H1) Q)
  | .exit id, σ, H, Q => Q (.exit id) σ H
  | .ret, σ, H, Q => Q .ret σ H

def resS (σ : Env) (H : Heap) (K : AV → Heap → Prop) : List ARes → List AV → Prop
  | [], acc => match acc with
    | [v] => K v H
    | vs => K (.tup vs.reverse) H
  | .slot t :: rs, acc => resS σ H K rs (σ.get t :: acc)
  | .cell t op :: rs, acc => quietS op [σ.get t] H fun v => resS σ H K rs (v :: acc)

def denFS (G : Nat → Option (List AV)) (P : Program) (T : Tbl) (F : AFun) (args : List AV) (H : Heap) (K : AV → Heap → Prop) : Prop :=
  match F with
  | ⟨n, _, rs, body⟩ => args.length ≤ n ∧ denS G P T body (params args) H (endE fun σ' H' => resS σ' H' K rs [])

/-- A table that says no more than the functions keep. -/
def TOk (G : Nat → Option (List AV)) (P : Program) (T : Tbl) : Prop := ∀ p ∈ T, ∀ xs H K, p.2 xs H K → ACalls G P p.1 xs H K

section
variable {G : Nat → Option (List AV)} {H H' : Heap} {P : Program} {T : Tbl}

theorem TOk.nil : TOk G P [] := fun _ h => by cases h
theorem TOk.cons {f : Nat} {c : List AV → Heap → (AV → Heap → Prop) → Prop} (h : ∀ xs H K, c xs H K → ACalls G P f xs H K) (hT : TOk G P T) : TOk G P ((f, c) :: T) := fun p hp => by
  rcases List.mem_cons.1 hp with rfl | hp
  · exact h
  · exact hT p hp

theorem callS_sound {f : Nat} {xs : List AV} {K : AV → Heap → Prop} : ∀ {T : Tbl}, TOk G P T → callS G P T f xs H K → ACalls G P f xs H K
  | [], _, h => h
  | (g, c) :: T, hT, h => by
    simp only [callS] at h
    split at h
    · rename_i e; subst e; exact hT _ List.mem_cons_self _ _ _ h
    · exact callS_sound (fun p hp => hT p (List.mem_cons_of_mem _ hp)) h

theorem effS_sound (hT : TOk G P T) {op : AOp} {xs : List AV} {K : AV → Heap → Prop} (h : effS G P T op xs H K) : eff G P op xs H K := by
  unfold effS at h
  split at h
  · exact callS_sound hT h
  · unfold eff
    split at h
    · exact callS_sound hT h
    · exact h.elim
  · rename_i h1 h2
    have he : (if op.quiet then ∃ v, Rd op xs H v ∧ K v H else ef op xs H K) → eff G P op xs H K := by
      intro h
      unfold eff
      split
      · exact (h1 _ rfl).elim
      · exact (h2 rfl).elim
      · exact h
    refine he ?_
    cases hq : op.quiet with
    | true => rw [hq] at h; rw [if_pos rfl] at h ⊢; exact quietS_sound h
    | false => rw [hq] at h; exact loudS_sound h

theorem runIS_eq {K : Env → Heap → Prop} : ∀ (l : List Item) (σ : Env) (H : Heap), runIS G P T l σ H K = runS G P T (l.map Item.o) σ H K
  | [], _, _ => rfl
  | ⟨_, ⟨d, op, as, g⟩, _⟩ :: l, σ, H => by
    simp only [runIS, List.map_cons, runS]
    rw [runIS_eq l]
    congr 2
    funext v H'
    rw [runIS_eq l]

theorem noOb_all : ∀ {l : List Item}, noOb l = true → l.all (fun x => x.ob.isEmpty) = true
  | [], _ => rfl
  | ⟨_, _, ob⟩ :: l, h => by
    simp only [noOb, Bool.and_eq_true] at h
    simp only [List.all_cons, Bool.and_eq_true]
    exact ⟨h.1, noOb_all h.2⟩

theorem runS_sound (hT : TOk G P T) {K : Env → Heap → Prop} : ∀ (l : List AOper) (σ : Env) (H : Heap), runS G P T l σ H K → runL G P l σ H K
  | [], _, _, h => h
  | ⟨d, op, as, g⟩ :: l, σ, H, h => by
    simp only [runS] at h
    simp only [runL, doOp]
    exact gate_mono (fun h => eff_mono (fun v H' h => runS_sound hT l _ _ h) (effS_sound hT h)) (runS_sound hT l _ _) h

theorem aoS_sound {ob : List Nat} : ∀ {pend : List Pend}, aoS ob H pend → ∀ p ∈ pend, p.i ∈ ob → Rd p.op p.xs H p.v
  | [], _, _, hp, _ => by cases hp
  | ⟨i, op, xs, v⟩ :: ps, h, p, hp, hi => by
    simp only [aoS] at h
    rcases List.mem_cons.1 hp with rfl | hp
    · rw [if_pos (by simpa using hi)] at h
      obtain ⟨v', h1, h2⟩ := quietS_sound h.1
      subst h2; exact h1
    · exact aoS_sound h.2 p hp hi
theorem oblS_sound {ob : List Nat} {pend : List Pend} {X : Prop} (h : oblS ob pend H X) : oblP ob pend H X := by
  unfold oblS at h; unfold oblP
  cases ob with
  | nil => exact h
  | cons a ob => exact ⟨aoS_sound h.1, h.2⟩

theorem seqS_sound (hT : TOk G P T) {K : Env → Heap → Prop} : ∀ (l : List Item) (pend : List Pend) (σ : Env) (H : Heap), seqS G P T l pend σ H K → seqD G P l pend σ H K
  | [], _, _, _, h => h
  | ⟨i, ⟨d, op, as, g⟩, ob⟩ :: l, pend, σ, H, h => by
    simp only [seqS] at h
    simp only [seqD]
    refine gate_mono (fun h => ?_) (seqS_sound hT l _ _ _) h
    cases hq : op.quiet with
    | true =>
      rw [hq] at h; rw [if_pos rfl] at h ⊢
      obtain ⟨v, h1, h2⟩ := quietS_sound h
      exact ⟨v, h1, seqS_sound hT l _ _ _ h2⟩
    | false =>
      rw [hq] at h
      exact eff_mono (fun v H' h => oblP_mono (fun _ h => h) (seqS_sound hT l _ _ _) (oblS_sound h)) (effS_sound hT h)

theorem seqPS_sound (hT : TOk G P T) {K K' : List Pend → Env → Heap → Prop} (hK : ∀ pd σ H, K pd σ H → K' pd σ H) : ∀ (l : List Item) (pend : List Pend) (σ : Env) (H : Heap), seqPS G P T l pend σ H K → seqP G P l pend σ H K'
  | [], _, _, _, h => hK _ _ _ h
  | ⟨i, ⟨d, op, as, g⟩, ob⟩ :: l, pend, σ, H, h => by
    simp only [seqPS] at h
    simp only [seqP]
    refine gate_mono (fun h => ?_) (seqPS_sound hT hK l _ _ _) h
    cases hq : op.quiet with
    | true =>
      rw [hq] at h; rw [if_pos rfl] at h ⊢
      obtain ⟨v, h1, h2⟩ := quietS_sound h
      exact ⟨v, h1, seqPS_sound hT hK l _ _ _ h2⟩
    | false =>
      rw [hq] at h
      exact eff_mono (fun v H' h => oblP_mono (fun _ h => h) (seqPS_sound hT hK l _ _ _) (oblS_sound h)) (effS_sound hT h)

theorem seqD_of_runL {K : Env → Heap → Prop} : ∀ (l : List Item) (pend : List Pend) (σ : Env) (H : Heap), l.all (fun x => x.ob.isEmpty) = true → runL G P (l.map Item.o) σ H K → seqD G P l pend σ H K
  | [], _, _, _, _, h => h
  | x :: l, pend, σ, H, hob, h => by
    simp only [List.all_cons, Bool.and_eq_true] at hob
    simp only [List.map_cons, runL, doOp] at h
    simp only [seqD]
    refine gate_mono (fun h => ?_) (seqD_of_runL l _ _ _ hob.2) h
    have hx : x.ob = [] := by simpa using hob.1
    cases hq : x.o.op.quiet with
    | true =>
      rw [if_pos rfl]
      unfold eff at h
      split at h
      · rename_i ho; rw [ho] at hq; cases hq
      · rename_i ho; rw [ho] at hq; cases hq
      · rw [hq, if_pos rfl] at h
        obtain ⟨v, h1, h2⟩ := h
        exact ⟨v, h1, seqD_of_runL l _ _ _ hob.2 h2⟩
    | false =>
      refine eff_mono (fun v H' h => ?_) h
      rw [hx]
      exact seqD_of_runL l _ _ _ hob.2 h

theorem denS_sound (hT : TOk G P T) : ∀ (c : ACode) (σ : Env) (H : Heap) (Q : Exit → Env → Heap → Prop), denS G P T c σ H Q → den G P c σ H Q
  | .skip, _, _, _, h => h
  | .run ks l, _, _, _, h => runS_sound hT l _ _ h
  | .runD ks l, σ, H, Q, h => by
    simp only [denS] at h
    split at h
    · rename_i hob; rw [runIS_eq] at h; exact seqD_of_runL l [] σ H (noOb_all hob) (runS_sound hT _ _ _ h)
    · exact seqS_sound hT l [] _ _ h
  | .runF ks pre l1 l2, σ, H, Q, h => seqPS_sound hT (fun pd s h' hh => ⟨seqS_sound hT l1 _ _ _ hh.1, seqS_sound hT l2 _ _ _ hh.2⟩) pre _ _ _ h
  | .seq a b, σ, H, Q, h => by
    simp only [denS] at h
    simp only [den]
    refine den_mono (fun e σ H h => ?_) (denS_sound hT a _ _ _ h)
    cases e <;> first | exact denS_sound hT b _ _ _ h | exact h
  | .cond c a b, σ, H, Q, h => by
    simp only [denS, condS] at h
    simp only [den]
    split at h
    · rename_i t ht
      rw [ht]
      cases t with
      | true => exact denS_sound hT a _ _ _ h
      | false => exact denS_sound hT b _ _ _ h
    · exact h.elim
  | .block id b, σ, H, Q, h => denS_sound hT b _ _ _ h
  | .loop ks b, σ, H, Q, h => by
    obtain ⟨I, μ, h0, h1⟩ := h
    exact ⟨I, μ, h0, fun σ1 H1 hI => denS_sound hT b _ _ _ (h1 σ1 H1 hI)⟩
  | .exit id, _, _, _, h => h
  | .ret, _, _, _, h => h

theorem resS_sound {σ : Env} {K : AV → Heap → Prop} : ∀ (rs : List ARes) (acc : List AV), resS σ H K rs acc → resP σ H K rs acc
  | [], _, h => h
  | .slot t :: rs, acc, h => ⟨_, rfl, resS_sound rs _ h⟩
  | .cell t op :: rs, acc, h => by
    obtain ⟨v, h1, h2⟩ := quietS_sound h
    exact ⟨v, h1, resS_sound rs _ h2⟩

theorem denFS_sound (hm : P.follows .mixedOrders = true) (hT : TOk G P T) {f : Nat} {F : AFun} {hints : List Hint} (hF : compF P f hints = some F) {args : List AV} {K : AV → Heap → Prop} (h : denFS G P T F args H K) : ACalls G P f args H K := by
  refine denF_sound hm hF ⟨h.1, den_mono (fun e σ H h => ?_) (denS_sound hT _ _ _ _ h.2)⟩
  cases e <;> first | exact resS_sound _ _ h | exact h

end

/- How the computing goes: the code and what comes behind are left alone until they are reached. -/
section
variable {G : Nat → Option (List AV)} {P : Program} {T : Tbl}
@[congr] theorem denS_congr {c : ACode} {σ σ' : Env} {H H' : Heap} {Q : Exit → Env → Heap → Prop} (h1 : σ = σ') (h2 : H = H') : denS G P T c σ H Q = denS G P T c σ' H' Q := by rw [h1, h2]
@[congr] theorem runS_congr {l : List AOper} {σ σ' : Env} {H H' : Heap} {K : Env → Heap → Prop} (h1 : σ = σ') (h2 : H = H') : runS G P T l σ H K = runS G P T l σ' H' K := by rw [h1, h2]
@[congr] theorem seqS_congr {l : List Item} {pend : List Pend} {σ σ' : Env} {H H' : Heap} {K : Env → Heap → Prop} (h1 : σ = σ') (h2 : H = H') : seqS G P T l pend σ H K = seqS G P T l pend σ' H' K := by rw [h1, h2]
@[congr] theorem gate_congr {σ : Env} {g g' : Option (Nat × Bool)} {p q : Prop} (h : g = g') : gate σ g p q = gate σ g' p q := by rw [h]
@[congr] theorem condS_congr {v v' : AV} {p q : Prop} (h : v = v') : condS v p q = condS v' p q := by rw [h]
@[congr] theorem effS_congr {op : AOp} {xs xs' : List AV} {H H' : Heap} {K : AV → Heap → Prop} (h1 : xs = xs') (h2 : H = H') : effS G P T op xs H K = effS G P T op xs' H' K := by rw [h1, h2]
@[congr] theorem quietS_congr {op : AOp} {xs xs' : List AV} {H H' : Heap} {K : AV → Prop} (h1 : xs = xs') (h2 : H = H') : quietS op xs H K = quietS op xs' H' K := by rw [h1, h2]
@[congr] theorem runIS_congr {l : List Item} {σ σ' : Env} {H H' : Heap} {K : Env → Heap → Prop} (h1 : σ = σ') (h2 : H = H') : runIS G P T l σ H K = runIS G P T l σ' H' K := by rw [h1, h2]
@[congr] theorem denFS_congr {F : AFun} {xs xs' : List AV} {H H' : Heap} {K : AV → Heap → Prop} (h1 : xs = xs') (h2 : H = H') : denFS G P T F xs H K = denFS G P T F xs' H' K := by rw [h1, h2]
@[congr] theorem loudS_congr {op : AOp} {xs xs' : List AV} {H H' : Heap} {K : AV → Heap → Prop} (h1 : xs = xs') (h2 : H = H') : loudS op xs H K = loudS op xs' H' K := by rw [h1, h2]
@[congr] theorem callS_congr {f : Nat} {xs xs' : List AV} {H H' : Heap} {K : AV → Heap → Prop} (h1 : xs = xs') (h2 : H = H') : callS G P T f xs H K = callS G P T f xs' H' K := by rw [h1, h2]
@[congr] theorem optS_congr {o o' : Option AV} {K : AV → Prop} (h : o = o') : optS o K = optS o' K := by rw [h]
@[congr] theorem srcS_congr {sz : Nat} {x x' : AV} {H H' : Heap} {K : List AV → Prop} (h1 : x = x') (h2 : H = H') : srcS sz x H K = srcS sz x' H' K := by rw [h1, h2]
@[congr] theorem thenE_congr {next : Env → Heap → Prop} {Q : Exit → Env → Heap → Prop} {e e' : Exit} {σ σ' : Env} {H H' : Heap} (h0 : e = e') (h1 : σ = σ') (h2 : H = H') : thenE next Q e σ H = thenE next Q e' σ' H' := by rw [h0, h1, h2]
@[congr] theorem blockE_congr {id : Nat} {Q : Exit → Env → Heap → Prop} {e e' : Exit} {σ σ' : Env} {H H' : Heap} (h0 : e = e') (h1 : σ = σ') (h2 : H = H') : blockE id Q e σ H = blockE id Q e' σ' H' := by rw [h0, h1, h2]
@[congr] theorem endE_congr {K : Env → Heap → Prop} {e e' : Exit} {σ σ' : Env} {H H' : Heap} (h0 : e = e') (h1 : σ = σ') (h2 : H = H') : endE K e σ H = endE K e' σ' H' := by rw [h0, h1, h2]
@[congr] theorem resS_congr {σ : Env} {H H' : Heap} {K : AV → Heap → Prop} {rs : List ARes} {acc acc' : List AV} (h1 : H = H') (h2 : acc = acc') : resS σ H K rs acc = resS σ H' K rs acc' := by rw [h1, h2]
@[congr] theorem ACalls_congr {f : Nat} {xs xs' : List AV} {H H' : Heap} {K : AV → Heap → Prop} (h1 : xs = xs') (h2 : H = H') : ACalls G P f xs H K = ACalls G P f xs' H' K := by rw [h1, h2]

theorem optS_some_eq (v : AV) (K : AV → Prop) : optS (some v) K = K v := rfl
theorem optS_none_eq (K : AV → Prop) : optS none K = False := rfl
theorem optS_ite (c : Prop) [Decidable c] (v : AV) (K : AV → Prop) : optS (if c then some v else none) K = (c ∧ K v) := by by_cases h : c <;> simp [optS, h]
theorem optS_ite' (c : Prop) [Decidable c] (v : AV) (K : AV → Prop) : optS (if c then none else some v) K = (¬ c ∧ K v) := by by_cases h : c <;> simp [optS, h]
theorem optS_map {α : Type} (o : Option α) (f : α → AV) (K : AV → Prop) : optS (o.map f) K = ∃ a, o = some a ∧ K (f a) := by cases o <;> simp [optS]
end
end Go.AL
