/- The abstract layer, text B3: its parts 18, 19, 20, 21, 22, 23, 24, 25, 26, 27, 28, 29, 30, 31. -/
import Derived.Test.YthphaolkihageaaB2
import Derived.Scope
import Derived.Laws.Sem
import Derived.ChangeReads
import Derived.ChangeSame
import Derived.ChangeOld
import Derived.JoinedCond
import Derived.ChangeArms
import Derived.DataReads
import Derived.OpenShut
set_option linter.unusedVariables false
set_option linter.unusedSimpArgs false
/- The abstract layer, part 18: code turned; what it does, as one proposition; functions. -/
namespace Go.AL
open Go.RowKit

/-- Code, abstractly. With each stretch of operations and each loop: the slots that are wanted behind it. -/
inductive ACode where
  | skip
  | run (ks : List Nat) (l : List AOper)
  | runD (ks : List Nat) (l : List Item)
  | runF (ks : List Nat) (pre l1 l2 : List Item)
  | runT (ks : List Nat) (p : Plan)
  | seq (a b : ACode)
  | cond (c : Operand) (a b : ACode)
  | block (id : Nat) (b : ACode)
  | loop (ks : List Nat) (b : ACode)
  | exit (id : Nat)
  | ret
  | stuck

/-- What is told of code ahead: the slots wanted behind a stretch; the order of a region. -/
inductive Hint where
  | ks (l : List Nat)
  | ord (l : List (Nat × List Nat))
  | frk (a b c : List (Nat × List Nat))
  | tre (p : HPlan)

def compC (P : Program) (n : Nat) : Code → List Hint → Option (ACode × List Hint)
  | .skip, hs => some (.skip, hs)
  | .region _ ops false, .ks k :: hs => (compR P n ops).map fun l => (.run k l, hs)
  | .region _ ops true, .ks k :: .ord o :: hs => (compD P n ops o).map fun l => (.runD k l, hs)
  | .region _ ops true, .ks k :: .frk a b c :: hs => (compDF P n ops a b c).map fun l => (.runF k l.1 l.2.1 l.2.2, hs)
  | .region _ ops true, .ks k :: .tre p :: hs => (compDT P n ops p).map fun l => (.runT k l, hs)
  | .seq a b, hs => (compC P n a hs).bind fun x => (compC P n b x.2).map fun y => (.seq x.1 y.1, y.2)
  | .cond c a b, hs => (compC P n a hs).bind fun x => (compC P n b x.2).map fun y => (.cond c x.1 y.1, y.2)
  | .block id b, hs => (compC P n b hs).map fun x => (.block id x.1, x.2)
  | .loop b, .ks k :: hs => (compC P n b hs).map fun x => (.loop k x.1, x.2)
  | .exit id, hs => some (.exit id, hs)
  | .ret, hs => some (.ret, hs)
  | .scope b, hs => compC P n b hs
  | .label _, hs => some (.skip, hs)
  | _, hs => some (.stuck, hs)

/-- What has to be told for a piece of code to come out. -/
def ACode.hints : ACode → List Hint
  | .run k _ => [.ks k]
  | .runD k l => [.ks k, .ord (l.map fun x => (x.i, x.ob))]
  | .runF k p l1 l2 => [.ks k, .frk (p.map fun x => (x.i, x.ob)) (l1.map fun x => (x.i, x.ob)) (l2.map fun x => (x.i, x.ob))]
  | .runT k p => [.ks k, .tre p.tell]
  | .seq a b => a.hints ++ b.hints
  | .cond _ a b => a.hints ++ b.hints
  | .block _ b => b.hints
  | .loop k b => .ks k :: b.hints
  | _ => []

def thenE (next : Env → Heap → Prop) (Q : Exit → Env → Heap → Prop) : Exit → Env → Heap → Prop
  | .normal, σ, H => next σ H
  | e, σ, H => Q e σ H

def blockE (id : Nat) (Q : Exit → Env → Heap → Prop) : Exit → Env → Heap → Prop
  | .exit id', σ, H => if id' = id then Q .normal σ H else Q (.exit id') σ H
  | e, σ, H => Q e σ H

def den (G : Nat → Option (List AV)) (P : Program) : ACode → Env → Heap → (Exit → Env → Heap → Prop) → Prop
  | .skip, σ, H, Q => Q .normal σ H
  | .run ks l, σ, H, Q => runL G P l σ H fun σ' H' => Q .normal (σ'.keep ks) H'
  | .runD ks l, σ, H, Q => seqD G P l [] σ H fun σ' H' => Q .normal (σ'.keep ks) H'
  | .runF ks pre l1 l2, σ, H, Q => seqP G P pre [] σ H (forkK G P l1 l2 fun σ' H' => Q .normal (σ'.keep ks) H')
  | .runT ks p, σ, H, Q => planD G P p (fun σ' H' => Q .normal (σ'.keep ks) H') [] σ H
  | .seq a b, σ, H, Q => den G P a σ H (thenE (fun σ' H' => den G P b σ' H' Q) Q)
  | .cond c a b, σ, H, Q => match opE G σ c with
    | .bool t => if t then den G P a σ H Q else den G P b σ H Q
    | _ => False
  | .block id b, σ, H, Q => den G P b σ H (blockE id Q)
  | .loop ks b, σ, H, Q => ∃ (I : Env → Heap → Prop) (μ : Env → Heap → Nat), (∃ H0, Hle H0 H ∧ I (σ.keep ks) H0) ∧
      ∀ σ1 H1, I σ1 H1 → den G P b σ1 H1 (thenE (fun σ2 H2 => ∃ H0, Hle H0 H2 ∧ I (σ2.keep ks) H0 ∧ μ (σ2.keep ks) H0 < μ σ1 H1) Q)
  | .exit id, σ, H, Q => Q (.exit id) σ H
  | .ret, σ, H, Q => Q .ret σ H
  | .stuck, _, _, _ => False

section
variable {G : Nat → Option (List AV)} {B : Nat} {w0 w w' : World} {m m' : Im} {H H' : Heap} {P : Program} {n : Nat} {σ : Env} {a : Act} {ops : Array Oper}

theorem runL_mono {K K' : Env → Heap → Prop} (hK : ∀ σ H, K σ H → K' σ H) : ∀ (l : List AOper) (σ : Env) (H : Heap), runL G P l σ H K → runL G P l σ H K'
  | [], _, _, h => hK _ _ h
  | o :: l, σ, H, h => by
    simp only [runL, doOp] at h ⊢
    exact gate_mono (eff_mono fun v H' h => runL_mono hK l _ _ h) (runL_mono hK l _ _) h

theorem seqD_mono {K K' : Env → Heap → Prop} (hK : ∀ σ H, K σ H → K' σ H) : ∀ (l : List Item) (pend : List Pend) (σ : Env) (H : Heap), seqD G P l pend σ H K → seqD G P l pend σ H K'
  | [], _, _, _, h => hK _ _ h
  | x :: l, pend, σ, H, h => by
    simp only [seqD] at h ⊢
    refine gate_mono (fun h => ?_) (seqD_mono hK l _ _ _) h
    cases hq : x.o.op.quiet with
    | true => rw [hq] at h; obtain ⟨v, h1, h2⟩ := h; exact ⟨v, h1, seqD_mono hK l _ _ _ h2⟩
    | false => rw [hq] at h; exact eff_mono (fun v H' h => oblP_mono (fun _ h => h) (seqD_mono hK l _ _ _) h) h

theorem den_mono : ∀ {c : ACode} {σ : Env} {H : Heap} {Q Q' : Exit → Env → Heap → Prop}, (∀ e σ H, Q e σ H → Q' e σ H) → den G P c σ H Q → den G P c σ H Q'
  | .skip, _, _, _, _, hq, h => hq _ _ _ h
  | .run ks l, _, _, _, _, hq, h => runL_mono (fun _ _ h => hq _ _ _ h) l _ _ h
  | .runD ks l, _, _, _, _, hq, h => seqD_mono (fun _ _ h => hq _ _ _ h) l _ _ _ h
  | .runF ks pre l1 l2, _, _, _, _, hq, h => seqP_mono (fun _ _ _ h => ⟨seqD_mono (fun _ _ h => hq _ _ _ h) l1 _ _ _ h.1, seqD_mono (fun _ _ h => hq _ _ _ h) l2 _ _ _ h.2⟩) pre _ _ _ h
  | .runT ks p, _, _, _, _, hq, h => planD_mono (fun l _ _ _ h => seqD_mono (fun _ _ h => hq _ _ _ h) l _ _ _ h) p _ _ _ h
  | .seq a b, _, _, _, _, hq, h => by
    simp only [den] at h ⊢
    refine den_mono (fun e σ H h => ?_) h
    cases e <;> first | exact den_mono hq h | exact hq _ _ _ h
  | .cond c a b, σ, _, _, _, hq, h => by
    simp only [den] at h ⊢
    split at h
    · rename_i t _
      cases t with
      | true => rw [if_pos rfl] at h ⊢; exact den_mono hq h
      | false => exact den_mono (c := b) hq h
    · exact h
  | .block id b, _, _, _, _, hq, h => by
    simp only [den] at h ⊢
    refine den_mono (fun e σ H h => ?_) h
    cases e with
    | exit i =>
      simp only [blockE] at h ⊢
      split at h
      · rename_i hi; rw [if_pos hi]; exact hq _ _ _ h
      · rename_i hi; rw [if_neg hi]; exact hq _ _ _ h
    | _ => exact hq _ _ _ h
  | .loop ks b, _, _, _, _, hq, h => by
    simp only [den] at h ⊢
    obtain ⟨I, μ, h0, h1⟩ := h
    refine ⟨I, μ, h0, fun σ1 H1 hI => den_mono (fun e σ H h => ?_) (h1 σ1 H1 hI)⟩
    cases e <;> first | exact h | exact hq _ _ _ h
  | .exit id, _, _, _, _, hq, h => hq _ _ _ h
  | .ret, _, _, _, _, hq, h => hq _ _ _ h
  | .stuck, _, _, _, _, _, h => h.elim

/-- Code never jumps to a label: a jump is stuck. -/
theorem den_nogo : ∀ {c : ACode} {σ : Env} {H : Heap} {Q : Exit → Env → Heap → Prop}, den G P c σ H Q → den G P c σ H (fun e σ H => (∀ l, e ≠ .goto l) ∧ Q e σ H)
  | .skip, _, _, _, h => ⟨nofun, h⟩
  | .run ks l, _, _, _, h => runL_mono (fun _ _ h => ⟨nofun, h⟩) l _ _ h
  | .runD ks l, _, _, _, h => seqD_mono (fun _ _ h => ⟨nofun, h⟩) l _ _ _ h
  | .runF ks pre l1 l2, _, _, _, h => seqP_mono (fun _ _ _ h => ⟨seqD_mono (fun _ _ h => ⟨nofun, h⟩) l1 _ _ _ h.1, seqD_mono (fun _ _ h => ⟨nofun, h⟩) l2 _ _ _ h.2⟩) pre _ _ _ h
  | .runT ks p, _, _, _, h => planD_mono (fun l _ _ _ h => seqD_mono (fun _ _ h => ⟨nofun, h⟩) l _ _ _ h) p _ _ _ h
  | .seq a b, _, _, _, h => by
    simp only [den] at h ⊢
    refine den_mono (fun e σ H h => ?_) (den_nogo (c := a) h)
    obtain ⟨h1, h2⟩ := h
    cases e <;> first | exact den_nogo (c := b) h2 | exact ⟨h1, h2⟩
  | .cond c a b, σ, _, _, h => by
    simp only [den] at h ⊢
    split at h
    · rename_i t _
      cases t with
      | true => exact den_nogo (c := a) h
      | false => exact den_nogo (c := b) h
    · exact h
  | .block id b, _, _, _, h => by
    simp only [den] at h ⊢
    refine den_mono (fun e σ H h => ?_) (den_nogo (c := b) h)
    obtain ⟨h1, h2⟩ := h
    cases e with
    | exit i =>
      simp only [blockE] at h2 ⊢
      split at h2
      · rename_i hi; rw [if_pos hi]; exact ⟨nofun, h2⟩
      · rename_i hi; rw [if_neg hi]; exact ⟨nofun, h2⟩
    | _ => exact ⟨h1, h2⟩
  | .loop ks b, _, _, _, h => by
    simp only [den] at h ⊢
    obtain ⟨I, μ, h0, h1⟩ := h
    refine ⟨I, μ, h0, fun σ1 H1 hI => den_mono (fun e σ H h => ?_) (den_nogo (c := b) (h1 σ1 H1 hI))⟩
    obtain ⟨h2, h3⟩ := h
    cases e <;> first | exact h3 | exact ⟨h2, h3⟩
  | .exit id, _, _, _, h => ⟨nofun, h⟩
  | .ret, _, _, _, h => ⟨nofun, h⟩
  | .stuck, _, _, _, h => h.elim
theorem AWp_mono {c : Code} {Q Q' : Exit → Env → Heap → Prop} (hq : ∀ e σ H, Q e σ H → Q' e σ H) (h : AWp G P n c σ H Q) : AWp G P n c σ H Q' :=
  fun B w0 m w a h1 h2 => wp_mono (h B w0 m w a h1 h2) fun _ _ _ ⟨m', σ', H', g1, g2, g3, g4⟩ => ⟨m', σ', H', g1, g2, g3, hq _ _ _ g4⟩

theorem AWp_seq {x y : Code} {Q : Exit → Env → Heap → Prop} (h : AWp G P n x σ H (thenE (fun σ' H' => AWp G P n y σ' H' Q) Q)) : AWp G P n (.seq x y) σ H Q := by
  intro B w0 m w a h1 h2
  refine wp_seq (wp_mono (h B w0 m w a h1 h2) ?_)
  rintro e a' w' ⟨m', σ', H', g1, g2, g3, g4⟩
  cases e with
  | normal => exact wp_mono (g4 B w0 m' w' a' g2 g3) fun _ _ _ ⟨m2, σ2, H2, q1, q2, q3, q4⟩ => ⟨m2, σ2, H2, g1.trans q1, q2, q3, q4⟩
  | _ => exact ⟨m', σ', H', g1, g2, g3, g4⟩

theorem AWp_cond {c : Operand} {x y : Code} {Q : Exit → Env → Heap → Prop} {t : Bool} (hc : opE G σ c = .bool t) (h : AWp G P n (if t then x else y) σ H Q) : AWp G P n (.cond c x y) σ H Q := by
  intro B w0 m w a h1 h2
  have hr := h2.opE h1 c
  rw [hc] at hr
  generalize hcv : a.eval c = cv at hr
  cases hr
  exact wp_cond hcv (h B w0 m w a h1 h2)

theorem AWp_block {id : Nat} {x : Code} {Q : Exit → Env → Heap → Prop} (h : AWp G P n x σ H (blockE id Q)) : AWp G P n (.block id x) σ H Q := by
  intro B w0 m w a h1 h2
  refine wp_block (wp_mono (h B w0 m w a h1 h2) ?_)
  rintro e a' w' ⟨m', σ', H', g1, g2, g3, g4⟩
  cases e with
  | exit i =>
    simp only [blockE] at g4
    simp only [Exit.inBlock]
    split at g4
    · rename_i hi; rw [if_pos hi]; exact ⟨m', σ', H', g1, g2, g3, g4⟩
    · rename_i hi; rw [if_neg hi]; exact ⟨m', σ', H', g1, g2, g3, g4⟩
  | _ => exact ⟨m', σ', H', g1, g2, g3, g4⟩

theorem AWp_keep {c : Code} {ks : List Nat} {Q : Exit → Env → Heap → Prop} (h : AWp G P n c (σ.keep ks) H Q) : AWp G P n c σ H Q :=
  fun B w0 m w a h1 h2 => h B w0 m w a h1 (h2.keep ks)

theorem Env.keep_same {σ σ' : Env} (h : σ.same σ') (ks : List Nat) : σ.keep ks = σ'.keep ks := List.map_congr_left fun t _ => by rw [h t]

theorem AWp_loop {x : Code} {ks : List Nat} {Q : Exit → Env → Heap → Prop} (I : Env → Heap → Prop) (μ : Env → Heap → Nat) (h0 : ∃ H0, Hle H0 H ∧ I (σ.keep ks) H0)
    (h : ∀ σ1 H1, I σ1 H1 → AWp G P n x σ1 H1 (thenE (fun σ2 H2 => ∃ H0, Hle H0 H2 ∧ I (σ2.keep ks) H0 ∧ μ (σ2.keep ks) H0 < μ σ1 H1) Q)) : AWp G P n (.loop x) σ H Q := by
  intro B w0 m w a h1 h2
  have key : ∀ (k : Nat) (σ1 : Env) (H1 : Heap) (m1 : Im) (w1 : World) (a1 : Act), I σ1 H1 → μ σ1 H1 ≤ k → m.le m1 → Sat G B w0 m1 H1 w1 → RelT m1 n σ1 a1 → ∀ (b : Frame) (it : List Go.Item) (cs : List Frame),
      ∃ e a' w', Post G B w0 m n Q e a' w' ∧ Arrives P (lone (b.at a1 (.code x :: .inLoop x :: it)) cs w1) b it cs e a' w' := by
    intro k
    induction k with
    | zero =>
      intro σ1 H1 m1 w1 a1 hI hk hm hs hr b it cs
      obtain ⟨e, a', w', hq, harr⟩ := h σ1 H1 hI B w0 m1 w1 a1 hs hr b (.inLoop x :: it) cs
      obtain ⟨m', σ', H', g1, g2, g3, g4⟩ := hq
      cases e with
      | normal => obtain ⟨H0, _, _, q3⟩ := g4; exact absurd (Nat.lt_of_lt_of_le q3 hk) (Nat.not_lt_zero _)
      | exit id => exact ⟨_, a', w', ⟨m', σ', H', hm.trans g1, g2, g3, g4⟩, .pass (x := .inLoop x) rfl (fun _ _ => .inl (by simp)) harr⟩
      | goto l => exact ⟨_, a', w', ⟨m', σ', H', hm.trans g1, g2, g3, g4⟩, .pass (x := .inLoop x) rfl (fun _ _ => .inl (by simp)) harr⟩
      | ret => exact ⟨_, a', w', ⟨m', σ', H', hm.trans g1, g2, g3, g4⟩, .pass (x := .inLoop x) rfl (fun _ _ => .inl (by simp)) harr⟩
      | panic ch => exact ⟨_, a', w', ⟨m', σ', H', hm.trans g1, g2, g3, g4⟩, .pass (x := .inLoop x) rfl (fun _ _ => .inl (by simp)) harr⟩
      | outgrown => exact ⟨_, a', w', ⟨m', σ', H', hm.trans g1, g2, g3, g4⟩, .pass (x := .inLoop x) rfl (fun _ _ => .inl (by simp)) harr⟩
    | succ k ih =>
      intro σ1 H1 m1 w1 a1 hI hk hm hs hr b it cs
      obtain ⟨e, a', w', hq, harr⟩ := h σ1 H1 hI B w0 m1 w1 a1 hs hr b (.inLoop x :: it) cs
      obtain ⟨m', σ', H', g1, g2, g3, g4⟩ := hq
      cases e with
      | normal =>
        obtain ⟨H0, q1, q2, q3⟩ := g4
        obtain ⟨e2, a2, w2, hq2, harr2⟩ := ih (σ'.keep ks) H0 m' w' a' q2 (by omega) (hm.trans g1) (g2.weak q1) (g3.keep ks) b it cs
        exact ⟨e2, a2, w2, hq2, .of_steps (Steps.trans harr (.one step_inLoop)) harr2⟩
      | exit id => exact ⟨_, a', w', ⟨m', σ', H', hm.trans g1, g2, g3, g4⟩, .pass (x := .inLoop x) rfl (fun _ _ => .inl (by simp)) harr⟩
      | goto l => exact ⟨_, a', w', ⟨m', σ', H', hm.trans g1, g2, g3, g4⟩, .pass (x := .inLoop x) rfl (fun _ _ => .inl (by simp)) harr⟩
      | ret => exact ⟨_, a', w', ⟨m', σ', H', hm.trans g1, g2, g3, g4⟩, .pass (x := .inLoop x) rfl (fun _ _ => .inl (by simp)) harr⟩
      | panic ch => exact ⟨_, a', w', ⟨m', σ', H', hm.trans g1, g2, g3, g4⟩, .pass (x := .inLoop x) rfl (fun _ _ => .inl (by simp)) harr⟩
      | outgrown => exact ⟨_, a', w', ⟨m', σ', H', hm.trans g1, g2, g3, g4⟩, .pass (x := .inLoop x) rfl (fun _ _ => .inl (by simp)) harr⟩
  intro b it cs
  obtain ⟨H0, q1, q2⟩ := h0
  obtain ⟨e, a', w', hq, harr⟩ := key (μ (σ.keep ks) H0) (σ.keep ks) H0 m w a q2 (Nat.le_refl _) (.refl m) (h1.weak q1) (h2.keep ks) b it cs
  exact ⟨e, a', w', hq, .of_steps (.one step_loop) harr⟩

theorem AWp_keepPost {c : Code} {ks : List Nat} {Q : Exit → Env → Heap → Prop} (h : AWp G P n c σ H (thenE (fun σ H => Q .normal (σ.keep ks) H) fun _ _ _ => False)) : AWp G P n c σ H Q := by
  intro B w0 m w a h1 h2
  refine wp_mono (h B w0 m w a h1 h2) ?_
  rintro e a' w' ⟨m', σ', H', g1, g2, g3, g4⟩
  cases e with
  | normal => exact ⟨m', _, H', g1, g2, g3.keep ks, g4⟩
  | _ => exact g4.elim

theorem den_sound (hm : P.follows .mixedOrders = true) : ∀ (c : Code) (hs : List Hint) (ac : ACode) (hs' : List Hint), compC P n c hs = some (ac, hs') →
    ∀ (σ : Env) (H : Heap) (Q : Exit → Env → Heap → Prop), den G P ac σ H Q → AWp G P n c σ H Q := by
  intro c
  induction c with
  | skip => intro hs ac hs' hc σ H Q h; cases hc; exact fun B w0 m w a h1 h2 => wp_skip ⟨m, σ, H, .refl m, h1, h2, h⟩
  | region id ops draw =>
    intro hs ac hs' hc σ H Q h
    cases draw with
    | false =>
      match hs, hc with
      | .ks k :: hs, hc =>
        simp only [compC, Option.map_eq_some_iff, Prod.mk.injEq] at hc
        obtain ⟨l, hl, rfl, rfl⟩ := hc
        exact AWp_keepPost (ks := k) (AWp_region hl h fun σ' H' h => h)
      | [], hc => cases hc; exact h.elim
      | .ord _ :: _, hc => cases hc; exact h.elim
      | .frk _ _ _ :: _, hc => cases hc; exact h.elim
      | .tre _ :: _, hc => cases hc; exact h.elim
    | true =>
      match hs, hc with
      | .ks k :: .ord o :: hs, hc =>
        simp only [compC, Option.map_eq_some_iff, Prod.mk.injEq] at hc
        obtain ⟨l, hl, rfl, rfl⟩ := hc
        exact AWp_keepPost (ks := k) (AWp_draw hm hl (fun σ σ' H hs h => by rw [← Env.keep_same hs]; exact h) h fun σ' H' h => h)
      | .ks k :: .frk a b c :: hs, hc =>
        simp only [compC, Option.map_eq_some_iff, Prod.mk.injEq] at hc
        obtain ⟨⟨p1, p2, p3⟩, hl, rfl, rfl⟩ := hc
        exact AWp_keepPost (ks := k) (AWp_fork hm hl (fun σ σ' H hs h => by rw [← Env.keep_same hs]; exact h) h fun σ' H' h => h)
      | .ks k :: .tre p :: hs, hc =>
        simp only [compC, Option.map_eq_some_iff, Prod.mk.injEq] at hc
        obtain ⟨l, hl, rfl, rfl⟩ := hc
        exact AWp_keepPost (ks := k) (AWp_plan hm hl (fun σ σ' H hs h => by rw [← Env.keep_same hs]; exact h) h fun σ' H' h => h)
      | [], hc => cases hc; exact h.elim
      | [.ks _], hc => cases hc; exact h.elim
      | .ks _ :: .ks _ :: _, hc => cases hc; exact h.elim
      | .ord _ :: _, hc => cases hc; exact h.elim
      | .frk _ _ _ :: _, hc => cases hc; exact h.elim
      | .tre _ :: _, hc => cases hc; exact h.elim
  | seq x y ihx ihy =>
    intro hs ac hs' hc σ H Q h
    simp only [compC, Option.map_eq_some_iff, Option.bind_eq_some_iff, Prod.mk.injEq] at hc
    obtain ⟨⟨x', h1⟩, hx, ⟨y', h2⟩, hy, rfl, rfl⟩ := hc
    refine AWp_seq (AWp_mono (fun e σ H h => ?_) (ihx _ _ _ hx σ H _ h))
    cases e <;> first | exact ihy _ _ _ hy _ _ _ h | exact h
  | cond c x y ihx ihy =>
    intro hs ac hs' hc σ H Q h
    simp only [compC, Option.map_eq_some_iff, Option.bind_eq_some_iff, Prod.mk.injEq] at hc
    obtain ⟨⟨x', h1⟩, hx, ⟨y', h2⟩, hy, rfl, rfl⟩ := hc
    simp only [den] at h
    split at h
    · rename_i t ht
      refine AWp_cond ht ?_
      cases t with
      | true => exact ihx _ _ _ hx _ _ _ h
      | false => exact ihy _ _ _ hy _ _ _ h
    · exact h.elim
  | block id b ih =>
    intro hs ac hs' hc σ H Q h
    simp only [compC, Option.map_eq_some_iff, Prod.mk.injEq] at hc
    obtain ⟨⟨b', h1⟩, hb, rfl, rfl⟩ := hc
    exact AWp_block (ih _ _ _ hb _ _ _ h)
  | loop b ih =>
    intro hs ac hs' hc σ H Q h
    match hs, hc with
    | .ks k :: hs, hc =>
      simp only [compC, Option.map_eq_some_iff, Prod.mk.injEq] at hc
      obtain ⟨⟨z, h1⟩, hz, rfl, rfl⟩ := hc
      obtain ⟨I, μ, h0, h1⟩ := h
      exact AWp_loop I μ h0 fun σ1 H1 hI => ih _ _ _ hz _ _ _ (h1 σ1 H1 hI)
    | [], hc => cases hc; exact h.elim
    | .ord _ :: _, hc => cases hc; exact h.elim
    | .frk _ _ _ :: _, hc => cases hc; exact h.elim
    | .tre _ :: _, hc => cases hc; exact h.elim
  | scope b ih =>
    intro hs ac hs' hc σ H Q h B w0 m w a h1 h2
    refine wp_scope_straight (wp_mono (ih _ _ _ hc _ _ _ (den_nogo h) B w0 m w a h1 h2) ?_)
    rintro e a' w' ⟨m', σ', H', g1, g2, g3, g4, g5⟩
    cases e <;> first | exact ⟨m', σ', H', g1, g2, g3, g5⟩ | exact absurd rfl (g4 _)
  | label l => intro hs ac hs' hc σ H Q h; cases hc; exact fun B w0 m w a h1 h2 => wp_label ⟨m, σ, H, .refl m, h1, h2, h⟩
  | exit id => intro hs ac hs' hc σ H Q h; cases hc; exact fun B w0 m w a h1 h2 => wp_exit ⟨m, σ, H, .refl m, h1, h2, h⟩
  | ret => intro hs ac hs' hc σ H Q h; cases hc; exact fun B w0 m w a h1 h2 => wp_ret ⟨m, σ, H, .refl m, h1, h2, h⟩
  | _ => intro hs ac hs' hc σ H Q h; cases hc; exact h.elim

/-- A function's slots at its start. -/
def params (args : List AV) : Env := go 0 args
where go : Nat → List AV → Env
  | _, [] => []
  | i, x :: xs => (i, x) :: go (i + 1) xs

/-- How a result is read. -/
inductive ARes where
  | slot (t : Nat)
  | cell (t : Nat) (op : AOp)

def compRes (P : Program) : ResultVar → Option ARes
  | .tmp t => some (.slot t)
  | .cell a t => match compOp P (.load t (.tmp a)) with
    | some (.ld g s, [.tmp _]) => some (.cell a (.ld g s))
    | _ => none

def resV (σ : Env) (H : Heap) : ARes → AV → Prop
  | .slot t, v => v = σ.get t
  | .cell t op, v => Rd op [σ.get t] H v

/-- What a function returns. -/
def resP (σ : Env) (H : Heap) (K : AV → Heap → Prop) : List ARes → List AV → Prop
  | [], acc => match acc with
    | [v] => K v H
    | vs => K (.tup vs.reverse) H
  | r :: rs, acc => ∃ v, resV σ H r v ∧ resP σ H K rs (v :: acc)

structure AFun where
  n : Nat
  nargs : Nat
  res : List ARes
  body : ACode

/-- A function turned. -/
def compF (P : Program) (f : Nat) (hs : List Hint) : Option AFun :=
  (P.funcs[f]?).bind fun fn => if fn.name == "runtime.NumGoroutine" then none else
    fn.body.bind fun c => (fn.results.toList.mapM (compRes P)).bind fun rs => (compC P fn.ntmps c hs).map fun x => ⟨fn.ntmps, fn.params.size + fn.nfree, rs, x.1⟩

def endE (K : Env → Heap → Prop) : Exit → Env → Heap → Prop
  | .normal, σ, H => K σ H
  | .ret, σ, H => K σ H
  | _, _, _ => False

/-- What a call of a function does. -/
def denF (G : Nat → Option (List AV)) (P : Program) (F : AFun) (args : List AV) (H : Heap) (K : AV → Heap → Prop) : Prop :=
  args.length ≤ F.n ∧ den G P F.body (params args) H (endE fun σ' H' => resP σ' H' K F.res [])

theorem params_get (args : List AV) (t : Nat) : (params args).get t = (args[t]?).getD .any := by
  have : ∀ (xs : List AV) (i t : Nat), (params.go i xs).get t = if i ≤ t then (xs[t - i]?).getD .any else .any := by
    intro xs
    induction xs with
    | nil => intro i t; simp [params.go, Env.get]
    | cons x xs ih =>
      intro i t
      simp only [params.go, Env.get, ih]
      by_cases h : t = i
      · subst h; simp
      · rw [if_neg h]
        by_cases h2 : i ≤ t
        · have : t - i = (t - (i + 1)) + 1 := by omega
          rw [if_pos h2, if_pos (by omega), this, List.getElem?_cons_succ]
        · rw [if_neg h2, if_neg (by omega)]
  have h := this args 0 t
  simpa [params] using h

end
end Go.AL

/- The abstract layer, part 19: functions. -/
namespace Go.AL
open Go.RowKit

section
variable {G : Nat → Option (List AV)} {B : Nat} {w0 w w' : World} {m m' : Im} {H H' : Heap} {P : Program} {n : Nat} {σ : Env} {a : Act}

def readRes (tmps : Array Value) : ResultVar → Sem Value
  | .tmp t => pure (tmps.getD t undef)
  | .cell a t => do loadVar t (← asAddr (tmps.getD a undef))

theorem readRes_sound (hs : Sat G B w0 m H w) (hr : RelT m n σ a) {r : ResultVar} {ar : ARes} {v : AV} (hc : compRes P r = some ar) (h : resV σ H ar v) : ∃ cv, (readRes a.tmps r).run P w = .ok cv w ∧ Rel m v cv := by
  cases r with
  | tmp t =>
    cases hc
    have h : v = σ.get t := h
    subst h
    exact ⟨_, rfl, hr.rel t⟩
  | cell p t =>
    simp only [compRes] at hc
    split at hc
    · rename_i g s u hco
      cases hc
      have hu : u = p := by
        simp only [compOp] at hco
        simp only [Option.bind_eq_some_iff, Option.map_eq_some_iff, Prod.mk.injEq, List.cons.injEq, Operand.tmp.injEq] at hco
        repeat (first | (obtain ⟨_, hco⟩ := hco) | (cases hco))
        simp_all
      subst hu
      obtain ⟨cv, h1, h2⟩ := rd_sound (P := P) hs (ρ := a.eval) (o := { dst := none, op := .load t (.tmp u), type := 0, pos := "", after := #[], guard := none }) (xs := [σ.get u]) hco ⟨rfl, fun i x y hx hy => by
        cases i with
        | zero => simp at hx hy; subst hx hy; exact hr.rel u
        | succ i => simp at hx⟩ rfl h
      refine ⟨cv, ?_, h2⟩
      simp only [execOp, Sem.run_bind, Instr.loadAt] at h1
      simp only [readRes, Sem.run_bind]
      have he : a.eval (.tmp u) = a.tmps.getD u undef := rfl
      rw [he] at h1
      cases hv : a.tmps.getD u undef <;> rw [hv] at h1 <;> simp only [Instr.sureAddr] at h1 <;> try (simp [stuck] at h1; done)
      rename_i o
      cases o with
      | none => simp [stuck] at h1
      | some ad =>
        simp only [asAddr, Sem.run_pure, Result.andThen_ok] at h1 ⊢
        cases hl : (loadVar t ad).run P w with
        | halt x w2 => rw [hl] at h1; simp at h1
        | ok v2 w2 => rw [hl] at h1; simpa using h1
    · cases hc

theorem mapM_run_ok {α : Type} (f : α → Sem Value) : ∀ (l : List α) (vs : List Value) (w : World), l.length = vs.length → (∀ (i : Nat) (x : α) (v : Value), l[i]? = some x → vs[i]? = some v → (f x).run P w = .ok v w) → (l.mapM f).run P w = .ok vs w
  | [], [], w, _, _ => rfl
  | [], _ :: _, _, h, _ => by cases h
  | _ :: _, [], _, h, _ => by cases h
  | x :: l, v :: vs, w, h, hf => by
    rw [List.mapM_cons]
    simp only [Sem.run_bind, hf 0 x v rfl rfl, Result.andThen_ok]
    rw [mapM_run_ok f l vs w (by simpa using h) (fun i y u h1 h2 => hf (i + 1) y u (by simpa using h1) (by simpa using h2))]
    rfl

theorem results_sound {fn : Func} (hs : Sat G B w0 m H w) (hr : RelT m n σ a) {K : AV → Heap → Prop} {rs : List ARes} (hrs : fn.results.toList.mapM (compRes P) = some rs) (h : resP σ H K rs []) :
    ∃ v cv, (results fn a.tmps).run P w = .ok cv w ∧ Rel m v cv ∧ K v H := by
  have key : ∀ (l : List ResultVar) (rs : List ARes) (acc : List AV), l.mapM (compRes P) = some rs → resP σ H K rs acc →
      ∃ (vs : List AV) (cvs : List Value), l.length = cvs.length ∧ RelL m vs cvs ∧ (∀ (i : Nat) (x : ResultVar) (v : Value), l[i]? = some x → cvs[i]? = some v → (readRes a.tmps x).run P w = .ok v w) ∧ resP σ H K [] (vs.reverse ++ acc) := by
    intro l
    induction l with
    | nil =>
      intro rs acc h1 h2
      cases h1
      exact ⟨[], [], rfl, RelL.nil m, fun i x v h => by simp at h, h2⟩
    | cons r l ih =>
      intro rs acc h1 h2
      rw [List.mapM_cons] at h1
      simp only [Option.bind_eq_bind, Option.bind_eq_some_iff, Option.pure_def, Option.some.injEq] at h1
      obtain ⟨ar, har, rs', hrs', rfl⟩ := h1
      obtain ⟨v, hv, h3⟩ := h2
      obtain ⟨cv, hcv, hrel⟩ := readRes_sound hs hr har hv
      obtain ⟨vs, cvs, g1, g2, g3, g4⟩ := ih rs' (v :: acc) hrs' h3
      refine ⟨v :: vs, cv :: cvs, by simp [g1], g2.cons hrel, fun i x u hx hu => ?_, by simpa using g4⟩
      cases i with
      | zero => simp at hx hu; subst hx hu; exact hcv
      | succ i => exact g3 i x u (by simpa using hx) (by simpa using hu)
  obtain ⟨vs, cvs, h1, h2, h3, h4⟩ := key _ rs [] hrs h
  have hm : (fn.results.mapM (readRes a.tmps)).run P w = .ok cvs.toArray w := by
    rw [Array.mapM_eq_mapM_toList, Sem.run_map, mapM_run_ok _ _ cvs w h1 h3]
    rfl
  have hres : results fn a.tmps = (do let vs ← fn.results.mapM (readRes a.tmps); pure (if h : vs.size = 1 then vs[0] else .tuple vs)) := by
    rfl
  rw [hres, Sem.run_bind, hm, Result.andThen_ok, Sem.run_pure]
  rw [List.append_nil] at h4
  by_cases hlen : cvs.length = 1
  · obtain ⟨cv, rfl⟩ := List.length_eq_one_iff.1 hlen
    obtain ⟨v, rfl⟩ := List.length_eq_one_iff.1 (h2.1.trans hlen)
    exact ⟨v, cv, rfl, h2.2 0 v cv rfl rfl, h4⟩
  · refine ⟨.tup vs, .tuple cvs.toArray, by simp [hlen], .tup vs _ (by simp [h2.1]) (fun i x y hx hy => h2.2 i x y hx (by simpa using hy)), ?_⟩
    have hl : vs.reverse.length ≠ 1 := by rw [List.length_reverse, h2.1]; exact hlen
    simp only [resP] at h4
    split at h4
    · rename_i heq; rw [heq] at hl; exact absurd rfl hl
    · simpa using h4

/-- A function's contract, out of what its body does. -/
theorem denF_sound (hm : P.follows .mixedOrders = true) {f : Nat} {F : AFun} {hints : List Hint} (hF : compF P f hints = some F) {args : List AV} {K : AV → Heap → Prop} (h : denF G P F args H K) : ACalls G P f args H K := by
  unfold compF at hF
  cases hf : P.funcs[f]? with
  | none => rw [hf] at hF; cases hF
  | some fn =>
    rw [hf] at hF
    simp only [Option.bind_some] at hF
    cases hname : fn.name == "runtime.NumGoroutine" with
    | true => rw [hname] at hF; cases hF
    | false =>
      rw [hname] at hF
      simp only [Bool.false_eq_true, if_false, Option.bind_eq_some_iff, Option.map_eq_some_iff] at hF
      obtain ⟨c, hb, rs, hrs, ⟨ac, _⟩, hac, rfl⟩ := hF
      obtain ⟨hlen, h⟩ := h
      refine ⟨⟨fn, hf, hname, by rw [hb]; rfl⟩, fun B w0 m w cargs hs hr => ?_⟩
      have hal : cargs.size = args.length := by have := hr.1; simpa using this.symm
      have hlen' : args.length ≤ fn.ntmps := hlen
      have hrel : RelT m fn.ntmps (params args) { tmps := cargs ++ Array.replicate (fn.ntmps - cargs.size) undef, defers := [] } := by
        refine ⟨by simp; omega, rfl, fun t => ?_⟩
        rw [params_get]
        cases hx : args[t]? with
        | none => exact .any _
        | some x =>
          have ht : t < cargs.size := by have := (List.getElem?_eq_some_iff.1 hx).1; omega
          have : (cargs ++ Array.replicate (fn.ntmps - cargs.size) undef).getD t undef = cargs[t] := by
            rw [Array.getD_eq_getD_getElem?, Array.getElem?_append_left ht, Array.getElem?_eq_getElem ht]; rfl
          simp only
          rw [this]
          exact hr.2 t x _ hx (by simp [ht])
      refine calls_of_wp hf hb (wp_mono (den_sound hm c _ _ _ hac _ _ _ h B w0 m w _ hs hrel) ?_)
      rintro e a' w' ⟨m', σ', H', g1, g2, g3, g4⟩
      have fin : resP σ' H' K rs [] → a'.defers = [] ∧ ∃ v, (results fn a'.tmps).run P w' = .ok v w' ∧ ∃ v_1 cv m' H', (Ending.returned v) = .returned cv ∧ m.le m' ∧ Sat G B w0 m' H' w' ∧ Rel m' v_1 cv ∧ K v_1 H' := by
        intro h
        obtain ⟨v, cv, q1, q2, q3⟩ := results_sound g2 g3 hrs h
        exact ⟨g3.defers, cv, q1, v, cv, m', H', rfl, g1, g2, q2, q3⟩
      cases e with
      | normal => exact fin g4
      | ret => exact fin g4
      | _ => exact g4.elim

end
end Go.AL

/- The abstract layer, part 20: the same, to be computed with: heaps as tables, one way for every step. -/
namespace Go.AL
open Go.RowKit

def lookH (id : Nat) : Heap → Option AObj
  | [] => none
  | (j, o) :: H => if id = j then some o else lookH id H
/-- The entry of b becomes an entry of id. -/
def renH (b id : Nat) (o : AObj) : Heap → Heap
  | [] => []
  | (j, p) :: H => if b = j then (id, o) :: H else (j, p) :: renH b id o H
def setH (id : Nat) (o : AObj) (H : Heap) : Heap := renH id id o H
/-- All keys but the first that is b. -/
def othK (b : Nat) : Heap → List Nat
  | [] => []
  | (j, _) :: H => if b = j then Heap.keys H else j :: othK b H

def optS (o : Option AV) (K : AV → Prop) : Prop := match o with | some v => K v | none => False

/-- What is handed to append or copy, as elements. -/
def srcS (sz : Nat) (x : AV) (H : Heap) (K : List AV → Prop) : Prop :=
  match x with
  | .sl xs _ => AllSz sz xs ∧ K xs
  | .str s => sz = 1 ∧ K (bytesAV s)
  | .msl id off n s => s = sz ∧ (match lookH id H with
    | some (.cells vs) => off + n * sz ≤ vs.length ∧ (if sz = 1 then AllSz 1 ((vs.drop off).take n) ∧ flat ((vs.drop off).take n) = (vs.drop off).take n ∧ K ((vs.drop off).take n)
        else ∃ ys, AllSz sz ys ∧ ys.length = n ∧ flat ys = (vs.drop off).take (n * sz) ∧ K ys)
    | _ => False)
  | _ => False

def quietS (op : AOp) (xs : List AV) (H : Heap) (K : AV → Prop) : Prop :=
  match op, xs with
  | .ld agg sz, [.ptr id off] => match lookH id H with
    | some (.cells vs) => if agg then off + sz ≤ vs.length ∧ K (.agg ((vs.drop off).take sz)) else optS vs[off]? K
    | _ => False
  | .len 2, [.map id] => match lookH id H with
    | some (.map es) => K (.int .i64 es.length)
    | _ => False
  | .lkp kd z ok, [.map id, k] => match lookH id H with
    | some (.map es) => k.kindN = kd ∧ kd ≤ 2 ∧ (match lookA k es with | some r => K (foundA z ok r) | none => False)
    | _ => False
  | .cvb, [.msl id off n s] => s = 1 ∧ (match lookH id H with
    | some (.cells vs) => off + n ≤ vs.length ∧ (match bytesOf ((vs.drop off).take n) with | some bs => K (.str bs) | none => False)
    | _ => False)
  | op, xs => optS (pureF op xs) K

def isU8 : List AV → Bool
  | [.int .u8 _] => true
  | _ => false

/-- What a program's functions do: as far as the table says; the others by their contracts. -/
def callS (G : Nat → Option (List AV)) (P : Program) : List (Nat × (List AV → Heap → (AV → Heap → Prop) → Prop)) → Nat → List AV → Heap → (AV → Heap → Prop) → Prop
  | [], f, xs, H, K => ACalls G P f xs H K
  | (g, c) :: t, f, xs, H, K => if f = g then c xs H K else callS G P t f xs H K

abbrev Tbl := List (Nat × (List AV → Heap → (AV → Heap → Prop) → Prop))

def loudS (op : AOp) (xs : List AV) (H : Heap) (K : AV → Heap → Prop) : Prop :=
  match op, xs with
  | .st sz, [.ptr id off, x] => match lookH id H with
    | some (.cells vs) => 0 < sz ∧ x.cells.length = sz ∧ off + sz ≤ vs.length ∧ K .undef (setH id (.cells (splice vs off x.cells)) H)
    | _ => False
  | .box, [x] => 0 < x.cells.length ∧ ∀ id, id ∉ H.keys → K (.ptr id 0) ((id, .cells x.cells) :: H)
  | .alloc z, [] => ∀ id, id ∉ H.keys → K (.ptr id 0) ((id, .cells z) :: H)
  | .rawal t, [] => ∀ id, id ∉ H.keys → K (.ptr id 0) ((id, .raw t [.pointer none, .slice none 0 0]) :: H)
  | .bslice sz n z pl, xs => match fillL ((List.replicate n z).flatten) pl xs with
    | some cs => if sz = 1 then (if isU8 z && n != 0 then (∀ id, id ∉ H.keys → K (.msl id 0 n 1) ((id, .cells cs) :: H))
          else (∀ id, id ∉ H.keys → K (.msl id 0 n 1) ((id, .cells cs) :: H)) ∨ ((AllSz 1 cs ∧ cs.length = n ∧ flat cs = cs) ∧ ∀ id, id ∉ H.keys → K (.sl cs (.at id n 1)) ((id, .spare n) :: H)))
        else (∀ id, id ∉ H.keys → K (.msl id 0 n sz) ((id, .cells cs) :: H)) ∨
         (∃ ys, AllSz sz ys ∧ ys.length = n ∧ flat ys = cs ∧ ∀ id, id ∉ H.keys → K (.sl ys (.at id (n * sz) sz)) ((id, .spare (n * sz)) :: H))
    | none => False
  | .sb, [.str s] => s.length ≤ maxLen ∧ ∀ id, id ∉ H.keys → K (.msl id 0 s.length 1) ((id, .cells (bytesAV s)) :: H)
  | .cvm, [.msl id 0 n s] => s = 1 ∧ 0 < n ∧ (match lookH id H with
    | some (.cells vs) => n = vs.length ∧ AllSz 1 vs ∧ flat vs = vs ∧ K (.sl vs (.at id n 1)) (setH id (.spare n) H)
    | _ => False)
  | .mksl sz bytes z, [.int _ n, .int _ c] => 0 ≤ n ∧ n ≤ c ∧ c ≤ maxLen ∧ bytes * c ≤ 281474976710656 ∧
      ∀ id, id ∉ H.keys → K (.msl id 0 n.toNat sz) ((id, .cells ((List.replicate n.toNat z).flatten)) :: H)
  | .mkmap, [] => ∀ id, id ∉ H.keys → K (.map id) ((id, .map []) :: H)
  | .mup kd, [.map id, k, v] => match lookH id H with
    | some (.map es) => k.kindN = kd ∧ kd ≤ 2 ∧ v ≠ .any ∧ (match updA k v es with | some es' => K .undef (setH id (.map es') H) | none => False)
    | _ => False
  | .rngs, [.str s] => ∀ id, id ∉ H.keys → K (.ptr id 0) ((id, .iter s 0) :: H)
  | .nxts, [.ptr id 0] => match lookH id H with
    | some (.iter s pos) => if pos < s.length then K (.tup [.bool true, .int .i64 pos, .int .i32 (Utf8.decode ⟨s.toArray⟩ pos).1]) (setH id (.iter s (pos + (Utf8.decode ⟨s.toArray⟩ pos).2)) H)
        else K (.tup [.bool false]) H
    | _ => False
  | .app sz bytes, [s, x] => 0 < sz ∧ srcS sz x H fun ys => match s with
      | .sl xs t => AllSz sz xs ∧ xs.length + ys.length ≤ maxLen ∧ (xs.length + ys.length) * bytes ≤ 140737488355328 ∧ (match t with
        | .nil => (ys = [] → K (.sl [] .nil) H) ∧ (ys ≠ [] → (∀ id e, id ∉ H.keys → K (.sl ys (.at id e sz)) ((id, .spare e) :: H)) ∨ (∀ id, id ∉ H.keys → K (.msl id 0 ys.length sz) ((id, .cells (flat ys)) :: H)))
        | .at b e s' => s' = sz ∧ (match lookH b H with
          | some (.spare e0) => e0 = e ∧ b ∉ othK b H ∧ ∀ id e', id ∉ othK b H → K (.sl (xs ++ ys) (.at id e' sz)) (renH b id (.spare e') H)
          | _ => False)
        | .no => False)
      | .msl b 0 n s' => s' = sz ∧ n + ys.length ≤ maxLen ∧ (n + ys.length) * bytes ≤ 140737488355328 ∧ (match lookH b H with
          | some (.cells vs) => vs.length = n * sz ∧ b ∉ othK b H ∧ ∀ id, id ∉ othK b H → K (.msl id 0 (n + ys.length) sz) (renH b id (.cells (vs ++ flat ys)) H)
          | _ => False)
      | _ => False
  | .cpy sz, [d, x] => srcS sz x H fun ys => match d with
      | .msl id off n s => s = sz ∧ (match lookH id H with
          | some (.cells vs) => off + n * sz ≤ vs.length ∧ K (.int .i64 (Nat.min ys.length n : Nat)) (setH id (.cells (splice vs off (flat (ys.take n)))) H)
          | _ => False)
      | .sl [] _ => K (.int .i64 0) H
      | _ => False
  | .clr sz z, [d] => match d with
      | .msl id off n s => s = sz ∧ (match lookH id H with
          | some (.cells vs) => off + n * sz ≤ vs.length ∧ K (.tup []) (setH id (.cells (splice vs off (List.replicate n z).flatten)) H)
          | _ => False)
      | .sl [] _ => K (.tup []) H
      | _ => False
  | .slp sz n lo hi, .ptr id off :: bs => match lookH id H with
      | some (.cells vs) => off + n * sz ≤ vs.length ∧ (match boundsF lo hi n bs with | some (l, h) => K (.msl id (off + l * sz) (h - l) sz) H | none => False)
      | _ => False
  | _, _ => False

def effS (G : Nat → Option (List AV)) (P : Program) (T : Tbl) (op : AOp) (xs : List AV) (H : Heap) (K : AV → Heap → Prop) : Prop :=
  match op with
  | .call f => callS G P T f xs H K
  | .callv => match xs with
    | .fn (.func f) first captured :: ys => callS G P T f (first ++ ys ++ captured) H K
    | _ => False
  | op => if op.quiet then quietS op xs H fun v => K v H else loudS op xs H K

section
variable {G : Nat → Option (List AV)} {H H' : Heap} {P : Program}

theorem lookH_mem {id : Nat} {o : AObj} : ∀ {H : Heap}, lookH id H = some o → (id, o) ∈ H
  | [], h => by cases h
  | (j, p) :: H, h => by
    simp only [lookH] at h
    split at h
    · rename_i e; subst e; cases h; exact List.mem_cons_self
    · exact List.mem_cons_of_mem _ (lookH_mem h)

theorem renH_rpl {b id : Nat} {o p : AObj} : ∀ {H : Heap}, lookH b H = some o → Rpl H (b, o) (id, p) (renH b id p H)
  | [], h => by cases h
  | (j, q) :: H, h => by
    simp only [lookH] at h
    simp only [renH]
    split at h
    · rename_i e; subst e; cases h; rw [if_pos rfl]; exact .here _ _ _
    · rename_i e; rw [if_neg e]; exact .there _ _ _ _ _ (renH_rpl h)

theorem rpl_keys_mem {p q : Nat × AObj} (h : Rpl H p q H') : p.1 ∈ H.keys := by
  obtain ⟨l, r, h1, _⟩ := h.keys
  rw [h1]; simp

theorem rpl_eq {b id : Nat} {o p : AObj} : ∀ {H H' : Heap}, lookH b H = some o → b ∉ othK b H → Rpl H (b, o) (id, p) H' → H' = renH b id p H
  | [], _, h, _, _ => by cases h
  | (j, q) :: H, H', h, hn, hr => by
    simp only [lookH] at h
    simp only [othK] at hn
    simp only [renH]
    split at h
    · rename_i e; subst e; cases h
      rw [if_pos rfl] at hn ⊢
      cases hr with
      | here => rfl
      | there _ _ _ _ T' hr => exact absurd (rpl_keys_mem hr) hn
    · rename_i e
      rw [if_neg e] at hn ⊢
      cases hr with
      | here => exact absurd rfl e
      | there _ _ _ _ T' hr => rw [rpl_eq h (fun hm => hn (List.mem_cons_of_mem _ hm)) hr]

theorem othK_of {b id : Nat} : ∀ {H : Heap}, b ∉ othK b H → id = b ∨ id ∉ H.keys → id ∉ othK b H
  | [], _, _ => by simp [othK]
  | (j, q) :: H, h, hid => by
    simp only [othK] at h ⊢
    split
    · rename_i e
      rw [if_pos e] at h
      rcases hid with rfl | hid
      · exact h
      · exact fun hm => hid (List.mem_cons_of_mem _ hm)
    · rename_i e
      rw [if_neg e] at h
      rw [List.mem_cons, not_or] at h ⊢
      refine ⟨?_, othK_of h.2 (hid.imp _root_.id fun hid hm => hid (List.mem_cons_of_mem _ hm))⟩
      rcases hid with rfl | hid
      · exact e
      · intro e2; exact hid (by rw [e2]; exact List.mem_cons_self)

theorem optS_some {o : Option AV} {K : AV → Prop} (h : optS o K) : ∃ v, o = some v ∧ K v := by
  cases o with
  | none => exact h.elim
  | some v => exact ⟨v, rfl, h⟩

theorem quietS_sound {op : AOp} {xs : List AV} {K : AV → Prop} (h : quietS op xs H K) : ∃ v, Rd op xs H v ∧ K v := by
  unfold quietS at h
  split at h
  · rename_i agg sz id off
    split at h
    · rename_i vs hl
      cases agg with
      | true =>
        rw [if_pos rfl] at h
        exact ⟨_, .inr ⟨vs, lookH_mem hl, by rw [if_pos rfl]; exact ⟨h.1, rfl⟩⟩, h.2⟩
      | false =>
        obtain ⟨v, hv, hk⟩ := optS_some h
        exact ⟨v, .inr ⟨vs, lookH_mem hl, hv⟩, hk⟩
    · exact h.elim
  · split at h
    · rename_i es hl; exact ⟨_, .inr ⟨es, lookH_mem hl, rfl⟩, h⟩
    · exact h.elim
  · split at h
    · rename_i es hl
      obtain ⟨h1, h2, h3⟩ := h
      split at h3
      · rename_i r hr; exact ⟨_, .inr ⟨es, r, lookH_mem hl, h1, h2, hr, rfl⟩, h3⟩
      · exact h3.elim
    · exact h.elim
  · obtain ⟨h0, h⟩ := h
    split at h
    · rename_i vs hl
      obtain ⟨h1, h2⟩ := h
      split at h2
      · rename_i bs hb; exact ⟨_, .inr ⟨h0, vs, bs, lookH_mem hl, h1, hb, rfl⟩, h2⟩
      · exact h2.elim
    · exact h.elim
  · obtain ⟨v, hv, hk⟩ := optS_some h
    exact ⟨v, .inl hv, hk⟩

theorem srcS_sound {sz : Nat} {x : AV} {K : List AV → Prop} (h : srcS sz x H K) : ∃ ys, Src sz x H ys ∧ K ys := by
  unfold srcS at h
  split at h
  · exact ⟨_, ⟨h.1, rfl⟩, h.2⟩
  · rename_i s
    refine ⟨_, ⟨?_, h.1, rfl⟩, h.2⟩
    rw [h.1]; exact allSz_bytes _
  · obtain ⟨h0, h⟩ := h
    split at h
    · rename_i vs hl
      obtain ⟨h1, h⟩ := h
      split at h
      · rename_i e
        subst e
        obtain ⟨h2, h3, h4⟩ := h
        rw [Nat.mul_one] at h1
        refine ⟨_, ⟨h2, h0, ?_, vs, lookH_mem hl, by omega, by rw [h3, Nat.mul_one]⟩, h4⟩
        simp; omega
      · obtain ⟨ys, h2, h3, h4, h5⟩ := h
        exact ⟨ys, ⟨h2, h0, h3, vs, lookH_mem hl, h1, h4⟩, h5⟩
    · exact h.elim
  · exact h.elim

theorem loudS_sound {op : AOp} {xs : List AV} {K : AV → Heap → Prop} (h : loudS op xs H K) : ef op xs H K := by
  unfold loudS at h
  split at h
  · split at h
    · rename_i vs hl
      obtain ⟨h1, h2, h3, h4⟩ := h
      exact ⟨_, _, vs, _, rfl, h1, h2, h3, renH_rpl hl, h4⟩
    · exact h.elim
  · exact h
  · exact h
  · exact h
  · unfold ef
    split at h
    · rename_i cs hf
      split at h
      · rename_i e; subst e
        split at h
        · exact ⟨cs, hf, .inl h⟩
        · rcases h with h | ⟨⟨h1, h2, h3⟩, h4⟩
          · exact ⟨cs, hf, .inl h⟩
          · exact ⟨cs, hf, .inr ⟨cs, h1, h2, h3, by simpa using h4⟩⟩
      · exact ⟨cs, hf, h⟩
    · exact h.elim
  · exact ⟨h.1, .inl h.2⟩
  · obtain ⟨h0, h1, h⟩ := h
    split at h
    · rename_i vs hl
      obtain ⟨h2, h3, h4, h5⟩ := h
      exact ⟨h0, h1, vs, lookH_mem hl, h2, .inr ⟨h3, h4, _, renH_rpl hl, h5⟩⟩
    · exact h.elim
  · exact h
  · exact h
  · split at h
    · rename_i es hl
      obtain ⟨h1, h2, h3, h4⟩ := h
      split at h4
      · rename_i es' hu; exact ⟨es, es', _, h1, h2, h3, hu, renH_rpl hl, h4⟩
      · exact h4.elim
    · exact h.elim
  · exact h
  · split at h
    · rename_i s pos hl
      refine ⟨s, pos, fun hlt => ?_, fun hle => ?_, lookH_mem hl⟩
      · rw [if_pos hlt] at h; exact ⟨_, renH_rpl hl, h⟩
      · rw [if_neg (by omega)] at h; exact ⟨lookH_mem hl, h⟩
    · exact h.elim
  · obtain ⟨h0, h⟩ := h
    obtain ⟨ys, hs, h⟩ := srcS_sound h
    refine ⟨ys, hs, h0, ?_⟩
    split at h
    · obtain ⟨h1, h2, h3, h4⟩ := h
      refine ⟨h1, h2, h3, ?_⟩
      split at h4
      · exact h4
      · obtain ⟨h5, h6⟩ := h4
        split at h6
        · rename_i e0 hl
          obtain ⟨rfl, h7, h8⟩ := h6
          refine ⟨h5, lookH_mem hl, fun id e' H' hid hr => ?_⟩
          rw [rpl_eq hl h7 hr]
          exact h8 id e' (othK_of h7 hid)
        · exact h6.elim
      · exact h4
    · obtain ⟨h1, h2, h3, h4⟩ := h
      split at h4
      · rename_i vs hl
        obtain ⟨h5, h6, h7⟩ := h4
        refine ⟨h1, h2, h3, vs, h5, lookH_mem hl, fun id H' hid hr => ?_⟩
        rw [rpl_eq hl h6 hr]
        exact h7 id (othK_of h6 hid)
      · exact h4.elim
    · exact h.elim
  · obtain ⟨ys, hs, h⟩ := srcS_sound h
    refine ⟨ys, hs, ?_⟩
    split at h
    · obtain ⟨h1, h2⟩ := h
      split at h2
      · rename_i vs hl
        exact ⟨h1, vs, _, h2.1, renH_rpl hl, h2.2⟩
      · exact h2.elim
    · exact h
    · exact h.elim
  · split at h
    · obtain ⟨h1, h2⟩ := h
      split at h2
      · rename_i vs hl
        exact ⟨h1, vs, _, h2.1, renH_rpl hl, h2.2⟩
      · exact h2.elim
    · exact h
    · exact h.elim
  · split at h
    · rename_i vs hl
      obtain ⟨h1, h2⟩ := h
      split at h2
      · rename_i l h' hb; exact ⟨vs, l, h', lookH_mem hl, h1, hb, h2⟩
      · exact h2.elim
    · exact h.elim
  · exact h.elim

end
end Go.AL

/- The abstract layer, part 21: code and functions, to be computed with. -/
namespace Go.AL
open Go.RowKit

def runS (G : Nat → Option (List AV)) (P : Program) (T : Tbl) : List AOper → Env → Heap → (Env → Heap → Prop) → Prop
  | [], σ, H, K => K σ H
  | ⟨d, op, as, g⟩ :: l, σ, H, K => gate σ g (effS G P T op (as.map (opE G σ)) H fun v H' => runS G P T l (σ.put d v) H' K) (runS G P T l (σ.put d .undef) H K)

def runIS (G : Nat → Option (List AV)) (P : Program) (T : Tbl) : List Item → Env → Heap → (Env → Heap → Prop) → Prop
  | [], σ, H, K => K σ H
  | ⟨_, ⟨d, op, as, g⟩, _⟩ :: l, σ, H, K => gate σ g (effS G P T op (as.map (opE G σ)) H fun v H' => runIS G P T l (σ.put d v) H' K) (runIS G P T l (σ.put d .undef) H K)

/-- What was read would be read again. -/
def aoS (ob : List Nat) (H : Heap) : List Pend → Prop
  | [] => True
  | ⟨i, op, xs, v⟩ :: ps => (if ob.contains i = true then quietS op xs H fun v' => v' = v else True) ∧ aoS ob H ps
def oblS (ob : List Nat) (pend : List Pend) (H : Heap) (X : Prop) : Prop := if ob.isEmpty = true then X else aoS ob H pend ∧ X

def seqS (G : Nat → Option (List AV)) (P : Program) (T : Tbl) : List Item → List Pend → Env → Heap → (Env → Heap → Prop) → Prop
  | [], _, σ, H, K => K σ H
  | ⟨i, ⟨d, op, as, g⟩, ob⟩ :: l, pend, σ, H, K =>
    gate σ g
      (if op.quiet then quietS op (as.map (opE G σ)) H fun v => seqS G P T l (⟨i, op, as.map (opE G σ), v⟩ :: pend) (σ.put d v) H K
       else effS G P T op (as.map (opE G σ)) H fun v H' => oblS ob pend H' (seqS G P T l pend (σ.put d v) H' K))
      (seqS G P T l pend (σ.put d .undef) H K)

/-- As seqS, up to a place where it goes on with what was read. -/
def seqPS (G : Nat → Option (List AV)) (P : Program) (T : Tbl) : List Item → List Pend → Env → Heap → (List Pend → Env → Heap → Prop) → Prop
  | [], pend, σ, H, K => K pend σ H
  | ⟨i, ⟨d, op, as, g⟩, ob⟩ :: l, pend, σ, H, K =>
    gate σ g
      (if op.quiet then quietS op (as.map (opE G σ)) H fun v => seqPS G P T l (⟨i, op, as.map (opE G σ), v⟩ :: pend) (σ.put d v) H K
       else effS G P T op (as.map (opE G σ)) H fun v H' => oblS ob pend H' (seqPS G P T l pend (σ.put d v) H' K))
      (seqPS G P T l pend (σ.put d .undef) H K)

def planS (G : Nat → Option (List AV)) (P : Program) (T : Tbl) : Plan → (Env → Heap → Prop) → List Pend → Env → Heap → Prop
  | .lin l, K, pd, s, h => seqS G P T l pd s h K
  | .frk pre x p y q, K, pd, s, h => seqPS G P T pre pd s h fun pd s h => seqPS G P T [x] pd s h (planS G P T p K) ∧ seqPS G P T [y] pd s h (planS G P T q K)

def noOb : List Item → Bool
  | [] => true
  | ⟨_, _, ob⟩ :: l => ob.isEmpty && noOb l

def condS (v : AV) (p q : Prop) : Prop := match v with
  | .bool t => if t = true then p else q
  | _ => False

def denS (G : Nat → Option (List AV)) (P : Program) (T : Tbl) : ACode → Env → Heap → (Exit → Env → Heap → Prop) → Prop
  | .skip, σ, H, Q => Q .normal σ H
  | .run ks l, σ, H, Q => runS G P T l σ H fun σ' H' => Q .normal (σ'.keep ks) H'
  | .runD ks l, σ, H, Q => if noOb l then runIS G P T l σ H fun σ' H' => Q .normal (σ'.keep ks) H' else seqS G P T l [] σ H fun σ' H' => Q .normal (σ'.keep ks) H'
  | .runF ks pre l1 l2, σ, H, Q => seqPS G P T pre [] σ H fun pd s h => seqS G P T l1 pd s h (fun σ' H' => Q .normal (σ'.keep ks) H') ∧ seqS G P T l2 pd s h (fun σ' H' => Q .normal (σ'.keep ks) H')
  | .runT ks p, σ, H, Q => planS G P T p (fun σ' H' => Q .normal (σ'.keep ks) H') [] σ H
  | .seq a b, σ, H, Q => denS G P T a σ H (thenE (fun σ' H' => denS G P T b σ' H' Q) Q)
  | .cond c a b, σ, H, Q => condS (opE G σ c) (denS G P T a σ H Q) (denS G P T b σ H Q)
  | .block id b, σ, H, Q => denS G P T b σ H (blockE id Q)
  | .loop ks b, σ, H, Q => ∃ (I : Env → Heap → Prop) (μ : Env → Heap → Nat), (∃ H0, Hle H0 H ∧ I (σ.keep ks) H0) ∧
      ∀ σ1 H1, I σ1 H1 → denS G P T b σ1 H1 (thenE (fun σ2 H2 => ∃ H0, Hle H0 H2 ∧ I (σ2.keep ks) H0 ∧ μ (σ2.keep ks) H0 < μ σ1 H1) Q)
  | .exit id, σ, H, Q => Q (.exit id) σ H
  | .ret, σ, H, Q => Q .ret σ H
  | .stuck, _, _, _ => False

def resS (σ : Env) (H : Heap) (K : AV → Heap → Prop) : List ARes → List AV → Prop
  | [], acc => match acc with
    | [v] => K v H
    | vs => K (.tup vs.reverse) H
  | .slot t :: rs, acc => resS σ H K rs (σ.get t :: acc)
  | .cell t op :: rs, acc => quietS op [σ.get t] H fun v => resS σ H K rs (v :: acc)

def denFS (G : Nat → Option (List AV)) (P : Program) (T : Tbl) (F : AFun) (args : List AV) (H : Heap) (K : AV → Heap → Prop) : Prop :=
  match F with
  | ⟨n, _, rs, body⟩ => args.length ≤ n ∧ denS G P T body (params args) H (endE fun σ' H' => resS σ' H' K rs [])

/-- A table that says no more than the functions keep. -/
def TOk (G : Nat → Option (List AV)) (P : Program) (T : Tbl) : Prop := ∀ p ∈ T, ∀ xs H K, p.2 xs H K → ACalls G P p.1 xs H K

section
variable {G : Nat → Option (List AV)} {H H' : Heap} {P : Program} {T : Tbl}

theorem TOk.nil : TOk G P [] := fun _ h => by cases h
theorem TOk.cons {f : Nat} {c : List AV → Heap → (AV → Heap → Prop) → Prop} (h : ∀ xs H K, c xs H K → ACalls G P f xs H K) (hT : TOk G P T) : TOk G P ((f, c) :: T) := fun p hp => by
  rcases List.mem_cons.1 hp with rfl | hp
  · exact h
  · exact hT p hp

theorem callS_sound {f : Nat} {xs : List AV} {K : AV → Heap → Prop} : ∀ {T : Tbl}, TOk G P T → callS G P T f xs H K → ACalls G P f xs H K
  | [], _, h => h
  | (g, c) :: T, hT, h => by
    simp only [callS] at h
    split at h
    · rename_i e; subst e; exact hT _ List.mem_cons_self _ _ _ h
    · exact callS_sound (fun p hp => hT p (List.mem_cons_of_mem _ hp)) h

theorem effS_sound (hT : TOk G P T) {op : AOp} {xs : List AV} {K : AV → Heap → Prop} (h : effS G P T op xs H K) : eff G P op xs H K := by
  unfold effS at h
  split at h
  · exact callS_sound hT h
  · unfold eff
    split at h
    · exact callS_sound hT h
    · exact h.elim
  · rename_i h1 h2
    have he : (if op.quiet then ∃ v, Rd op xs H v ∧ K v H else ef op xs H K) → eff G P op xs H K := by
      intro h
      unfold eff
      split
      · exact (h1 _ rfl).elim
      · exact (h2 rfl).elim
      · exact h
    refine he ?_
    cases hq : op.quiet with
    | true => rw [hq] at h; rw [if_pos rfl] at h ⊢; exact quietS_sound h
    | false => rw [hq] at h; exact loudS_sound h

theorem runIS_eq {K : Env → Heap → Prop} : ∀ (l : List Item) (σ : Env) (H : Heap), runIS G P T l σ H K = runS G P T (l.map Item.o) σ H K
  | [], _, _ => rfl
  | ⟨_, ⟨d, op, as, g⟩, _⟩ :: l, σ, H => by
    simp only [runIS, List.map_cons, runS]
    rw [runIS_eq l]
    congr 2
    funext v H'
    rw [runIS_eq l]

theorem noOb_all : ∀ {l : List Item}, noOb l = true → l.all (fun x => x.ob.isEmpty) = true
  | [], _ => rfl
  | ⟨_, _, ob⟩ :: l, h => by
    simp only [noOb, Bool.and_eq_true] at h
    simp only [List.all_cons, Bool.and_eq_true]
    exact ⟨h.1, noOb_all h.2⟩

theorem runS_sound (hT : TOk G P T) {K : Env → Heap → Prop} : ∀ (l : List AOper) (σ : Env) (H : Heap), runS G P T l σ H K → runL G P l σ H K
  | [], _, _, h => h
  | ⟨d, op, as, g⟩ :: l, σ, H, h => by
    simp only [runS] at h
    simp only [runL, doOp]
    exact gate_mono (fun h => eff_mono (fun v H' h => runS_sound hT l _ _ h) (effS_sound hT h)) (runS_sound hT l _ _) h

theorem aoS_sound {ob : List Nat} : ∀ {pend : List Pend}, aoS ob H pend → ∀ p ∈ pend, p.i ∈ ob → Rd p.op p.xs H p.v
  | [], _, _, hp, _ => by cases hp
  | ⟨i, op, xs, v⟩ :: ps, h, p, hp, hi => by
    simp only [aoS] at h
    rcases List.mem_cons.1 hp with rfl | hp
    · rw [if_pos (by simpa using hi)] at h
      obtain ⟨v', h1, h2⟩ := quietS_sound h.1
      subst h2; exact h1
    · exact aoS_sound h.2 p hp hi
theorem oblS_sound {ob : List Nat} {pend : List Pend} {X : Prop} (h : oblS ob pend H X) : oblP ob pend H X := by
  unfold oblS at h; unfold oblP
  cases ob with
  | nil => exact h
  | cons a ob => exact ⟨aoS_sound h.1, h.2⟩

theorem seqS_sound (hT : TOk G P T) {K : Env → Heap → Prop} : ∀ (l : List Item) (pend : List Pend) (σ : Env) (H : Heap), seqS G P T l pend σ H K → seqD G P l pend σ H K
  | [], _, _, _, h => h
  | ⟨i, ⟨d, op, as, g⟩, ob⟩ :: l, pend, σ, H, h => by
    simp only [seqS] at h
    simp only [seqD]
    refine gate_mono (fun h => ?_) (seqS_sound hT l _ _ _) h
    cases hq : op.quiet with
    | true =>
      rw [hq] at h; rw [if_pos rfl] at h ⊢
      obtain ⟨v, h1, h2⟩ := quietS_sound h
      exact ⟨v, h1, seqS_sound hT l _ _ _ h2⟩
    | false =>
      rw [hq] at h
      exact eff_mono (fun v H' h => oblP_mono (fun _ h => h) (seqS_sound hT l _ _ _) (oblS_sound h)) (effS_sound hT h)

theorem seqPS_sound (hT : TOk G P T) {K K' : List Pend → Env → Heap → Prop} (hK : ∀ pd σ H, K pd σ H → K' pd σ H) : ∀ (l : List Item) (pend : List Pend) (σ : Env) (H : Heap), seqPS G P T l pend σ H K → seqP G P l pend σ H K'
  | [], _, _, _, h => hK _ _ _ h
  | ⟨i, ⟨d, op, as, g⟩, ob⟩ :: l, pend, σ, H, h => by
    simp only [seqPS] at h
    simp only [seqP]
    refine gate_mono (fun h => ?_) (seqPS_sound hT hK l _ _ _) h
    cases hq : op.quiet with
    | true =>
      rw [hq] at h; rw [if_pos rfl] at h ⊢
      obtain ⟨v, h1, h2⟩ := quietS_sound h
      exact ⟨v, h1, seqPS_sound hT hK l _ _ _ h2⟩
    | false =>
      rw [hq] at h
      exact eff_mono (fun v H' h => oblP_mono (fun _ h => h) (seqPS_sound hT hK l _ _ _) (oblS_sound h)) (effS_sound hT h)

theorem seqD_of_runL {K : Env → Heap → Prop} : ∀ (l : List Item) (pend : List Pend) (σ : Env) (H : Heap), l.all (fun x => x.ob.isEmpty) = true → runL G P (l.map Item.o) σ H K → seqD G P l pend σ H K
  | [], _, _, _, _, h => h
  | x :: l, pend, σ, H, hob, h => by
    simp only [List.all_cons, Bool.and_eq_true] at hob
    simp only [List.map_cons, runL, doOp] at h
    simp only [seqD]
    refine gate_mono (fun h => ?_) (seqD_of_runL l _ _ _ hob.2) h
    have hx : x.ob = [] := by simpa using hob.1
    cases hq : x.o.op.quiet with
    | true =>
      rw [if_pos rfl]
      unfold eff at h
      split at h
      · rename_i ho; rw [ho] at hq; cases hq
      · rename_i ho; rw [ho] at hq; cases hq
      · rw [hq, if_pos rfl] at h
        obtain ⟨v, h1, h2⟩ := h
        exact ⟨v, h1, seqD_of_runL l _ _ _ hob.2 h2⟩
    | false =>
      refine eff_mono (fun v H' h => ?_) h
      rw [hx]
      exact seqD_of_runL l _ _ _ hob.2 h

theorem planS_sound (hT : TOk G P T) {K : Env → Heap → Prop} : ∀ (p : Plan) (pd : List Pend) (s : Env) (h : Heap), planS G P T p K pd s h → planD G P p K pd s h
  | .lin l, _, _, _, h => seqS_sound hT l _ _ _ h
  | .frk pre x p y q, _, _, _, h => seqPS_sound hT (fun _ _ _ h => ⟨seqPS_sound hT (planS_sound hT p) _ _ _ _ h.1, seqPS_sound hT (planS_sound hT q) _ _ _ _ h.2⟩) _ _ _ _ h
theorem denS_sound (hT : TOk G P T) : ∀ (c : ACode) (σ : Env) (H : Heap) (Q : Exit → Env → Heap → Prop), denS G P T c σ H Q → den G P c σ H Q
  | .skip, _, _, _, h => h
  | .run ks l, _, _, _, h => runS_sound hT l _ _ h
  | .runD ks l, σ, H, Q, h => by
    simp only [denS] at h
    split at h
    · rename_i hob; rw [runIS_eq] at h; exact seqD_of_runL l [] σ H (noOb_all hob) (runS_sound hT _ _ _ h)
    · exact seqS_sound hT l [] _ _ h
  | .runF ks pre l1 l2, σ, H, Q, h => seqPS_sound hT (fun pd s h' hh => ⟨seqS_sound hT l1 _ _ _ hh.1, seqS_sound hT l2 _ _ _ hh.2⟩) pre _ _ _ h
  | .runT ks p, σ, H, Q, h => planS_sound hT p _ _ _ h
  | .seq a b, σ, H, Q, h => by
    simp only [denS] at h
    simp only [den]
    refine den_mono (fun e σ H h => ?_) (denS_sound hT a _ _ _ h)
    cases e <;> first | exact denS_sound hT b _ _ _ h | exact h
  | .cond c a b, σ, H, Q, h => by
    simp only [denS, condS] at h
    simp only [den]
    split at h
    · rename_i t ht
      try rw [ht]
      cases t with
      | true => exact denS_sound hT a _ _ _ h
      | false => exact denS_sound hT b _ _ _ h
    · exact h.elim
  | .block id b, σ, H, Q, h => denS_sound hT b _ _ _ h
  | .loop ks b, σ, H, Q, h => by
    obtain ⟨I, μ, h0, h1⟩ := h
    exact ⟨I, μ, h0, fun σ1 H1 hI => denS_sound hT b _ _ _ (h1 σ1 H1 hI)⟩
  | .exit id, _, _, _, h => h
  | .ret, _, _, _, h => h
  | .stuck, _, _, _, h => h

theorem resS_sound {σ : Env} {K : AV → Heap → Prop} : ∀ (rs : List ARes) (acc : List AV), resS σ H K rs acc → resP σ H K rs acc
  | [], _, h => h
  | .slot t :: rs, acc, h => ⟨_, rfl, resS_sound rs _ h⟩
  | .cell t op :: rs, acc, h => by
    obtain ⟨v, h1, h2⟩ := quietS_sound h
    exact ⟨v, h1, resS_sound rs _ h2⟩

theorem denFS_sound (hm : P.follows .mixedOrders = true) (hT : TOk G P T) {f : Nat} {F : AFun} {hints : List Hint} (hF : compF P f hints = some F) {args : List AV} {K : AV → Heap → Prop} (h : denFS G P T F args H K) : ACalls G P f args H K := by
  refine denF_sound hm hF ⟨h.1, den_mono (fun e σ H h => ?_) (denS_sound hT _ _ _ _ h.2)⟩
  cases e <;> first | exact resS_sound _ _ h | exact h

end

/- How the computing goes: the code and what comes behind are left alone until they are reached. -/
section
variable {G : Nat → Option (List AV)} {P : Program} {T : Tbl}
@[congr] theorem denS_congr {c : ACode} {σ σ' : Env} {H H' : Heap} {Q : Exit → Env → Heap → Prop} (h1 : σ = σ') (h2 : H = H') : denS G P T c σ H Q = denS G P T c σ' H' Q := by rw [h1, h2]
@[congr] theorem runS_congr {l : List AOper} {σ σ' : Env} {H H' : Heap} {K : Env → Heap → Prop} (h1 : σ = σ') (h2 : H = H') : runS G P T l σ H K = runS G P T l σ' H' K := by rw [h1, h2]
@[congr] theorem seqS_congr {l : List Item} {pend : List Pend} {σ σ' : Env} {H H' : Heap} {K : Env → Heap → Prop} (h1 : σ = σ') (h2 : H = H') : seqS G P T l pend σ H K = seqS G P T l pend σ' H' K := by rw [h1, h2]
@[congr] theorem gate_congr {σ : Env} {g g' : Option (Nat × Bool)} {p q : Prop} (h : g = g') : gate σ g p q = gate σ g' p q := by rw [h]
@[congr] theorem condS_congr {v v' : AV} {p q : Prop} (h : v = v') : condS v p q = condS v' p q := by rw [h]
@[congr] theorem effS_congr {op : AOp} {xs xs' : List AV} {H H' : Heap} {K : AV → Heap → Prop} (h1 : xs = xs') (h2 : H = H') : effS G P T op xs H K = effS G P T op xs' H' K := by rw [h1, h2]
@[congr] theorem quietS_congr {op : AOp} {xs xs' : List AV} {H H' : Heap} {K : AV → Prop} (h1 : xs = xs') (h2 : H = H') : quietS op xs H K = quietS op xs' H' K := by rw [h1, h2]
@[congr] theorem runIS_congr {l : List Item} {σ σ' : Env} {H H' : Heap} {K : Env → Heap → Prop} (h1 : σ = σ') (h2 : H = H') : runIS G P T l σ H K = runIS G P T l σ' H' K := by rw [h1, h2]
@[congr] theorem denFS_congr {F : AFun} {xs xs' : List AV} {H H' : Heap} {K : AV → Heap → Prop} (h1 : xs = xs') (h2 : H = H') : denFS G P T F xs H K = denFS G P T F xs' H' K := by rw [h1, h2]
@[congr] theorem loudS_congr {op : AOp} {xs xs' : List AV} {H H' : Heap} {K : AV → Heap → Prop} (h1 : xs = xs') (h2 : H = H') : loudS op xs H K = loudS op xs' H' K := by rw [h1, h2]
@[congr] theorem callS_congr {f : Nat} {xs xs' : List AV} {H H' : Heap} {K : AV → Heap → Prop} (h1 : xs = xs') (h2 : H = H') : callS G P T f xs H K = callS G P T f xs' H' K := by rw [h1, h2]
@[congr] theorem optS_congr {o o' : Option AV} {K : AV → Prop} (h : o = o') : optS o K = optS o' K := by rw [h]
@[congr] theorem srcS_congr {sz : Nat} {x x' : AV} {H H' : Heap} {K : List AV → Prop} (h1 : x = x') (h2 : H = H') : srcS sz x H K = srcS sz x' H' K := by rw [h1, h2]
@[congr] theorem thenE_congr {next : Env → Heap → Prop} {Q : Exit → Env → Heap → Prop} {e e' : Exit} {σ σ' : Env} {H H' : Heap} (h0 : e = e') (h1 : σ = σ') (h2 : H = H') : thenE next Q e σ H = thenE next Q e' σ' H' := by rw [h0, h1, h2]
@[congr] theorem blockE_congr {id : Nat} {Q : Exit → Env → Heap → Prop} {e e' : Exit} {σ σ' : Env} {H H' : Heap} (h0 : e = e') (h1 : σ = σ') (h2 : H = H') : blockE id Q e σ H = blockE id Q e' σ' H' := by rw [h0, h1, h2]
@[congr] theorem endE_congr {K : Env → Heap → Prop} {e e' : Exit} {σ σ' : Env} {H H' : Heap} (h0 : e = e') (h1 : σ = σ') (h2 : H = H') : endE K e σ H = endE K e' σ' H' := by rw [h0, h1, h2]
@[congr] theorem resS_congr {σ : Env} {H H' : Heap} {K : AV → Heap → Prop} {rs : List ARes} {acc acc' : List AV} (h1 : H = H') (h2 : acc = acc') : resS σ H K rs acc = resS σ H' K rs acc' := by rw [h1, h2]
@[congr] theorem ACalls_congr {f : Nat} {xs xs' : List AV} {H H' : Heap} {K : AV → Heap → Prop} (h1 : xs = xs') (h2 : H = H') : ACalls G P f xs H K = ACalls G P f xs' H' K := by rw [h1, h2]

theorem optS_some_eq (v : AV) (K : AV → Prop) : optS (some v) K = K v := rfl
theorem optS_none_eq (K : AV → Prop) : optS none K = False := rfl
theorem optS_ite (c : Prop) [Decidable c] (v : AV) (K : AV → Prop) : optS (if c then some v else none) K = (c ∧ K v) := by by_cases h : c <;> simp [optS, h]
theorem optS_ite' (c : Prop) [Decidable c] (v : AV) (K : AV → Prop) : optS (if c then none else some v) K = (¬ c ∧ K v) := by by_cases h : c <;> simp [optS, h]
theorem optS_map {α : Type} (o : Option α) (f : α → AV) (K : AV → Prop) : optS (o.map f) K = ∃ a, o = some a ∧ K (f a) := by cases o <;> simp [optS]
end
end Go.AL

/- The abstract layer, part 22: from a row's reading of the arguments to a call, and from a call's end to the row's word. -/
namespace Go.AL
open Go.RowKit Go.ChangeShapes

/-- All that lies there when the call begins. -/
def im0 (W : World) : Im where
  cell b o := if b < W.heap.size then W.cell? ⟨b, o, none⟩ else none
  size b := match W.heap[b]? with | some (.cells cs _ _) => some cs.size | _ => none

theorem Sat.start (W : World) : Sat (fun _ => none) W.heap.size W (im0 W) [] W := by
  refine ⟨Below.refl _ _, Nat.le_refl _, fun b o v h => ?_, fun b n h => ?_, (by simp), fun _ _ h => (by cases h), fun _ _ h => (by cases h)⟩
  · simp only [im0] at h
    split at h
    · exact h
    · cases h
  · simp only [im0] at h
    split at h
    · rename_i cs e fr hb; cases h; exact ⟨cs, e, fr, hb, rfl⟩
    · cases h

section
variable {H : Type} {enc : TypeId × Value → H} {P : Program} {W W' : World}

/-- A call that returns true, seen from the row. -/
theorem calls_true {f : Nat} {avs : List AV} {args : Array Value} (h : ACalls (fun _ => none) P f avs [] fun v _ => v = .bool true) (hr : RelL (im0 W) avs args.toList) :
    Calls P f args W fun e W' => e = .returned (.bool true) ∧ Below W.heap.size W W' := by
  refine (h.2 W.heap.size W (im0 W) W args (Sat.start W) hr).mono ?_
  rintro e W' ⟨v, cv, m', H', rfl, h1, h2, h3, rfl⟩
  cases h3
  exact ⟨rfl, h2.below⟩

/-- A list of types that holds its types' parts; no slice of nothings. -/
def okT (P : Program) (S : List TypeId) : Bool := S.all fun t => match P.underlying t with
  | some (.slice e) => S.contains e && decide (0 < P.cellsOf e)
  | some (.pointer e) => S.contains e
  | some (.struct fs) => fs.toList.all fun (f : Field) => S.contains f.type
  | some (.array _ e) => S.contains e
  | some (.map _ e) => S.contains e
  | _ => true

theorem okT_at {P : Program} {S : List TypeId} (h : okT P S = true) {t : TypeId} (ht : t ∈ S) {d : TypeDesc} (hd : P.underlying t = some d) :
    (∀ e, d = .slice e → e ∈ S ∧ 0 < P.cellsOf e) ∧ (∀ e, d = .pointer e → e ∈ S) ∧ (∀ fs, d = .struct fs → ∀ f ∈ fs.toList, f.type ∈ S) ∧ (∀ n e, d = .array n e → e ∈ S) ∧ (∀ k e, d = .map k e → e ∈ S) := by
  have h1 := List.all_eq_true.1 h t ht
  rw [hd] at h1
  refine ⟨?_, ?_, ?_, ?_, ?_⟩
  · intro e he; subst he; simpa using h1
  · intro e he; subst he; simpa using h1
  · intro fs he f hf; subst he
    have h2 := List.all_eq_true.1 h1 f hf
    simpa using h2
  · intro n e he; subst he; simpa using h1
  · intro k e he; subst he; simpa using h1

/-- Where spare places are looked at or not makes no difference where they lie in old memory. -/
theorem trod_spare {S : List TypeId} (hz : okT P S = true) {sp : Nat → Bool} {base : Nat} : ∀ (n : Nat) (t : TypeId) (cs : List Value) (x : DataW H × List MemPlace), t ∈ S →
    DataW.trod enc P W base (fun _ => true) true n t cs = some x → (∀ p ∈ x.2, sp p.block = true) → DataW.trod enc P W base sp true n t cs = some x := by
  intro n
  induction n with
  | zero => intro t cs x _ h; simp [DataW.trod] at h
  | succ n ih =>
    intro t cs x ht h hs
    rw [DataW.trod_step] at h ⊢
    unfold DataW.trodStep at h ⊢
    split at h
    case h_1 => exact h
    case h_2 => exact h
    case h_3 => exact h
    case h_4 => exact h
    case h_5 => exact h
    case h_6 e a hu =>
      have hS := (okT_at hz ht (by assumption)).2.1 e rfl
      simp only [Option.map_eq_some_iff, Option.bind_eq_some_iff] at h ⊢
      obtain ⟨y, ⟨cs', hc, hy⟩, rfl⟩ := h
      exact ⟨y, ⟨cs', hc, ih _ _ _ hS hy (fun p hp => hs p (by simp [hp]))⟩, rfl⟩
    case h_7 => exact h
    case h_8 e a len cap hu =>
      obtain ⟨hS, hpe⟩ := (okT_at hz ht (by assumption)).1 e rfl
      simp only [if_true] at h ⊢
      split at h
      · rename_i hc
        rw [if_pos hc]
        simp only [Option.map_eq_some_iff, Option.bind_eq_some_iff] at h ⊢
        obtain ⟨elems, he, rest, hrest, rfl⟩ := h
        have one : ∀ (i : Nat) (y : DataW H × List MemPlace), y ∈ elems ++ rest →
            (W.cells? base (a.add (i * P.cellsOf e)) (P.cellsOf e)).bind (DataW.trod enc P W base (fun _ => true) true n e) = some y → (W.cells? base (a.add (i * P.cellsOf e)) (P.cellsOf e)).bind (DataW.trod enc P W base sp true n e) = some y := by
          intro i y hy hv
          simp only [Option.bind_eq_some_iff] at hv ⊢
          obtain ⟨cs', hc', hy'⟩ := hv
          refine ⟨cs', hc', ih _ _ _ hS hy' (fun p hp => hs p ?_)⟩
          simp only [List.mem_append, List.mem_flatMap]
          exact .inr ⟨y, by simpa using hy, hp⟩
        refine ⟨elems, mapM_carry he (fun i y hi hy => one i y (by simp [hy])), rest, ?_, rfl⟩
        have hrl : rest.length = cap - len := by simpa using mapM_some_length hrest
        cases hsp : sp a.block with
        | true => rw [if_pos rfl]; exact mapM_carry hrest (fun j y hj hy => one (len + j) y (by simp [hy]))
        | false =>
          simp only [Bool.false_eq_true, if_false]
          by_cases h0 : cap - len = 0
          · have : rest = [] := List.eq_nil_of_length_eq_zero (by omega)
            rw [this]
          · exfalso
            have hpos : 0 < (elems.length + rest.length) * P.cellsOf e := Nat.mul_pos (by omega) hpe
            have := hs (.cell a.block (a.off + 0)) (List.mem_append_left _ (MemPlace.mem_row.2 ⟨0, hpos, rfl⟩))
            simp only [MemPlace.block] at this
            rw [hsp] at this; cases this
      · cases h
    case h_9 fs _ =>
      have hS := (okT_at hz ht (by assumption)).2.2.1 fs rfl
      split at h
      · rename_i hc
        rw [if_pos hc]
        simp only [Option.map_eq_some_iff] at h ⊢
        obtain ⟨xs, hx, rfl⟩ := h
        exact ⟨xs, mapM_carry hx (fun f y hf hy hv => ih _ _ _ (hS f hf) hv (fun p hp => hs p (List.mem_flatMap.2 ⟨y, hy, hp⟩))), rfl⟩
      · cases h
    case h_10 n e _ =>
      have hS := (okT_at hz ht (by assumption)).2.2.2.1 n e rfl
      split at h
      · rename_i hc
        rw [if_pos hc]
        simp only [Option.map_eq_some_iff] at h ⊢
        obtain ⟨xs, hx, rfl⟩ := h
        exact ⟨xs, mapM_carry hx (fun f y _ hy hv => ih _ _ _ hS hv (fun p hp => hs p (List.mem_flatMap.2 ⟨y, hy, hp⟩))), rfl⟩
      · cases h
    case h_11 => exact h
    case h_12 => exact h
    case h_13 => exact h
    case h_14 k e b _ =>
      have hS := (okT_at hz ht (by assumption)).2.2.2.2 k e rfl
      split at h
      · rename_i es clock hb
        split at h
        · rename_i hc
          simp only [Option.bind_eq_some_iff] at h
          obtain ⟨entries, he, hd⟩ := h
          split at hd
          · rename_i hris
            have hx := Option.some.inj hd
            subst hx
            simp only [if_pos hc, Option.bind_eq_some_iff]
            refine ⟨entries, mapM_carry he (fun x y _ hy hv => ?_), by simp [hris]⟩
            simp only [Option.bind_eq_some_iff] at hv ⊢
            obtain ⟨key, hk, hz⟩ := hv
            refine ⟨key, hk, ?_⟩
            split at hz
            · rename_i hf
              rw [if_pos hf]
              simp only [Option.map_eq_some_iff] at hz ⊢
              obtain ⟨q, hq, rfl⟩ := hz
              exact ⟨q, ih _ _ _ hS hq (fun p hp => hs p (by simp only [List.mem_cons, List.mem_flatMap]; right; exact ⟨_, hy, hp⟩)), rfl⟩
            · cases hz
          · cases hd
        · cases h
      · cases h
    case h_15 => exact h
    case h_16 => exact h
    case h_17 => exact h
    case h_18 => exact h
    case h_19 => exact h
    case h_20 => exact h
    case h_21 => cases h

theorem trodAll_below {S : List TypeId} (hz : okT P S = true) (hb : Below W.heap.size W W') {sp : Nat → Bool} : ∀ (ts : List TypeId) (vs : List Value) (ds : List (DataW H)) (ps : List MemPlace), (∀ t ∈ ts, t ∈ S) →
    DataW.TrodAll enc P W 0 (fun _ => true) true ts vs ds ps → (∀ p ∈ ps, sp p.block = true ∧ p.block < W.heap.size) → DataW.TrodAll enc P W' 0 sp true ts vs ds ps
  | [], [], [], ps, _, h, _ => h
  | t :: ts, v :: vs, d :: ds, ps, hS, h, hs => by
    obtain ⟨p, q, ⟨fuel, h1⟩, h2, rfl⟩ := h
    refine ⟨p, q, ⟨fuel, ?_⟩, trodAll_below hz hb ts vs ds q (fun x hx => hS x (List.mem_cons_of_mem _ hx)) h2 (fun x hx => hs x (List.mem_append_right _ hx)), rfl⟩
    exact DataW.trod_carry _ _ _ _ (trod_spare hz _ _ _ _ (hS t List.mem_cons_self) h1 (fun x hx => (hs x (List.mem_append_left _ hx)).1)) (fun x hx => hb.same (hs x (List.mem_append_left _ hx)).2)
  | [], _ :: _, _, _, _, h, _ => h.elim
  | [], [], _ :: _, _, _, h, _ => h.elim
  | _ :: _, [], _, _, _, h, _ => h.elim
  | _ :: _, _ :: _, [], _, _, h, _ => h.elim

/-- The row's word behind a call that returned true and turned nothing old. -/
theorem post_true {S : List TypeId} (hz : okT P S = true) {f : Func} (hS : ∀ t ∈ f.params.toList, t ∈ S) {s : ChangeSpec} {apart fresh handsOn again : Bool} {args : Array Value} {ds gs : List (DataW H)} {before : List MemPlace} {t : TypeId}
    (hW : DataW.Whole enc P f.params.toList s.vars apart W args.toList ds gs before) (hvars : s.vars = []) (hres : f.resultTypes = #[t]) (ht : P.underlying t = some .bool)
    (hfn : (s.fn H (ds ++ gs)).results = [.lit (.bool true)] ∧ (s.fn H (ds ++ gs)).args = ds ∧ (s.fn H (ds ++ gs)).vars = [])
    (hb : Below W.heap.size W W') : s.post enc P f apart fresh handsOn again W args (.bool true) W' := by
  have hlt := hW.lt
  have hW0 := hW
  obtain ⟨p, q, hp, hq, rfl, hfz, hnd⟩ := hW
  rw [hvars] at hq
  obtain ⟨rfl, rfl⟩ := trodVars_none hq
  simp only [List.append_nil] at hfn hlt hfz hnd hW0
  have hr : ∀ (b : Nat) (sp : Nat → Bool) (hd : Bool), DataW.TrodAll enc P W' b sp hd f.resultTypes.toList ((Value.bool true).resultList f.resultTypes.size) (s.fn H (ds ++ [])).results [] := by
    intro b sp hd
    rw [List.append_nil, hfn.1, hres]
    exact trodAll_mk1 (shut_bool ht true)
  have ha : ∀ sp : Nat → Bool, (∀ x ∈ p, sp x.block = true) → DataW.TrodAll enc P W' 0 sp true f.params.toList args.toList (s.fn H (ds ++ [])).args p := by
    intro sp hsp
    rw [List.append_nil, hfn.2.1]
    exact trodAll_below hz hb _ _ _ _ hS hp (fun x hx => ⟨hsp x hx, hlt x hx⟩)
  have hv : ∀ sp : Nat → Bool, DataW.TrodVars enc P W' sp s.vars (s.fn H (ds ++ [])).vars [] := by
    intro sp
    rw [List.append_nil, hfn.2.2, hvars]
    exact rfl
  refine ⟨ds, [], p, [], p, [], by simpa using hW0, hr _ _ _, ha _ (fun x hx => by simpa using hlt x hx), hv _, hb.frame _, fun _ => ?_⟩
  refine ⟨ok_one hres rfl (okWide_bool_mk ht _), _, _, ([] ++ p) ++ [], ⟨[] ++ p, [], trodAll_append (ha _ (fun _ _ => rfl)) (hr _ _ _), hv _, rfl, ?_, ?_⟩, ?_⟩
  · intro b off hx
    have hx : MemPlace.cell b off ∈ p := by simpa using hx
    rw [hb.frozen (hlt _ hx)]
    exact hfz b off hx
  · intro ha
    have := hnd ha
    simpa using this
  · intro x hx _
    simpa using hx

end
end Go.AL

/- The abstract layer, part 23: the rules of the computing, one for each operation and shape of its operands. -/
namespace Go.AL
open Go.RowKit

def gateV (v : AV) (w : Bool) (p q : Prop) : Prop := match v with
  | .bool b => if b = w then p else q
  | .tup [] => q
  | _ => False

def cellsS (o : Option AObj) (K : List AV → Prop) : Prop := match o with | some (.cells vs) => K vs | _ => False
def spareS (o : Option AObj) (K : Nat → Prop) : Prop := match o with | some (.spare e) => K e | _ => False
def mapS (o : Option AObj) (K : List (AV × AV) → Prop) : Prop := match o with | some (.map es) => K es | _ => False
def iterS (o : Option AObj) (K : List UInt8 → Nat → Prop) : Prop := match o with | some (.iter s p) => K s p | _ => False
def lookS (o : Option (Option AV)) (K : Option AV → Prop) : Prop := match o with | some r => K r | none => False
def listS {α : Type} (o : Option (List α)) (K : List α → Prop) : Prop := match o with | some r => K r | none => False
/-- Each way of a test is computed with what it knows. -/
@[congr] theorem iteP_congr {b c : Prop} {s : Decidable b} [Decidable c] {x y u v : Prop} (h1 : b = c) (h2 : c → x = u) (h3 : ¬ c → y = v) : @ite Prop b s x y = ite c u v := by
  subst h1
  by_cases h : b
  · rw [if_pos h, if_pos h, h2 h]
  · rw [if_neg h, if_neg h, h3 h]

/-- For every new number. -/
def freshS (H : Heap) (K : Nat → Prop) : Prop := ∀ id, id ∉ H.keys → K id
def otherS (ks : List Nat) (K : Nat → Nat → Prop) : Prop := ∀ id e, id ∉ ks → K id e
def otherM (ks : List Nat) (K : Nat → Prop) : Prop := ∀ id, id ∉ ks → K id

section
variable {G : Nat → Option (List AV)} {P : Program} {T : Tbl} {H H' : Heap} {K : AV → Heap → Prop}

@[congr] theorem gateV_congr {v v' : AV} {w : Bool} {p q : Prop} (h : v = v') : gateV v w p q = gateV v' w p q := by rw [h]
@[congr] theorem cellsS_congr {o o' : Option AObj} {K : List AV → Prop} (h : o = o') : cellsS o K = cellsS o' K := by rw [h]
@[congr] theorem spareS_congr {o o' : Option AObj} {K : Nat → Prop} (h : o = o') : spareS o K = spareS o' K := by rw [h]
@[congr] theorem mapS_congr {o o' : Option AObj} {K : List (AV × AV) → Prop} (h : o = o') : mapS o K = mapS o' K := by rw [h]
@[congr] theorem iterS_congr {o o' : Option AObj} {K : List UInt8 → Nat → Prop} (h : o = o') : iterS o K = iterS o' K := by rw [h]
@[congr] theorem lookS_congr {o o' : Option (Option AV)} {K : Option AV → Prop} (h : o = o') : lookS o K = lookS o' K := by rw [h]
@[congr] theorem listS_congr {α : Type} {o o' : Option (List α)} {K : List α → Prop} (h : o = o') : listS o K = listS o' K := by rw [h]
@[congr] theorem freshS_congr {K : Nat → Prop} (h : H = H') : freshS H K = freshS H' K := by rw [h]
@[congr] theorem otherS_congr {ks ks' : List Nat} {K : Nat → Nat → Prop} (h : ks = ks') : otherS ks K = otherS ks' K := by rw [h]
@[congr] theorem otherM_congr {ks ks' : List Nat} {K : Nat → Prop} (h : ks = ks') : otherM ks K = otherM ks' K := by rw [h]

theorem gate_none (σ : Env) (p q : Prop) : gate σ none p q = p := rfl
theorem gate_some (σ : Env) (t : Nat) (w : Bool) (p q : Prop) : gate σ (some (t, w)) p q = gateV (σ.get t) w p q := rfl
theorem gateV_bool (b w : Bool) (p q : Prop) : gateV (.bool b) w p q = if b = w then p else q := rfl
theorem gateV_tup (w : Bool) (p q : Prop) : gateV (.tup []) w p q = q := rfl
theorem condS_bool (b : Bool) (p q : Prop) : condS (.bool b) p q = if b = true then p else q := rfl
theorem cellsS_some (vs : List AV) (K : List AV → Prop) : cellsS (some (.cells vs)) K = K vs := rfl
theorem spareS_some (e : Nat) (K : Nat → Prop) : spareS (some (.spare e)) K = K e := rfl
theorem mapS_some (es : List (AV × AV)) (K : List (AV × AV) → Prop) : mapS (some (.map es)) K = K es := rfl
theorem iterS_some (s : List UInt8) (p : Nat) (K : List UInt8 → Nat → Prop) : iterS (some (.iter s p)) K = K s p := rfl
theorem lookS_some (r : Option AV) (K : Option AV → Prop) : lookS (some r) K = K r := rfl
theorem listS_some {α : Type} (r : List α) (K : List α → Prop) : listS (some r) K = K r := rfl

theorem run_nil (σ : Env) (K : Env → Heap → Prop) : runS G P T [] σ H K = K σ H := rfl
theorem run_cons (d : Option Nat) (op : AOp) (as : List Operand) (g : Option (Nat × Bool)) (l : List AOper) (σ : Env) (K : Env → Heap → Prop) :
    runS G P T (⟨d, op, as, g⟩ :: l) σ H K = gate σ g (effS G P T op (as.map (opE G σ)) H fun v H' => runS G P T l (σ.put d v) H' K) (runS G P T l (σ.put d .undef) H K) := rfl
theorem runI_nil (σ : Env) (K : Env → Heap → Prop) : runIS G P T [] σ H K = K σ H := rfl
theorem runI_cons (i : Nat) (d : Option Nat) (op : AOp) (as : List Operand) (g : Option (Nat × Bool)) (ob : List Nat) (l : List Item) (σ : Env) (K : Env → Heap → Prop) :
    runIS G P T (⟨i, ⟨d, op, as, g⟩, ob⟩ :: l) σ H K = gate σ g (effS G P T op (as.map (opE G σ)) H fun v H' => runIS G P T l (σ.put d v) H' K) (runIS G P T l (σ.put d .undef) H K) := rfl

theorem den_skip (σ : Env) (Q : Exit → Env → Heap → Prop) : denS G P T .skip σ H Q = Q .normal σ H := rfl
theorem den_run (ks : List Nat) (l : List AOper) (σ : Env) (Q : Exit → Env → Heap → Prop) : denS G P T (.run ks l) σ H Q = runS G P T l σ H fun σ' H' => Q .normal (σ'.keep ks) H' := rfl
theorem den_runD (ks : List Nat) (l : List Item) (σ : Env) (Q : Exit → Env → Heap → Prop) : denS G P T (.runD ks l) σ H Q = if noOb l = true then runIS G P T l σ H fun σ' H' => Q .normal (σ'.keep ks) H' else seqS G P T l [] σ H fun σ' H' => Q .normal (σ'.keep ks) H' := rfl
theorem den_seq (a b : ACode) (σ : Env) (Q : Exit → Env → Heap → Prop) : denS G P T (.seq a b) σ H Q = denS G P T a σ H (thenE (fun σ' H' => denS G P T b σ' H' Q) Q) := rfl
theorem den_cond (c : Operand) (a b : ACode) (σ : Env) (Q : Exit → Env → Heap → Prop) : denS G P T (.cond c a b) σ H Q = condS (opE G σ c) (denS G P T a σ H Q) (denS G P T b σ H Q) := rfl
theorem den_block (id : Nat) (b : ACode) (σ : Env) (Q : Exit → Env → Heap → Prop) : denS G P T (.block id b) σ H Q = denS G P T b σ H (blockE id Q) := rfl
theorem den_exit (id : Nat) (σ : Env) (Q : Exit → Env → Heap → Prop) : denS G P T (.exit id) σ H Q = Q (.exit id) σ H := rfl
theorem den_ret (σ : Env) (Q : Exit → Env → Heap → Prop) : denS G P T .ret σ H Q = Q .ret σ H := rfl
theorem then_normal (n : Env → Heap → Prop) (Q : Exit → Env → Heap → Prop) (σ : Env) : thenE n Q .normal σ H = n σ H := rfl
theorem then_exit (n : Env → Heap → Prop) (Q : Exit → Env → Heap → Prop) (id : Nat) (σ : Env) : thenE n Q (.exit id) σ H = Q (.exit id) σ H := rfl
theorem then_ret (n : Env → Heap → Prop) (Q : Exit → Env → Heap → Prop) (σ : Env) : thenE n Q .ret σ H = Q .ret σ H := rfl
theorem block_normal (id : Nat) (Q : Exit → Env → Heap → Prop) (σ : Env) : blockE id Q .normal σ H = Q .normal σ H := rfl
theorem block_exit (id id' : Nat) (Q : Exit → Env → Heap → Prop) (σ : Env) : blockE id Q (.exit id') σ H = if id' = id then Q .normal σ H else Q (.exit id') σ H := rfl
theorem block_ret (id : Nat) (Q : Exit → Env → Heap → Prop) (σ : Env) : blockE id Q .ret σ H = Q .ret σ H := rfl
theorem end_normal (K : Env → Heap → Prop) (σ : Env) : endE K .normal σ H = K σ H := rfl
theorem end_ret (K : Env → Heap → Prop) (σ : Env) : endE K .ret σ H = K σ H := rfl
theorem res_slot (σ : Env) (t : Nat) (rs : List ARes) (acc : List AV) : resS σ H K (.slot t :: rs) acc = resS σ H K rs (σ.get t :: acc) := rfl
theorem res_one (σ : Env) (v : AV) : resS σ H K [] [v] = K v H := rfl
theorem res_none (σ : Env) : resS σ H K [] [] = K (.tup []) H := rfl
theorem res_two (σ : Env) (v w : AV) : resS σ H K [] [v, w] = K (.tup [w, v]) H := rfl
theorem res_three (σ : Env) (v w x : AV) : resS σ H K [] [v, w, x] = K (.tup [x, w, v]) H := rfl
theorem denFS_mk (n a : Nat) (rs : List ARes) (body : ACode) (args : List AV) : denFS G P T ⟨n, a, rs, body⟩ args H K = (args.length ≤ n ∧ denS G P T body (params args) H (endE fun σ' H' => resS σ' H' K rs [])) := rfl

theorem opE_tmp (σ : Env) (t : Nat) : opE G σ (.tmp t) = σ.get t := rfl
theorem opE_int (σ : Env) (k : IntKind) (n : Int) : opE G σ (.const (.int k n)) = .int k n := rfl
theorem opE_bool (σ : Env) (b : Bool) : opE G σ (.const (.bool b)) = .bool b := rfl
theorem opE_str (σ : Env) (s : ByteArray) : opE G σ (.const (.string s)) = .str s.data.toList := rfl
theorem opE_nilp (σ : Env) : opE G σ (.const (.pointer none)) = .nilp := rfl
theorem opE_nils (σ : Env) : opE G σ (.const (.slice none 0 0)) = .sl [] .nil := rfl
theorem opE_nilm (σ : Env) : opE G σ (.const (.map none)) = .nilm := rfl
theorem opE_nili (σ : Env) : opE G σ (.const .nilIface) = .nili := rfl
theorem opE_nilf (σ : Env) : opE G σ (.const .nilFunc) = .nilf := rfl
theorem opE_func (σ : Env) (f : Nat) : opE G σ (.func f) = .fn (.func f) [] [] := rfl

theorem put_some (σ : Env) (t : Nat) (v : AV) : σ.put (some t) v = (t, v) :: σ := rfl
theorem put_none (σ : Env) (v : AV) : σ.put none v = σ := rfl
theorem get_cons (t s : Nat) (v : AV) (σ : Env) : Env.get ((t, v) :: σ) s = if s = t then v else Env.get σ s := rfl
theorem get_nil (s : Nat) : Env.get [] s = .any := rfl
theorem keep_nil (σ : Env) : σ.keep [] = [] := rfl
theorem keep_cons (σ : Env) (t : Nat) (ts : List Nat) : σ.keep (t :: ts) = (t, σ.get t) :: σ.keep ts := rfl
theorem params_go_nil (i : Nat) : params.go i [] = [] := rfl
theorem params_go_cons (i : Nat) (x : AV) (xs : List AV) : params.go i (x :: xs) = (i, x) :: params.go (i + 1) xs := rfl
theorem params_eq (xs : List AV) : params xs = params.go 0 xs := rfl

theorem e_call (f : Nat) (xs : List AV) : effS G P T (.call f) xs H K = callS G P T f xs H K := rfl
theorem e_callv (f : Nat) (a b ys : List AV) : effS G P T .callv (.fn (.func f) a b :: ys) H K = callS G P T f (a ++ ys ++ b) H K := rfl
theorem e_mv (x : AV) : effS G P T .mv [x] H K = K x H := rfl
theorem e_pick (b : Bool) (x y : AV) : effS G P T .pick [.bool b, x, y] H K = K (if b = true then x else y) H := rfl
theorem e_nilck1 (a b : Nat) : effS G P T .nilck [.ptr a b] H K = K (.ptr a b) H := rfl
theorem e_nilck2 (cs : List AV) : effS G P T .nilck [.iptr cs] H K = K (.iptr cs) H := rfl
theorem e_nilck3 (f : Nat) (a b : List AV) : effS G P T .nilck [.fn (.func f) a b] H K = K (.fn (.func f) a b) H := rfl
theorem e_faddr1 (o a b : Nat) : effS G P T (.faddr o) [.ptr a b] H K = K (.ptr a (b + o)) H := rfl
theorem e_faddr2 (o : Nat) (cs : List AV) : effS G P T (.faddr o) [.iptr cs] H K = K (.iptr (cs.drop o)) H := rfl
theorem e_iaddr1 (sz : Nat) (xs : List AV) (t : Tok) (k : IntKind) (i : Int) : effS G P T (.iaddr sz) [.sl xs t, .int k i] H K = (0 ≤ i ∧ ∃ y, xs[i.toNat]? = some y ∧ y.cells.length = sz ∧ K (.iptr y.cells) H) := by
  show optS (match xs[i.toNat]? with | some y => if 0 ≤ i ∧ y.cells.length = sz then some (.iptr y.cells) else none | none => none) _ = _
  cases xs[i.toNat]? with
  | none => simp [optS]
  | some y => by_cases h1 : 0 ≤ i <;> by_cases h2 : y.cells.length = sz <;> simp [optS, h1, h2]
theorem e_iaddr2 (sz a b n s : Nat) (k : IntKind) (i : Int) : effS G P T (.iaddr sz) [.msl a b n s, .int k i] H K = ((s = sz ∧ 0 ≤ i ∧ i < n) ∧ K (.ptr a (b + i.toNat * sz)) H) := optS_ite _ _ _
theorem e_aaddr1 (sz n a b : Nat) (k : IntKind) (i : Int) : effS G P T (.aaddr sz n) [.ptr a b, .int k i] H K = ((0 ≤ i ∧ i < n) ∧ K (.ptr a (b + i.toNat * sz)) H) := optS_ite _ _ _
theorem e_aaddr2 (sz n : Nat) (cs : List AV) (k : IntKind) (i : Int) : effS G P T (.aaddr sz n) [.iptr cs, .int k i] H K = ((0 ≤ i ∧ i < n) ∧ K (.iptr (cs.drop (i.toNat * sz))) H) := optS_ite _ _ _
theorem e_ldi1 (sz : Nat) (cs : List AV) : effS G P T (.ld false sz) [.iptr cs] H K = optS cs[0]? fun v => K v H := rfl
theorem e_ldi2 (sz : Nat) (cs : List AV) : effS G P T (.ld true sz) [.iptr cs] H K = (sz ≤ cs.length ∧ K (.agg (cs.take sz)) H) := optS_ite _ _ _
theorem e_ldp1 (sz id off : Nat) : effS G P T (.ld false sz) [.ptr id off] H K = cellsS (lookH id H) fun vs => optS vs[off]? fun v => K v H := by
  show (match lookH id H with | some (.cells vs) => _ | _ => False) = _
  cases lookH id H with
  | none => rfl
  | some o => cases o <;> rfl
theorem e_ldp2 (sz id off : Nat) : effS G P T (.ld true sz) [.ptr id off] H K = cellsS (lookH id H) fun vs => off + sz ≤ vs.length ∧ K (.agg ((vs.drop off).take sz)) H := by
  show (match lookH id H with | some (.cells vs) => _ | _ => False) = _
  cases lookH id H with
  | none => rfl
  | some o => cases o <;> rfl
theorem e_build (z : List AV) (pl : List (Nat × Nat)) (xs : List AV) : effS G P T (.build z pl) xs H K = listS (fillL z pl xs) fun cs => K (.agg cs) H := by
  show quietS (.build z pl) xs H _ = _
  have : quietS (.build z pl) xs H (fun v => K v H) = optS ((fillL z pl xs).map .agg) fun v => K v H := by cases xs <;> rfl
  rw [this]; cases fillL z pl xs <;> rfl
theorem e_fld1 (off sz : Nat) (cs : List AV) : effS G P T (.fld false off sz) [.agg cs] H K = optS cs[off]? fun v => K v H := rfl
theorem e_fld2 (off sz : Nat) (cs : List AV) : effS G P T (.fld true off sz) [.agg cs] H K = K (.agg ((cs.drop off).take sz)) H := rfl
theorem e_ixs (s : List UInt8) (k : IntKind) (i : Int) : effS G P T .ixs [.str s, .int k i] H K = (0 ≤ i ∧ ∃ b, s[i.toNat]? = some b ∧ K (byteAV b) H) := by
  show optS (if 0 ≤ i then (s[i.toNat]?).map byteAV else none) _ = _
  by_cases h : 0 ≤ i
  · rw [if_pos h, optS_map]; simp [h]
  · rw [if_neg h]; simp [h, optS]
theorem e_ixa1 (sz n : Nat) (cs : List AV) (k : IntKind) (i : Int) : effS G P T (.ixa false sz n) [.agg cs, .int k i] H K = ((0 ≤ i ∧ i < n) ∧ optS cs[i.toNat * sz]? fun v => K v H) := by
  show optS (if 0 ≤ i ∧ i < n then _ else none) _ = _
  by_cases h : 0 ≤ i ∧ i < n
  · rw [if_pos h]; simp [h]
  · rw [if_neg h]; simp [h, optS]

theorem e_add (k : IntKind) (a b : Int) : effS G P T (.bin .add) [.int k a, .int k b] H K = K (.int k (k.wrap (a + b))) H := by simp [effS, AOp.quiet, quietS, pureF, binF, optS]
theorem e_sub (k : IntKind) (a b : Int) : effS G P T (.bin .sub) [.int k a, .int k b] H K = K (.int k (k.wrap (a - b))) H := by simp [effS, AOp.quiet, quietS, pureF, binF, optS]
theorem e_mul (k : IntKind) (a b : Int) : effS G P T (.bin .mul) [.int k a, .int k b] H K = K (.int k (k.wrap (a * b))) H := by simp [effS, AOp.quiet, quietS, pureF, binF, optS]
theorem e_quo (k : IntKind) (a b : Int) : effS G P T (.bin .quo) [.int k a, .int k b] H K = (b ≠ 0 ∧ K (.int k (k.wrap (a.tdiv b))) H) := by by_cases h : b = 0 <;> simp [effS, AOp.quiet, quietS, pureF, binF, optS, h]
theorem e_rem (k : IntKind) (a b : Int) : effS G P T (.bin .rem) [.int k a, .int k b] H K = (b ≠ 0 ∧ K (.int k (a.tmod b)) H) := by by_cases h : b = 0 <;> simp [effS, AOp.quiet, quietS, pureF, binF, optS, h]
theorem e_lss (k : IntKind) (a b : Int) : effS G P T (.bin .lss) [.int k a, .int k b] H K = K (.bool (decide (a < b))) H := by simp [effS, AOp.quiet, quietS, pureF, binF, optS]
theorem e_leq (k : IntKind) (a b : Int) : effS G P T (.bin .leq) [.int k a, .int k b] H K = K (.bool (decide (a ≤ b))) H := by simp [effS, AOp.quiet, quietS, pureF, binF, optS]
theorem e_gtr (k : IntKind) (a b : Int) : effS G P T (.bin .gtr) [.int k a, .int k b] H K = K (.bool (decide (b < a))) H := by simp [effS, AOp.quiet, quietS, pureF, binF, optS]
theorem e_geq (k : IntKind) (a b : Int) : effS G P T (.bin .geq) [.int k a, .int k b] H K = K (.bool (decide (b ≤ a))) H := by simp [effS, AOp.quiet, quietS, pureF, binF, optS]
theorem e_and (k : IntKind) (a b : Int) : effS G P T (.bin .and) [.int k a, .int k b] H K = K (.int k (intB .and k a b)) H := by simp [effS, AOp.quiet, quietS, pureF, binF, optS]
theorem e_or (k : IntKind) (a b : Int) : effS G P T (.bin .or) [.int k a, .int k b] H K = K (.int k (intB .or k a b)) H := by simp [effS, AOp.quiet, quietS, pureF, binF, optS]
theorem e_xor (k : IntKind) (a b : Int) : effS G P T (.bin .xor) [.int k a, .int k b] H K = K (.int k (intB .xor k a b)) H := by simp [effS, AOp.quiet, quietS, pureF, binF, optS]
theorem e_shl (k k' : IntKind) (a b : Int) : effS G P T (.bin .shl) [.int k a, .int k' b] H K = (¬ b < 0 ∧ K (.int k (k.wrap (a * 2 ^ (Nat.min b.toNat k.bits)))) H) := by by_cases h : b < 0 <;> simp [effS, AOp.quiet, quietS, pureF, binF, optS, h]
theorem e_shr (k k' : IntKind) (a b : Int) : effS G P T (.bin .shr) [.int k a, .int k' b] H K = (¬ b < 0 ∧ K (.int k (a.fdiv (2 ^ (Nat.min b.toNat k.bits)))) H) := by by_cases h : b < 0 <;> simp [effS, AOp.quiet, quietS, pureF, binF, optS, h]
theorem e_cat (a b : List UInt8) : effS G P T (.bin .add) [.str a, .str b] H K = (a.length + b.length ≤ maxLen ∧ K (.str (a ++ b)) H) := by by_cases h : a.length + b.length ≤ maxLen <;> simp [effS, AOp.quiet, quietS, pureF, binF, optS, h]
theorem e_eqb (neg : Bool) (a b : Bool) : effS G P T (.eqg neg 0) [.bool a, .bool b] H K = K (.bool (neg != decide (a = b))) H := rfl
theorem e_eqi (neg : Bool) (k : IntKind) (a b : Int) : effS G P T (.eqg neg 6) [.int k a, .int k b] H K = K (.bool (neg != decide (a = b))) H := by simp [effS, AOp.quiet, quietS, pureF, AV.eqK, AV.same, optS]
theorem e_eqt (neg : Bool) (a b : List UInt8) : effS G P T (.eqg neg 6) [.str a, .str b] H K = K (.bool (neg != decide (a = b))) H := rfl
theorem e_eqp0 (neg : Bool) : effS G P T (.eqg neg 1) [.nilp, .nilp] H K = K (.bool (neg != true)) H := rfl
theorem e_eqp1 (neg : Bool) (a b : Nat) : effS G P T (.eqg neg 1) [.ptr a b, .nilp] H K = K (.bool (neg != false)) H := rfl
theorem e_eqp2 (neg : Bool) (cs : List AV) : effS G P T (.eqg neg 1) [.iptr cs, .nilp] H K = K (.bool (neg != false)) H := rfl
theorem e_eqs1 (neg : Bool) (xs : List AV) (t : Tok) : effS G P T (.eqg neg 2) [.sl xs t, .sl [] .nil] H K = K (.bool (neg != decide (t = .nil))) H := rfl
theorem e_eqs2 (neg : Bool) (a b c d : Nat) : effS G P T (.eqg neg 2) [.msl a b c d, .sl [] .nil] H K = K (.bool (neg != false)) H := rfl
theorem e_eqm0 (neg : Bool) : effS G P T (.eqg neg 3) [.nilm, .nilm] H K = K (.bool (neg != true)) H := rfl
theorem e_eqm1 (neg : Bool) (a : Nat) : effS G P T (.eqg neg 3) [.map a, .nilm] H K = K (.bool (neg != false)) H := rfl
theorem e_eqf0 (neg : Bool) : effS G P T (.eqg neg 4) [.nilf, .nilf] H K = K (.bool (neg != true)) H := rfl
theorem e_eqf1 (neg : Bool) (f : Fn) (a b : List AV) : effS G P T (.eqg neg 4) [.fn f a b, .nilf] H K = K (.bool (neg != false)) H := rfl
theorem e_eqn1 (neg : Bool) (t : TypeId) (v : AV) : effS G P T (.eqg neg 5) [.iface t v, .nili] H K = K (.bool (neg != false)) H := rfl
theorem e_not (b : Bool) : effS G P T (.un .not) [.bool b] H K = K (.bool (!b)) H := rfl
theorem e_neg (k : IntKind) (n : Int) : effS G P T (.un .neg) [.int k n] H K = K (.int k (k.wrap (0 - n))) H := rfl
theorem e_compl (k : IntKind) (n : Int) : effS G P T (.un .xor) [.int k n] H K = K (.int k (intB .xor k (if k.signed then -1 else k.max) n)) H := rfl
theorem e_cvi (k k' : IntKind) (n : Int) : effS G P T (.cvi k) [.int k' n] H K = K (.int k (k.wrap n)) H := rfl
theorem e_cvs (s : List UInt8) : effS G P T .cvs [.str s] H K = K (.str s) H := rfl
theorem e_cvb1 (xs : List AV) (t : Tok) : effS G P T .cvb [.sl xs t] H K = listS (bytesOf xs) fun b => K (.str b) H := by
  show optS ((bytesOf xs).map .str) _ = _
  cases bytesOf xs <;> rfl
theorem e_cvb2 (id off n s : Nat) : effS G P T .cvb [.msl id off n s] H K = (s = 1 ∧ cellsS (lookH id H) fun vs => off + n ≤ vs.length ∧ listS (bytesOf ((vs.drop off).take n)) fun b => K (.str b) H) := by
  show (s = 1 ∧ match lookH id H with | some (.cells vs) => _ | _ => False) = _
  cases lookH id H with
  | none => rfl
  | some o =>
    cases o with
    | cells vs => simp only [cellsS, listS]; cases bytesOf (List.take n (List.drop off vs)) <;> rfl
    | _ => rfl
theorem e_cvc (k : IntKind) (n : Int) : effS G P T .cvc [.int k n] H K = K (.str (Utf8.encode n).data.toList) H := rfl
theorem e_slc0 (lo hi : Bool) (s : List UInt8) (bs : List AV) (l h : Nat) (hb : boundsF lo hi s.length bs = some (l, h)) : effS G P T (.slc 0 lo hi) (.str s :: bs) H K = K (.str ((s.take h).drop l)) H := by
  show optS ((if 0 = 0 then (boundsF lo hi s.length bs).map _ else none)) _ = _
  rw [if_pos rfl, hb]; rfl
def boundsS (lo hi : Bool) (len : Nat) (bs : List AV) (K : Nat → Nat → Prop) : Prop := match boundsF lo hi len bs with | some (l, h) => K l h | none => False
theorem e_slcs (lo hi : Bool) (s : List UInt8) (bs : List AV) : effS G P T (.slc 0 lo hi) (.str s :: bs) H K = boundsS lo hi s.length bs fun l h => K (.str ((s.take h).drop l)) H := by
  show optS ((if 0 = 0 then (boundsF lo hi s.length bs).map _ else none)) _ = _
  rw [if_pos rfl, boundsS]; cases boundsF lo hi s.length bs <;> rfl
theorem e_slcl (sz : Nat) (lo hi : Bool) (xs : List AV) (t : Tok) (bs : List AV) : effS G P T (.slc sz lo hi) (.sl xs t :: bs) H K = ((0 < sz ∧ AllSz sz xs) ∧ boundsS lo hi xs.length bs fun l h => K (.sl ((xs.take h).drop l) (if h = xs.length then t else .no)) H) := by
  show optS ((if 0 < sz ∧ AllSz sz xs then (boundsF lo hi xs.length bs).map _ else none)) _ = _
  by_cases h : 0 < sz ∧ AllSz sz xs
  · rw [if_pos h, boundsS]
    cases boundsF lo hi xs.length bs with
    | none => simp [optS]
    | some p => simp [optS, h]
  · rw [if_neg h]; simp [optS, h]
theorem e_slcm (sz : Nat) (lo hi : Bool) (id off n s : Nat) (bs : List AV) : effS G P T (.slc sz lo hi) (.msl id off n s :: bs) H K = ((0 < sz ∧ s = sz) ∧ boundsS lo hi n bs fun l h => K (.msl id (off + l * sz) (h - l) sz) H) := by
  show optS ((if 0 < sz ∧ s = sz then (boundsF lo hi n bs).map _ else none)) _ = _
  by_cases h : 0 < sz ∧ s = sz
  · rw [if_pos h, boundsS]
    cases boundsF lo hi n bs with
    | none => simp [optS]
    | some p => simp [optS, h]
  · rw [if_neg h]; simp [optS, h]
@[congr] theorem boundsS_congr {lo hi : Bool} {n n' : Nat} {bs bs' : List AV} {K : Nat → Nat → Prop} (h1 : n = n') (h2 : bs = bs') : boundsS lo hi n bs K = boundsS lo hi n' bs' K := by rw [h1, h2]
theorem b_two (k k' : IntKind) (l h : Int) (n : Nat) (K : Nat → Nat → Prop) : boundsS true true n [.int k l, .int k' h] K = ((0 ≤ l ∧ l ≤ h ∧ h ≤ n) ∧ K l.toNat h.toNat) := by
  simp only [boundsS, boundsF, true_and]
  by_cases c : 0 ≤ l ∧ l ≤ h ∧ h ≤ n
  · rw [if_pos c]; simp [c]
  · rw [if_neg c]; simp [c]
theorem b_lo (k : IntKind) (l : Int) (n : Nat) (K : Nat → Nat → Prop) : boundsS true false n [.int k l] K = ((0 ≤ l ∧ l ≤ n) ∧ K l.toNat n) := by
  simp only [boundsS, boundsF]
  by_cases c : 0 ≤ l ∧ l ≤ n
  · simp [c]
  · simp [c]
theorem b_hi (k : IntKind) (h : Int) (n : Nat) (K : Nat → Nat → Prop) : boundsS false true n [.int k h] K = ((0 ≤ h ∧ h ≤ n) ∧ K 0 h.toNat) := by
  simp only [boundsS, boundsF]
  by_cases c : 0 ≤ h ∧ h ≤ n
  · simp [c]
  · simp [c]
theorem b_no (n : Nat) (K : Nat → Nat → Prop) : boundsS false false n [] K = K 0 n := by simp [boundsS, boundsF]
theorem e_mkif (t : TypeId) (x : AV) (h : x ≠ .any) : effS G P T (.mkif t) [x] H K = K (.iface t x) H := by
  cases x <;> first | rfl | exact absurd rfl h
theorem e_mkfn (f : Fn) (n : Nat) (xs : List AV) : effS G P T (.mkfn f n) xs H K = (n ≤ xs.length ∧ K (.fn f (xs.take n) (xs.drop n)) H) := by
  have : effS G P T (.mkfn f n) xs H K = optS (if n ≤ xs.length then some (.fn f (xs.take n) (xs.drop n)) else none) fun v => K v H := by cases xs <;> rfl
  rw [this, optS_ite]
theorem e_ext (i : Nat) (vs : List AV) : effS G P T (.ext i) [.tup vs] H K = optS vs[i]? fun v => K v H := rfl
theorem e_lens (s : List UInt8) : effS G P T (.len 0) [.str s] H K = K (.int .i64 s.length) H := rfl
theorem e_lenl (xs : List AV) (t : Tok) : effS G P T (.len 1) [.sl xs t] H K = K (.int .i64 xs.length) H := rfl
theorem e_lenm (a b n s : Nat) : effS G P T (.len 1) [.msl a b n s] H K = K (.int .i64 n) H := rfl
theorem e_len0 : effS G P T (.len 2) [.nilm] H K = K (.int .i64 0) H := rfl
theorem e_lenp (id : Nat) : effS G P T (.len 2) [.map id] H K = mapS (lookH id H) fun es => K (.int .i64 es.length) H := by
  show (match lookH id H with | some (.map es) => _ | _ => False) = _
  cases lookH id H with
  | none => rfl
  | some o => cases o <;> rfl
theorem e_min (k k' : IntKind) (a b : Int) : effS G P T .min [.int k a, .int k' b] H K = K (.int k (if b < a then b else a)) H := rfl
theorem e_max (k k' : IntKind) (a b : Int) : effS G P T .max [.int k a, .int k' b] H K = K (.int k (if b > a then b else a)) H := rfl
theorem e_tas1 (t u : TypeId) (z v : AV) : effS G P T (.tas (some t) z true) [.iface u v] H K = if u = t then K (.tup [v, .bool true]) H else K (.tup [z, .bool false]) H := by
  by_cases h : u = t <;> simp [effS, AOp.quiet, quietS, pureF, optS, h]
theorem e_tas2 (t : TypeId) (z : AV) : effS G P T (.tas (some t) z true) [.nili] H K = K (.tup [z, .bool false]) H := rfl
theorem e_tas3 (t : TypeId) (z v : AV) : effS G P T (.tas (some t) z false) [.iface t v] H K = K v H := by simp [effS, AOp.quiet, quietS, pureF, optS]
theorem e_lkp0 (kd : Nat) (z : AV) (ok : Bool) (k : AV) : effS G P T (.lkp kd z ok) [.nilm, k] H K = ((k.kindN = kd ∧ kd ≤ 2) ∧ K (foundA z ok none) H) := optS_ite _ _ _
theorem e_lkp1 (kd : Nat) (z : AV) (ok : Bool) (id : Nat) (k : AV) : effS G P T (.lkp kd z ok) [.map id, k] H K = mapS (lookH id H) fun es => k.kindN = kd ∧ kd ≤ 2 ∧ lookS (lookA k es) fun r => K (foundA z ok r) H := by
  show (match lookH id H with | some (.map es) => _ | _ => False) = _
  cases lookH id H with
  | none => rfl
  | some o =>
    cases o with
    | map es => simp only [mapS, lookS] <;> (try (cases lookA k es <;> rfl))
    | _ => rfl

theorem e_st (sz id off : Nat) (x : AV) : effS G P T (.st sz) [.ptr id off, x] H K = cellsS (lookH id H) fun vs => (0 < sz ∧ x.cells.length = sz ∧ off + sz ≤ vs.length) ∧ K .undef (setH id (.cells (splice vs off x.cells)) H) := by
  show (match lookH id H with | some (.cells vs) => _ | _ => False) = _
  cases lookH id H with
  | none => rfl
  | some o =>
    cases o with
    | cells vs => simp only [cellsS, and_assoc]
    | _ => rfl
theorem e_box (x : AV) : effS G P T .box [x] H K = (0 < x.cells.length ∧ freshS H fun id => K (.ptr id 0) ((id, .cells x.cells) :: H)) := rfl
theorem e_alloc (z : List AV) : effS G P T (.alloc z) [] H K = freshS H fun id => K (.ptr id 0) ((id, .cells z) :: H) := rfl
theorem e_rawal (t : TypeId) : effS G P T (.rawal t) [] H K = freshS H fun id => K (.ptr id 0) ((id, .raw t [.pointer none, .slice none 0 0]) :: H) := rfl
theorem e_bslice1 (n : Nat) (z : List AV) (pl : List (Nat × Nat)) (xs : List AV) : effS G P T (.bslice 1 n z pl) xs H K = listS (fillL ((List.replicate n z).flatten) pl xs) fun cs =>
    if (isU8 z && n != 0) = true then (freshS H fun id => K (.msl id 0 n 1) ((id, .cells cs) :: H)) else ((freshS H fun id => K (.msl id 0 n 1) ((id, .cells cs) :: H)) ∨ ((AllSz 1 cs ∧ cs.length = n ∧ flat cs = cs) ∧ freshS H fun id => K (.sl cs (.at id n 1)) ((id, .spare n) :: H))) := by
  have : effS G P T (.bslice 1 n z pl) xs H K = loudS (.bslice 1 n z pl) xs H K := rfl
  rw [this]
  have : loudS (.bslice 1 n z pl) xs H K = match fillL ((List.replicate n z).flatten) pl xs with
    | some cs => if 1 = 1 then (if isU8 z && n != 0 then (∀ id, id ∉ H.keys → K (.msl id 0 n 1) ((id, .cells cs) :: H))
          else (∀ id, id ∉ H.keys → K (.msl id 0 n 1) ((id, .cells cs) :: H)) ∨ ((AllSz 1 cs ∧ cs.length = n ∧ flat cs = cs) ∧ ∀ id, id ∉ H.keys → K (.sl cs (.at id n 1)) ((id, .spare n) :: H)))
        else (∀ id, id ∉ H.keys → K (.msl id 0 n 1) ((id, .cells cs) :: H)) ∨
         (∃ ys, AllSz 1 ys ∧ ys.length = n ∧ flat ys = cs ∧ ∀ id, id ∉ H.keys → K (.sl ys (.at id (n * 1) 1)) ((id, .spare (n * 1)) :: H))
    | none => False := by cases xs <;> rfl
  rw [this]
  cases fillL ((List.replicate n z).flatten) pl xs with
  | none => rfl
  | some cs => simp only [if_true, listS, freshS]
theorem e_sb (s : List UInt8) : effS G P T .sb [.str s] H K = (s.length ≤ maxLen ∧ freshS H fun id => K (.msl id 0 s.length 1) ((id, .cells (bytesAV s)) :: H)) := rfl
theorem e_cvm (id n s : Nat) : effS G P T .cvm [.msl id 0 n s] H K = ((s = 1 ∧ 0 < n) ∧ cellsS (lookH id H) fun vs => (n = vs.length ∧ AllSz 1 vs ∧ flat vs = vs) ∧ K (.sl vs (.at id n 1)) (setH id (.spare n) H)) := by
  show (s = 1 ∧ 0 < n ∧ match lookH id H with | some (.cells vs) => _ | _ => False) = _
  cases lookH id H with
  | none => simp [cellsS]
  | some o =>
    cases o with
    | cells vs => simp only [cellsS, and_assoc]
    | _ => simp [cellsS]
theorem e_mksl (sz bytes : Nat) (z : List AV) (k k' : IntKind) (n c : Int) : effS G P T (.mksl sz bytes z) [.int k n, .int k' c] H K = ((0 ≤ n ∧ n ≤ c ∧ c ≤ maxLen ∧ bytes * c ≤ 281474976710656) ∧ freshS H fun id => K (.msl id 0 n.toNat sz) ((id, .cells ((List.replicate n.toNat z).flatten)) :: H)) := by
  show (0 ≤ n ∧ n ≤ c ∧ c ≤ maxLen ∧ bytes * c ≤ 281474976710656 ∧ _) = _
  simp only [and_assoc, freshS]
theorem e_slp (sz n : Nat) (lo hi : Bool) (id off : Nat) (bs : List AV) : effS G P T (.slp sz n lo hi) (.ptr id off :: bs) H K = cellsS (lookH id H) fun vs => off + n * sz ≤ vs.length ∧ boundsS lo hi n bs fun l h => K (.msl id (off + l * sz) (h - l) sz) H := by
  show (match lookH id H with | some (.cells vs) => _ | _ => False) = _
  cases lookH id H with
  | none => rfl
  | some o =>
    cases o with
    | cells vs => simp only [cellsS, boundsS]
    | _ => rfl
theorem e_mkmap : effS G P T .mkmap [] H K = freshS H fun id => K (.map id) ((id, .map []) :: H) := rfl
theorem e_mup (kd id : Nat) (k v : AV) : effS G P T (.mup kd) [.map id, k, v] H K = mapS (lookH id H) fun es => (k.kindN = kd ∧ kd ≤ 2 ∧ v ≠ .any) ∧ listS (updA k v es) fun es' => K .undef (setH id (.map es') H) := by
  show (match lookH id H with | some (.map es) => _ | _ => False) = _
  cases lookH id H with
  | none => rfl
  | some o =>
    cases o with
    | map es => simp only [mapS, and_assoc, listS]; cases updA k v es <;> rfl
    | _ => rfl
theorem e_rngs (s : List UInt8) : effS G P T .rngs [.str s] H K = freshS H fun id => K (.ptr id 0) ((id, .iter s 0) :: H) := rfl
theorem e_nxts (id : Nat) : effS G P T .nxts [.ptr id 0] H K = iterS (lookH id H) fun s pos => if pos < s.length then K (.tup [.bool true, .int .i64 pos, .int .i32 (Utf8.decode ⟨s.toArray⟩ pos).1]) (setH id (.iter s (pos + (Utf8.decode ⟨s.toArray⟩ pos).2)) H) else K (.tup [.bool false]) H := by
  show (match lookH id H with | some (.iter s pos) => _ | _ => False) = _
  cases lookH id H with
  | none => rfl
  | some o => cases o <;> rfl
theorem e_appnil (sz bytes : Nat) (x : AV) : effS G P T (.app sz bytes) [.sl [] .nil, x] H K = (0 < sz ∧ srcS sz x H fun ys => (ys.length ≤ maxLen ∧ ys.length * bytes ≤ 140737488355328) ∧ (ys = [] → K (.sl [] .nil) H) ∧ (ys ≠ [] → (∀ id e, id ∉ H.keys → K (.sl ys (.at id e sz)) ((id, .spare e) :: H)) ∨ (∀ id, id ∉ H.keys → K (.msl id 0 ys.length sz) ((id, .cells (flat ys)) :: H)))) := by
  show (0 < sz ∧ srcS sz x H fun ys => AllSz sz [] ∧ [].length + ys.length ≤ maxLen ∧ _ ∧ _) = _
  congr 2
  funext ys
  simp [AllSz, and_assoc]
theorem e_appat (sz bytes : Nat) (xs : List AV) (b e s : Nat) (x : AV) : effS G P T (.app sz bytes) [.sl xs (.at b e s), x] H K = (0 < sz ∧ srcS sz x H fun ys => (AllSz sz xs ∧ xs.length + ys.length ≤ maxLen ∧ (xs.length + ys.length) * bytes ≤ 140737488355328) ∧ s = sz ∧ spareS (lookH b H) fun e0 => (e0 = e ∧ b ∉ othK b H) ∧ otherS (othK b H) fun id e' => K (.sl (xs ++ ys) (.at id e' sz)) (renH b id (.spare e') H)) := by
  show (0 < sz ∧ srcS sz x H fun ys => AllSz sz xs ∧ xs.length + ys.length ≤ maxLen ∧ _ ∧ s = sz ∧ match lookH b H with | some (.spare e0) => _ | _ => False) = _
  congr 2
  funext ys
  cases lookH b H with
  | none => simp [spareS]
  | some o =>
    cases o with
    | spare e0 => simp only [spareS, and_assoc, otherS]
    | _ => simp [spareS]
theorem e_appm (sz bytes : Nat) (b n s : Nat) (x : AV) : effS G P T (.app sz bytes) [.msl b 0 n s, x] H K = (0 < sz ∧ srcS sz x H fun ys => (s = sz ∧ n + ys.length ≤ maxLen ∧ (n + ys.length) * bytes ≤ 140737488355328) ∧ cellsS (lookH b H) fun vs => (vs.length = n * sz ∧ b ∉ othK b H) ∧ otherM (othK b H) fun id => K (.msl id 0 (n + ys.length) sz) (renH b id (.cells (vs ++ flat ys)) H)) := by
  show (0 < sz ∧ srcS sz x H fun ys => s = sz ∧ n + ys.length ≤ maxLen ∧ _ ∧ match lookH b H with | some (.cells vs) => _ | _ => False) = _
  congr 2
  funext ys
  cases lookH b H with
  | none => simp [cellsS]
  | some o =>
    cases o with
    | cells vs => simp only [cellsS, and_assoc, otherM]
    | _ => simp [cellsS]
theorem e_cpym (sz : Nat) (id off n s : Nat) (x : AV) : effS G P T (.cpy sz) [.msl id off n s, x] H K = srcS sz x H fun ys => s = sz ∧ cellsS (lookH id H) fun vs => off + n * sz ≤ vs.length ∧ K (.int .i64 (Nat.min ys.length n : Nat)) (setH id (.cells (splice vs off (flat (ys.take n)))) H) := by
  show (srcS sz x H fun ys => s = sz ∧ match lookH id H with | some (.cells vs) => _ | _ => False) = _
  congr 1
theorem e_clrm (sz : Nat) (z : List AV) (id off n s : Nat) : effS G P T (.clr sz z) [.msl id off n s] H K = (s = sz ∧ cellsS (lookH id H) fun vs => off + n * sz ≤ vs.length ∧ K (.tup []) (setH id (.cells (splice vs off (List.replicate n z).flatten)) H)) := by
  show (s = sz ∧ match lookH id H with | some (.cells vs) => _ | _ => False) = _
  congr 1
theorem e_clr0 (sz : Nat) (z : List AV) (t : Tok) : effS G P T (.clr sz z) [.sl [] t] H K = K (.tup []) H := rfl
theorem e_cpy0 (sz : Nat) (t : Tok) (x : AV) : effS G P T (.cpy sz) [.sl [] t, x] H K = srcS sz x H fun _ => K (.int .i64 0) H := rfl
theorem src_sl (sz : Nat) (xs : List AV) (t : Tok) (K : List AV → Prop) : srcS sz (.sl xs t) H K = (AllSz sz xs ∧ K xs) := rfl
theorem src_str (s : List UInt8) (K : List AV → Prop) : srcS 1 (.str s) H K = K (bytesAV s) := by simp [srcS]
theorem src_msl1 (id off n s : Nat) (K : List AV → Prop) : srcS 1 (.msl id off n s) H K = (s = 1 ∧ cellsS (lookH id H) fun vs => (off + n ≤ vs.length ∧ AllSz 1 ((vs.drop off).take n) ∧ flat ((vs.drop off).take n) = (vs.drop off).take n) ∧ K ((vs.drop off).take n)) := by
  show (s = 1 ∧ match lookH id H with | some (.cells vs) => _ | _ => False) = _
  cases lookH id H with
  | none => rfl
  | some o =>
    cases o with
    | cells vs => simp only [cellsS, Nat.mul_one, if_true, and_assoc]
    | _ => rfl

theorem call_nil (f : Nat) (xs : List AV) : callS G P [] f xs H K = ACalls G P f xs H K := rfl
theorem call_cons (g : Nat) (c : List AV → Heap → (AV → Heap → Prop) → Prop) (T : Tbl) (f : Nat) (xs : List AV) : callS G P ((g, c) :: T) f xs H K = if f = g then c xs H K else callS G P T f xs H K := rfl
end
end Go.AL

/- The abstract layer, part 24: the same rules, with what comes behind hidden from the computing until it is reached. -/
namespace Go.AL
open Go.RowKit

class Kv where
  ap : AV → Heap → Prop
class Ke where
  ap : Env → Heap → Prop
class Kx where
  ap : Exit → Env → Heap → Prop
class K1 where
  ap : AV → Prop
class Kl (α : Type) where
  ap : List α → Prop
class Km where
  ap : List (AV × AV) → Prop
class Ki where
  ap : List UInt8 → Nat → Prop
class Ko where
  ap : Option AV → Prop
class Kn where
  ap : Nat → Prop
class Knn where
  ap : Nat → Nat → Prop
class Kpe where
  ap : List Pend → Env → Heap → Prop
class Kh where
  ap : Heap → Prop
class Kp where
  p : Prop
  q : Prop
/-- What is known of the program's functions. -/
class Th where
  G : Nat → Option (List AV)
  P : Program
  T : List (Nat × (List AV → Heap → Kv → Prop))
class Tq where
  G : Nat → Option (List AV)
  P : Program
  T : List (Nat × (List AV → Heap → Kv → Prop))
class Fq where
  c : List AV → Heap → Kv → Prop

def plainT (T : List (Nat × (List AV → Heap → Kv → Prop))) : Tbl := T.map fun p => (p.1, fun xs H K => p.2 xs H ⟨K⟩)

def xE [t : Th] (op : AOp) (xs : List AV) (H : Heap) [K : Kv] : Prop := effS t.G t.P (plainT t.T) op xs H K.ap
def xO (o : Option AV) [K : K1] : Prop := optS o K.ap
def xC (o : Option AObj) [K : Kl AV] : Prop := cellsS o K.ap
def xSp (o : Option AObj) [K : Kn] : Prop := spareS o K.ap
def xM (o : Option AObj) [K : Km] : Prop := mapS o K.ap
def xI (o : Option AObj) [K : Ki] : Prop := iterS o K.ap
def xL (o : Option (Option AV)) [K : Ko] : Prop := lookS o K.ap
def xLs {α : Type} (o : Option (List α)) [K : Kl α] : Prop := listS o K.ap
def xFr (H : Heap) [K : Kn] : Prop := freshS H K.ap
def xOt (ks : List Nat) [K : Knn] : Prop := otherS ks K.ap
def xOm (ks : List Nat) [K : Kn] : Prop := otherM ks K.ap
def xSrc (sz : Nat) (x : AV) (H : Heap) [K : Kl AV] : Prop := srcS sz x H K.ap
def xB (lo hi : Bool) (n : Nat) (bs : List AV) [K : Knn] : Prop := boundsS lo hi n bs K.ap
def xG (σ : Env) (g : Option (Nat × Bool)) [K : Kp] : Prop := gate σ g K.p K.q
def xGV (v : AV) (w : Bool) [K : Kp] : Prop := gateV v w K.p K.q
def xIf (b : Bool) [K : Kp] : Prop := if b = true then K.p else K.q
def xCd (v : AV) [K : Kp] : Prop := condS v K.p K.q
def xR [t : Th] (l : List AOper) (σ : Env) (H : Heap) [K : Ke] : Prop := runS t.G t.P (plainT t.T) l σ H K.ap
def xRI [t : Th] (l : List Item) (σ : Env) (H : Heap) [K : Ke] : Prop := runIS t.G t.P (plainT t.T) l σ H K.ap
def xSq [t : Th] (l : List Item) (pend : List Pend) (σ : Env) (H : Heap) [K : Ke] : Prop := seqS t.G t.P (plainT t.T) l pend σ H K.ap
def xSqP [t : Th] (l : List Item) (pend : List Pend) (σ : Env) (H : Heap) [K : Kpe] : Prop := seqPS t.G t.P (plainT t.T) l pend σ H K.ap
def xPl [t : Th] (p : Plan) (pend : List Pend) (σ : Env) (H : Heap) [K : Ke] : Prop := planS t.G t.P (plainT t.T) p K.ap pend σ H
def xQ [_t : Th] (op : AOp) (xs : List AV) (H : Heap) [K : K1] : Prop := quietS op xs H K.ap
def xOb [_t : Th] (ob : List Nat) (pend : List Pend) (H : Heap) [K : Kh] : Prop := oblS ob pend H (K.ap H)
def xAO [_t : Th] (ob : List Nat) (H : Heap) (pend : List Pend) : Prop := aoS ob H pend
def xD [t : Th] (c : ACode) (σ : Env) (H : Heap) [K : Kx] : Prop := denS t.G t.P (plainT t.T) c σ H K.ap
def xT (e : Exit) (σ : Env) (H : Heap) [N : Ke] [K : Kx] : Prop := thenE N.ap K.ap e σ H
def xBl (id : Nat) (e : Exit) (σ : Env) (H : Heap) [K : Kx] : Prop := blockE id K.ap e σ H
def xEn (e : Exit) (σ : Env) (H : Heap) [K : Ke] : Prop := endE K.ap e σ H
def xRes [_t : Th] (σ : Env) (H : Heap) (rs : List ARes) (acc : List AV) [K : Kv] : Prop := resS σ H K.ap rs acc
def xCall [t : Th] (f : Nat) (xs : List AV) (H : Heap) [K : Kv] : Prop := callS t.G t.P (plainT t.T) f xs H K.ap
def xTb [t : Tq] (f : Nat) (xs : List AV) (H : Heap) [K : Kv] : Prop := callS t.G t.P (plainT t.T) f xs H K.ap
def xAp [c : Fq] (xs : List AV) (H : Heap) [K : Kv] : Prop := c.c xs H K
/-- A call that the table does not tell. -/
def xA [t : Tq] (f : Nat) (xs : List AV) (H : Heap) [K : Kv] : Prop := ACalls t.G t.P f xs H K.ap
def xF [t : Th] (F : AFun) (xs : List AV) (H : Heap) [K : Kv] : Prop := denFS t.G t.P (plainT t.T) F xs H K.ap
/-- A test that stands: both ways. -/
def xW (c : Prop) [Decidable c] [K : Kp] : Prop := if c then K.p else K.q
/-- So many times the same cells: of a literal's slice. -/
def repF (n : Nat) (z : List AV) : List AV := (List.replicate n z).flatten
/-- One of two ways, to be chosen by hand. -/
def xSel [K : Kp] : Prop := K.p ∨ K.q

section
variable {t : Th} {H : Heap} {K : Kv}

theorem x_gnone (σ : Env) (K : Kp) : xG σ none = K.p := rfl
theorem x_gsome (σ : Env) (i : Nat) (w : Bool) (K : Kp) : xG σ (some (i, w)) = xGV (σ.get i) w := rfl
theorem x_gbool (b w : Bool) (K : Kp) : xGV (.bool b) w = xIf (b == w) := by
  show (if b = w then K.p else K.q) = (if (b == w) = true then K.p else K.q)
  by_cases h : b = w <;> simp [h]
theorem x_gtup (w : Bool) (K : Kp) : xGV (.tup []) w = K.q := rfl
theorem x_cond (b : Bool) (K : Kp) : xCd (.bool b) = xIf b := rfl
theorem x_if1 (K : Kp) : xIf true = K.p := rfl
theorem x_if0 (K : Kp) : xIf false = K.q := by simp [xIf]
theorem x_opt (v : AV) (K : K1) : xO (some v) = K.ap v := rfl
theorem x_cells (vs : List AV) (K : Kl AV) : xC (some (.cells vs)) = K.ap vs := rfl
theorem x_spare (e : Nat) (K : Kn) : xSp (some (.spare e)) = K.ap e := rfl
theorem x_map (es : List (AV × AV)) (K : Km) : xM (some (.map es)) = K.ap es := rfl
theorem x_iter (s : List UInt8) (p : Nat) (K : Ki) : xI (some (.iter s p)) = K.ap s p := rfl
theorem x_look (r : Option AV) (K : Ko) : xL (some r) = K.ap r := rfl
theorem x_list {α : Type} (r : List α) (K : Kl α) : xLs (some r) = K.ap r := rfl

theorem x_rnil (σ : Env) (K : Ke) : xR [] σ H = K.ap σ H := rfl
theorem x_rcons (d : Option Nat) (op : AOp) (as : List Operand) (g : Option (Nat × Bool)) (l : List AOper) (σ : Env) (K : Ke) :
    xR (⟨d, op, as, g⟩ :: l) σ H = xG σ g (K := ⟨xE op (as.map (opE t.G σ)) H (K := ⟨fun v H' => xR l (σ.put d v) H'⟩), xR l (σ.put d .undef) H⟩) := rfl
theorem x_inil (σ : Env) (K : Ke) : xRI [] σ H = K.ap σ H := rfl
theorem x_icons (i : Nat) (d : Option Nat) (op : AOp) (as : List Operand) (g : Option (Nat × Bool)) (ob : List Nat) (l : List Item) (σ : Env) (K : Ke) :
    xRI (⟨i, ⟨d, op, as, g⟩, ob⟩ :: l) σ H = xG σ g (K := ⟨xE op (as.map (opE t.G σ)) H (K := ⟨fun v H' => xRI l (σ.put d v) H'⟩), xRI l (σ.put d .undef) H⟩) := rfl

theorem x_skip (σ : Env) (Q : Kx) : xD .skip σ H = Q.ap .normal σ H := rfl
theorem x_run (ks : List Nat) (l : List AOper) (σ : Env) (Q : Kx) : xD (.run ks l) σ H = xR l σ H (K := ⟨fun σ' H' => Q.ap .normal (σ'.keep ks) H'⟩) := rfl
theorem x_sqn (pend : List Pend) (σ : Env) (K : Ke) : xSq [] pend σ H = K.ap σ H := rfl
theorem x_sqc (i : Nat) (d : Option Nat) (op : AOp) (as : List Operand) (g : Option (Nat × Bool)) (ob : List Nat) (l : List Item) (pend : List Pend) (σ : Env) (K : Ke) :
    xSq (⟨i, ⟨d, op, as, g⟩, ob⟩ :: l) pend σ H = xG σ g (K := ⟨xIf op.quiet (K := ⟨xQ op (as.map (opE t.G σ)) H (K := ⟨fun v => xSq l (⟨i, op, as.map (opE t.G σ), v⟩ :: pend) (σ.put d v) H⟩),
      xE op (as.map (opE t.G σ)) H (K := ⟨fun v H' => xOb ob pend H' (K := ⟨fun H' => xSq l pend (σ.put d v) H'⟩)⟩)⟩), xSq l pend (σ.put d .undef) H⟩) := rfl
theorem x_sqpn (pend : List Pend) (σ : Env) (K : Kpe) : xSqP [] pend σ H = K.ap pend σ H := rfl
theorem x_sqpc (i : Nat) (d : Option Nat) (op : AOp) (as : List Operand) (g : Option (Nat × Bool)) (ob : List Nat) (l : List Item) (pend : List Pend) (σ : Env) (K : Kpe) :
    xSqP (⟨i, ⟨d, op, as, g⟩, ob⟩ :: l) pend σ H = xG σ g (K := ⟨xIf op.quiet (K := ⟨xQ op (as.map (opE t.G σ)) H (K := ⟨fun v => xSqP l (⟨i, op, as.map (opE t.G σ), v⟩ :: pend) (σ.put d v) H⟩),
      xE op (as.map (opE t.G σ)) H (K := ⟨fun v H' => xOb ob pend H' (K := ⟨fun H' => xSqP l pend (σ.put d v) H'⟩)⟩)⟩), xSqP l pend (σ.put d .undef) H⟩) := rfl
theorem x_runF (ks : List Nat) (pre l1 l2 : List Item) (σ : Env) (Q : Kx) : xD (.runF ks pre l1 l2) σ H = xSqP pre [] σ H (K := ⟨fun pd s h => xSq l1 pd s h (K := ⟨fun σ' H' => Q.ap .normal (σ'.keep ks) H'⟩) ∧ xSq l2 pd s h (K := ⟨fun σ' H' => Q.ap .normal (σ'.keep ks) H'⟩)⟩) := rfl
theorem x_runT (ks : List Nat) (p : Plan) (σ : Env) (Q : Kx) : xD (.runT ks p) σ H = xPl p [] σ H (K := ⟨fun σ' H' => Q.ap .normal (σ'.keep ks) H'⟩) := rfl
theorem x_pll (l : List Item) (pend : List Pend) (σ : Env) (K : Ke) : xPl (.lin l) pend σ H = xSq l pend σ H := rfl
theorem x_plf (pre : List Item) (x : Item) (p : Plan) (y : Item) (q : Plan) (pend : List Pend) (σ : Env) (K : Ke) : xPl (.frk pre x p y q) pend σ H = xSqP pre pend σ H (K := ⟨fun pd s h => xSqP [x] pd s h (K := ⟨fun pd s h => xPl p pd s h⟩) ∧ xSqP [y] pd s h (K := ⟨fun pd s h => xPl q pd s h⟩)⟩) := rfl
theorem x_q {op : AOp} (hq : op.quiet = true) (xs : List AV) (K : K1) : xQ op xs H = xE op xs H (K := ⟨fun v _ => K.ap v⟩) := by
  cases op <;> first | rfl | cases hq
theorem x_ob (ob : List Nat) (pend : List Pend) (K : Kh) : xOb ob pend H = xIf ob.isEmpty (K := ⟨K.ap H, xAO ob H pend ∧ K.ap H⟩) := rfl
theorem x_aon (ob : List Nat) : xAO ob H [] = True := rfl
theorem x_aoc (ob : List Nat) (i : Nat) (op : AOp) (xs : List AV) (v : AV) (ps : List Pend) : xAO ob H (⟨i, op, xs, v⟩ :: ps) = (xIf (ob.contains i) (K := ⟨xQ op xs H (K := ⟨fun v' => v' = v⟩), True⟩) ∧ xAO ob H ps) := rfl
theorem q_mv  : AOp.quiet (.mv ) = true := rfl
theorem q_pick  : AOp.quiet (.pick ) = true := rfl
theorem q_nilck  : AOp.quiet (.nilck ) = true := rfl
theorem q_faddr (a : Nat) : AOp.quiet (.faddr a) = true := rfl
theorem q_iaddr (a : Nat) : AOp.quiet (.iaddr a) = true := rfl
theorem q_aaddr (a b : Nat) : AOp.quiet (.aaddr a b) = true := rfl
theorem q_ld (a : Bool) (b : Nat) : AOp.quiet (.ld a b) = true := rfl
theorem q_build (a : List AV) (b : List (Nat × Nat)) : AOp.quiet (.build a b) = true := rfl
theorem q_fld (a : Bool) (b c : Nat) : AOp.quiet (.fld a b c) = true := rfl
theorem q_ixs  : AOp.quiet (.ixs ) = true := rfl
theorem q_ixa (a : Bool) (b c : Nat) : AOp.quiet (.ixa a b c) = true := rfl
theorem q_bin (a : BinOp) : AOp.quiet (.bin a) = true := rfl
theorem q_eqg (a : Bool) (b : Nat) : AOp.quiet (.eqg a b) = true := rfl
theorem q_eqs (a : Bool) (b : List Nat) : AOp.quiet (.eqs a b) = true := rfl
theorem q_un (a : UnOp) : AOp.quiet (.un a) = true := rfl
theorem q_cvi (a : IntKind) : AOp.quiet (.cvi a) = true := rfl
theorem q_cvs  : AOp.quiet (.cvs ) = true := rfl
theorem q_cvb  : AOp.quiet (.cvb ) = true := rfl
theorem q_cvr  : AOp.quiet (.cvr ) = true := rfl
theorem q_cvc  : AOp.quiet (.cvc ) = true := rfl
theorem q_mkif (a : TypeId) : AOp.quiet (.mkif a) = true := rfl
theorem q_mkfn (a : Fn) (b : Nat) : AOp.quiet (.mkfn a b) = true := rfl
theorem q_slc (a : Nat) (b c : Bool) : AOp.quiet (.slc a b c) = true := rfl
theorem q_lkp (a : Nat) (b : AV) (c : Bool) : AOp.quiet (.lkp a b c) = true := rfl
theorem q_tas (a : Option TypeId) (b : AV) (c : Bool) : AOp.quiet (.tas a b c) = true := rfl
theorem q_ext (a : Nat) : AOp.quiet (.ext a) = true := rfl
theorem q_len (a : Nat) : AOp.quiet (.len a) = true := rfl
theorem q_min  : AOp.quiet (.min ) = true := rfl
theorem q_max  : AOp.quiet (.max ) = true := rfl
theorem q_st (a : Nat) : AOp.quiet (.st a) = false := rfl
theorem q_box  : AOp.quiet (.box ) = false := rfl
theorem q_alloc (a : List AV) : AOp.quiet (.alloc a) = false := rfl
theorem q_rawal (a : TypeId) : AOp.quiet (.rawal a) = false := rfl
theorem q_bslice (a b : Nat) (c : List AV) (d : List (Nat × Nat)) : AOp.quiet (.bslice a b c d) = false := rfl
theorem q_sb  : AOp.quiet (.sb ) = false := rfl
theorem q_cvm  : AOp.quiet (.cvm ) = false := rfl
theorem q_slp (a b : Nat) (c d : Bool) : AOp.quiet (.slp a b c d) = false := rfl
theorem q_mkmap  : AOp.quiet (.mkmap ) = false := rfl
theorem q_mksl (a b : Nat) (c : List AV) : AOp.quiet (.mksl a b c) = false := rfl
theorem q_mup (a : Nat) : AOp.quiet (.mup a) = false := rfl
theorem q_rngs  : AOp.quiet (.rngs ) = false := rfl
theorem q_nxts  : AOp.quiet (.nxts ) = false := rfl
theorem q_app (a b : Nat) : AOp.quiet (.app a b) = false := rfl
theorem q_cpy (a : Nat) : AOp.quiet (.cpy a) = false := rfl
theorem q_call (a : Nat) : AOp.quiet (.call a) = false := rfl
theorem q_callv  : AOp.quiet (.callv ) = false := rfl
theorem q_stuck  : AOp.quiet (.stuck ) = false := rfl
theorem x_runD (ks : List Nat) (l : List Item) (σ : Env) (Q : Kx) : xD (.runD ks l) σ H = xIf (noOb l) (K := ⟨xRI l σ H (K := ⟨fun σ' H' => Q.ap .normal (σ'.keep ks) H'⟩), xSq l [] σ H (K := ⟨fun σ' H' => Q.ap .normal (σ'.keep ks) H'⟩)⟩) := rfl
theorem x_seq (a b : ACode) (σ : Env) (Q : Kx) : xD (.seq a b) σ H = xD a σ H (K := ⟨fun e σ' H' => xT e σ' H' (N := ⟨fun σ2 H2 => xD b σ2 H2⟩)⟩) := rfl
theorem x_dcond (c : Operand) (a b : ACode) (σ : Env) (Q : Kx) : xD (.cond c a b) σ H = xCd (opE t.G σ c) (K := ⟨xD a σ H, xD b σ H⟩) := rfl
theorem x_block (id : Nat) (b : ACode) (σ : Env) (Q : Kx) : xD (.block id b) σ H = xD b σ H (K := ⟨fun e σ' H' => xBl id e σ' H'⟩) := rfl
theorem x_exit (id : Nat) (σ : Env) (Q : Kx) : xD (.exit id) σ H = Q.ap (.exit id) σ H := rfl
theorem x_ret (σ : Env) (Q : Kx) : xD .ret σ H = Q.ap .ret σ H := rfl
theorem x_tn (N : Ke) (Q : Kx) (σ : Env) : xT .normal σ H = N.ap σ H := rfl
theorem x_te (N : Ke) (Q : Kx) (id : Nat) (σ : Env) : xT (.exit id) σ H = Q.ap (.exit id) σ H := rfl
theorem x_tr (N : Ke) (Q : Kx) (σ : Env) : xT .ret σ H = Q.ap .ret σ H := rfl
theorem x_bn (id : Nat) (Q : Kx) (σ : Env) : xBl id .normal σ H = Q.ap .normal σ H := rfl
theorem x_be (id id' : Nat) (Q : Kx) (σ : Env) : xBl id (.exit id') σ H = xIf (id' == id) (K := ⟨Q.ap .normal σ H, Q.ap (.exit id') σ H⟩) := by
  show (if id' = id then _ else _) = (if (id' == id) = true then _ else _)
  by_cases h : id' = id <;> simp [h]
theorem x_br (id : Nat) (Q : Kx) (σ : Env) : xBl id .ret σ H = Q.ap .ret σ H := rfl
theorem x_en (K : Ke) (σ : Env) : xEn .normal σ H = K.ap σ H := rfl
theorem x_er (K : Ke) (σ : Env) : xEn .ret σ H = K.ap σ H := rfl
theorem x_slot (σ : Env) (s : Nat) (rs : List ARes) (acc : List AV) : xRes σ H (.slot s :: rs) acc = xRes σ H rs (σ.get s :: acc) := rfl
theorem x_cell (σ : Env) (s : Nat) (g : Bool) (sz : Nat) (rs : List ARes) (acc : List AV) : xRes σ H (.cell s (.ld g sz) :: rs) acc = xE (.ld g sz) [σ.get s] H (K := ⟨fun v _ => xRes σ H rs (v :: acc)⟩) := rfl
theorem x_res1 (σ : Env) (v : AV) : xRes σ H [] [v] = K.ap v H := rfl
theorem x_res0 (σ : Env) : xRes σ H [] [] = K.ap (.tup []) H := rfl
theorem x_res2 (σ : Env) (v w : AV) : xRes σ H [] [v, w] = K.ap (.tup [w, v]) H := rfl
theorem x_res3 (σ : Env) (v w x : AV) : xRes σ H [] [v, w, x] = K.ap (.tup [x, w, v]) H := rfl
theorem x_fun (n a : Nat) (rs : List ARes) (body : ACode) (args : List AV) : xF ⟨n, a, rs, body⟩ args H = (args.length ≤ n ∧ xD body (params args) H (K := ⟨fun e σ H' => xEn e σ H' (K := ⟨fun σ' H' => xRes σ' H' rs []⟩)⟩)) := rfl
theorem x_tb (f : Nat) (xs : List AV) : xCall f xs H = xTb (t := ⟨t.G, t.P, t.T⟩) f xs H := rfl
theorem x_tbcons (G : Nat → Option (List AV)) (P : Program) (g : Nat) (c : List AV → Heap → Kv → Prop) (T : List (Nat × (List AV → Heap → Kv → Prop))) (f : Nat) (xs : List AV) :
    xTb (t := ⟨G, P, (g, c) :: T⟩) f xs H = xIf (f == g) (K := ⟨xAp (c := ⟨c⟩) xs H, xTb (t := ⟨G, P, T⟩) f xs H⟩) := by
  show (if f = g then _ else _) = (if (f == g) = true then _ else _)
  by_cases h : f = g <;> simp [h] <;> rfl
theorem x_tbnil (G : Nat → Option (List AV)) (P : Program) (f : Nat) (xs : List AV) : xTb (t := ⟨G, P, []⟩) f xs H = xA (t := ⟨G, P, []⟩) f xs H := rfl
theorem x_ap (c : List AV → Heap → Kv → Prop) (xs : List AV) : xAp (c := ⟨c⟩) xs H = c xs H K := rfl
theorem allSz_nil (n : Nat) : AllSz n [] = True := by simp [AllSz]
theorem allSz_cons (n : Nat) (x : AV) (xs : List AV) : AllSz n (x :: xs) = (x.cells.length = n ∧ AllSz n xs) := by simp [AllSz]
theorem flat_nil : flat [] = [] := rfl
theorem flat_cons (x : AV) (xs : List AV) : flat (x :: xs) = x.cells ++ flat xs := rfl
theorem bytesAV_nil : bytesAV [] = [] := rfl
theorem bytesAV_cons (b : UInt8) (l : List UInt8) : bytesAV (b :: l) = byteAV b :: bytesAV l := rfl
theorem repF_zero (z : List AV) : repF 0 z = [] := rfl
theorem repF_succ (n : Nat) (z : List AV) : repF (n + 1) z = z ++ repF n z := rfl
theorem x_bslice1 (n : Nat) (z : List AV) (pl : List (Nat × Nat)) (xs : List AV) : xE (.bslice 1 n z pl) xs H (K := K) = xLs (fillL (repF n z) pl xs) (K := ⟨fun cs =>
    xIf (isU8 z && n != 0) (K := ⟨xFr H (K := ⟨fun id => K.ap (.msl id 0 n 1) ((id, .cells cs) :: H)⟩), xSel (K := ⟨xFr H (K := ⟨fun id => K.ap (.msl id 0 n 1) ((id, .cells cs) :: H)⟩),
      (AllSz 1 cs ∧ cs.length = n ∧ flat cs = cs) ∧ xFr H (K := ⟨fun id => K.ap (.sl cs (.at id n 1)) ((id, .spare n) :: H)⟩)⟩)⟩)⟩) := e_bslice1 _ _ _ _
theorem l_tkd {α : Type} (b : List α) (k : Nat) : List.take (b.length - k) (List.drop k b) = List.drop k b := by rw [List.take_of_length_le]; simp
theorem by_len (bs : List UInt8) : (bytesAV bs).length = bs.length := by simp [bytesAV]
theorem by_all (bs : List UInt8) : AllSz 1 (bytesAV bs) = True := by simp [AllSz, bytesAV, byteAV, AV.cells]
theorem by_take (n : Nat) (bs : List UInt8) : (bytesAV bs).take n = bytesAV (bs.take n) := by simp [bytesAV, List.map_take]
theorem by_drop (n : Nat) (bs : List UInt8) : (bytesAV bs).drop n = bytesAV (bs.drop n) := by simp [bytesAV, List.map_drop]
theorem by_flat (bs : List UInt8) : flat (bytesAV bs) = bytesAV bs := by
  induction bs with
  | nil => rfl
  | cons b bs ih => simp only [bytesAV, List.map_cons, flat, List.flatMap_cons] at ih ⊢; rw [ih]; rfl
theorem by_app (a b : List UInt8) : bytesAV a ++ bytesAV b = bytesAV (a ++ b) := by simp [bytesAV]
theorem by_rep (n : Nat) : (List.replicate n [AV.int .u8 0]).flatten = bytesAV (List.replicate n 0) := by
  induction n with
  | zero => rfl
  | succ n ih => rw [List.replicate_succ, List.flatten_cons, ih, List.replicate_succ]; rfl
theorem by_of (bs : List UInt8) : bytesOf (bytesAV bs) = some bs := by
  induction bs with
  | nil => rfl
  | cons b bs ih =>
    simp only [bytesAV, List.map_cons] at ih ⊢
    show (bytesOf (List.map byteAV bs)).map (UInt8.ofNat (Int.toNat b.toNat) :: ·) = _
    rw [ih]
    simp
theorem by_get (bs : List UInt8) (i : Nat) : (bytesAV bs)[i]? = (bs[i]?).map byteAV := by simp [bytesAV]
theorem look_ren (id j : Nat) (o : AObj) (H : Heap) : lookH j (renH id id o H) = if j = id then (lookH id H).map (fun _ => o) else lookH j H := by
  induction H with
  | nil => simp [lookH, renH]
  | cons p H ih =>
    obtain ⟨k, q⟩ := p
    simp only [renH, lookH]
    by_cases h : id = k
    · subst h
      by_cases h2 : j = id
      · subst h2; simp [lookH]
      · simp [lookH, h2]
    · rw [if_neg h, if_neg h]
      simp only [lookH, ih]
      by_cases h2 : j = id
      · subst h2; simp [h]
      · simp [h2]
theorem ren_ren (id : Nat) (o o' : AObj) (H : Heap) : renH id id o (renH id id o' H) = renH id id o H := by
  induction H with
  | nil => rfl
  | cons p H ih =>
    obtain ⟨k, q⟩ := p
    simp only [renH]
    by_cases h : id = k
    · subst h; simp [renH]
    · rw [if_neg h, if_neg h]; simp only [renH, ih, if_neg h]
theorem keys_ren (id : Nat) (o : AObj) (H : Heap) : List.map Prod.fst (renH id id o H) = List.map Prod.fst H := by
  induction H with
  | nil => rfl
  | cons p H ih =>
    obtain ⟨k, q⟩ := p
    simp only [renH]
    by_cases h : id = k
    · subst h; simp
    · rw [if_neg h]; simp [ih]
theorem w_i64 (n : Int) (h1 : -9223372036854775808 ≤ n) (h2 : n < 9223372036854775808) : IntKind.wrap .i64 n = n := by
  show (if (true && decide (n % (2 ^ 64 : Int) ≥ (2 ^ (64 - 1) : Int))) = true then n % (2 ^ 64 : Int) - (2 ^ 64 : Int) else n % (2 ^ 64 : Int)) = n
  by_cases h : n % (2 ^ 64 : Int) ≥ (2 ^ (64 - 1) : Int)
  · rw [if_pos (by rw [decide_eq_true h]; rfl)]; omega
  · rw [if_neg (by rw [decide_eq_false h]; simp)]; omega
theorem w_u64 (n : Int) (h1 : 0 ≤ n) (h2 : n < 18446744073709551616) : IntKind.wrap .u64 n = n := by
  simp only [IntKind.wrap, IntKind.bits, IntKind.signed, Bool.false_and, Bool.false_eq_true, if_false]; omega
theorem w_u8 (n : Int) (h1 : 0 ≤ n) (h2 : n < 256) : IntKind.wrap .u8 n = n := by
  simp only [IntKind.wrap, IntKind.bits, IntKind.signed, Bool.false_and, Bool.false_eq_true, if_false]; omega
theorem w_i32 (n : Int) (h1 : -2147483648 ≤ n) (h2 : n < 2147483648) : IntKind.wrap .i32 n = n := by
  show (if (true && decide (n % (2 ^ 32 : Int) ≥ (2 ^ (32 - 1) : Int))) = true then n % (2 ^ 32 : Int) - (2 ^ 32 : Int) else n % (2 ^ 32 : Int)) = n
  by_cases h : n % (2 ^ 32 : Int) ≥ (2 ^ (32 - 1) : Int)
  · rw [if_pos (by rw [decide_eq_true h]; rfl)]; omega
  · rw [if_neg (by rw [decide_eq_false h]; simp)]; omega
theorem w_u32 (n : Int) (h1 : 0 ≤ n) (h2 : n < 4294967296) : IntKind.wrap .u32 n = n := by
  simp only [IntKind.wrap, IntKind.bits, IntKind.signed, Bool.false_and, Bool.false_eq_true, if_false]; omega
theorem maxLen_eq : maxLen = 9223372036854775807 := rfl

theorem x_call (f : Nat) (xs : List AV) : xE (.call f) xs H (K := K) = xCall f xs H (K := K) := rfl
theorem x_callv (f : Nat) (a b ys : List AV) : xE .callv (.fn (.func f) a b :: ys) H (K := K) = xCall f (a ++ ys ++ b) H (K := K) := rfl
theorem x_mv (x : AV) : xE .mv [x] H (K := K) = K.ap x H := e_mv _
theorem x_pick (b : Bool) (x y : AV) : xE .pick [.bool b, x, y] H (K := K) = K.ap (if b = true then x else y) H := e_pick _ _ _
theorem x_nilck1 (a b : Nat) : xE .nilck [.ptr a b] H (K := K) = K.ap (.ptr a b) H := e_nilck1 _ _
theorem x_nilck2 (cs : List AV) : xE .nilck [.iptr cs] H (K := K) = K.ap (.iptr cs) H := e_nilck2 _
theorem x_nilck3 (f : Nat) (a b : List AV) : xE .nilck [.fn (.func f) a b] H (K := K) = K.ap (.fn (.func f) a b) H := e_nilck3 _ _ _
theorem x_faddr1 (o a b : Nat) : xE (.faddr o) [.ptr a b] H (K := K) = K.ap (.ptr a (b + o)) H := e_faddr1 _ _ _
theorem x_faddr2 (o : Nat) (cs : List AV) : xE (.faddr o) [.iptr cs] H (K := K) = K.ap (.iptr (cs.drop o)) H := e_faddr2 _ _
theorem x_iaddr1 (sz : Nat) (xs : List AV) (t : Tok) (k : IntKind) (i : Int) : xE (.iaddr sz) [.sl xs t, .int k i] H (K := K) = (0 ≤ i ∧ ∃ y, xs[i.toNat]? = some y ∧ y.cells.length = sz ∧ K.ap (.iptr y.cells) H) := e_iaddr1 _ _ _ _ _
theorem x_iaddr2 (sz a b n s : Nat) (k : IntKind) (i : Int) : xE (.iaddr sz) [.msl a b n s, .int k i] H (K := K) = ((s = sz ∧ 0 ≤ i ∧ i < n) ∧ K.ap (.ptr a (b + i.toNat * sz)) H) := e_iaddr2 _ _ _ _ _ _ _
theorem x_aaddr1 (sz n a b : Nat) (k : IntKind) (i : Int) : xE (.aaddr sz n) [.ptr a b, .int k i] H (K := K) = ((0 ≤ i ∧ i < n) ∧ K.ap (.ptr a (b + i.toNat * sz)) H) := e_aaddr1 _ _ _ _ _ _
theorem x_aaddr2 (sz n : Nat) (cs : List AV) (k : IntKind) (i : Int) : xE (.aaddr sz n) [.iptr cs, .int k i] H (K := K) = ((0 ≤ i ∧ i < n) ∧ K.ap (.iptr (cs.drop (i.toNat * sz))) H) := e_aaddr2 _ _ _ _ _
theorem x_ldi1 (sz : Nat) (cs : List AV) : xE (.ld false sz) [.iptr cs] H (K := K) = xO cs[0]? (K := ⟨fun v => K.ap v H⟩) := e_ldi1 _ _
theorem x_ldi2 (sz : Nat) (cs : List AV) : xE (.ld true sz) [.iptr cs] H (K := K) = (sz ≤ cs.length ∧ K.ap (.agg (cs.take sz)) H) := e_ldi2 _ _
theorem x_ldp1 (sz id off : Nat) : xE (.ld false sz) [.ptr id off] H (K := K) = xC (lookH id H) (K := ⟨fun vs => xO vs[off]? (K := ⟨fun v => K.ap v H⟩)⟩) := e_ldp1 _ _ _
theorem x_ldp2 (sz id off : Nat) : xE (.ld true sz) [.ptr id off] H (K := K) = xC (lookH id H) (K := ⟨fun vs => off + sz ≤ vs.length ∧ K.ap (.agg ((vs.drop off).take sz)) H⟩) := e_ldp2 _ _ _
theorem x_build (z : List AV) (pl : List (Nat × Nat)) (xs : List AV) : xE (.build z pl) xs H (K := K) = xLs (fillL z pl xs) (K := ⟨fun cs => K.ap (.agg cs) H⟩) := e_build _ _ _
theorem x_fld1 (off sz : Nat) (cs : List AV) : xE (.fld false off sz) [.agg cs] H (K := K) = xO cs[off]? (K := ⟨fun v => K.ap v H⟩) := e_fld1 _ _ _
theorem x_fld2 (off sz : Nat) (cs : List AV) : xE (.fld true off sz) [.agg cs] H (K := K) = K.ap (.agg ((cs.drop off).take sz)) H := e_fld2 _ _ _
theorem x_ixs (s : List UInt8) (k : IntKind) (i : Int) : xE .ixs [.str s, .int k i] H (K := K) = (0 ≤ i ∧ ∃ b, s[i.toNat]? = some b ∧ K.ap (byteAV b) H) := e_ixs _ _ _
theorem x_ixa1 (sz n : Nat) (cs : List AV) (k : IntKind) (i : Int) : xE (.ixa false sz n) [.agg cs, .int k i] H (K := K) = ((0 ≤ i ∧ i < n) ∧ xO cs[i.toNat * sz]? (K := ⟨fun v => K.ap v H⟩)) := e_ixa1 _ _ _ _ _
theorem x_add (k : IntKind) (a b : Int) : xE (.bin .add) [.int k a, .int k b] H (K := K) = K.ap (.int k (k.wrap (a + b))) H := e_add _ _ _
theorem x_sub (k : IntKind) (a b : Int) : xE (.bin .sub) [.int k a, .int k b] H (K := K) = K.ap (.int k (k.wrap (a - b))) H := e_sub _ _ _
theorem x_mul (k : IntKind) (a b : Int) : xE (.bin .mul) [.int k a, .int k b] H (K := K) = K.ap (.int k (k.wrap (a * b))) H := e_mul _ _ _
theorem x_quo (k : IntKind) (a b : Int) : xE (.bin .quo) [.int k a, .int k b] H (K := K) = (b ≠ 0 ∧ K.ap (.int k (k.wrap (a.tdiv b))) H) := e_quo _ _ _
theorem x_rem (k : IntKind) (a b : Int) : xE (.bin .rem) [.int k a, .int k b] H (K := K) = (b ≠ 0 ∧ K.ap (.int k (a.tmod b)) H) := e_rem _ _ _
theorem x_lss (k : IntKind) (a b : Int) : xE (.bin .lss) [.int k a, .int k b] H (K := K) = K.ap (.bool (decide (a < b))) H := e_lss _ _ _
theorem x_leq (k : IntKind) (a b : Int) : xE (.bin .leq) [.int k a, .int k b] H (K := K) = K.ap (.bool (decide (a ≤ b))) H := e_leq _ _ _
theorem x_gtr (k : IntKind) (a b : Int) : xE (.bin .gtr) [.int k a, .int k b] H (K := K) = K.ap (.bool (decide (b < a))) H := e_gtr _ _ _
theorem x_geq (k : IntKind) (a b : Int) : xE (.bin .geq) [.int k a, .int k b] H (K := K) = K.ap (.bool (decide (b ≤ a))) H := e_geq _ _ _
theorem x_and (k : IntKind) (a b : Int) : xE (.bin .and) [.int k a, .int k b] H (K := K) = K.ap (.int k (intB .and k a b)) H := e_and _ _ _
theorem x_or (k : IntKind) (a b : Int) : xE (.bin .or) [.int k a, .int k b] H (K := K) = K.ap (.int k (intB .or k a b)) H := e_or _ _ _
theorem x_xor (k : IntKind) (a b : Int) : xE (.bin .xor) [.int k a, .int k b] H (K := K) = K.ap (.int k (intB .xor k a b)) H := e_xor _ _ _
theorem x_shl (k k' : IntKind) (a b : Int) : xE (.bin .shl) [.int k a, .int k' b] H (K := K) = (¬ b < 0 ∧ K.ap (.int k (k.wrap (a * 2 ^ (Nat.min b.toNat k.bits)))) H) := e_shl _ _ _ _
theorem x_shr (k k' : IntKind) (a b : Int) : xE (.bin .shr) [.int k a, .int k' b] H (K := K) = (¬ b < 0 ∧ K.ap (.int k (a.fdiv (2 ^ (Nat.min b.toNat k.bits)))) H) := e_shr _ _ _ _
theorem x_cat (a b : List UInt8) : xE (.bin .add) [.str a, .str b] H (K := K) = (a.length + b.length ≤ maxLen ∧ K.ap (.str (a ++ b)) H) := e_cat _ _
theorem x_eqb (neg : Bool) (a b : Bool) : xE (.eqg neg 0) [.bool a, .bool b] H (K := K) = K.ap (.bool (neg != decide (a = b))) H := e_eqb _ _ _
theorem x_eqi (neg : Bool) (k : IntKind) (a b : Int) : xE (.eqg neg 6) [.int k a, .int k b] H (K := K) = K.ap (.bool (neg != decide (a = b))) H := e_eqi _ _ _ _
theorem x_eqt (neg : Bool) (a b : List UInt8) : xE (.eqg neg 6) [.str a, .str b] H (K := K) = K.ap (.bool (neg != decide (a = b))) H := e_eqt _ _ _
theorem x_eqp0 (neg : Bool) : xE (.eqg neg 1) [.nilp, .nilp] H (K := K) = K.ap (.bool (neg != true)) H := e_eqp0 _
theorem x_eqp1 (neg : Bool) (a b : Nat) : xE (.eqg neg 1) [.ptr a b, .nilp] H (K := K) = K.ap (.bool (neg != false)) H := e_eqp1 _ _ _
theorem x_eqp2 (neg : Bool) (cs : List AV) : xE (.eqg neg 1) [.iptr cs, .nilp] H (K := K) = K.ap (.bool (neg != false)) H := e_eqp2 _ _
theorem x_eqs1 (neg : Bool) (xs : List AV) (t : Tok) : xE (.eqg neg 2) [.sl xs t, .sl [] .nil] H (K := K) = K.ap (.bool (neg != decide (t = .nil))) H := e_eqs1 _ _ _
theorem x_eqs2 (neg : Bool) (a b c d : Nat) : xE (.eqg neg 2) [.msl a b c d, .sl [] .nil] H (K := K) = K.ap (.bool (neg != false)) H := e_eqs2 _ _ _ _ _
theorem x_eqm0 (neg : Bool) : xE (.eqg neg 3) [.nilm, .nilm] H (K := K) = K.ap (.bool (neg != true)) H := e_eqm0 _
theorem x_eqm1 (neg : Bool) (a : Nat) : xE (.eqg neg 3) [.map a, .nilm] H (K := K) = K.ap (.bool (neg != false)) H := e_eqm1 _ _
theorem x_eqf0 (neg : Bool) : xE (.eqg neg 4) [.nilf, .nilf] H (K := K) = K.ap (.bool (neg != true)) H := e_eqf0 _
theorem x_eqf1 (neg : Bool) (f : Fn) (a b : List AV) : xE (.eqg neg 4) [.fn f a b, .nilf] H (K := K) = K.ap (.bool (neg != false)) H := e_eqf1 _ _ _ _
theorem x_eqn1 (neg : Bool) (t : TypeId) (v : AV) : xE (.eqg neg 5) [.iface t v, .nili] H (K := K) = K.ap (.bool (neg != false)) H := e_eqn1 _ _ _
theorem x_not (b : Bool) : xE (.un .not) [.bool b] H (K := K) = K.ap (.bool (!b)) H := e_not _
theorem x_neg (k : IntKind) (n : Int) : xE (.un .neg) [.int k n] H (K := K) = K.ap (.int k (k.wrap (0 - n))) H := e_neg _ _
theorem x_compl (k : IntKind) (n : Int) : xE (.un .xor) [.int k n] H (K := K) = K.ap (.int k (intB .xor k (if k.signed then -1 else k.max) n)) H := e_compl _ _
theorem x_cvi (k k' : IntKind) (n : Int) : xE (.cvi k) [.int k' n] H (K := K) = K.ap (.int k (k.wrap n)) H := e_cvi _ _ _
theorem x_cvs (s : List UInt8) : xE .cvs [.str s] H (K := K) = K.ap (.str s) H := e_cvs _
theorem x_cvb1 (xs : List AV) (t : Tok) : xE .cvb [.sl xs t] H (K := K) = xLs (bytesOf xs) (K := ⟨fun b => K.ap (.str b) H⟩) := e_cvb1 _ _
theorem x_cvb2 (id off n s : Nat) : xE .cvb [.msl id off n s] H (K := K) = (s = 1 ∧ xC (lookH id H) (K := ⟨fun vs => off + n ≤ vs.length ∧ xLs (bytesOf ((vs.drop off).take n)) (K := ⟨fun b => K.ap (.str b) H⟩)⟩)) := e_cvb2 _ _ _ _
theorem x_cvc (k : IntKind) (n : Int) : xE .cvc [.int k n] H (K := K) = K.ap (.str (Utf8.encode n).data.toList) H := e_cvc _ _
theorem x_slcs (lo hi : Bool) (s : List UInt8) (bs : List AV) : xE (.slc 0 lo hi) (.str s :: bs) H (K := K) = xB lo hi s.length bs (K := ⟨fun l h => K.ap (.str ((s.take h).drop l)) H⟩) := e_slcs _ _ _ _
theorem x_slcl (sz : Nat) (lo hi : Bool) (xs : List AV) (t : Tok) (bs : List AV) : xE (.slc sz lo hi) (.sl xs t :: bs) H (K := K) = ((0 < sz ∧ AllSz sz xs) ∧ xB lo hi xs.length bs (K := ⟨fun l h => K.ap (.sl ((xs.take h).drop l) (if h = xs.length then t else .no)) H⟩)) := e_slcl _ _ _ _ _ _
theorem x_slcm (sz : Nat) (lo hi : Bool) (id off n s : Nat) (bs : List AV) : xE (.slc sz lo hi) (.msl id off n s :: bs) H (K := K) = ((0 < sz ∧ s = sz) ∧ xB lo hi n bs (K := ⟨fun l h => K.ap (.msl id (off + l * sz) (h - l) sz) H⟩)) := e_slcm _ _ _ _ _ _ _ _
theorem xb_two {K : Knn} (k k' : IntKind) (l h : Int) (n : Nat) : xB true true n [.int k l, .int k' h] (K := K) = ((0 ≤ l ∧ l ≤ h ∧ h ≤ n) ∧ K.ap l.toNat h.toNat) := b_two _ _ _ _ _ K.ap
theorem xb_lo {K : Knn} (k : IntKind) (l : Int) (n : Nat) : xB true false n [.int k l] (K := K) = ((0 ≤ l ∧ l ≤ n) ∧ K.ap l.toNat n) := b_lo _ _ _ K.ap
theorem xb_hi {K : Knn} (k : IntKind) (h : Int) (n : Nat) : xB false true n [.int k h] (K := K) = ((0 ≤ h ∧ h ≤ n) ∧ K.ap 0 h.toNat) := b_hi _ _ _ K.ap
theorem xb_no {K : Knn} (n : Nat) : xB false false n [] (K := K) = K.ap 0 n := b_no _ K.ap
theorem x_mkif (t : TypeId) (x : AV) (h : x ≠ .any) : xE (.mkif t) [x] H (K := K) = K.ap (.iface t x) H := e_mkif _ _ h
theorem x_mkfn (f : Fn) (n : Nat) (xs : List AV) : xE (.mkfn f n) xs H (K := K) = (n ≤ xs.length ∧ K.ap (.fn f (xs.take n) (xs.drop n)) H) := e_mkfn _ _ _
theorem x_ext (i : Nat) (vs : List AV) : xE (.ext i) [.tup vs] H (K := K) = xO vs[i]? (K := ⟨fun v => K.ap v H⟩) := e_ext _ _
theorem x_lens (s : List UInt8) : xE (.len 0) [.str s] H (K := K) = K.ap (.int .i64 s.length) H := e_lens _
theorem x_lenl (xs : List AV) (t : Tok) : xE (.len 1) [.sl xs t] H (K := K) = K.ap (.int .i64 xs.length) H := e_lenl _ _
theorem x_lenm (a b n s : Nat) : xE (.len 1) [.msl a b n s] H (K := K) = K.ap (.int .i64 n) H := e_lenm _ _ _ _
theorem x_len0  : xE (.len 2) [.nilm] H (K := K) = K.ap (.int .i64 0) H := e_len0 
theorem x_lenp (id : Nat) : xE (.len 2) [.map id] H (K := K) = xM (lookH id H) (K := ⟨fun es => K.ap (.int .i64 es.length) H⟩) := e_lenp _
theorem x_min (k k' : IntKind) (a b : Int) : xE .min [.int k a, .int k' b] H (K := K) = K.ap (.int k (if b < a then b else a)) H := e_min _ _ _ _
theorem x_max (k k' : IntKind) (a b : Int) : xE .max [.int k a, .int k' b] H (K := K) = K.ap (.int k (if b > a then b else a)) H := e_max _ _ _ _
theorem x_tas1 (t u : TypeId) (z v : AV) : xE (.tas (some t) z true) [.iface u v] H (K := K) = if u = t then K.ap (.tup [v, .bool true]) H else K.ap (.tup [z, .bool false]) H := e_tas1 _ _ _ _
theorem x_tas2 (t : TypeId) (z : AV) : xE (.tas (some t) z true) [.nili] H (K := K) = K.ap (.tup [z, .bool false]) H := e_tas2 _ _
theorem x_tas3 (t : TypeId) (z v : AV) : xE (.tas (some t) z false) [.iface t v] H (K := K) = K.ap v H := e_tas3 _ _ _
theorem x_lkp0 (kd : Nat) (z : AV) (ok : Bool) (k : AV) : xE (.lkp kd z ok) [.nilm, k] H (K := K) = ((k.kindN = kd ∧ kd ≤ 2) ∧ K.ap (foundA z ok none) H) := e_lkp0 _ _ _ _
theorem x_lkp1 (kd : Nat) (z : AV) (ok : Bool) (id : Nat) (k : AV) : xE (.lkp kd z ok) [.map id, k] H (K := K) = xM (lookH id H) (K := ⟨fun es => k.kindN = kd ∧ kd ≤ 2 ∧ xL (lookA k es) (K := ⟨fun r => K.ap (foundA z ok r) H⟩)⟩) := e_lkp1 _ _ _ _ _
theorem x_st (sz id off : Nat) (x : AV) : xE (.st sz) [.ptr id off, x] H (K := K) = xC (lookH id H) (K := ⟨fun vs => (0 < sz ∧ x.cells.length = sz ∧ off + sz ≤ vs.length) ∧ K.ap .undef (setH id (.cells (splice vs off x.cells)) H)⟩) := e_st _ _ _ _
theorem x_box (x : AV) : xE .box [x] H (K := K) = (0 < x.cells.length ∧ xFr H (K := ⟨fun id => K.ap (.ptr id 0) ((id, .cells x.cells) :: H)⟩)) := e_box _
theorem x_alloc (z : List AV) : xE (.alloc z) [] H (K := K) = xFr H (K := ⟨fun id => K.ap (.ptr id 0) ((id, .cells z) :: H)⟩) := e_alloc _
theorem x_rawal (t : TypeId) : xE (.rawal t) [] H (K := K) = xFr H (K := ⟨fun id => K.ap (.ptr id 0) ((id, .raw t [.pointer none, .slice none 0 0]) :: H)⟩) := e_rawal _
theorem x_sb (s : List UInt8) : xE .sb [.str s] H (K := K) = (s.length ≤ maxLen ∧ xFr H (K := ⟨fun id => K.ap (.msl id 0 s.length 1) ((id, .cells (bytesAV s)) :: H)⟩)) := e_sb _
theorem x_cvm (id n s : Nat) : xE .cvm [.msl id 0 n s] H (K := K) = ((s = 1 ∧ 0 < n) ∧ xC (lookH id H) (K := ⟨fun vs => (n = vs.length ∧ AllSz 1 vs ∧ flat vs = vs) ∧ K.ap (.sl vs (.at id n 1)) (setH id (.spare n) H)⟩)) := e_cvm _ _ _
theorem x_mksl (sz bytes : Nat) (z : List AV) (k k' : IntKind) (n c : Int) : xE (.mksl sz bytes z) [.int k n, .int k' c] H (K := K) = ((0 ≤ n ∧ n ≤ c ∧ c ≤ maxLen ∧ bytes * c ≤ 281474976710656) ∧ xFr H (K := ⟨fun id => K.ap (.msl id 0 n.toNat sz) ((id, .cells ((List.replicate n.toNat z).flatten)) :: H)⟩)) := e_mksl _ _ _ _ _ _ _
theorem x_slp (sz n : Nat) (lo hi : Bool) (id off : Nat) (bs : List AV) : xE (.slp sz n lo hi) (.ptr id off :: bs) H (K := K) = xC (lookH id H) (K := ⟨fun vs => off + n * sz ≤ vs.length ∧ xB lo hi n bs (K := ⟨fun l h => K.ap (.msl id (off + l * sz) (h - l) sz) H⟩)⟩) := e_slp _ _ _ _ _ _ _
theorem x_mkmap  : xE .mkmap [] H (K := K) = xFr H (K := ⟨fun id => K.ap (.map id) ((id, .map []) :: H)⟩) := e_mkmap 
theorem x_mup (kd id : Nat) (k v : AV) : xE (.mup kd) [.map id, k, v] H (K := K) = xM (lookH id H) (K := ⟨fun es => (k.kindN = kd ∧ kd ≤ 2 ∧ v ≠ .any) ∧ xLs (updA k v es) (K := ⟨fun es' => K.ap .undef (setH id (.map es') H)⟩)⟩) := e_mup _ _ _ _
theorem x_rngs (s : List UInt8) : xE .rngs [.str s] H (K := K) = xFr H (K := ⟨fun id => K.ap (.ptr id 0) ((id, .iter s 0) :: H)⟩) := e_rngs _
theorem x_nxts (id : Nat) : xE .nxts [.ptr id 0] H (K := K) = xI (lookH id H) (K := ⟨fun s pos => if pos < s.length then K.ap (.tup [.bool true, .int .i64 pos, .int .i32 (Utf8.decode ⟨s.toArray⟩ pos).1]) (setH id (.iter s (pos + (Utf8.decode ⟨s.toArray⟩ pos).2)) H) else K.ap (.tup [.bool false]) H⟩) := e_nxts _
theorem x_appnil (sz bytes : Nat) (x : AV) : xE (.app sz bytes) [.sl [] .nil, x] H (K := K) = (0 < sz ∧ xSrc sz x H (K := ⟨fun ys => (ys.length ≤ maxLen ∧ ys.length * bytes ≤ 140737488355328) ∧ (ys = [] → K.ap (.sl [] .nil) H) ∧ (ys ≠ [] → (∀ id e, id ∉ H.keys → K.ap (.sl ys (.at id e sz)) ((id, .spare e) :: H)) ∨ (∀ id, id ∉ H.keys → K.ap (.msl id 0 ys.length sz) ((id, .cells (flat ys)) :: H)))⟩)) := e_appnil _ _ _
theorem x_appat (sz bytes : Nat) (xs : List AV) (b e s : Nat) (x : AV) : xE (.app sz bytes) [.sl xs (.at b e s), x] H (K := K) = (0 < sz ∧ xSrc sz x H (K := ⟨fun ys => (AllSz sz xs ∧ xs.length + ys.length ≤ maxLen ∧ (xs.length + ys.length) * bytes ≤ 140737488355328) ∧ s = sz ∧ xSp (lookH b H) (K := ⟨fun e0 => (e0 = e ∧ b ∉ othK b H) ∧ xOt (othK b H) (K := ⟨fun id e' => K.ap (.sl (xs ++ ys) (.at id e' sz)) (renH b id (.spare e') H)⟩)⟩)⟩)) := e_appat _ _ _ _ _ _ _
theorem x_appm (sz bytes : Nat) (b n s : Nat) (x : AV) : xE (.app sz bytes) [.msl b 0 n s, x] H (K := K) = (0 < sz ∧ xSrc sz x H (K := ⟨fun ys => (s = sz ∧ n + ys.length ≤ maxLen ∧ (n + ys.length) * bytes ≤ 140737488355328) ∧ xC (lookH b H) (K := ⟨fun vs => (vs.length = n * sz ∧ b ∉ othK b H) ∧ xOm (othK b H) (K := ⟨fun id => K.ap (.msl id 0 (n + ys.length) sz) (renH b id (.cells (vs ++ flat ys)) H)⟩)⟩)⟩)) := e_appm _ _ _ _ _ _
theorem x_cpym (sz : Nat) (id off n s : Nat) (x : AV) : xE (.cpy sz) [.msl id off n s, x] H (K := K) = xSrc sz x H (K := ⟨fun ys => s = sz ∧ xC (lookH id H) (K := ⟨fun vs => off + n * sz ≤ vs.length ∧ K.ap (.int .i64 (Nat.min ys.length n : Nat)) (setH id (.cells (splice vs off (flat (ys.take n)))) H)⟩)⟩) := e_cpym _ _ _ _ _ _
theorem q_clr (a : Nat) (z : List AV) : AOp.quiet (.clr a z) = false := rfl
theorem x_clrm (sz : Nat) (z : List AV) (id off n s : Nat) : xE (.clr sz z) [.msl id off n s] H (K := K) = (s = sz ∧ xC (lookH id H) (K := ⟨fun vs => off + n * sz ≤ vs.length ∧ K.ap (.tup []) (setH id (.cells (splice vs off (List.replicate n z).flatten)) H)⟩)) := e_clrm _ _ _ _ _ _
theorem x_clr0 (sz : Nat) (z : List AV) (t : Tok) : xE (.clr sz z) [.sl [] t] H (K := K) = K.ap (.tup []) H := e_clr0 _ _ _
theorem x_cpy0 (sz : Nat) (t : Tok) (x : AV) : xE (.cpy sz) [.sl [] t, x] H (K := K) = xSrc sz x H (K := ⟨fun _ => K.ap (.int .i64 0) H⟩) := e_cpy0 _ _ _
theorem xsrc_sl {K : Kl AV} (sz : Nat) (xs : List AV) (t : Tok) : xSrc sz (.sl xs t) H (K := K) = (AllSz sz xs ∧ K.ap xs) := src_sl _ _ _ K.ap
theorem xsrc_str {K : Kl AV} (s : List UInt8) : xSrc 1 (.str s) H (K := K) = K.ap (bytesAV s) := src_str _ K.ap
theorem xsrc_msl1 {K : Kl AV} (id off n s : Nat) : xSrc 1 (.msl id off n s) H (K := K) = (s = 1 ∧ xC (lookH id H) (K := ⟨fun vs => (off + n ≤ vs.length ∧ AllSz 1 ((vs.drop off).take n) ∧ flat ((vs.drop off).take n) = (vs.drop off).take n) ∧ K.ap ((vs.drop off).take n)⟩)) := src_msl1 _ _ _ _ K.ap

/- Steps by hand: where the computing stands still. -/
theorem i_new {H : Heap} {K : Kn} (h : ∀ id, id ∉ Heap.keys H → K.ap id) : xFr H := h
theorem i_if {b : Bool} {K : Kp} (h1 : b = true → K.p) (h2 : b = false → K.q) : xIf b := by
  cases b with
  | true => exact h1 rfl
  | false => rw [x_if0]; exact h2 rfl
theorem i_msl {K : Kp} (h : K.p) : xSel := .inl h
theorem i_sl {K : Kp} (h : K.q) : xSel := .inr h
theorem i_other {ks : List Nat} {K : Knn} (h : ∀ id e, id ∉ ks → K.ap id e) : xOt ks := h
theorem i_otherM {ks : List Nat} {K : Kn} (h : ∀ id, id ∉ ks → K.ap id) : xOm ks := h
theorem i_loop {t : Th} {ks : List Nat} {b : ACode} {σ : Env} {H : Heap} {Q : Kx} (I : Env → Heap → Prop) (μ : Env → Heap → Nat) (h0 : ∃ H0, Hle H0 H ∧ I (σ.keep ks) H0)
    (h1 : ∀ σ1 H1, I σ1 H1 → xD b σ1 H1 (K := ⟨fun e σ2 H2 => xT e σ2 H2 (N := ⟨fun σ3 H3 => ∃ H0, Hle H0 H3 ∧ I (σ3.keep ks) H0 ∧ μ (σ3.keep ks) H0 < μ σ1 H1⟩)⟩)) : xD (.loop ks b) σ H := ⟨I, μ, h0, h1⟩
end

/- The same rules, in bundles. -/
theorem d_ob0 : noOb [] = true := rfl
theorem d_ob1 (i : Nat) (o : AOper) (ob : List Nat) (l : List Item) : noOb (⟨i, o, ob⟩ :: l) = (ob.isEmpty && noOb l) := rfl
theorem d_c1 (b : Bool) : AV.cells (.bool b) = [.bool b] := rfl
theorem d_c2 (k : IntKind) (n : Int) : AV.cells (.int k n) = [.int k n] := rfl
theorem d_c3 (s : List UInt8) : AV.cells (.str s) = [.str s] := rfl
theorem d_c4 : AV.cells .nilp = [.nilp] := rfl
theorem d_c5 (a b : Nat) : AV.cells (.ptr a b) = [.ptr a b] := rfl
theorem d_c6 (l : List AV) : AV.cells (.iptr l) = [.iptr l] := rfl
theorem d_c7 (l : List AV) (t : Tok) : AV.cells (.sl l t) = [.sl l t] := rfl
theorem d_c8 (a b c d : Nat) : AV.cells (.msl a b c d) = [.msl a b c d] := rfl
theorem d_c9 : AV.cells .nilm = [.nilm] := rfl
theorem d_c10 (a : Nat) : AV.cells (.map a) = [.map a] := rfl
theorem d_c11 (f : Fn) (a b : List AV) : AV.cells (.fn f a b) = [.fn f a b] := rfl
theorem d_c12 : AV.cells .nilf = [.nilf] := rfl
theorem d_c13 (t : TypeId) (v : AV) : AV.cells (.iface t v) = [.iface t v] := rfl
theorem d_c14 : AV.cells .nili = [.nili] := rfl
theorem d_c15 (l : List AV) : AV.cells (.agg l) = l := rfl
theorem d_c16 : AV.cells .any = [] := rfl
theorem d_c17 (l : List AV) : AV.cells (.tup l) = [] := rfl
theorem d_k1 (b : Bool) : AV.kindN (.bool b) = 0 := rfl
theorem d_k2 (k : IntKind) (n : Int) : AV.kindN (.int k n) = 1 := rfl
theorem d_k3 (s : List UInt8) : AV.kindN (.str s) = 2 := rfl
theorem d_k4 (t : TypeId) (v : AV) : AV.kindN (.iface t v) = 3 := rfl
theorem d_k5 (l : List AV) : AV.kindN (.agg l) = 3 := rfl
theorem d_un : AV.undef = .tup [] := rfl
theorem d_f0 (z : List AV) : fillL z [] [] = some z := rfl
theorem d_f1 (z : List AV) (o s : Nat) (pl : List (Nat × Nat)) (x : AV) (xs : List AV) : fillL z ((o, s) :: pl) (x :: xs) = if x.cells.length = s ∧ 0 < s ∧ o + s ≤ z.length then fillL (splice z o x.cells) pl xs else none := rfl
theorem d_sp (vs : List AV) (off : Nat) (xs : List AV) : splice vs off xs = vs.take off ++ xs ++ vs.drop (off + xs.length) := rfl
theorem d_u0 : isU8 [] = false := rfl
theorem d_u1 (n : Int) : isU8 [.int .u8 n] = true := rfl
theorem d_u2 (n : Int) : isU8 [.int .i64 n] = false := rfl
theorem d_u3 (n : Int) : isU8 [.int .i32 n] = false := rfl
theorem d_u4 (s : List UInt8) : isU8 [.str s] = false := rfl
theorem d_u5 (b : Bool) : isU8 [.bool b] = false := rfl
theorem d_u6 (l : List AV) (t : Tok) : isU8 [.sl l t] = false := rfl
theorem d_u7 (a b : AV) (l : List AV) : isU8 (a :: b :: l) = false := by cases a <;> first | rfl | (rename_i k n; cases k <;> rfl)
theorem d_u8 : isU8 [.nili] = false := rfl
theorem d_u9 (n : Int) : isU8 [.int .u64 n] = false := rfl
theorem d_l0 (id : Nat) : lookH id [] = none := rfl
theorem d_l1 (id j : Nat) (o : AObj) (H : Heap) : lookH id ((j, o) :: H) = if id = j then some o else lookH id H := rfl
theorem d_se (id : Nat) (o : AObj) (H : Heap) : setH id o H = renH id id o H := rfl
theorem d_r0 (b id : Nat) (o : AObj) : renH b id o [] = [] := rfl
theorem d_r1 (b id : Nat) (o : AObj) (j : Nat) (p : AObj) (H : Heap) : renH b id o ((j, p) :: H) = if b = j then (id, o) :: H else (j, p) :: renH b id o H := rfl
theorem d_o0 (b : Nat) : othK b [] = [] := rfl
theorem d_o1 (b j : Nat) (p : AObj) (H : Heap) : othK b ((j, p) :: H) = if b = j then Heap.keys H else j :: othK b H := rfl
theorem d_hk (H : Heap) : Heap.keys H = H.map Prod.fst := rfl
theorem d_fa0 (z : AV) (ok : Bool) : foundA z ok none = if ok = true then .tup [z, .bool false] else z := rfl
theorem d_fa1 (z : AV) (ok : Bool) (v : AV) : foundA z ok (some v) = if ok = true then .tup [v, .bool true] else v := rfl
theorem d_b0 : bytesOf [] = some [] := rfl
theorem d_b1 (n : Int) (r : List AV) : bytesOf (.int .u8 n :: r) = (bytesOf r).map (UInt8.ofNat n.toNat :: ·) := rfl
theorem sB0 : type_of% @x_gnone ∧ type_of% @x_gsome ∧ type_of% @x_gbool ∧ type_of% @x_gtup ∧ type_of% @x_cond ∧ type_of% @x_if1 ∧ type_of% @x_if0 ∧ type_of% @x_opt ∧ type_of% @x_cells ∧ type_of% @x_spare ∧ type_of% @x_map ∧ type_of% @x_iter ∧ type_of% @x_look ∧ type_of% @x_list ∧ type_of% @x_rnil ∧ type_of% @x_rcons ∧ type_of% @x_inil ∧ type_of% @x_icons ∧ type_of% @x_skip ∧ type_of% @x_run := ⟨@x_gnone, @x_gsome, @x_gbool, @x_gtup, @x_cond, @x_if1, @x_if0, @x_opt, @x_cells, @x_spare, @x_map, @x_iter, @x_look, @x_list, @x_rnil, @x_rcons, @x_inil, @x_icons, @x_skip, @x_run⟩
theorem sB1 : type_of% @x_sqn ∧ type_of% @x_sqc ∧ type_of% @x_sqpn ∧ type_of% @x_sqpc ∧ type_of% @x_runF ∧ type_of% @x_q ∧ type_of% @x_ob ∧ type_of% @x_aon ∧ type_of% @x_aoc ∧ type_of% @q_mv ∧ type_of% @q_pick ∧ type_of% @q_nilck ∧ type_of% @q_faddr ∧ type_of% @q_iaddr ∧ type_of% @q_aaddr ∧ type_of% @q_ld ∧ type_of% @q_build ∧ type_of% @q_fld ∧ type_of% @q_ixs ∧ type_of% @q_ixa := ⟨@x_sqn, @x_sqc, @x_sqpn, @x_sqpc, @x_runF, @x_q, @x_ob, @x_aon, @x_aoc, @q_mv, @q_pick, @q_nilck, @q_faddr, @q_iaddr, @q_aaddr, @q_ld, @q_build, @q_fld, @q_ixs, @q_ixa⟩
theorem sB2 : type_of% @q_bin ∧ type_of% @q_eqg ∧ type_of% @q_eqs ∧ type_of% @q_un ∧ type_of% @q_cvi ∧ type_of% @q_cvs ∧ type_of% @q_cvb ∧ type_of% @q_cvr ∧ type_of% @q_cvc ∧ type_of% @q_mkif ∧ type_of% @q_mkfn ∧ type_of% @q_slc ∧ type_of% @q_lkp ∧ type_of% @q_tas ∧ type_of% @q_ext ∧ type_of% @q_len ∧ type_of% @q_min ∧ type_of% @q_max ∧ type_of% @q_st ∧ type_of% @q_box := ⟨@q_bin, @q_eqg, @q_eqs, @q_un, @q_cvi, @q_cvs, @q_cvb, @q_cvr, @q_cvc, @q_mkif, @q_mkfn, @q_slc, @q_lkp, @q_tas, @q_ext, @q_len, @q_min, @q_max, @q_st, @q_box⟩
theorem sB3 : type_of% @q_alloc ∧ type_of% @q_bslice ∧ type_of% @q_sb ∧ type_of% @q_cvm ∧ type_of% @q_mkmap ∧ type_of% @q_mksl ∧ type_of% @q_mup ∧ type_of% @q_rngs ∧ type_of% @q_nxts ∧ type_of% @q_app ∧ type_of% @q_cpy ∧ type_of% @q_call ∧ type_of% @q_callv ∧ type_of% @q_stuck ∧ type_of% @x_runD ∧ type_of% @x_seq ∧ type_of% @x_dcond ∧ type_of% @x_block ∧ type_of% @x_exit ∧ type_of% @x_ret := ⟨@q_alloc, @q_bslice, @q_sb, @q_cvm, @q_mkmap, @q_mksl, @q_mup, @q_rngs, @q_nxts, @q_app, @q_cpy, @q_call, @q_callv, @q_stuck, @x_runD, @x_seq, @x_dcond, @x_block, @x_exit, @x_ret⟩
theorem sB4 : type_of% @x_tn ∧ type_of% @x_te ∧ type_of% @x_tr ∧ type_of% @x_bn ∧ type_of% @x_be ∧ type_of% @x_br ∧ type_of% @x_en ∧ type_of% @x_er ∧ type_of% @x_slot ∧ type_of% @x_cell ∧ type_of% @x_res1 ∧ type_of% @x_res0 ∧ type_of% @x_res2 ∧ type_of% @x_res3 ∧ type_of% @x_fun ∧ type_of% @x_tb ∧ type_of% @x_tbcons ∧ type_of% @x_tbnil ∧ type_of% @x_ap ∧ type_of% @allSz_nil := ⟨@x_tn, @x_te, @x_tr, @x_bn, @x_be, @x_br, @x_en, @x_er, @x_slot, @x_cell, @x_res1, @x_res0, @x_res2, @x_res3, @x_fun, @x_tb, @x_tbcons, @x_tbnil, @x_ap, @allSz_nil⟩
theorem sB5 : type_of% @allSz_cons ∧ type_of% @flat_nil ∧ type_of% @flat_cons ∧ type_of% @bytesAV_nil ∧ type_of% @bytesAV_cons ∧ type_of% @repF_zero ∧ type_of% @repF_succ ∧ type_of% @x_bslice1 ∧ type_of% @l_tkd ∧ type_of% @by_len ∧ type_of% @by_all ∧ type_of% @by_take ∧ type_of% @by_drop ∧ type_of% @by_flat ∧ type_of% @by_app ∧ type_of% @by_rep ∧ type_of% @by_of ∧ type_of% @by_get ∧ type_of% @look_ren ∧ type_of% @ren_ren := ⟨@allSz_cons, @flat_nil, @flat_cons, @bytesAV_nil, @bytesAV_cons, @repF_zero, @repF_succ, @x_bslice1, @l_tkd, @by_len, @by_all, @by_take, @by_drop, @by_flat, @by_app, @by_rep, @by_of, @by_get, @look_ren, @ren_ren⟩
theorem sB6 : type_of% @keys_ren ∧ type_of% @w_i64 ∧ type_of% @w_u64 ∧ type_of% @w_u8 ∧ type_of% @w_i32 ∧ type_of% @w_u32 ∧ type_of% @maxLen_eq ∧ type_of% @x_call ∧ type_of% @x_callv ∧ type_of% @x_mv ∧ type_of% @x_pick ∧ type_of% @x_nilck1 ∧ type_of% @x_nilck2 ∧ type_of% @x_nilck3 ∧ type_of% @x_faddr1 ∧ type_of% @x_faddr2 ∧ type_of% @x_iaddr1 ∧ type_of% @x_iaddr2 ∧ type_of% @x_aaddr1 ∧ type_of% @x_aaddr2 := ⟨@keys_ren, @w_i64, @w_u64, @w_u8, @w_i32, @w_u32, @maxLen_eq, @x_call, @x_callv, @x_mv, @x_pick, @x_nilck1, @x_nilck2, @x_nilck3, @x_faddr1, @x_faddr2, @x_iaddr1, @x_iaddr2, @x_aaddr1, @x_aaddr2⟩
theorem sB7 : type_of% @x_ldi1 ∧ type_of% @x_ldi2 ∧ type_of% @x_ldp1 ∧ type_of% @x_ldp2 ∧ type_of% @x_build ∧ type_of% @x_fld1 ∧ type_of% @x_fld2 ∧ type_of% @x_ixs ∧ type_of% @x_ixa1 ∧ type_of% @x_add ∧ type_of% @x_sub ∧ type_of% @x_mul ∧ type_of% @x_quo ∧ type_of% @x_rem ∧ type_of% @x_lss ∧ type_of% @x_leq ∧ type_of% @x_gtr ∧ type_of% @x_geq ∧ type_of% @x_and ∧ type_of% @x_or := ⟨@x_ldi1, @x_ldi2, @x_ldp1, @x_ldp2, @x_build, @x_fld1, @x_fld2, @x_ixs, @x_ixa1, @x_add, @x_sub, @x_mul, @x_quo, @x_rem, @x_lss, @x_leq, @x_gtr, @x_geq, @x_and, @x_or⟩
theorem sB8 : type_of% @x_xor ∧ type_of% @x_shl ∧ type_of% @x_shr ∧ type_of% @x_cat ∧ type_of% @x_eqb ∧ type_of% @x_eqi ∧ type_of% @x_eqt ∧ type_of% @x_eqp0 ∧ type_of% @x_eqp1 ∧ type_of% @x_eqp2 ∧ type_of% @x_eqs1 ∧ type_of% @x_eqs2 ∧ type_of% @x_eqm0 ∧ type_of% @x_eqm1 ∧ type_of% @x_eqf0 ∧ type_of% @x_eqf1 ∧ type_of% @x_eqn1 ∧ type_of% @x_not ∧ type_of% @x_neg ∧ type_of% @x_compl := ⟨@x_xor, @x_shl, @x_shr, @x_cat, @x_eqb, @x_eqi, @x_eqt, @x_eqp0, @x_eqp1, @x_eqp2, @x_eqs1, @x_eqs2, @x_eqm0, @x_eqm1, @x_eqf0, @x_eqf1, @x_eqn1, @x_not, @x_neg, @x_compl⟩
theorem sB9 : type_of% @x_cvi ∧ type_of% @x_cvs ∧ type_of% @x_cvb1 ∧ type_of% @x_cvb2 ∧ type_of% @x_cvc ∧ type_of% @x_slcs ∧ type_of% @x_slcl ∧ type_of% @x_slcm ∧ type_of% @xb_two ∧ type_of% @xb_lo ∧ type_of% @xb_hi ∧ type_of% @xb_no ∧ type_of% @x_mkif ∧ type_of% @x_mkfn ∧ type_of% @x_ext ∧ type_of% @x_lens ∧ type_of% @x_lenl ∧ type_of% @x_lenm ∧ type_of% @x_len0 ∧ type_of% @x_lenp := ⟨@x_cvi, @x_cvs, @x_cvb1, @x_cvb2, @x_cvc, @x_slcs, @x_slcl, @x_slcm, @xb_two, @xb_lo, @xb_hi, @xb_no, @x_mkif, @x_mkfn, @x_ext, @x_lens, @x_lenl, @x_lenm, @x_len0, @x_lenp⟩
theorem sB10 : type_of% @x_min ∧ type_of% @x_max ∧ type_of% @x_tas1 ∧ type_of% @x_tas2 ∧ type_of% @x_tas3 ∧ type_of% @x_lkp0 ∧ type_of% @x_lkp1 ∧ type_of% @x_st ∧ type_of% @x_box ∧ type_of% @x_alloc ∧ type_of% @x_sb ∧ type_of% @x_cvm ∧ type_of% @x_mksl ∧ type_of% @x_mkmap ∧ type_of% @x_mup ∧ type_of% @x_rngs ∧ type_of% @x_nxts ∧ type_of% @x_appm ∧ type_of% @x_cpym ∧ type_of% @x_cpy0 := ⟨@x_min, @x_max, @x_tas1, @x_tas2, @x_tas3, @x_lkp0, @x_lkp1, @x_st, @x_box, @x_alloc, @x_sb, @x_cvm, @x_mksl, @x_mkmap, @x_mup, @x_rngs, @x_nxts, @x_appm, @x_cpym, @x_cpy0⟩
theorem sB11 : type_of% @xsrc_sl ∧ type_of% @xsrc_str ∧ type_of% @xsrc_msl1 ∧ type_of% @opE_tmp ∧ type_of% @opE_int ∧ type_of% @opE_bool ∧ type_of% @opE_str ∧ type_of% @opE_nilp ∧ type_of% @opE_nils ∧ type_of% @opE_nilm ∧ type_of% @opE_nili ∧ type_of% @opE_nilf ∧ type_of% @opE_func ∧ type_of% @put_some ∧ type_of% @put_none ∧ type_of% @get_cons ∧ type_of% @get_nil ∧ type_of% @keep_nil ∧ type_of% @keep_cons ∧ type_of% @params_go_nil := ⟨@xsrc_sl, @xsrc_str, @xsrc_msl1, @opE_tmp, @opE_int, @opE_bool, @opE_str, @opE_nilp, @opE_nils, @opE_nilm, @opE_nili, @opE_nilf, @opE_func, @put_some, @put_none, @get_cons, @get_nil, @keep_nil, @keep_cons, @params_go_nil⟩
theorem sB12 : type_of% @params_go_cons ∧ type_of% @params_eq ∧ type_of% @List.map_cons.{0,0} ∧ type_of% @List.map_nil.{0,0} ∧ type_of% @List.length_cons.{0} ∧ type_of% @List.length_nil.{0} ∧ type_of% @List.all_cons.{0} ∧ type_of% @List.all_nil.{0} ∧ type_of% @List.isEmpty_nil.{0} ∧ type_of% @List.isEmpty_cons.{0} ∧ type_of% @List.contains_cons.{0} ∧ type_of% @List.contains_nil.{0} ∧ type_of% @Bool.or_false ∧ type_of% @Bool.false_or ∧ type_of% @Bool.or_true ∧ type_of% @Bool.true_or ∧ type_of% @Bool.and_self ∧ type_of% @Bool.and_true ∧ type_of% @Bool.true_and ∧ type_of% @Bool.and_false := ⟨@params_go_cons, @params_eq, @List.map_cons.{0,0}, @List.map_nil.{0,0}, @List.length_cons.{0}, @List.length_nil.{0}, @List.all_cons.{0}, @List.all_nil.{0}, @List.isEmpty_nil.{0}, @List.isEmpty_cons.{0}, @List.contains_cons.{0}, @List.contains_nil.{0}, @Bool.or_false, @Bool.false_or, @Bool.or_true, @Bool.true_or, @Bool.and_self, @Bool.and_true, @Bool.true_and, @Bool.and_false⟩
theorem sB13 : type_of% @Bool.false_and ∧ type_of% @Bool.false_eq_true ∧ type_of% @if_true.{1} ∧ type_of% @if_true.{0} ∧ type_of% @if_false.{1} ∧ type_of% @if_false.{0} ∧ type_of% @decide_true ∧ type_of% @decide_false ∧ type_of% @Bool.not_eq_true ∧ type_of% @Bool.true_eq_false ∧ type_of% @Bool.true_beq ∧ type_of% @Bool.false_beq ∧ type_of% @BEq.rfl.{0} ∧ type_of% @beq_self_eq_true.{0} ∧ type_of% @bne_self_eq_false.{0} ∧ type_of% @Nat.zero_add ∧ type_of% @Nat.add_zero ∧ type_of% @Nat.mul_one ∧ type_of% @Nat.mul_zero ∧ type_of% @Nat.sub_zero := ⟨@Bool.false_and, @Bool.false_eq_true, @if_true.{1}, @if_true.{0}, @if_false.{1}, @if_false.{0}, @decide_true, @decide_false, @Bool.not_eq_true, @Bool.true_eq_false, @Bool.true_beq, @Bool.false_beq, @BEq.rfl.{0}, @beq_self_eq_true.{0}, @bne_self_eq_false.{0}, @Nat.zero_add, @Nat.add_zero, @Nat.mul_one, @Nat.mul_zero, @Nat.sub_zero⟩
theorem sB14 : type_of% @Nat.zero_le ∧ type_of% @Int.toNat_natCast ∧ type_of% @true_and ∧ type_of% @and_true ∧ type_of% @false_and ∧ type_of% @and_false ∧ type_of% @ne_eq.{1} ∧ type_of% @not_true_eq_false ∧ type_of% @not_false_eq_true ∧ type_of% @true_or ∧ type_of% @or_true ∧ type_of% @false_or ∧ type_of% @or_false ∧ type_of% @eq_self.{1} ∧ type_of% @Bool.bne_false ∧ type_of% @Bool.false_bne ∧ type_of% @Bool.bne_true ∧ type_of% @Bool.true_bne ∧ type_of% @Bool.not_true ∧ type_of% @Bool.not_false := ⟨@Nat.zero_le, @Int.toNat_natCast, @true_and, @and_true, @false_and, @and_false, @ne_eq.{1}, @not_true_eq_false, @not_false_eq_true, @true_or, @or_true, @false_or, @or_false, @eq_self.{1}, @Bool.bne_false, @Bool.false_bne, @Bool.bne_true, @Bool.true_bne, @Bool.not_true, @Bool.not_false⟩
theorem sB15 : type_of% @Bool.not_not ∧ type_of% @exists_eq_left.{1} ∧ type_of% @exists_eq_left'.{1} ∧ type_of% @Option.some.injEq.{0} ∧ type_of% @Option.map_some.{0,0} ∧ type_of% @List.cons.injEq.{0} ∧ type_of% @List.take_succ_cons.{0} ∧ type_of% @List.take_zero.{0} ∧ type_of% @List.drop_succ_cons.{0} ∧ type_of% @List.drop_zero.{0} ∧ type_of% @List.take_nil.{0} ∧ type_of% @List.drop_nil.{0} ∧ type_of% @List.cons_append.{0} ∧ type_of% @List.nil_append.{0} ∧ type_of% @List.append_nil.{0} ∧ type_of% @List.getElem?_cons_zero.{0} ∧ type_of% @List.getElem?_cons_succ.{0} ∧ type_of% @List.getElem?_nil.{0} ∧ type_of% @List.mem_cons.{0} ∧ type_of% @List.not_mem_nil.{0} := ⟨@Bool.not_not, @exists_eq_left.{1}, @exists_eq_left'.{1}, @Option.some.injEq.{0}, @Option.map_some.{0,0}, @List.cons.injEq.{0}, @List.take_succ_cons.{0}, @List.take_zero.{0}, @List.drop_succ_cons.{0}, @List.drop_zero.{0}, @List.take_nil.{0}, @List.drop_nil.{0}, @List.cons_append.{0}, @List.nil_append.{0}, @List.append_nil.{0}, @List.getElem?_cons_zero.{0}, @List.getElem?_cons_succ.{0}, @List.getElem?_nil.{0}, @List.mem_cons.{0}, @List.not_mem_nil.{0}⟩
theorem sB16 : type_of% @not_or ∧ type_of% @Int.cast_ofNat_Int ∧ type_of% @Int.natCast_zero ∧ type_of% @Int.natCast_one ∧ type_of% @List.getElem?_map.{0,0} ∧ type_of% @List.append_assoc.{0} ∧ type_of% @gt_iff_lt.{0} ∧ type_of% @ge_iff_le.{0} ∧ type_of% @Nat.min_def ∧ type_of% @Bool.decide_eq_true ∧ type_of% @and_self ∧ type_of% @List.length_take.{0} ∧ type_of% @List.take_length.{0} ∧ type_of% @List.drop_drop.{0} ∧ type_of% @List.length_drop.{0} ∧ type_of% @List.length_append.{0} ∧ type_of% @List.length_replicate.{0} ∧ type_of% @Int.zero_add ∧ type_of% @Int.add_zero ∧ type_of% @Int.sub_zero := ⟨@not_or, @Int.cast_ofNat_Int, @Int.natCast_zero, @Int.natCast_one, @List.getElem?_map.{0,0}, @List.append_assoc.{0}, @gt_iff_lt.{0}, @ge_iff_le.{0}, @Nat.min_def, @Bool.decide_eq_true, @and_self, @List.length_take.{0}, @List.take_length.{0}, @List.drop_drop.{0}, @List.length_drop.{0}, @List.length_append.{0}, @List.length_replicate.{0}, @Int.zero_add, @Int.add_zero, @Int.sub_zero⟩
theorem sB17 : type_of% @Int.toNat_zero ∧ type_of% @Int.zero_tmod ∧ type_of% @Nat.le_refl ∧ type_of% @Int.le_refl ∧ type_of% @d_ob0 ∧ type_of% @d_ob1 ∧ type_of% @d_c1 ∧ type_of% @d_c2 ∧ type_of% @d_c3 ∧ type_of% @d_c4 ∧ type_of% @d_c5 ∧ type_of% @d_c6 ∧ type_of% @d_c7 ∧ type_of% @d_c8 ∧ type_of% @d_c9 ∧ type_of% @d_c10 ∧ type_of% @d_c11 ∧ type_of% @d_c12 ∧ type_of% @d_c13 ∧ type_of% @d_c14 := ⟨@Int.toNat_zero, @Int.zero_tmod, @Nat.le_refl, @Int.le_refl, @d_ob0, @d_ob1, @d_c1, @d_c2, @d_c3, @d_c4, @d_c5, @d_c6, @d_c7, @d_c8, @d_c9, @d_c10, @d_c11, @d_c12, @d_c13, @d_c14⟩
theorem sB18 : type_of% @d_c15 ∧ type_of% @d_c16 ∧ type_of% @d_c17 ∧ type_of% @d_k1 ∧ type_of% @d_k2 ∧ type_of% @d_k3 ∧ type_of% @d_k4 ∧ type_of% @d_k5 ∧ type_of% @d_un ∧ type_of% @d_f0 ∧ type_of% @d_f1 ∧ type_of% @d_sp ∧ type_of% @d_u0 ∧ type_of% @d_u1 ∧ type_of% @d_u2 ∧ type_of% @d_u3 ∧ type_of% @d_u4 ∧ type_of% @d_u5 ∧ type_of% @d_u6 ∧ type_of% @d_u7 := ⟨@d_c15, @d_c16, @d_c17, @d_k1, @d_k2, @d_k3, @d_k4, @d_k5, @d_un, @d_f0, @d_f1, @d_sp, @d_u0, @d_u1, @d_u2, @d_u3, @d_u4, @d_u5, @d_u6, @d_u7⟩
theorem sB19 : type_of% @d_u8 ∧ type_of% @d_u9 ∧ type_of% @d_l0 ∧ type_of% @d_l1 ∧ type_of% @d_se ∧ type_of% @d_r0 ∧ type_of% @d_r1 ∧ type_of% @d_o0 ∧ type_of% @d_o1 ∧ type_of% @d_hk ∧ type_of% @d_fa0 ∧ type_of% @d_fa1 ∧ type_of% @d_b0 ∧ type_of% @d_b1 := ⟨@d_u8, @d_u9, @d_l0, @d_l1, @d_se, @d_r0, @d_r1, @d_o0, @d_o1, @d_hk, @d_fa0, @d_fa1, @d_b0, @d_b1⟩
theorem sBslp : type_of% @q_slp ∧ type_of% @x_slp := ⟨@q_slp, @x_slp⟩
theorem sB : type_of% @sB0 ∧ type_of% @sB1 ∧ type_of% @sB2 ∧ type_of% @sB3 ∧ type_of% @sB4 ∧ type_of% @sB5 ∧ type_of% @sB6 ∧ type_of% @sB7 ∧ type_of% @sB8 ∧ type_of% @sB9 ∧ type_of% @sB10 ∧ type_of% @sB11 ∧ type_of% @sB12 ∧ type_of% @sB13 ∧ type_of% @sB14 ∧ type_of% @sB15 ∧ type_of% @sB16 ∧ type_of% @sB17 ∧ type_of% @sB18 ∧ type_of% @sB19 ∧ type_of% @sBslp := ⟨sB0, sB1, sB2, sB3, sB4, sB5, sB6, sB7, sB8, sB9, sB10, sB11, sB12, sB13, sB14, sB15, sB16, sB17, sB18, sB19, sBslp⟩
end Go.AL

/- The abstract layer, part 25: tables of functions, contracts, and the end of a law's proof. -/
namespace Go.AL
open Go.RowKit Go.ChangeShapes

section
variable {G : Nat → Option (List AV)} {P : Program}
abbrev XT := List (Nat × (List AV → Heap → Kv → Prop))

theorem TOk.nilX : TOk G P (plainT []) := fun _ h => by cases h
theorem TOk.consX {f : Nat} {c : List AV → Heap → Kv → Prop} {T : XT} (h : ∀ xs H K, c xs H ⟨K⟩ → ACalls G P f xs H K) (hT : TOk G P (plainT T)) : TOk G P (plainT ((f, c) :: T)) := TOk.cons h hT

/-- A function that is walked in place. -/
theorem okF {T : XT} (hm : P.follows .mixedOrders = true) (hT : TOk G P (plainT T)) {f : Nat} {F : AFun} {hs : List Hint} (hF : compF P f hs = some F) (xs : List AV) (H : Heap) (K : AV → Heap → Prop)
    (h : @xF ⟨G, P, T⟩ F xs H ⟨K⟩) : ACalls G P f xs H K := denFS_sound hm hT hF h

/-- What a call leaves behind need not be kept. -/
theorem ACalls.drop {f : Nat} {xs : List AV} {H : Heap} {K : AV → Heap → Prop} (h : ACalls G P f xs H fun v H' => ∃ H0, Hle H0 H' ∧ K v H0) : ACalls G P f xs H K :=
  ⟨h.1, fun B w0 m w cargs h1 h2 => (h.2 B w0 m w cargs h1 h2).mono fun _ _ ⟨v, cv, m', _, e1, e2, e3, e4, H0, e5, e6⟩ => ⟨v, cv, m', H0, e1, e2, e3.weak e5, e4, e6⟩⟩

/-- A function's contract. -/
theorem okC {T : XT} (hm : P.follows .mixedOrders = true) (hT : TOk G P (plainT T)) {f : Nat} {F : AFun} {hs : List Hint} (hF : compF P f hs = some F) (xs : List AV) (H : Heap) (K : AV → Heap → Prop)
    (h : @xF ⟨G, P, T⟩ F xs H ⟨fun v H' => ∃ H0, Hle H0 H' ∧ K v H0⟩) : ACalls G P f xs H K := (denFS_sound hm hT hF h).drop
end

/-- The end of a proof of a law. -/
theorem law_true {P : Program} {T : XT} (hm : P.follows .mixedOrders = true) (hT : TOk (fun _ => none) P (plainT T)) {f : Nat} {F : AFun} {hs : List Hint} (hF : compF P f hs = some F) {W : World} {args : Array Value} (avs : List AV)
    (hr : RelL (im0 W) avs args.toList) (h : ∀ K : Kv, (∀ H, K.ap (.bool true) H) → @xF ⟨fun _ => none, P, T⟩ F avs [] K) : Calls P f args W fun e W' => e = .returned (.bool true) ∧ Below W.heap.size W W' :=
  calls_true (okF hm hT hF avs [] _ (h ⟨fun v _ => v = .bool true⟩ fun _ => rfl)) hr
end Go.AL

/- The abstract layer, part 26: what a row's reading of an argument says of its value. -/
namespace Go.AL
open Go.RowKit Go.ChangeShapes

/-- A count of values and letters. -/
structure BK {H : Type} (bk : DataW H → Nat) (bkA : List (DataW H) → Nat) : Prop where
  slice : ∀ e s, bkA e + 1 ≤ bk (.slice e s)
  str : ∀ s, s.length + 1 ≤ bk (.lit (.string s))
  agg : ∀ ps, bkA ps ≤ bk (.agg ps)
  nil : bkA [] = 0
  cons : ∀ d r, bkA (d :: r) = bk d + bkA r
  one : ∀ d, 1 ≤ bk d

/-- A type's values, read: what is known of their cells and of their count. -/
def Rds {H : Type} (enc : TypeId × Value → H) (P : Program) (W : World) (bk : DataW H → Nat) (t : TypeId) (V : List AV → Nat → Prop) : Prop :=
  ∀ (fuel : Nat) (cs : List Value) (x : DataW H × List MemPlace), DataW.trod enc P W 0 (fun _ => true) true fuel t cs = some x → ∃ avs, RelL (im0 W) avs cs ∧ (∀ c ∈ cs, c.oneCell' = true) ∧ V avs (bk x.1)

/-- Elements of a slice. -/
inductive SlV (g : Bool) (sz : Nat) (V : List AV → Nat → Prop) : List AV → Nat → Prop
  | nil : SlV g sz V [] 0
  | one (avs : List AV) (x : AV) (b : Nat) (xs : List AV) (n : Nat) : V avs b → (if g then x = .agg avs else avs = [x]) → x.cells = avs → avs.length = sz → SlV g sz V xs n → SlV g sz V (x :: xs) (b + n)

theorem SlV.sz {g : Bool} {sz : Nat} {V : List AV → Nat → Prop} {xs : List AV} {n : Nat} (h : SlV g sz V xs n) : AllSz sz xs := by
  induction h with
  | nil => intro x h; cases h
  | one avs x b xs n _ _ hc hl _ ih =>
    intro y hy
    rcases List.mem_cons.1 hy with rfl | hy
    · rw [hc]; exact hl
    · exact ih y hy

section
variable {H : Type} {enc : TypeId × Value → H} {P : Program} {W : World} {bk : DataW H → Nat} {bkA : List (DataW H) → Nat} {t : TypeId}

theorem rd_int (hb : BK bk bkA) {k : IntKind} (ht : P.underlying t = some (.int k)) : Rds enc P W bk t fun avs b => 1 ≤ b ∧ ∃ n, avs = [.int k n] ∧ (Lit.int k n).wf = true := by
  intro fuel cs x h
  obtain ⟨n, rfl, rfl, hw⟩ := DataW.trod_int ht h
  exact ⟨[.int k n], (RelL.nil _).cons (.int _ _), by simp [Value.oneCell'], hb.one _, n, rfl, hw⟩

theorem rd_bool (ht : P.underlying t = some .bool) : Rds enc P W bk t fun avs _ => ∃ b, avs = [.bool b] := by
  intro fuel cs x h
  obtain ⟨b, rfl, rfl⟩ := DataW.trod_bool ht h
  exact ⟨[.bool b], (RelL.nil _).cons (.bool _), by simp [Value.oneCell'], b, rfl⟩

theorem rd_str (hb : BK bk bkA) (ht : P.underlying t = some .string) : Rds enc P W bk t fun avs n => ∃ s, avs = [.str s] ∧ s.length + 1 ≤ n := by
  intro fuel cs x h
  obtain ⟨s, rfl, rfl, hm⟩ := DataW.trod_string ht h
  exact ⟨[.str s.data.toList], (RelL.nil _).cons (.str _), by simp [Value.oneCell'], _, rfl, hb.str _⟩

theorem cell_im0 {p : Addr} {v : Value} (h : W.cell? p = some v) : p.spot = none ∧ (im0 W).cell p.block p.off = some v := by
  have hlt := World.block_lt_of_cell? _ _ h
  have hs : p.spot = none := by
    simp only [World.cell?] at h
    split at h
    · split at h
      · cases h
      · rename_i hn; simpa using hn
    · cases h
  refine ⟨hs, ?_⟩
  simp only [im0, if_pos hlt]
  rw [← h]
  congr 1
  cases p; simp at hs; subst hs; rfl

/-- Does a type's value lie in a row of its own in a slice? -/
def aggB (P : Program) (e : TypeId) : Bool := match P.underlying e with | some (.struct _) | some (.array _ _) => true | _ => false

theorem rd_slice (hb : BK bk bkA) {e : TypeId} {g : Bool} {V : List AV → Nat → Prop} (ht : P.underlying t = some (.slice e)) (hpos : 0 < P.cellsOf e)
    (hg : g = true ∨ (g = false ∧ ∀ avs n, V avs n → ∃ x, avs = [x] ∧ x.cells = [x])) (hsz : ∀ avs n, V avs n → avs.length = P.cellsOf e) (he : Rds enc P W bk e V) :
    Rds enc P W bk t fun avs n => ∃ xs tok m, avs = [.sl xs tok] ∧ ((tok = .nil ∧ xs = []) ∨ tok = .no) ∧ SlV g (P.cellsOf e) V xs m ∧ m + 1 ≤ n := by
  intro fuel cs x h
  rcases DataW.trod_slice ht h with ⟨rfl, rfl⟩ | ⟨a, len, cap, elems, rest, n, _, rfl, rfl, _, hlc, hcm, hlen, hel, _, _⟩
  · exact ⟨[.sl [] .nil], (RelL.nil _).cons .slnil, by simp [Value.oneCell'], [], .nil, 0, rfl, .inl ⟨rfl, rfl⟩, .nil, hb.one _⟩
  · have key : ∀ (k i : Nat), i + k = len → ∃ (xs : List AV) (f : Nat → Nat → Value), xs.length = k ∧ SlV g (P.cellsOf e) V xs (bkA ((elems.drop i).map (·.1))) ∧ (xs ≠ [] → a.spot = none) ∧
        (∀ p j, p < k → j < P.cellsOf e → (im0 W).cell a.block (a.off + (i + p) * P.cellsOf e + j) = some (f p j) ∧ (f p j).oneCell' = true) ∧
        (∀ (p : Nat) (y : AV) (j : Nat) (z : AV), xs[p]? = some y → y.cells[j]? = some z → Rel (im0 W) z (f p j)) := by
      intro k
      induction k with
      | zero =>
        intro i hi
        refine ⟨[], fun _ _ => default, rfl, ?_, fun h => absurd rfl h, fun p j hp => absurd hp (Nat.not_lt_zero _), fun p y j z h => by simp at h⟩
        rw [List.drop_eq_nil_of_le (by omega)]
        simp only [List.map_nil, hb.nil]
        exact .nil
      | succ k ih =>
        intro i hi
        obtain ⟨xs, f, i1, i2, i3, i4, i5⟩ := ih (i + 1) (by omega)
        have hlt : i < len := by omega
        have hi' : i < elems.length := by omega
        have h1 := hel i hlt
        rw [List.getElem?_eq_getElem hi'] at h1
        cases hc : W.cells? 0 (a.add (i * P.cellsOf e)) (P.cellsOf e) with
        | none => rw [hc] at h1; cases h1
        | some cs' =>
          rw [hc] at h1
          obtain ⟨avs, q1, q2, q3⟩ := he _ _ _ h1
          obtain ⟨_, hcl, hcc⟩ := World.cells?_some hc
          have hal : avs.length = P.cellsOf e := hsz _ _ q3
          have hcell : ∀ j (hj : j < cs'.length), W.cell? ((a.add (i * P.cellsOf e)).add j) = some cs'[j] := fun j hj => by
            rw [hcc j (by omega), List.getElem?_eq_getElem hj]
          have hsp : a.spot = none := by
            have h0 := (cell_im0 (hcell 0 (by omega))).1
            simp only [Addr.add, if_true] at h0
            split at h0
            · exact h0
            · rename_i hne
              -- the first element lies where the slice begins
              have hc0 := hel 0 (by omega)
              rw [List.getElem?_eq_getElem (show 0 < elems.length by omega)] at hc0
              cases hcz : W.cells? 0 (a.add (0 * P.cellsOf e)) (P.cellsOf e) with
              | none => rw [hcz] at hc0; cases hc0
              | some cz =>
                obtain ⟨_, hzl, hzc⟩ := World.cells?_some hcz
                have hz := hzc 0 hpos
                rw [List.getElem?_eq_getElem (show 0 < cz.length by omega)] at hz
                have := (cell_im0 hz).1
                simpa [Addr.add] using this
          have hadd : ∀ j, (a.add (i * P.cellsOf e)).add j = ⟨a.block, a.off + i * P.cellsOf e + j, none⟩ := fun j => by
            rw [addr_add _ _ hsp, addr_add _ _ rfl]
          obtain ⟨y, hy1, hy2⟩ : ∃ y : AV, (if g then y = .agg avs else avs = [y]) ∧ y.cells = avs := by
            rcases hg with rfl | ⟨rfl, hg⟩
            · exact ⟨.agg avs, by simp, rfl⟩
            · obtain ⟨y, r1, r2⟩ := hg _ _ q3
              exact ⟨y, by simpa using r1, by rw [r2, r1]⟩
          refine ⟨y :: xs, fun p j => match p with | 0 => (cs'[j]?).getD default | p + 1 => f p j, by simp [i1], ?_, fun _ => hsp, ?_, ?_⟩
          · have : elems.drop i = elems[i] :: elems.drop (i + 1) := List.drop_eq_getElem_cons hi'
            rw [this, List.map_cons, hb.cons]
            exact .one avs y _ xs _ q3 hy1 hy2 hal i2
          · intro p j hp hj
            cases p with
            | zero =>
              have hjl : j < cs'.length := by omega
              have hcj := hcell j hjl
              rw [hadd] at hcj
              have := (cell_im0 hcj).2
              simp only [Nat.add_zero] at this ⊢
              rw [List.getElem?_eq_getElem hjl]
              exact ⟨this, q2 _ (List.getElem_mem hjl)⟩
            | succ p =>
              have := i4 p j (by omega) hj
              rw [show i + (p + 1) = i + 1 + p by omega]
              exact this
          · intro p y' j z hy hz
            cases p with
            | zero =>
              simp at hy; subst hy
              rw [hy2] at hz
              obtain ⟨c, hc1, hc2⟩ := q1.get j hz
              simp only [hc1, Option.getD_some]; exact hc2
            | succ p => exact i5 p y' j z (by simpa using hy) hz
    obtain ⟨xs, f, i1, i2, i3, i4, i5⟩ := key len 0 (by omega)
    rw [List.drop_zero] at i2
    refine ⟨[.sl xs .no], (RelL.nil _).cons (.sl xs .no a len cap (P.cellsOf e) f (by simp) i1.symm hlc hcm i3 (fun i y hy => i2.sz y (List.mem_of_getElem? hy)) (fun p j hp hj => ?_) (fun p j hp hj => (i4 p j (by omega) hj).2) i5 (fun _ _ _ h => by cases h)), by simp [Value.oneCell'], xs, .no, _, rfl, .inr rfl, i2, hb.slice _ _⟩
    have := (i4 p j (by omega) hj).1
    rw [Nat.zero_add] at this
    exact this

theorem cells_one {r : Reach} {base : Nat} {v : Value} {d : TypeDesc} (hu : P.underlying t = some d) (hd : (match d with | .bool | .int _ | .string | .slice _ => true | _ => false) = true) (h : Value.okWide P W r base t v) : v.cells.toList = [v] := by
  cases v with
  | agg cs => exfalso; cases d <;> simp_all [Value.okWide, Cell.okWide, Cell.ok]
  | _ => rfl

/-- One argument, read. -/
theorem arg_one {r : Reach} {base : Nat} {v : Value} {d : TypeDesc} {V : List AV → Nat → Prop} {d0 : DataW H} {ps : List MemPlace} (hu : P.underlying t = some d)
    (hd : (match d with | .bool | .int _ | .string | .slice _ => true | _ => false) = true) (hok : Value.okWide P W r base t v) (h : DataW.Trod enc P W 0 (fun _ => true) true t v d0 ps) (hr : Rds enc P W bk t V) :
    ∃ x, Rel (im0 W) x v ∧ V [x] (bk d0) := by
  obtain ⟨fuel, h⟩ := h
  rw [cells_one hu hd hok] at h
  obtain ⟨avs, h1, _, h3⟩ := hr _ _ _ h
  match avs, h1, h3 with
  | [x], h1, h3 => exact ⟨x, h1.2 0 _ _ rfl rfl, h3⟩
  | [], h1, _ => have := h1.1; simp at this
  | _ :: _ :: _, h1, _ => have := h1.1; simp at this

/-- Bytes. -/
theorem slv_bytes {xs : List AV} {n : Nat} (h : SlV false 1 (fun avs b => 1 ≤ b ∧ ∃ n, avs = [.int .u8 n] ∧ (Lit.int .u8 n).wf = true) xs n) : ∃ bs, xs = bytesAV bs := by
  induction h with
  | nil => exact ⟨[], rfl⟩
  | one avs x b xs n hv hg _ _ _ ih =>
    obtain ⟨_, m, rfl, hw⟩ := hv
    obtain ⟨bs, rfl⟩ := ih
    obtain ⟨b1, b2⟩ := Go.bounds_u8 hw
    simp only [Bool.false_eq_true, if_false, List.cons.injEq, and_true] at hg
    subst hg
    refine ⟨UInt8.ofNat m.toNat :: bs, ?_⟩
    simp only [bytesAV, List.map_cons, byteAV, List.cons.injEq, and_true, AV.int.injEq, true_and]
    simp; omega

theorem slv_len {g : Bool} {sz : Nat} {V : List AV → Nat → Prop} (hV : ∀ avs b, V avs b → 1 ≤ b) {xs : List AV} {n : Nat} (h : SlV g sz V xs n) : xs.length ≤ n := by
  induction h with
  | nil => exact Nat.le_refl _
  | one avs x b xs n hv _ _ _ _ ih => have := hV _ _ hv; simp; omega

theorem slv_ints {k : IntKind} {xs : List AV} {n : Nat} (h : SlV false 1 (fun avs b => 1 ≤ b ∧ ∃ n, avs = [.int k n] ∧ (Lit.int k n).wf = true) xs n) : ∃ zs : List Int, xs = zs.map (.int k) ∧ ∀ z ∈ zs, (Lit.int k z).wf = true := by
  induction h with
  | nil => exact ⟨[], rfl, by simp⟩
  | one avs x b xs n hv hg _ _ _ ih =>
    obtain ⟨_, m, rfl, hw⟩ := hv
    obtain ⟨zs, rfl, hz⟩ := ih
    simp only [Bool.false_eq_true, if_false, List.cons.injEq, and_true] at hg
    subst hg
    exact ⟨m :: zs, rfl, by intro z h; rcases List.mem_cons.1 h with rfl | h; exact hw; exact hz z h⟩
end
end Go.AL

/- The abstract layer, part 27: heaps in any order, slices that own their spare place. -/
namespace Go.AL
open Go.RowKit

theorem lookH_iff {id : Nat} {o : AObj} : ∀ {H : Heap}, H.keys.Nodup → (lookH id H = some o ↔ (id, o) ∈ H)
  | [], _ => by simp [lookH]
  | (j, p) :: H, hn => by
    simp only [Heap.keys, List.map_cons, List.nodup_cons] at hn
    simp only [lookH, List.mem_cons, Prod.mk.injEq]
    by_cases h : id = j
    · subst h
      rw [if_pos rfl]
      constructor
      · intro e; cases e; exact .inl ⟨rfl, rfl⟩
      · rintro (⟨_, rfl⟩ | e)
        · rfl
        · exact absurd (List.mem_map.2 ⟨_, e, rfl⟩) hn.1
    · rw [if_neg h, lookH_iff hn.2]
      constructor
      · exact .inr
      · rintro (⟨e, _⟩ | e)
        · exact absurd e h
        · exact e

theorem keys_perm {H H' : Heap} (hp : H.Perm H') : H.keys.Perm H'.keys := hp.map _
theorem nodup_perm {H H' : Heap} (hp : H.Perm H') (hn : H.keys.Nodup) : H'.keys.Nodup := (keys_perm hp).nodup_iff.1 hn

theorem lookH_perm {H H' : Heap} (hp : H.Perm H') (hn : H.keys.Nodup) (id : Nat) : lookH id H = lookH id H' := by
  cases h : lookH id H' with
  | none =>
    cases h2 : lookH id H with
    | none => rfl
    | some o => rw [lookH_iff hn] at h2; rw [(lookH_iff (nodup_perm hp hn)).2 (hp.mem_iff.1 h2)] at h; cases h
  | some o => rw [lookH_iff hn]; rw [lookH_iff (nodup_perm hp hn)] at h; exact hp.mem_iff.2 h

theorem renH_not {b id : Nat} {o : AObj} : ∀ {H : Heap}, b ∉ H.keys → renH b id o H = H
  | [], _ => rfl
  | (j, p) :: H, h => by
    simp only [Heap.keys, List.map_cons, List.mem_cons, not_or] at h
    simp only [renH]
    rw [if_neg h.1, renH_not h.2]

theorem renH_map {b id : Nat} {o : AObj} : ∀ {H : Heap}, H.keys.Nodup → renH b id o H = H.map fun p => if b = p.1 then (id, o) else p
  | [], _ => rfl
  | (j, p) :: H, hn => by
    simp only [Heap.keys, List.map_cons, List.nodup_cons] at hn
    simp only [renH, List.map_cons]
    by_cases h : b = j
    · subst h
      rw [if_pos rfl, if_pos rfl]
      congr 1
      rw [← renH_map hn.2, renH_not hn.1]
    · rw [if_neg h, if_neg h, renH_map hn.2]

theorem renH_perm {b id : Nat} {o : AObj} {H H' : Heap} (hp : H.Perm H') (hn : H.keys.Nodup) : (renH b id o H).Perm (renH b id o H') := by
  rw [renH_map hn, renH_map (nodup_perm hp hn)]; exact hp.map _
theorem setH_perm {id : Nat} {o : AObj} {H H' : Heap} (hp : H.Perm H') (hn : H.keys.Nodup) : (setH id o H).Perm (setH id o H') := renH_perm hp hn
theorem keys_set (id : Nat) (o : AObj) (H : Heap) : (setH id o H).keys = H.keys := keys_ren id o H

theorem lookH_app {id : Nat} {A H : Heap} (h : id ∉ A.keys) : lookH id (A ++ H) = lookH id H := by
  induction A with
  | nil => rfl
  | cons p A ih =>
    obtain ⟨j, o⟩ := p
    simp only [Heap.keys, List.map_cons, List.mem_cons, not_or] at h
    simp only [List.cons_append, lookH]
    rw [if_neg h.1, ih h.2]
theorem renH_app {b id : Nat} {o : AObj} {A H : Heap} (h : b ∉ A.keys) : renH b id o (A ++ H) = A ++ renH b id o H := by
  induction A with
  | nil => rfl
  | cons p A ih =>
    obtain ⟨j, q⟩ := p
    simp only [Heap.keys, List.map_cons, List.mem_cons, not_or] at h
    simp only [List.cons_append, renH]
    rw [if_neg h.1, ih h.2]
theorem othK_nodup {b : Nat} : ∀ {H : Heap}, H.keys.Nodup → b ∉ othK b H
  | [], _ => by simp [othK]
  | (j, p) :: H, hn => by
    simp only [Heap.keys, List.map_cons, List.nodup_cons] at hn
    simp only [othK]
    by_cases h : b = j
    · subst h; rw [if_pos rfl]; exact hn.1
    · rw [if_neg h]; simp only [List.mem_cons, not_or]; exact ⟨h, othK_nodup hn.2⟩
theorem othK_keys {b : Nat} {H : Heap} (hb : b ∈ H.keys) : H.keys.Perm (b :: othK b H) := by
  induction H with
  | nil => simp [Heap.keys] at hb
  | cons p H ih =>
    obtain ⟨j, o⟩ := p
    simp only [othK]
    by_cases h : b = j
    · subst h; rw [if_pos rfl]; exact .refl _
    · rw [if_neg h]
      have hb' : b ∈ Heap.keys H := by simpa [Heap.keys, h] using hb
      exact ((ih hb').cons j).trans (.swap b j _)

/-- The entry that a slice's spare place has. -/
def tokH : Tok → Heap
  | .at b e _ => [(b, .spare e)]
  | _ => []
/-- A list that may grow. -/
def GT (xs : List AV) : Tok → Prop
  | .nil => xs = []
  | .no => False
  | .at _ _ s => s = 1
theorem GT.of_at {xs ys : List AV} {t : Tok} (h : GT xs t) (h2 : ys ≠ [] → xs ≠ []) : GT ys t := by
  cases t with
  | nil =>
    cases ys with
    | nil => rfl
    | cons y ys => exact absurd h (h2 (by simp))
  | no => exact h
  | «at» b e s => exact h

/-- An append to a list that owns its spare place. -/
theorem i_appX {t : Th} {H A R : Heap} {K : Kv} {bytes : Nat} {xs ys : List AV} {tk : Tok} {y : AV} (hp : H.Perm (A ++ (tokH tk ++ R))) (hn : H.keys.Nodup) (hg : GT xs tk)
    (src : ∀ K' : Kl AV, K'.ap ys → xSrc 1 y H (K := K')) (h2 : AllSz 1 xs) (h3 : xs.length + ys.length ≤ maxLen) (h4 : (xs.length + ys.length) * bytes ≤ 140737488355328)
    (hK : ∀ tk' H', GT (xs ++ ys) tk' → H'.Perm (A ++ (tokH tk' ++ R)) → H'.keys.Nodup → K.ap (.sl (xs ++ ys) tk') H') : xE (.app 1 bytes) [.sl xs tk, y] H := by
  cases tk with
  | no => exact hg.elim
  | nil =>
    have hx : xs = [] := hg
    subst hx
    rw [x_appnil]
    refine ⟨by omega, src _ ⟨⟨by simpa using h3, by simpa using h4⟩, fun e => ?_, fun e => .inl fun id e' hid => ?_⟩⟩
    · subst e; exact hK .nil H rfl hp hn
    · refine hK (.at id e' 1) _ rfl ?_ ?_
      · simp only [tokH, List.nil_append, List.cons_append] at hp ⊢
        exact (hp.cons _).trans List.perm_middle.symm
      · exact List.nodup_cons.2 ⟨hid, hn⟩
  | «at» b e s =>
    have hs : s = 1 := hg
    subst hs
    rw [x_appat]
    have hl : lookH b H = some (.spare e) := by
      rw [lookH_perm hp hn, lookH_iff (nodup_perm hp hn)]; simp [tokH]
    have hbk : b ∈ H.keys := List.mem_map.2 ⟨_, (lookH_iff hn).1 hl, rfl⟩
    refine ⟨by omega, src _ ⟨⟨h2, h3, h4⟩, rfl, ?_⟩⟩
    rw [hl, x_spare]
    refine ⟨⟨rfl, othK_nodup hn⟩, fun id e' hid => hK (.at id e' 1) _ rfl ?_ ?_⟩
    · refine (renH_perm hp hn).trans ?_
      have hn' := nodup_perm hp hn
      simp only [tokH, Heap.keys, List.map_append, List.map_cons, List.cons_append, List.nil_append] at hn'
      have hba : b ∉ Heap.keys A := by
        have := (List.nodup_append.1 hn').2.2
        intro hm; exact this b hm b (by simp) rfl
      rw [renH_app hba]
      simp only [tokH, List.cons_append, List.nil_append, renH, if_true]
      exact .refl _
    · have hk : (renH b id (.spare e') H).keys.Perm (id :: othK b H) := by
        clear hK hp hl hid hn src
        revert hbk
        induction H with
        | nil => intro h; simp [Heap.keys] at h
        | cons p H ih =>
          obtain ⟨j, o⟩ := p
          intro hbk
          simp only [othK, renH]
          by_cases h : b = j
          · subst h; rw [if_pos rfl, if_pos rfl]; exact .refl _
          · rw [if_neg h, if_neg h]
            have hb' : b ∈ Heap.keys H := by simpa [Heap.keys, h] using hbk
            exact ((ih hb').cons j).trans (.swap id j _)
      rw [hk.nodup_iff]
      exact List.nodup_cons.2 ⟨hid, (List.nodup_cons.1 ((othK_keys hbk).nodup_iff.1 hn)).2⟩

theorem i_app {t : Th} {H A R : Heap} {K : Kv} {bytes : Nat} {xs ys : List AV} {tk : Tok} {y : AV} (hp : H.Perm (A ++ (tokH tk ++ R))) (hn : H.keys.Nodup) (hg : GT xs tk)
    (hy : (∃ tok, y = .sl ys tok) ∨ ∃ s, y = .str s ∧ ys = bytesAV s) (h1 : AllSz 1 ys) (h2 : AllSz 1 xs) (h3 : xs.length + ys.length ≤ maxLen) (h4 : (xs.length + ys.length) * bytes ≤ 140737488355328)
    (hK : ∀ tk' H', GT (xs ++ ys) tk' → H'.Perm (A ++ (tokH tk' ++ R)) → H'.keys.Nodup → K.ap (.sl (xs ++ ys) tk') H') : xE (.app 1 bytes) [.sl xs tk, y] H := by
  refine i_appX hp hn hg (fun K' h => ?_) h2 h3 h4 hK
  rcases hy with ⟨tok, rfl⟩ | ⟨s, rfl, rfl⟩
  · rw [xsrc_sl]; exact ⟨h1, h⟩
  · rw [xsrc_str]; exact h
/-- Cells handed to an append. -/
theorem src_cells {H : Heap} {id : Nat} {xs : List AV} (h : lookH id H = some (.cells xs)) (h1 : AllSz 1 xs) (hf : flat xs = xs) : ∀ K' : Kl AV, K'.ap xs → xSrc 1 (.msl id 0 xs.length 1) H (K := K') := by
  intro K' hk
  rw [xsrc_msl1, h, x_cells]
  simp only [List.drop_zero, List.take_length, Nat.zero_add, Nat.le_refl, true_and, h1, hf]
  exact hk

/-- An empty literal that will grow. -/
theorem i_emp {H : Heap} {K : Kn} {p : Prop} (hn : H.keys.Nodup) (h : ∀ id, id ∉ H.keys → (Heap.keys ((id, .spare 0) :: H)).Nodup → K.ap id) :
    xSel (K := ⟨p, (AllSz 1 [] ∧ ([] : List AV).length = 0 ∧ flat [] = []) ∧ xFr H (K := K)⟩) :=
  i_sl ⟨⟨by rw [allSz_nil]; trivial, rfl, rfl⟩, i_new fun id hid => h id hid (List.nodup_cons.2 ⟨hid, hn⟩)⟩
/-- A loop whose ends are told. -/
theorem i_loopJ {t : Th} {ks : List Nat} {b : ACode} {σ : Env} {H : Heap} {Q : Kx} (I : Env → Heap → Prop) (μ : Env → Heap → Nat) (J : Exit → Env → Heap → Prop) (h0 : ∃ H0, Hle H0 H ∧ I (σ.keep ks) H0)
    (hJ : ∀ e σ H, J e σ H → Q.ap e σ H)
    (h1 : ∀ Q' : Kx, (∀ e σ H, J e σ H → Q'.ap e σ H) → ∀ σ1 H1, I σ1 H1 → xD b σ1 H1 (K := ⟨fun e σ2 H2 => xT e σ2 H2 (N := ⟨fun σ3 H3 => ∃ H0, Hle H0 H3 ∧ I (σ3.keep ks) H0 ∧ μ (σ3.keep ks) H0 < μ σ1 H1⟩) (K := Q')⟩)) : xD (.loop ks b) σ H := i_loop I μ h0 (h1 Q hJ)
theorem look_head {H X : Heap} {p : Nat} {c : AObj} (hp : H.Perm ((p, c) :: X)) (hn : H.keys.Nodup) : lookH p H = some c := by
  rw [lookH_perm hp hn]; simp [lookH]
theorem set_head {H X : Heap} {p : Nat} {c : AObj} (c' : AObj) (hp : H.Perm ((p, c) :: X)) (hn : H.keys.Nodup) : (setH p c' H).Perm ((p, c') :: X) := by
  have := setH_perm (id := p) (o := c') hp hn
  simpa [setH, renH] using this
theorem set_nodup {H : Heap} {p : Nat} (c' : AObj) (hn : H.keys.Nodup) : (setH p c' H).keys.Nodup := by rw [keys_set]; exact hn
theorem Hle.trans {A B C : Heap} (h : Hle A B) (k : Hle B C) : Hle A C := by
  obtain ⟨L, h1, h2⟩ := h
  obtain ⟨M, k1, k2⟩ := k
  obtain ⟨L', q1, q2⟩ := List.exists_perm_sublist h1 k2.symm
  exact ⟨L', q2.trans k1, q1.trans h2⟩

section
variable {G : Nat → Option (List AV)} {P : Program}

theorem ACalls.perm {f : Nat} {xs : List AV} {H H' : Heap} {K : AV → Heap → Prop} (hp : Hle H' H) (h : ACalls G P f xs H' K) : ACalls G P f xs H K :=
  ⟨h.1, fun B w0 m w cargs h1 h2 => h.2 B w0 m w cargs (h1.weak hp) h2⟩
theorem fnOk_of {f : Nat} {F : AFun} {hs : List Hint} (hF : compF P f hs = some F) : FnOk P f := by
  unfold compF at hF
  cases hf : P.funcs[f]? with
  | none => rw [hf] at hF; cases hF
  | some fn =>
    rw [hf] at hF
    simp only [Option.bind_some] at hF
    cases hname : fn.name == "runtime.NumGoroutine" with
    | true => rw [hname] at hF; cases hF
    | false =>
      rw [hname] at hF
      simp only [Bool.false_eq_true, if_false, Option.bind_eq_some_iff] at hF
      obtain ⟨c, hb, _⟩ := hF
      exact ⟨fn, hf, hname, by rw [hb]; rfl⟩

/-- A function's contract over a part of the heap, the keys known to differ. -/
theorem okS {T : XT} (hm : P.follows .mixedOrders = true) (hT : TOk G P (plainT T)) {f : Nat} {F : AFun} {hs : List Hint} (hF : compF P f hs = some F) (xs : List AV) (H H1 : Heap) (hp : Hle H1 H) (K : AV → Heap → Prop)
    (h : H1.keys.Nodup → @xF ⟨G, P, T⟩ F xs H1 ⟨fun v H' => ∃ H0, Hle H0 H' ∧ K v H0⟩) : ACalls G P f xs H K := by
  refine ACalls.perm hp ?_
  by_cases hn : H1.keys.Nodup
  · exact okC hm hT hF xs H1 K (h hn)
  · exact ⟨fnOk_of hF, fun B w0 m w cargs h1 _ => absurd h1.nodup hn⟩
end
end Go.AL

/- The abstract layer, part 28: structs, read. -/
namespace Go.AL
open Go.RowKit Go.ChangeShapes

/-- A row of values of several types. -/
def StV : List (List AV → Nat → Prop) → List AV → Nat → Prop
  | [], avs, _ => avs = []
  | V :: Vs, avs, n => ∃ a r m k, avs = a ++ r ∧ V a m ∧ StV Vs r k ∧ m + k ≤ n

/-- The fields lie one behind another. -/
def FOk {H : Type} (enc : TypeId × Value → H) (P : Program) (W : World) (bk : DataW H → Nat) : Nat → List Field → List (List AV → Nat → Prop) → Nat → Prop
  | off, [], [], tot => off = tot
  | off, f :: fs, V :: Vs, tot => f.offset = off ∧ Rds enc P W bk f.type V ∧ FOk enc P W bk (off + P.cellsOf f.type) fs Vs tot
  | _, _, _, _ => False

section
variable {H : Type} {enc : TypeId × Value → H} {P : Program} {W : World} {bk : DataW H → Nat} {bkA : List (DataW H) → Nat} {t : TypeId}

theorem rd_fields (hb : BK bk bkA) (n : Nat) (cs : List Value) (tot : Nat) (hl : cs.length = tot) : ∀ (fs : List Field) (Vs : List (List AV → Nat → Prop)) (off : Nat) (xs : List (DataW H × List MemPlace)),
    FOk enc P W bk off fs Vs tot → xs.length = fs.length →
    (∀ (i : Nat) (f : Field), fs[i]? = some f → DataW.trod enc P W 0 (fun _ => true) true n f.type ((cs.drop f.offset).take (P.cellsOf f.type)) = xs[i]?) →
    ∃ avs, RelL (im0 W) avs (cs.drop off) ∧ (∀ c ∈ cs.drop off, c.oneCell' = true) ∧ StV Vs avs (bkA (xs.map (·.1)))
  | [], [], off, xs, h, hx, _ => by
    have : off = tot := h
    subst this
    rw [List.drop_eq_nil_of_le (by omega)]
    exact ⟨[], RelL.nil _, by simp, rfl⟩
  | f :: fs, V :: Vs, off, xs, h, hx, ht => by
    obtain ⟨h1, h2, h3⟩ := h
    subst h1
    cases xs with
    | nil => simp at hx
    | cons x xs =>
      have h4 := ht 0 f rfl
      obtain ⟨a, q1, q2, q3⟩ := h2 n _ x (by simpa using h4)
      obtain ⟨r, k1, k2, k3⟩ := rd_fields hb n cs tot hl fs Vs (f.offset + P.cellsOf f.type) xs h3 (by simpa using hx) (fun i g hg => by have := ht (i + 1) g (by simpa using hg); simpa using this)
      have e : cs.drop f.offset = (cs.drop f.offset).take (P.cellsOf f.type) ++ cs.drop (f.offset + P.cellsOf f.type) := by rw [← List.drop_drop, List.take_append_drop]
      refine ⟨a ++ r, by rw [e]; exact q1.append k1, fun c hc => ?_, a, r, _, _, rfl, q3, k3, ?_⟩
      · rw [e] at hc
        rcases List.mem_append.1 hc with hc | hc
        · exact q2 c hc
        · exact k2 c hc
      · rw [List.map_cons, hb.cons]; exact Nat.le_refl _
  | [], _ :: _, _, _, h, _, _ => h.elim
  | _ :: _, [], _, _, h, _, _ => h.elim

theorem rd_struct (hb : BK bk bkA) {fs : Array Field} {Vs : List (List AV → Nat → Prop)} (ht : P.underlying t = some (.struct fs)) (hf : FOk enc P W bk 0 fs.toList Vs (P.cellsOf t)) :
    Rds enc P W bk t fun avs n => ∃ m, StV Vs avs m ∧ m ≤ n := by
  intro fuel cs x h
  obtain ⟨xs, n, rfl, rfl, hl, hxl, hi⟩ := DataW.trod_struct ht h
  obtain ⟨avs, k1, k2, k3⟩ := rd_fields hb n cs _ hl fs.toList Vs 0 xs hf (by simpa using hxl) (fun i f hf => hi i f (by simpa using hf))
  rw [List.drop_zero] at k1 k2
  exact ⟨avs, k1, k2, _, k3, hb.agg _⟩
end
end Go.AL

/- The abstract layer, part 29: readings of types that hold themselves, by the depth of the reading. -/
namespace Go.AL
open Go.RowKit Go.ChangeShapes

/-- As Rds, for readings of less than a depth. -/
def RdsU (N : Nat) {H : Type} (enc : TypeId × Value → H) (P : Program) (W : World) (bk : DataW H → Nat) (t : TypeId) (V : List AV → Nat → Prop) : Prop :=
  ∀ (fuel : Nat), fuel < N → ∀ (cs : List Value) (x : DataW H × List MemPlace), DataW.trod enc P W 0 (fun _ => true) true fuel t cs = some x → ∃ avs, RelL (im0 W) avs cs ∧ (∀ c ∈ cs, c.oneCell' = true) ∧ V avs (bk x.1)
theorem Rds.u {H : Type} {enc : TypeId × Value → H} {P : Program} {W : World} {bk : DataW H → Nat} {t : TypeId} {V : List AV → Nat → Prop} (h : Rds enc P W bk t V) (N : Nat) : RdsU N enc P W bk t V := fun f _ => h f
theorem rds_all {H : Type} {enc : TypeId × Value → H} {P : Program} {W : World} {bk : DataW H → Nat} {t : TypeId} {V : List AV → Nat → Prop} (h : ∀ N, RdsU N enc P W bk t V) : Rds enc P W bk t V := fun f => h (f + 1) f (Nat.lt_succ_self f)
theorem RdsU.le {H : Type} {enc : TypeId × Value → H} {P : Program} {W : World} {bk : DataW H → Nat} {t : TypeId} {V : List AV → Nat → Prop} {M N : Nat} (h : RdsU N enc P W bk t V) (hm : M ≤ N) : RdsU M enc P W bk t V := fun f hf => h f (by omega)
theorem RdsU.imp {H : Type} {enc : TypeId × Value → H} {P : Program} {W : World} {bk : DataW H → Nat} {t : TypeId} {V V' : List AV → Nat → Prop} {N : Nat} (h : RdsU N enc P W bk t V) (hv : ∀ a n, V a n → V' a n) : RdsU N enc P W bk t V' := fun f hf cs x hx => by
  obtain ⟨avs, h1, h2, h3⟩ := h f hf cs x hx
  exact ⟨avs, h1, h2, hv _ _ h3⟩
def FOkU (N : Nat) {H : Type} (enc : TypeId × Value → H) (P : Program) (W : World) (bk : DataW H → Nat) : Nat → List Field → List (List AV → Nat → Prop) → Nat → Prop
  | off, [], [], tot => off = tot
  | off, f :: fs, V :: Vs, tot => f.offset = off ∧ RdsU N enc P W bk f.type V ∧ FOkU N enc P W bk (off + P.cellsOf f.type) fs Vs tot
  | _, _, _, _ => False

section
variable {H : Type} {enc : TypeId × Value → H} {P : Program} {W : World} {bk : DataW H → Nat} {bkA : List (DataW H) → Nat} {t : TypeId}

theorem rd_sliceU (hb : BK bk bkA) {N : Nat} {e : TypeId} {g : Bool} {V : List AV → Nat → Prop} (ht : P.underlying t = some (.slice e)) (hpos : 0 < P.cellsOf e)
    (hg : g = true ∨ (g = false ∧ ∀ avs n, V avs n → ∃ x, avs = [x] ∧ x.cells = [x])) (hsz : ∀ avs n, V avs n → avs.length = P.cellsOf e) (he : RdsU N enc P W bk e V) :
    RdsU (N + 1) enc P W bk t fun avs n => ∃ xs tok m, avs = [.sl xs tok] ∧ ((tok = .nil ∧ xs = []) ∨ tok = .no) ∧ SlV g (P.cellsOf e) V xs m ∧ m + 1 ≤ n := by
  intro fuel hfu cs x h
  rcases DataW.trod_slice ht h with ⟨rfl, rfl⟩ | ⟨a, len, cap, elems, rest, n, hfn, rfl, rfl, _, hlc, hcm, hlen, hel, _, _⟩
  · exact ⟨[.sl [] .nil], (RelL.nil _).cons .slnil, by simp [Value.oneCell'], [], .nil, 0, rfl, .inl ⟨rfl, rfl⟩, .nil, hb.one _⟩
  · have key : ∀ (k i : Nat), i + k = len → ∃ (xs : List AV) (f : Nat → Nat → Value), xs.length = k ∧ SlV g (P.cellsOf e) V xs (bkA ((elems.drop i).map (·.1))) ∧ (xs ≠ [] → a.spot = none) ∧
        (∀ p j, p < k → j < P.cellsOf e → (im0 W).cell a.block (a.off + (i + p) * P.cellsOf e + j) = some (f p j) ∧ (f p j).oneCell' = true) ∧
        (∀ (p : Nat) (y : AV) (j : Nat) (z : AV), xs[p]? = some y → y.cells[j]? = some z → Rel (im0 W) z (f p j)) := by
      intro k
      induction k with
      | zero =>
        intro i hi
        refine ⟨[], fun _ _ => default, rfl, ?_, fun h => absurd rfl h, fun p j hp => absurd hp (Nat.not_lt_zero _), fun p y j z h => by simp at h⟩
        rw [List.drop_eq_nil_of_le (by omega)]
        simp only [List.map_nil, hb.nil]
        exact .nil
      | succ k ih =>
        intro i hi
        obtain ⟨xs, f, i1, i2, i3, i4, i5⟩ := ih (i + 1) (by omega)
        have hlt : i < len := by omega
        have hi' : i < elems.length := by omega
        have h1 := hel i hlt
        rw [List.getElem?_eq_getElem hi'] at h1
        cases hc : W.cells? 0 (a.add (i * P.cellsOf e)) (P.cellsOf e) with
        | none => rw [hc] at h1; cases h1
        | some cs' =>
          rw [hc] at h1
          obtain ⟨avs, q1, q2, q3⟩ := he n (by omega) _ _ h1
          obtain ⟨_, hcl, hcc⟩ := World.cells?_some hc
          have hal : avs.length = P.cellsOf e := hsz _ _ q3
          have hcell : ∀ j (hj : j < cs'.length), W.cell? ((a.add (i * P.cellsOf e)).add j) = some cs'[j] := fun j hj => by
            rw [hcc j (by omega), List.getElem?_eq_getElem hj]
          have hsp : a.spot = none := by
            have h0 := (cell_im0 (hcell 0 (by omega))).1
            simp only [Addr.add, if_true] at h0
            split at h0
            · exact h0
            · rename_i hne
              -- the first element lies where the slice begins
              have hc0 := hel 0 (by omega)
              rw [List.getElem?_eq_getElem (show 0 < elems.length by omega)] at hc0
              cases hcz : W.cells? 0 (a.add (0 * P.cellsOf e)) (P.cellsOf e) with
              | none => rw [hcz] at hc0; cases hc0
              | some cz =>
                obtain ⟨_, hzl, hzc⟩ := World.cells?_some hcz
                have hz := hzc 0 hpos
                rw [List.getElem?_eq_getElem (show 0 < cz.length by omega)] at hz
                have := (cell_im0 hz).1
                simpa [Addr.add] using this
          have hadd : ∀ j, (a.add (i * P.cellsOf e)).add j = ⟨a.block, a.off + i * P.cellsOf e + j, none⟩ := fun j => by
            rw [addr_add _ _ hsp, addr_add _ _ rfl]
          obtain ⟨y, hy1, hy2⟩ : ∃ y : AV, (if g then y = .agg avs else avs = [y]) ∧ y.cells = avs := by
            rcases hg with rfl | ⟨rfl, hg⟩
            · exact ⟨.agg avs, by simp, rfl⟩
            · obtain ⟨y, r1, r2⟩ := hg _ _ q3
              exact ⟨y, by simpa using r1, by rw [r2, r1]⟩
          refine ⟨y :: xs, fun p j => match p with | 0 => (cs'[j]?).getD default | p + 1 => f p j, by simp [i1], ?_, fun _ => hsp, ?_, ?_⟩
          · have : elems.drop i = elems[i] :: elems.drop (i + 1) := List.drop_eq_getElem_cons hi'
            rw [this, List.map_cons, hb.cons]
            exact .one avs y _ xs _ q3 hy1 hy2 hal i2
          · intro p j hp hj
            cases p with
            | zero =>
              have hjl : j < cs'.length := by omega
              have hcj := hcell j hjl
              rw [hadd] at hcj
              have := (cell_im0 hcj).2
              simp only [Nat.add_zero] at this ⊢
              rw [List.getElem?_eq_getElem hjl]
              exact ⟨this, q2 _ (List.getElem_mem hjl)⟩
            | succ p =>
              have := i4 p j (by omega) hj
              rw [show i + (p + 1) = i + 1 + p by omega]
              exact this
          · intro p y' j z hy hz
            cases p with
            | zero =>
              simp at hy; subst hy
              rw [hy2] at hz
              obtain ⟨c, hc1, hc2⟩ := q1.get j hz
              simp only [hc1, Option.getD_some]; exact hc2
            | succ p => exact i5 p y' j z (by simpa using hy) hz
    obtain ⟨xs, f, i1, i2, i3, i4, i5⟩ := key len 0 (by omega)
    rw [List.drop_zero] at i2
    refine ⟨[.sl xs .no], (RelL.nil _).cons (.sl xs .no a len cap (P.cellsOf e) f (by simp) i1.symm hlc hcm i3 (fun i y hy => i2.sz y (List.mem_of_getElem? hy)) (fun p j hp hj => ?_) (fun p j hp hj => (i4 p j (by omega) hj).2) i5 (fun _ _ _ h => by cases h)), by simp [Value.oneCell'], xs, .no, _, rfl, .inr rfl, i2, hb.slice _ _⟩
    have := (i4 p j (by omega) hj).1
    rw [Nat.zero_add] at this
    exact this


theorem rd_fieldsU (hb : BK bk bkA) {N n : Nat} (hn : n < N) (cs : List Value) (tot : Nat) (hl : cs.length = tot) : ∀ (fs : List Field) (Vs : List (List AV → Nat → Prop)) (off : Nat) (xs : List (DataW H × List MemPlace)),
    FOkU N enc P W bk off fs Vs tot → xs.length = fs.length →
    (∀ (i : Nat) (f : Field), fs[i]? = some f → DataW.trod enc P W 0 (fun _ => true) true n f.type ((cs.drop f.offset).take (P.cellsOf f.type)) = xs[i]?) →
    ∃ avs, RelL (im0 W) avs (cs.drop off) ∧ (∀ c ∈ cs.drop off, c.oneCell' = true) ∧ StV Vs avs (bkA (xs.map (·.1)))
  | [], [], off, xs, h, hx, _ => by
    have : off = tot := h
    subst this
    rw [List.drop_eq_nil_of_le (by omega)]
    exact ⟨[], RelL.nil _, by simp, rfl⟩
  | f :: fs, V :: Vs, off, xs, h, hx, ht => by
    obtain ⟨h1, h2, h3⟩ := h
    subst h1
    cases xs with
    | nil => simp at hx
    | cons x xs =>
      have h4 := ht 0 f rfl
      obtain ⟨a, q1, q2, q3⟩ := h2 n hn _ x (by simpa using h4)
      obtain ⟨r, k1, k2, k3⟩ := rd_fieldsU hb hn cs tot hl fs Vs (f.offset + P.cellsOf f.type) xs h3 (by simpa using hx) (fun i g hg => by have := ht (i + 1) g (by simpa using hg); simpa using this)
      have e : cs.drop f.offset = (cs.drop f.offset).take (P.cellsOf f.type) ++ cs.drop (f.offset + P.cellsOf f.type) := by rw [← List.drop_drop, List.take_append_drop]
      refine ⟨a ++ r, by rw [e]; exact q1.append k1, fun c hc => ?_, a, r, _, _, rfl, q3, k3, ?_⟩
      · rw [e] at hc
        rcases List.mem_append.1 hc with hc | hc
        · exact q2 c hc
        · exact k2 c hc
      · rw [List.map_cons, hb.cons]; exact Nat.le_refl _
  | [], _ :: _, _, _, h, _, _ => h.elim
  | _ :: _, [], _, _, h, _, _ => h.elim

theorem rd_structU (hb : BK bk bkA) {N : Nat} {fs : Array Field} {Vs : List (List AV → Nat → Prop)} (ht : P.underlying t = some (.struct fs)) (hf : FOkU N enc P W bk 0 fs.toList Vs (P.cellsOf t)) :
    RdsU (N + 1) enc P W bk t fun avs n => ∃ m, StV Vs avs m ∧ m ≤ n := by
  intro fuel hfu cs x h
  obtain ⟨xs, n, rfl, rfl, hl, hxl, hi⟩ := DataW.trod_struct ht h
  obtain ⟨avs, k1, k2, k3⟩ := rd_fieldsU hb (show n < N by omega) cs _ hl fs.toList Vs 0 xs hf (by simpa using hxl) (fun i f hf => hi i f (by simpa using hf))
  rw [List.drop_zero] at k1 k2
  exact ⟨avs, k1, k2, _, k3, hb.agg _⟩
end
end Go.AL

/- The abstract layer, part 30: lists of rows that may grow; results weakened; calls that answer with scalars over memory seen as it is. -/
set_option linter.unusedVariables false
namespace Go.AL
open Go.RowKit

/-- The token of a list that nobody appends to. -/
def tokc {α : Type} (l : List α) : Tok := match l with | [] => .nil | _ :: _ => .no
/-- A list made by appends out of nil. -/
def GC (sz : Nat) (xs : List AV) : Tok → Prop
  | .nil => xs = []
  | .no => False
  | .at _ _ s => s = sz ∧ xs ≠ []

theorem GC.gt {xs : List AV} {t : Tok} (h : GC 1 xs t) : GT xs t := by
  cases t with
  | nil => exact h
  | no => exact h
  | «at» b e s => exact h.1

/-- An append to a list that owns its spare place, of elements of sz cells. -/
theorem i_appC {t : Th} {sz : Nat} (h0 : 0 < sz) {H A R : Heap} {K : Kv} {bytes : Nat} {xs ys : List AV} {tk : Tok} {y : AV} (hp : H.Perm (A ++ (tokH tk ++ R))) (hn : H.keys.Nodup) (hg : GC sz xs tk)
    (src : ∀ K' : Kl AV, K'.ap ys → xSrc sz y H (K := K')) (h2 : AllSz sz xs) (h3 : xs.length + ys.length ≤ maxLen) (h4 : (xs.length + ys.length) * bytes ≤ 140737488355328)
    (hK : ∀ tk' H', GC sz (xs ++ ys) tk' → H'.Perm (A ++ (tokH tk' ++ R)) → H'.keys.Nodup → K.ap (.sl (xs ++ ys) tk') H') : xE (.app sz bytes) [.sl xs tk, y] H := by
  cases tk with
  | no => exact hg.elim
  | nil =>
    have hx : xs = [] := hg
    subst hx
    rw [x_appnil]
    refine ⟨h0, src _ ⟨⟨by simpa using h3, by simpa using h4⟩, fun e => ?_, fun e => .inl fun id e' hid => ?_⟩⟩
    · subst e; exact hK .nil H rfl hp hn
    · refine hK (.at id e' sz) _ ⟨rfl, by simpa using e⟩ ?_ ?_
      · simp only [tokH, List.nil_append, List.cons_append] at hp ⊢
        exact (hp.cons _).trans List.perm_middle.symm
      · exact List.nodup_cons.2 ⟨hid, hn⟩
  | «at» b e s =>
    obtain ⟨hs, hne⟩ := hg
    subst hs
    rw [x_appat]
    have hl : lookH b H = some (.spare e) := by
      rw [lookH_perm hp hn, lookH_iff (nodup_perm hp hn)]; simp [tokH]
    have hbk : b ∈ H.keys := List.mem_map.2 ⟨_, (lookH_iff hn).1 hl, rfl⟩
    refine ⟨h0, src _ ⟨⟨h2, h3, h4⟩, rfl, ?_⟩⟩
    rw [hl, x_spare]
    refine ⟨⟨rfl, othK_nodup hn⟩, fun id e' hid => hK (.at id e' s) _ ⟨rfl, by simp [hne]⟩ ?_ ?_⟩
    · refine (renH_perm hp hn).trans ?_
      have hn' := nodup_perm hp hn
      simp only [tokH, Heap.keys, List.map_append, List.map_cons, List.cons_append, List.nil_append] at hn'
      have hba : b ∉ Heap.keys A := by
        have := (List.nodup_append.1 hn').2.2
        intro hm; exact this b hm b (by simp) rfl
      rw [renH_app hba]
      simp only [tokH, List.cons_append, List.nil_append, renH, if_true]
      exact .refl _
    · have hk : (renH b id (.spare e') H).keys.Perm (id :: othK b H) := by
        clear hK hp hl hid hn src
        revert hbk
        induction H with
        | nil => intro h; simp [Heap.keys] at h
        | cons p H ih =>
          obtain ⟨j, o⟩ := p
          intro hbk
          simp only [othK, renH]
          by_cases h : b = j
          · subst h; rw [if_pos rfl, if_pos rfl]; exact .refl _
          · rw [if_neg h, if_neg h]
            have hb' : b ∈ Heap.keys H := by simpa [Heap.keys, h] using hbk
            exact ((ih hb').cons j).trans (.swap id j _)
      rw [hk.nodup_iff]
      exact List.nodup_cons.2 ⟨hid, (List.nodup_cons.1 ((othK_keys hbk).nodup_iff.1 hn)).2⟩

theorem hle_sub {X Y H : Heap} (hp : H.Perm Y) (hs : X.Sublist Y) : Hle X H := by
  obtain ⟨L, h1, h2⟩ := List.exists_perm_sublist hs hp.symm
  exact ⟨L, h2, h1⟩
theorem nodup_sub {X Y H : Heap} (hp : H.Perm Y) (hs : X.Sublist Y) (hn : H.keys.Nodup) : X.keys.Nodup := (hs.map _).nodup (nodup_perm hp hn)
theorem hle_tok {tk : Tok} {H H1 : Heap} (hp : H1.Perm (tokH tk ++ H)) : Hle H H1 := hle_sub hp (List.sublist_append_right _ _)
theorem src_sl_of {sz : Nat} {ys : List AV} (tok : Tok) (H : Heap) (h1 : AllSz sz ys) : ∀ K' : Kl AV, K'.ap ys → xSrc sz (.sl ys tok) H (K := K') := fun K' h => by rw [xsrc_sl]; exact ⟨h1, h⟩

/-- A literal of wide elements that never turns. -/
theorem i_bslN {t : Th} {sz n : Nat} {z : List AV} {pl : List (Nat × Nat)} {xs : List AV} {H : Heap} {K : Kv} (hs : sz ≠ 1) (ys : List AV) (h1 : fillL ((List.replicate n z).flatten) pl xs = some (flat ys)) (h2 : AllSz sz ys) (h3 : ys.length = n)
    (hK : ∀ id, id ∉ H.keys → K.ap (.sl ys (.at id (n * sz) sz)) ((id, .spare (n * sz)) :: H)) : xE (t := t) (.bslice sz n z pl) xs H (K := K) := by
  have : xE (t := t) (.bslice sz n z pl) xs H (K := K) = match fillL ((List.replicate n z).flatten) pl xs with
    | some cs => if sz = 1 then (if isU8 z && n != 0 then (∀ id, id ∉ H.keys → K.ap (.msl id 0 n 1) ((id, .cells cs) :: H))
          else (∀ id, id ∉ H.keys → K.ap (.msl id 0 n 1) ((id, .cells cs) :: H)) ∨ ((AllSz 1 cs ∧ cs.length = n ∧ flat cs = cs) ∧ ∀ id, id ∉ H.keys → K.ap (.sl cs (.at id n 1)) ((id, .spare n) :: H)))
        else (∀ id, id ∉ H.keys → K.ap (.msl id 0 n sz) ((id, .cells cs) :: H)) ∨
         (∃ ys, AllSz sz ys ∧ ys.length = n ∧ flat ys = cs ∧ ∀ id, id ∉ H.keys → K.ap (.sl ys (.at id (n * sz) sz)) ((id, .spare (n * sz)) :: H))
    | none => False := by cases xs <;> rfl
  rw [this, h1]
  simp only [if_neg hs]
  exact .inr ⟨ys, h2, h3, rfl, hK⟩

/-- What stands for no less. -/
def AVle (v v' : AV) : Prop := ∀ (m : Im) (c : Value), Rel m v c → Rel m v' c
theorem AVle.refl (v : AV) : AVle v v := fun _ _ h => h
theorem AVle.no (xs : List AV) (b e s : Nat) : AVle (.sl xs (.at b e s)) (.sl xs .no) := by
  intro m c h
  cases h with
  | sl xs t a len cap sz f ht hl hlc hcm hs hz hc h1 hr hk => exact .sl xs .no a len cap sz f (by simp) hl hlc hcm hs hz hc h1 hr (fun _ _ _ h => by cases h)
theorem AVle.tok {sz : Nat} {xs : List AV} {t : Tok} (h : GC sz xs t) : AVle (.sl xs t) (.sl xs (tokc xs)) := by
  cases t with
  | nil => have h : xs = [] := h; subst h; exact .refl _
  | no => exact h.elim
  | «at» b e s =>
    obtain ⟨rfl, hne⟩ := h
    cases xs with
    | nil => exact absurd rfl hne
    | cons x xs => exact .no _ _ _ _
theorem tokc_map {α : Type} (f : α → AV) (l : List α) : tokc (l.map f) = tokc l := by cases l <;> rfl
inductive AVles : List AV → List AV → Prop
  | nil : AVles [] []
  | cons {v v' : AV} {l l' : List AV} : AVle v v' → AVles l l' → AVles (v :: l) (v' :: l')
theorem AVles.len {l l' : List AV} (h : AVles l l') : l.length = l'.length := by induction h with | nil => rfl | cons _ _ ih => simp [ih]
theorem AVles.get {l l' : List AV} (h : AVles l l') : ∀ (i : Nat) (x' : AV), l'[i]? = some x' → ∃ x, l[i]? = some x ∧ AVle x x' := by
  induction h with
  | nil => intro i x' hx; simp at hx
  | cons h1 _ ih =>
    intro i x' hx
    cases i with
    | zero => simp at hx; subst hx; exact ⟨_, rfl, h1⟩
    | succ i => simpa using ih i x' (by simpa using hx)
theorem AVles.refl : ∀ l : List AV, AVles l l
  | [] => .nil
  | v :: l => .cons (.refl v) (AVles.refl l)
theorem AVle.tup {l l' : List AV} (h : AVles l l') : AVle (.tup l) (.tup l') := by
  intro m c k
  cases k with
  | tup vs va hl hr =>
    refine .tup l' va (by rw [← h.len]; exact hl) fun i x y hx hy => ?_
    obtain ⟨x0, h0, h1⟩ := h.get i x hx
    exact h1 m y (hr i x0 y h0 hy)
theorem AVle.agg {l l' : List AV} (h : AVles l l') : AVle (.agg l) (.agg l') := by
  intro m c k
  cases k with
  | agg vs va hl h1' hr =>
    refine .agg l' va (by rw [← h.len]; exact hl) h1' fun i x y hx hy => ?_
    obtain ⟨x0, h0, h1⟩ := h.get i x hx
    exact h1 m y (hr i x0 y h0 hy)

section
variable {G : Nat → Option (List AV)} {P : Program}
theorem ACalls.weak {f : Nat} {xs : List AV} {H : Heap} {K : AV → Heap → Prop} (h : ACalls G P f xs H fun v H' => ∃ v', AVle v v' ∧ K v' H') : ACalls G P f xs H K :=
  ⟨h.1, fun B w0 m w cargs h1 h2 => (h.2 B w0 m w cargs h1 h2).mono fun _ _ ⟨v, cv, m', H', e1, e2, e3, e4, v', e5, e6⟩ => ⟨v', cv, m', H', e1, e2, e3, e5 _ _ e4, e6⟩⟩
/-- A function's contract, its result weakened. -/
theorem okW {T : XT} (hm : P.follows .mixedOrders = true) (hT : TOk G P (plainT T)) {f : Nat} {F : AFun} {hs : List Hint} (hF : compF P f hs = some F) (xs : List AV) (H : Heap) (K : AV → Heap → Prop)
    (h : @xF ⟨G, P, T⟩ F xs H ⟨fun v H' => ∃ H0, Hle H0 H' ∧ ∃ v', AVle v v' ∧ K v' H0⟩) : ACalls G P f xs H K := ACalls.weak (okC hm hT hF xs H (fun v H' => ∃ v', AVle v v' ∧ K v' H') h)

/-- Scalars. -/
def scalB : AV → Bool
  | .bool _ | .int _ _ | .str _ | .nilp | .nili | .nilm | .nilf => true
  | .tup vs => vs.all fun v => match v with | .bool _ | .int _ _ | .str _ | .nilp | .nili | .nilm | .nilf => true | _ => false
  | _ => false
theorem scal_rel {m m' : Im} {v : AV} {c : Value} (hs : scalB v = true) (h : Rel m v c) : Rel m' v c := by
  cases h with
  | bool b => exact .bool b
  | int k n => exact .int k n
  | str s => exact .str s
  | nilp => exact .nilp
  | nili => exact .nili
  | nilm => exact .nilm
  | nilf => exact .nilf
  | tup vs va hl hr =>
    refine .tup vs va hl fun i x y hx hy => ?_
    have h1 := hr i x y hx hy
    have h2 := List.all_eq_true.1 hs x (List.mem_of_getElem? hx)
    cases h1 <;> first | (exact .bool _) | (exact .int _ _) | (exact .str _) | (exact .nilp) | (exact .nili) | (exact .nilm) | (exact .nilf) | (simp at h2)
  | _ => simp [scalB] at hs

end
end Go.AL

/- The abstract layer, part 31: lists of one's own that never turn again; calls that only look. -/
set_option linter.unusedSimpArgs false
set_option linter.unusedVariables false
namespace Go.AL
open Go.RowKit
section
variable {G : Nat → Option (List AV)} {P : Program} {B : Nat} {w0 w : World} {m : Im} {H : Heap}
theorem Sat.freeze {id : Nat} {vs : List AV} (h : Sat G B w0 m ((id, .cells vs) :: H) w) (hone : ∀ x ∈ vs, x.cells = [x]) :
    ∃ m', m.le m' ∧ Sat G B w0 m' H w ∧ ∀ c, Rel m (.msl id 0 vs.length 1) c → Rel m' (.sl vs .no) c := by
  obtain ⟨hB, hlt, cs, e, fr, hb, hle, hfr, hno, hcs⟩ := h.obj id _ List.mem_cons_self
  have hid : id ∉ H.keys := (List.nodup_cons.1 h.nodup).1
  have hcell : ∀ o, w.cell? ⟨id, o, none⟩ = cs[o]? := fun o => by simp [World.cell?, hb]
  obtain ⟨m', hm'⟩ : ∃ m' : Im, m' = ⟨fun b o => if b = id then cs[o]? else m.cell b o, m.size⟩ := ⟨_, rfl⟩
  have hmle : m.le m' := by
    subst hm'
    refine ⟨fun b o v hv => ?_, fun b n hn => hn⟩
    by_cases hbi : b = id
    · subst hbi; rw [hno o] at hv; cases hv
    · simp only [if_neg hbi]; exact hv
  have hne : ∀ b o, b ≠ id → m'.cell b o = m.cell b o := fun b o hbi => by subst hm'; simp only [if_neg hbi]
  have heq : ∀ o, m'.cell id o = cs[o]? := fun o => by subst hm'; simp only [if_true]
  refine ⟨m', hmle, ⟨h.below, h.base, fun b o v hv => ?_, fun b n hn => h.size b n (by subst hm'; exact hn), (List.nodup_cons.1 h.nodup).2, fun j o hj => ?_, fun g cs hg => ⟨(h.glob g cs hg).1, (h.glob g cs hg).2.mono hmle⟩⟩, ?_⟩
  · by_cases hbi : b = id
    · subst hbi; rw [heq] at hv; rw [hcell]; exact hv
    · rw [hne b o hbi] at hv; exact h.cell b o v hv
  · obtain ⟨h1, h2, h3⟩ := h.obj j o (List.mem_cons_of_mem _ hj)
    have hji : j ≠ id := fun e => hid (by rw [← e]; exact List.mem_map.2 ⟨_, hj, rfl⟩)
    exact ⟨h1, h2, AObj.ok_of_block hmle rfl (fun x => hne j x hji) h3⟩
  · intro c hr
    generalize hL : vs.length = L at hr
    have key : ∀ (a : Addr) (len cap : Nat), (vs ≠ [] → a = ⟨id, 0, none⟩) → len = vs.length → len ≤ cap → cap ≤ maxLen → Rel m' (.sl vs .no) (.slice (some a) len cap) := by
      intro a len cap ha hl hlc hcm
      refine .sl vs .no a len cap 1 (fun i _ => (cs[i]?).getD default) (by simp) hl hlc hcm (fun hv => by rw [ha hv]) (fun i x hx => by rw [hone x (List.mem_of_getElem? hx)]; rfl) (fun i j hi hj => ?_) (fun i j hi hj => ?_) (fun i x j y hx hy => ?_) (fun _ _ _ h => by cases h)
      · have hv : vs ≠ [] := by intro e; subst e; simp at hi
        obtain ⟨c, hc, _, _⟩ := hcs i _ (List.getElem?_eq_getElem hi)
        rw [ha hv, show 0 + i * 1 + j = i by omega, heq, hc]; rfl
      · obtain ⟨c, hc, _, h1⟩ := hcs i _ (List.getElem?_eq_getElem hi)
        rw [hc]; exact h1
      · obtain ⟨c, hc, hr, _⟩ := hcs i x hx
        rw [hone x (List.mem_of_getElem? hx)] at hy
        cases j with
        | zero => simp at hy; subst hy; rw [hc]; exact hr.mono hmle
        | succ j => simp at hy
    cases hr with
    | msl id' off len cap sz n hlc hcm hn hcap => exact key _ _ _ (fun _ => rfl) hL.symm hlc hcm
    | msl0 id' off sz a =>
      obtain rfl : vs = [] := List.length_eq_zero_iff.1 hL
      exact key a 0 0 (fun h => absurd rfl h) rfl (Nat.le_refl _) (Nat.zero_le _)
/-- A result, weakened or frozen. -/
def Frz (v : AV) (H' : Heap) (v' : AV) (H0 : Heap) : Prop := (Hle H0 H' ∧ AVle v v') ∨ ∃ id vs, v = .msl id 0 vs.length 1 ∧ (∀ x ∈ vs, x.cells = [x]) ∧ Hle ((id, .cells vs) :: H0) H' ∧ v' = .sl vs .no
theorem ACalls.frz {f : Nat} {xs : List AV} {H : Heap} {K : AV → Heap → Prop} (h : ACalls G P f xs H fun v H' => ∃ v' H0, Frz v H' v' H0 ∧ K v' H0) : ACalls G P f xs H K := by
  refine ⟨h.1, fun B w0 m w cargs h1 h2 => (h.2 B w0 m w cargs h1 h2).mono ?_⟩
  rintro e w' ⟨v, cv, m', H', e1, e2, e3, e4, v', H0, ⟨h3, h4⟩ | ⟨id, vs, rfl, h3, h4, rfl⟩, h5⟩
  · exact ⟨v', cv, m', H0, e1, e2, e3.weak h3, h4 _ _ e4, h5⟩
  · obtain ⟨m2, q1, q2, q3⟩ := (e3.weak h4).freeze h3
    exact ⟨_, cv, m2, H0, e1, e2.trans q1, q2, q3 _ e4, h5⟩
/-- A function's contract, its result weakened or frozen. -/
theorem okZ {T : XT} (hm : P.follows .mixedOrders = true) (hT : TOk G P (plainT T)) {f : Nat} {F : AFun} {hs : List Hint} (hF : compF P f hs = some F) (xs : List AV) (H : Heap) (K : AV → Heap → Prop)
    (h : @xF ⟨G, P, T⟩ F xs H ⟨fun v H' => ∃ v' H0, Frz v H' v' H0 ∧ K v' H0⟩) : ACalls G P f xs H K := ACalls.frz (okF hm hT hF xs H (fun v H' => ∃ v' H0, Frz v H' v' H0 ∧ K v' H0) h)
/-- A value that stands for the cells that it refers to. -/
def Fz (H : Heap) (x x' : AV) : Prop := x = x' ∨ ∃ id off n vs, x = .msl id off n 1 ∧ lookH id H = some (.cells vs) ∧ off + n ≤ vs.length ∧ (∀ y ∈ vs, y.cells = [y]) ∧ x' = .sl ((vs.drop off).take n) .no
inductive FzL (H : Heap) : List AV → List AV → Prop
  | nil : FzL H [] []
  | cons {x x' : AV} {xs xs' : List AV} : Fz H x x' → FzL H xs xs' → FzL H (x :: xs) (x' :: xs')
theorem FzL.len {H : Heap} {xs xs' : List AV} (h : FzL H xs xs') : xs.length = xs'.length := by induction h with | nil => rfl | cons _ _ ih => simp [ih]
theorem FzL.get {H : Heap} {xs xs' : List AV} (h : FzL H xs xs') : ∀ (i : Nat) (x' : AV), xs'[i]? = some x' → ∃ x, xs[i]? = some x ∧ Fz H x x' := by
  induction h with
  | nil => intro i x' hx; simp at hx
  | cons h1 _ ih =>
    intro i x' hx
    cases i with
    | zero => simp at hx; subst hx; exact ⟨_, rfl, h1⟩
    | succ i => simpa using ih i x' (by simpa using hx)
/-- A call that yields scalars and leaves the heap alone: it may look at lists of one's own as if they never turned. -/
theorem ACalls.pure {f : Nat} {xs xs' : List AV} {H : Heap} {Kr : AV → Prop} {K : AV → Heap → Prop} (h : ACalls G P f xs' [] fun v _ => Kr v ∧ scalB v = true) (hfz : FzL H xs xs') (hK : ∀ v, Kr v → K v H) : ACalls G P f xs H K := by
  refine ⟨h.1, fun B w0 m w cargs hsat hrel => ?_⟩
  obtain ⟨m2, hm2⟩ : ∃ m2 : Im, m2 = ⟨fun b o => match lookH b H with | some (.cells _) => (match w.heap[b]? with | some (.cells cs _ _) => cs[o]? | _ => none) | _ => m.cell b o, m.size⟩ := ⟨_, rfl⟩
  have hcell : ∀ id vs, lookH id H = some (.cells vs) → ∀ cs e fr, w.heap[id]? = some (.cells cs e fr) → ∀ o, m2.cell id o = cs[o]? := by
    intro id vs hl cs e fr hb o
    subst hm2; simp only [hl, hb]
  have hoth : ∀ b, (∀ vs, lookH b H ≠ some (.cells vs)) → ∀ o, m2.cell b o = m.cell b o := by
    intro b hl o
    subst hm2
    cases hb : lookH b H with
    | none => simp only [hb]
    | some ob =>
      cases ob with
      | cells vs => exact absurd hb (hl vs)
      | _ => simp only [hb]
  have hle : m.le m2 := by
    refine ⟨fun b o v hv => ?_, fun b n hn => by subst hm2; exact hn⟩
    by_cases hc : ∃ vs, lookH b H = some (.cells vs)
    · obtain ⟨vs, hl⟩ := hc
      obtain ⟨_, _, cs, e, fr, _, _, _, hno, _⟩ := hsat.obj b _ (lookH_mem hl)
      rw [hno o] at hv; cases hv
    · rw [hoth b (fun vs hv => hc ⟨vs, hv⟩)]; exact hv
  have hsat2 : Sat G w.heap.size w m2 [] w := by
    refine ⟨Below.refl _ _, Nat.le_refl _, fun b o v hv => ?_, fun b n hn => hsat.size b n (by subst hm2; exact hn), List.nodup_nil, fun id o hm => (List.not_mem_nil hm).elim, fun g cs hg => ⟨?_, (hsat.glob g cs hg).2.mono hle⟩⟩
    by_cases hc : ∃ vs, lookH b H = some (.cells vs)
    · obtain ⟨vs, hl⟩ := hc
      obtain ⟨_, _, cs, e, fr, hb, _⟩ := hsat.obj b _ (lookH_mem hl)
      rw [hcell b vs hl cs e fr hb] at hv
      simp [World.cell?, hb, hv]
    · rw [hoth b (fun vs hv => hc ⟨vs, hv⟩)] at hv
      exact hsat.cell b o v hv
    · obtain ⟨⟨g1, vs, e, fr, g2, g3⟩, _⟩ := hsat.glob g cs hg
      exact ⟨Nat.lt_of_lt_of_le g1 hsat.base, vs, e, fr, by rw [hsat.below.block g g1]; exact g2, g3⟩
  have hrel2 : RelL m2 xs' cargs.toList := by
    refine ⟨by rw [← hfz.len]; exact hrel.1, fun i x' y hx hy => ?_⟩
    obtain ⟨x, h1, h2⟩ := hfz.get i x' hx
    have hr := hrel.2 i x y h1 hy
    rcases h2 with rfl | ⟨id, off, n, vs, rfl, hl, hn, hone, rfl⟩
    · exact hr.mono hle
    · obtain ⟨_, _, cs, e, fr, hb, hvs, _, _, hcs⟩ := hsat.obj id _ (lookH_mem hl)
      have ln : ((vs.drop off).take n).length = n := by rw [List.length_take, List.length_drop]; omega
      have hget : ∀ i x, ((vs.drop off).take n)[i]? = some x → vs[off + i]? = some x := by
        intro i x hi
        rw [List.getElem?_take] at hi
        split at hi
        · rwa [List.getElem?_drop] at hi
        · cases hi
      generalize (vs.drop off).take n = ys at ln hget ⊢
      have key : ∀ (a : Addr) (cap : Nat), (ys ≠ [] → a = ⟨id, off, none⟩) → n ≤ cap → cap ≤ maxLen → Rel m2 (.sl ys .no) (.slice (some a) n cap) := by
        intro a cap ha hlc hcm
        refine .sl ys .no a n cap 1 (fun i _ => (cs[off + i]?).getD default) (by simp) ln.symm hlc hcm (fun hv => by rw [ha hv]) (fun i x hx => by rw [hone x (List.mem_of_getElem? (hget i x hx))]; rfl) (fun i j hi hj => ?_) (fun i j hi hj => ?_) (fun i x j y hx hy => ?_) (fun _ _ _ h => by cases h)
        · have hv : ys ≠ [] := by intro e; subst e; simp at hi
          obtain ⟨c, hc, _, _⟩ := hcs (off + i) _ (hget i _ (List.getElem?_eq_getElem hi))
          rw [ha hv]
          show m2.cell id (off + i * 1 + j) = _
          rw [show off + i * 1 + j = off + i by omega, hcell id vs hl cs e fr hb, hc]; rfl
        · obtain ⟨c, hc, _, h1⟩ := hcs (off + i) _ (hget i _ (List.getElem?_eq_getElem hi))
          rw [hc]; exact h1
        · obtain ⟨c, hc, hr, _⟩ := hcs (off + i) x (hget i x hx)
          rw [hone x (List.mem_of_getElem? (hget i x hx))] at hy
          cases j with
          | zero => simp at hy; subst hy; rw [hc]; exact hr.mono hle
          | succ j => simp at hy
      cases hr with
      | msl _ _ _ cap _ n0 hlc hcm hn0 hcap => exact key _ _ (fun _ => rfl) hlc hcm
      | msl0 _ _ _ a =>
        obtain rfl : ys = [] := List.length_eq_zero_iff.1 ln
        exact key a 0 (fun h => absurd rfl h) (Nat.le_refl _) (Nat.zero_le _)
  refine (h.2 w.heap.size w m2 w cargs hsat2 hrel2).mono ?_
  rintro e w' ⟨v, cv, m', H', e1, e2, e3, e4, e5, e6⟩
  have hbel := e3.below
  have hblk : ∀ k, k < w.heap.size → w'.heap[k]? = w.heap[k]? := hbel.block
  refine ⟨v, cv, m, H, e1, .refl m, ⟨hsat.below.trans (hbel.mono hsat.base), Nat.le_trans hsat.base hbel.size, fun b o u hu => ?_, fun b n hn => ?_, hsat.nodup, fun id o hm => ?_, hsat.glob⟩, scal_rel e6 e4, hK v e5⟩
  · have h1 := hsat.cell b o u hu
    have h2 := World.block_lt_of_cell? _ _ h1
    rw [World.cell?_of_block (w := w) (a := ⟨b, o, none⟩) (hblk b h2)]; exact h1
  · obtain ⟨cs, e, fr, h1, h2⟩ := hsat.size b n hn
    have hlt : b < w.heap.size := (Array.getElem?_eq_some_iff.1 h1).1
    exact ⟨cs, e, fr, by rw [hblk b hlt]; exact h1, h2⟩
  · obtain ⟨h1, h2, h3⟩ := hsat.obj id o hm
    exact ⟨h1, Nat.lt_of_lt_of_le h2 hbel.size, AObj.ok_of_block (.refl m) (hblk id h2) (fun _ => rfl) h3⟩
end
end Go.AL
