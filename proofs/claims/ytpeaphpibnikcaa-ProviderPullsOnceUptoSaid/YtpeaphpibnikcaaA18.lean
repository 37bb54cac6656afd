/- The abstract layer, part 18: code turned; what it does, as one proposition; functions. -/
import Derived.Test.YtpeaphpibnikcaaA17B
namespace Go.AL
open Go.RowKit

/-- Code, abstractly. With each stretch of operations and each loop: the slots that are wanted behind it. -/
inductive ACode where
  | skip
  | run (ks : List Nat) (l : List AOper)
  | runD (ks : List Nat) (l : List Item)
  | runF (ks : List Nat) (pre l1 l2 : List Item)
  | seq (a b : ACode)
  | cond (c : Operand) (a b : ACode)
  | block (id : Nat) (b : ACode)
  | loop (ks : List Nat) (b : ACode)
  | exit (id : Nat)
  | ret

/-- What is told of code ahead: the slots wanted behind a stretch; the order of a region. -/
inductive Hint where
  | ks (l : List Nat)
  | ord (l : List (Nat × List Nat))
  | frk (a b c : List (Nat × List Nat))

def compC (P : Program) (n : Nat) : Code → List Hint → Option (ACode × List Hint)
  | .skip, hs => some (.skip, hs)
  | .region _ ops false, .ks k :: hs => (compR P n ops).map fun l => (.run k l, hs)
  | .region _ ops true, .ks k :: .ord o :: hs => (compD P n ops o).map fun l => (.runD k l, hs)
  | .region _ ops true, .ks k :: .frk a b c :: hs => (compDF P n ops a b c).map fun l => (.runF k l.1 l.2.1 l.2.2, hs)
  | .seq a b, hs => (compC P n a hs).bind fun x => (compC P n b x.2).map fun y => (.seq x.1 y.1, y.2)
  | .cond c a b, hs => (compC P n a hs).bind fun x => (compC P n b x.2).map fun y => (.cond c x.1 y.1, y.2)
  | .block id b, hs => (compC P n b hs).map fun x => (.block id x.1, x.2)
  | .loop b, .ks k :: hs => (compC P n b hs).map fun x => (.loop k x.1, x.2)
  | .exit id, hs => some (.exit id, hs)
  | .ret, hs => some (.ret, hs)
  | _, _ => none

/-- What has to be told for a piece of code to come out. -/
def ACode.hints : ACode → List Hint
  | .run k _ => [.ks k]
  | .runD k l => [.ks k, .ord (l.map fun x => (x.i, x.ob))]
  | .runF k p l1 l2 => [.ks k, .frk (p.map fun x => (x.i, x.ob)) (l1.map fun x => (x.i, x.ob)) (l2.map fun x => (x.i, x.ob))]
  | .seq a b => a.hints ++ b.hints
  | .cond _ a b => a.hints ++ b.hints
  | .block _ b => b.hints
  | .loop k b => .ks k :: b.hints
  | _ => []

def thenE (next : Env → Heap → Prop) (Q : Exit → Env → Heap → Prop) : Exit → Env → Heap → Prop
  | .normal, σ, H => next σ H
  | e, σ, H => Q e σ H

def blockE (id : Nat) (Q : Exit → Env → Heap → Prop) : Exit → Env → Heap → Prop
  | .exit id', σ, H => if id' = id then Q .normal σ H else Q (.exit id') σ H
  | e, σ, H => Q e σ H

def den (G : Nat → Option (List AV)) (P : Program) : ACode → Env → Heap → (Exit → Env → Heap → Prop) → Prop
  | .skip, σ, H, Q => Q .normal σ H
  | .run ks l, σ, H, Q => runL G P l σ H fun σ' H' => Q .normal (σ'.keep ks) H'
  | .runD ks l, σ, H, Q => seqD G P l [] σ H fun σ' H' => Q .normal (σ'.keep ks) H'
  | .runF ks pre l1 l2, σ, H, Q => seqP G P pre [] σ H (forkK G P l1 l2 fun σ' H' => Q .normal (σ'.keep ks) H')
  | .seq a b, σ, H, Q => den G P a σ H (thenE (fun σ' H' => den G P b σ' H' Q) Q)
  | .cond c a b, σ, H, Q => match opE G σ c with
    | .bool t => if t then den G P a σ H Q else den G P b σ H Q
    | _ => False
  | .block id b, σ, H, Q => den G P b σ H (blockE id Q)
  | .loop ks b, σ, H, Q => ∃ (I : Env → Heap → Prop) (μ : Env → Heap → Nat), (∃ H0, Hle H0 H ∧ I (σ.keep ks) H0) ∧
      ∀ σ1 H1, I σ1 H1 → den G P b σ1 H1 (thenE (fun σ2 H2 => ∃ H0, Hle H0 H2 ∧ I (σ2.keep ks) H0 ∧ μ (σ2.keep ks) H0 < μ σ1 H1) Q)
  | .exit id, σ, H, Q => Q (.exit id) σ H
  | .ret, σ, H, Q => Q .ret σ H

section
variable {G : Nat → Option (List AV)} {B : Nat} {w0 w w' : World} {m m' : Im} {H H' : Heap} {P : Program} {n : Nat} {σ : Env} {a : Act} {ops : Array Oper}

theorem runL_mono {K K' : Env → Heap → Prop} (hK : ∀ σ H, K σ H → K' σ H) : ∀ (l : List AOper) (σ : Env) (H : Heap), runL G P l σ H K → runL G P l σ H K'
  | [], _, _, h => hK _ _ h
  | o :: l, σ, H, h => by
    simp only [runL, doOp] at h ⊢
    exact gate_mono (eff_mono fun v H' h => runL_mono hK l _ _ h) (runL_mono hK l _ _) h

theorem seqD_mono {K K' : Env → Heap → Prop} (hK : ∀ σ H, K σ H → K' σ H) : ∀ (l : List Item) (pend : List Pend) (σ : Env) (H : Heap), seqD G P l pend σ H K → seqD G P l pend σ H K'
  | [], _, _, _, h => hK _ _ h
  | x :: l, pend, σ, H, h => by
    simp only [seqD] at h ⊢
    refine gate_mono (fun h => ?_) (seqD_mono hK l _ _ _) h
    cases hq : x.o.op.quiet with
    | true => rw [hq] at h; obtain ⟨v, h1, h2⟩ := h; exact ⟨v, h1, seqD_mono hK l _ _ _ h2⟩
    | false => rw [hq] at h; exact eff_mono (fun v H' h => oblP_mono (fun _ h => h) (seqD_mono hK l _ _ _) h) h

theorem den_mono : ∀ {c : ACode} {σ : Env} {H : Heap} {Q Q' : Exit → Env → Heap → Prop}, (∀ e σ H, Q e σ H → Q' e σ H) → den G P c σ H Q → den G P c σ H Q'
  | .skip, _, _, _, _, hq, h => hq _ _ _ h
  | .run ks l, _, _, _, _, hq, h => runL_mono (fun _ _ h => hq _ _ _ h) l _ _ h
  | .runD ks l, _, _, _, _, hq, h => seqD_mono (fun _ _ h => hq _ _ _ h) l _ _ _ h
  | .runF ks pre l1 l2, _, _, _, _, hq, h => seqP_mono (fun _ _ _ h => ⟨seqD_mono (fun _ _ h => hq _ _ _ h) l1 _ _ _ h.1, seqD_mono (fun _ _ h => hq _ _ _ h) l2 _ _ _ h.2⟩) pre _ _ _ h
  | .seq a b, _, _, _, _, hq, h => by
    simp only [den] at h ⊢
    refine den_mono (fun e σ H h => ?_) h
    cases e <;> first | exact den_mono hq h | exact hq _ _ _ h
  | .cond c a b, σ, _, _, _, hq, h => by
    simp only [den] at h ⊢
    split at h
    · rename_i t _
      cases t with
      | true => rw [if_pos rfl] at h ⊢; exact den_mono hq h
      | false => exact den_mono (c := b) hq h
    · exact h
  | .block id b, _, _, _, _, hq, h => by
    simp only [den] at h ⊢
    refine den_mono (fun e σ H h => ?_) h
    cases e with
    | exit i =>
      simp only [blockE] at h ⊢
      split at h
      · rename_i hi; rw [if_pos hi]; exact hq _ _ _ h
      · rename_i hi; rw [if_neg hi]; exact hq _ _ _ h
    | _ => exact hq _ _ _ h
  | .loop ks b, _, _, _, _, hq, h => by
    simp only [den] at h ⊢
    obtain ⟨I, μ, h0, h1⟩ := h
    refine ⟨I, μ, h0, fun σ1 H1 hI => den_mono (fun e σ H h => ?_) (h1 σ1 H1 hI)⟩
    cases e <;> first | exact h | exact hq _ _ _ h
  | .exit id, _, _, _, _, hq, h => hq _ _ _ h
  | .ret, _, _, _, _, hq, h => hq _ _ _ h

theorem AWp_mono {c : Code} {Q Q' : Exit → Env → Heap → Prop} (hq : ∀ e σ H, Q e σ H → Q' e σ H) (h : AWp G P n c σ H Q) : AWp G P n c σ H Q' :=
  fun B w0 m w a h1 h2 => wp_mono (h B w0 m w a h1 h2) fun _ _ _ ⟨m', σ', H', g1, g2, g3, g4⟩ => ⟨m', σ', H', g1, g2, g3, hq _ _ _ g4⟩

theorem AWp_seq {x y : Code} {Q : Exit → Env → Heap → Prop} (h : AWp G P n x σ H (thenE (fun σ' H' => AWp G P n y σ' H' Q) Q)) : AWp G P n (.seq x y) σ H Q := by
  intro B w0 m w a h1 h2
  refine wp_seq (wp_mono (h B w0 m w a h1 h2) ?_)
  rintro e a' w' ⟨m', σ', H', g1, g2, g3, g4⟩
  cases e with
  | normal => exact wp_mono (g4 B w0 m' w' a' g2 g3) fun _ _ _ ⟨m2, σ2, H2, q1, q2, q3, q4⟩ => ⟨m2, σ2, H2, g1.trans q1, q2, q3, q4⟩
  | _ => exact ⟨m', σ', H', g1, g2, g3, g4⟩

theorem AWp_cond {c : Operand} {x y : Code} {Q : Exit → Env → Heap → Prop} {t : Bool} (hc : opE G σ c = .bool t) (h : AWp G P n (if t then x else y) σ H Q) : AWp G P n (.cond c x y) σ H Q := by
  intro B w0 m w a h1 h2
  have hr := h2.opE h1 c
  rw [hc] at hr
  generalize hcv : a.eval c = cv at hr
  cases hr
  exact wp_cond hcv (h B w0 m w a h1 h2)

theorem AWp_block {id : Nat} {x : Code} {Q : Exit → Env → Heap → Prop} (h : AWp G P n x σ H (blockE id Q)) : AWp G P n (.block id x) σ H Q := by
  intro B w0 m w a h1 h2
  refine wp_block (wp_mono (h B w0 m w a h1 h2) ?_)
  rintro e a' w' ⟨m', σ', H', g1, g2, g3, g4⟩
  cases e with
  | exit i =>
    simp only [blockE] at g4
    simp only [Exit.inBlock]
    split at g4
    · rename_i hi; rw [if_pos hi]; exact ⟨m', σ', H', g1, g2, g3, g4⟩
    · rename_i hi; rw [if_neg hi]; exact ⟨m', σ', H', g1, g2, g3, g4⟩
  | _ => exact ⟨m', σ', H', g1, g2, g3, g4⟩

theorem AWp_keep {c : Code} {ks : List Nat} {Q : Exit → Env → Heap → Prop} (h : AWp G P n c (σ.keep ks) H Q) : AWp G P n c σ H Q :=
  fun B w0 m w a h1 h2 => h B w0 m w a h1 (h2.keep ks)

theorem Env.keep_same {σ σ' : Env} (h : σ.same σ') (ks : List Nat) : σ.keep ks = σ'.keep ks := List.map_congr_left fun t _ => by rw [h t]

theorem AWp_loop {x : Code} {ks : List Nat} {Q : Exit → Env → Heap → Prop} (I : Env → Heap → Prop) (μ : Env → Heap → Nat) (h0 : ∃ H0, Hle H0 H ∧ I (σ.keep ks) H0)
    (h : ∀ σ1 H1, I σ1 H1 → AWp G P n x σ1 H1 (thenE (fun σ2 H2 => ∃ H0, Hle H0 H2 ∧ I (σ2.keep ks) H0 ∧ μ (σ2.keep ks) H0 < μ σ1 H1) Q)) : AWp G P n (.loop x) σ H Q := by
  intro B w0 m w a h1 h2
  have key : ∀ (k : Nat) (σ1 : Env) (H1 : Heap) (m1 : Im) (w1 : World) (a1 : Act), I σ1 H1 → μ σ1 H1 ≤ k → m.le m1 → Sat G B w0 m1 H1 w1 → RelT m1 n σ1 a1 → ∀ (b : Frame) (it : List Go.Item) (cs : List Frame),
      ∃ e a' w', Post G B w0 m n Q e a' w' ∧ Arrives P (lone (b.at a1 (.code x :: .inLoop x :: it)) cs w1) b it cs e a' w' := by
    intro k
    induction k with
    | zero =>
      intro σ1 H1 m1 w1 a1 hI hk hm hs hr b it cs
      obtain ⟨e, a', w', hq, harr⟩ := h σ1 H1 hI B w0 m1 w1 a1 hs hr b (.inLoop x :: it) cs
      obtain ⟨m', σ', H', g1, g2, g3, g4⟩ := hq
      cases e with
      | normal => obtain ⟨H0, _, _, q3⟩ := g4; exact absurd (Nat.lt_of_lt_of_le q3 hk) (Nat.not_lt_zero _)
      | exit id => exact ⟨_, a', w', ⟨m', σ', H', hm.trans g1, g2, g3, g4⟩, .pass (x := .inLoop x) rfl (fun _ _ => .inl (by simp)) harr⟩
      | goto l => exact ⟨_, a', w', ⟨m', σ', H', hm.trans g1, g2, g3, g4⟩, .pass (x := .inLoop x) rfl (fun _ _ => .inl (by simp)) harr⟩
      | ret => exact ⟨_, a', w', ⟨m', σ', H', hm.trans g1, g2, g3, g4⟩, .pass (x := .inLoop x) rfl (fun _ _ => .inl (by simp)) harr⟩
      | panic ch => exact ⟨_, a', w', ⟨m', σ', H', hm.trans g1, g2, g3, g4⟩, .pass (x := .inLoop x) rfl (fun _ _ => .inl (by simp)) harr⟩
      | outgrown => exact ⟨_, a', w', ⟨m', σ', H', hm.trans g1, g2, g3, g4⟩, .pass (x := .inLoop x) rfl (fun _ _ => .inl (by simp)) harr⟩
    | succ k ih =>
      intro σ1 H1 m1 w1 a1 hI hk hm hs hr b it cs
      obtain ⟨e, a', w', hq, harr⟩ := h σ1 H1 hI B w0 m1 w1 a1 hs hr b (.inLoop x :: it) cs
      obtain ⟨m', σ', H', g1, g2, g3, g4⟩ := hq
      cases e with
      | normal =>
        obtain ⟨H0, q1, q2, q3⟩ := g4
        obtain ⟨e2, a2, w2, hq2, harr2⟩ := ih (σ'.keep ks) H0 m' w' a' q2 (by omega) (hm.trans g1) (g2.weak q1) (g3.keep ks) b it cs
        exact ⟨e2, a2, w2, hq2, .of_steps (Steps.trans harr (.one step_inLoop)) harr2⟩
      | exit id => exact ⟨_, a', w', ⟨m', σ', H', hm.trans g1, g2, g3, g4⟩, .pass (x := .inLoop x) rfl (fun _ _ => .inl (by simp)) harr⟩
      | goto l => exact ⟨_, a', w', ⟨m', σ', H', hm.trans g1, g2, g3, g4⟩, .pass (x := .inLoop x) rfl (fun _ _ => .inl (by simp)) harr⟩
      | ret => exact ⟨_, a', w', ⟨m', σ', H', hm.trans g1, g2, g3, g4⟩, .pass (x := .inLoop x) rfl (fun _ _ => .inl (by simp)) harr⟩
      | panic ch => exact ⟨_, a', w', ⟨m', σ', H', hm.trans g1, g2, g3, g4⟩, .pass (x := .inLoop x) rfl (fun _ _ => .inl (by simp)) harr⟩
      | outgrown => exact ⟨_, a', w', ⟨m', σ', H', hm.trans g1, g2, g3, g4⟩, .pass (x := .inLoop x) rfl (fun _ _ => .inl (by simp)) harr⟩
  intro b it cs
  obtain ⟨H0, q1, q2⟩ := h0
  obtain ⟨e, a', w', hq, harr⟩ := key (μ (σ.keep ks) H0) (σ.keep ks) H0 m w a q2 (Nat.le_refl _) (.refl m) (h1.weak q1) (h2.keep ks) b it cs
  exact ⟨e, a', w', hq, .of_steps (.one step_loop) harr⟩

theorem AWp_keepPost {c : Code} {ks : List Nat} {Q : Exit → Env → Heap → Prop} (h : AWp G P n c σ H (thenE (fun σ H => Q .normal (σ.keep ks) H) fun _ _ _ => False)) : AWp G P n c σ H Q := by
  intro B w0 m w a h1 h2
  refine wp_mono (h B w0 m w a h1 h2) ?_
  rintro e a' w' ⟨m', σ', H', g1, g2, g3, g4⟩
  cases e with
  | normal => exact ⟨m', _, H', g1, g2, g3.keep ks, g4⟩
  | _ => exact g4.elim

theorem den_sound (hm : P.follows .mixedOrders = true) : ∀ (c : Code) (hs : List Hint) (ac : ACode) (hs' : List Hint), compC P n c hs = some (ac, hs') →
    ∀ (σ : Env) (H : Heap) (Q : Exit → Env → Heap → Prop), den G P ac σ H Q → AWp G P n c σ H Q := by
  intro c
  induction c with
  | skip => intro hs ac hs' hc σ H Q h; cases hc; exact fun B w0 m w a h1 h2 => wp_skip ⟨m, σ, H, .refl m, h1, h2, h⟩
  | region id ops draw =>
    intro hs ac hs' hc σ H Q h
    cases draw with
    | false =>
      match hs, hc with
      | .ks k :: hs, hc =>
        simp only [compC, Option.map_eq_some_iff, Prod.mk.injEq] at hc
        obtain ⟨l, hl, rfl, rfl⟩ := hc
        exact AWp_keepPost (ks := k) (AWp_region hl h fun σ' H' h => h)
      | [], hc => cases hc
      | .ord _ :: _, hc => cases hc
      | .frk _ _ _ :: _, hc => cases hc
    | true =>
      match hs, hc with
      | .ks k :: .ord o :: hs, hc =>
        simp only [compC, Option.map_eq_some_iff, Prod.mk.injEq] at hc
        obtain ⟨l, hl, rfl, rfl⟩ := hc
        exact AWp_keepPost (ks := k) (AWp_draw hm hl (fun σ σ' H hs h => by rw [← Env.keep_same hs]; exact h) h fun σ' H' h => h)
      | .ks k :: .frk a b c :: hs, hc =>
        simp only [compC, Option.map_eq_some_iff, Prod.mk.injEq] at hc
        obtain ⟨⟨p1, p2, p3⟩, hl, rfl, rfl⟩ := hc
        exact AWp_keepPost (ks := k) (AWp_fork hm hl (fun σ σ' H hs h => by rw [← Env.keep_same hs]; exact h) h fun σ' H' h => h)
      | [], hc => cases hc
      | [.ks _], hc => cases hc
      | .ks _ :: .ks _ :: _, hc => cases hc
      | .ord _ :: _, hc => cases hc
      | .frk _ _ _ :: _, hc => cases hc
  | seq x y ihx ihy =>
    intro hs ac hs' hc σ H Q h
    simp only [compC, Option.map_eq_some_iff, Option.bind_eq_some_iff, Prod.mk.injEq] at hc
    obtain ⟨⟨x', h1⟩, hx, ⟨y', h2⟩, hy, rfl, rfl⟩ := hc
    refine AWp_seq (AWp_mono (fun e σ H h => ?_) (ihx _ _ _ hx σ H _ h))
    cases e <;> first | exact ihy _ _ _ hy _ _ _ h | exact h
  | cond c x y ihx ihy =>
    intro hs ac hs' hc σ H Q h
    simp only [compC, Option.map_eq_some_iff, Option.bind_eq_some_iff, Prod.mk.injEq] at hc
    obtain ⟨⟨x', h1⟩, hx, ⟨y', h2⟩, hy, rfl, rfl⟩ := hc
    simp only [den] at h
    split at h
    · rename_i t ht
      refine AWp_cond ht ?_
      cases t with
      | true => exact ihx _ _ _ hx _ _ _ h
      | false => exact ihy _ _ _ hy _ _ _ h
    · exact h.elim
  | block id b ih =>
    intro hs ac hs' hc σ H Q h
    simp only [compC, Option.map_eq_some_iff, Prod.mk.injEq] at hc
    obtain ⟨⟨b', h1⟩, hb, rfl, rfl⟩ := hc
    exact AWp_block (ih _ _ _ hb _ _ _ h)
  | loop b ih =>
    intro hs ac hs' hc σ H Q h
    match hs, hc with
    | .ks k :: hs, hc =>
      simp only [compC, Option.map_eq_some_iff, Prod.mk.injEq] at hc
      obtain ⟨⟨z, h1⟩, hz, rfl, rfl⟩ := hc
      obtain ⟨I, μ, h0, h1⟩ := h
      exact AWp_loop I μ h0 fun σ1 H1 hI => ih _ _ _ hz _ _ _ (h1 σ1 H1 hI)
    | [], hc => cases hc
    | .ord _ :: _, hc => cases hc
    | .frk _ _ _ :: _, hc => cases hc
  | exit id => intro hs ac hs' hc σ H Q h; cases hc; exact fun B w0 m w a h1 h2 => wp_exit ⟨m, σ, H, .refl m, h1, h2, h⟩
  | ret => intro hs ac hs' hc σ H Q h; cases hc; exact fun B w0 m w a h1 h2 => wp_ret ⟨m, σ, H, .refl m, h1, h2, h⟩
  | _ => intro hs ac hs' hc; cases hc

/-- A function's slots at its start. -/
def params (args : List AV) : Env := go 0 args
where go : Nat → List AV → Env
  | _, [] => []
  | i, x :: xs => (i, x) :: go (i + 1) xs

/-- How a result is read. -/
inductive ARes where
  | slot (t : Nat)
  | cell (t : Nat) (op : AOp)

def compRes (P : Program) : ResultVar → Option ARes
  | .tmp t => some (.slot t)
  | .cell a t => match compOp P (.load t (.tmp a)) with
    | some (.ld g s, [.tmp _]) => some (.cell a (.ld g s))
    | _ => none

def resV (σ : Env) (H : Heap) : ARes → AV → Prop
  | .slot t, v => v = σ.get t
  | .cell t op, v => Rd op [σ.get t] H v

/-- What a function returns. -/
def resP (σ : Env) (H : Heap) (K : AV → Heap → Prop) : List ARes → List AV → Prop
  | [], acc => match acc with
    | [v] => K v H
    | vs => K (.tup vs.reverse) H
  | r :: rs, acc => ∃ v, resV σ H r v ∧ resP σ H K rs (v :: acc)

structure AFun where
  n : Nat
  nargs : Nat
  res : List ARes
  body : ACode

/-- A function turned. -/
def compF (P : Program) (f : Nat) (hs : List Hint) : Option AFun :=
  (P.funcs[f]?).bind fun fn => if fn.name == "runtime.NumGoroutine" then none else
    fn.body.bind fun c => (fn.results.toList.mapM (compRes P)).bind fun rs => (compC P fn.ntmps c hs).map fun x => ⟨fn.ntmps, fn.params.size + fn.nfree, rs, x.1⟩

def endE (K : Env → Heap → Prop) : Exit → Env → Heap → Prop
  | .normal, σ, H => K σ H
  | .ret, σ, H => K σ H
  | _, _, _ => False

/-- What a call of a function does. -/
def denF (G : Nat → Option (List AV)) (P : Program) (F : AFun) (args : List AV) (H : Heap) (K : AV → Heap → Prop) : Prop :=
  args.length ≤ F.n ∧ den G P F.body (params args) H (endE fun σ' H' => resP σ' H' K F.res [])

theorem params_get (args : List AV) (t : Nat) : (params args).get t = (args[t]?).getD .any := by
  have : ∀ (xs : List AV) (i t : Nat), (params.go i xs).get t = if i ≤ t then (xs[t - i]?).getD .any else .any := by
    intro xs
    induction xs with
    | nil => intro i t; simp [params.go, Env.get]
    | cons x xs ih =>
      intro i t
      simp only [params.go, Env.get, ih]
      by_cases h : t = i
      · subst h; simp
      · rw [if_neg h]
        by_cases h2 : i ≤ t
        · have : t - i = (t - (i + 1)) + 1 := by omega
          rw [if_pos h2, if_pos (by omega), this, List.getElem?_cons_succ]
        · rw [if_neg h2, if_neg (by omega)]
  have h := this args 0 t
  simpa [params] using h

end
end Go.AL
