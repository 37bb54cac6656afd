/- The abstract layer, part 14: environments, calls, one operation as a step of the model. -/
import Derived.Test.YtpeaphpibnikcaaA13
namespace Go.AL
open Go.RowKit

/-- What is known of a frame's slots. -/
abbrev Env := List (Nat × AV)

def Env.get : Env → Nat → AV
  | [], _ => .any
  | (t, v) :: σ, s => if s = t then v else Env.get σ s
def Env.put (σ : Env) (d : Option Nat) (v : AV) : Env := match d with | some t => (t, v) :: σ | none => σ
def Env.keep (σ : Env) (ts : List Nat) : Env := ts.map fun t => (t, σ.get t)

def opE (G : Nat → Option (List AV)) (σ : Env) : Operand → AV
  | .tmp t => σ.get t
  | .const v => (toAV v).getD .any
  | .global g => match G g with | some cs => .iptr cs | none => .any
  | .func f => .fn (.func f) [] []

structure AOper where
  dst : Option Nat
  op : AOp
  args : List Operand
  guard : Option (Nat × Bool)

/-- The frame's slots hold what is known of them; nothing is deferred. -/
structure RelT (m : Im) (n : Nat) (σ : Env) (a : Act) : Prop where
  size : a.tmps.size = n
  defers : a.defers = []
  rel : ∀ t, Rel m (σ.get t) (a.tmps.getD t undef)

def FnOk (P : Program) (f : FuncId) : Prop := ∃ fn, P.funcs[f]? = some fn ∧ (fn.name == "runtime.NumGoroutine") = false ∧ fn.body.isSome = true

/-- A call, abstractly. -/
def ACalls (G : Nat → Option (List AV)) (P : Program) (f : FuncId) (args : List AV) (H : Heap) (K : AV → Heap → Prop) : Prop :=
  FnOk P f ∧ ∀ B w0 m w (cargs : Array Value), Sat G B w0 m H w → RelL m args cargs.toList →
    Calls P f cargs w fun e w' => ∃ v cv m' H', e = .returned cv ∧ m.le m' ∧ Sat G B w0 m' H' w' ∧ Rel m' v cv ∧ K v H'

/-- What an operation does, of whatever kind. -/
def eff (G : Nat → Option (List AV)) (P : Program) (op : AOp) (xs : List AV) (H : Heap) (K : AV → Heap → Prop) : Prop :=
  match op with
  | .call f => ACalls G P f xs H K
  | .callv => match xs with
    | .fn (.func f) first captured :: ys => ACalls G P f (first ++ ys ++ captured) H K
    | _ => False
  | op => if op.quiet then ∃ v, Rd op xs H v ∧ K v H else ef op xs H K

/-- Is an operation wanted? -/
def gate (σ : Env) (g : Option (Nat × Bool)) (yes no : Prop) : Prop :=
  match g with
  | none => yes
  | some (t, want) => match σ.get t with
    | .bool b => if b = want then yes else no
    | .tup [] => no
    | _ => False

def doOp (G : Nat → Option (List AV)) (P : Program) (o : AOper) (σ : Env) (H : Heap) (K : Env → Heap → Prop) : Prop :=
  gate σ o.guard (eff G P o.op (o.args.map (opE G σ)) H fun v H' => K (σ.put o.dst v) H') (K (σ.put o.dst .undef) H)

def dstOk (d : Option Nat) (n : Nat) : Bool := match d with | some t => decide (t < n) | none => true

/-- An operation of a region turned. -/
def compO (P : Program) (n : Nat) (ops : Array Oper) (o : Oper) : Option AOper :=
  (compOp P o.op).bind fun c =>
  if dstOk o.dst n then
    match o.guard with
    | none => some ⟨o.dst, c.1, c.2, none⟩
    | some (j, want) => ((ops[j]?).bind (·.dst)).map fun t => ⟨o.dst, c.1, c.2, some (t, want)⟩
  else none

section
variable {G : Nat → Option (List AV)} {B : Nat} {w0 w w' : World} {m m' : Im} {H H' : Heap} {P : Program} {n : Nat} {σ : Env} {a : Act}

theorem RelT.mono (h : RelT m n σ a) (hm : m.le m') : RelT m' n σ a := ⟨h.size, h.defers, fun t => (h.rel t).mono hm⟩

theorem RelT.opE (h : RelT m n σ a) (hs : Sat G B w0 m H w) (x : Operand) : Rel m (opE G σ x) (a.eval x) := by
  cases x with
  | tmp t => exact h.rel t
  | const v =>
    simp only [Go.AL.opE, Act.eval]
    cases h : toAV v with
    | none => exact .any _
    | some y => exact toAV_rel h
  | global g =>
    simp only [Go.AL.opE, Act.eval]
    cases h : G g with
    | none => exact .any _
    | some cs => exact hs.glob g cs h
  | func f => exact .fn (.func f) [] [] #[] #[] rfl rfl (fun i x y h => by simp at h) (fun i x y h => by simp at h)

theorem RelT.args (h : RelT m n σ a) (hs : Sat G B w0 m H w) (os : List Operand) : RelL m (os.map (Go.AL.opE G σ)) (os.map a.eval) := by
  induction os with
  | nil => exact RelL.nil m
  | cons x os ih => exact ih.cons (h.opE hs x)

theorem RelT.put (h : RelT m n σ a) {d : Option Nat} (hd : ∀ t, d = some t → t < n) {v : AV} {c : Value} (hv : Rel m v c) : RelT m n (σ.put d v) (a.put d c) := by
  cases d with
  | none => exact h
  | some t =>
    refine ⟨by simp [Act.put, h.size], h.defers, fun s => ?_⟩
    simp only [Env.put, Env.get, Act.put]
    by_cases hst : s = t
    · subst hst
      have : s < a.tmps.size := by rw [h.size]; exact hd s rfl
      simp [this, hv]
    · rw [if_neg hst, Array.getD_eq_getD_getElem?, Array.getElem?_setIfInBounds_ne (Ne.symm hst), ← Array.getD_eq_getD_getElem?]
      exact h.rel s

theorem Env.get_keep (σ : Env) (ts : List Nat) (s : Nat) : (σ.keep ts).get s = σ.get s ∨ (σ.keep ts).get s = .any := by
  induction ts with
  | nil => exact .inr rfl
  | cons t ts ih =>
    simp only [Env.keep, List.map_cons, Env.get]
    by_cases h : s = t
    · subst h; simp
    · rw [if_neg h]; exact ih

theorem RelT.keep (h : RelT m n σ a) (ts : List Nat) : RelT m n (σ.keep ts) a := by
  refine ⟨h.size, h.defers, fun s => ?_⟩
  rcases Env.get_keep σ ts s with e | e
  · rw [e]; exact h.rel s
  · rw [e]; exact .any _

/-- What stands behind a step. -/
def Cont (G : Nat → Option (List AV)) (B : Nat) (w0 : World) (m : Im) (n : Nat) (K : Env → Heap → Prop) (a : Act) (w : World) : Prop :=
  ∃ m' σ' H', m.le m' ∧ Sat G B w0 m' H' w ∧ RelT m' n σ' a ∧ K σ' H'

theorem callFunc_run {f : FuncId} (hf : FnOk P f) (args : Array Value) (w : World) : (callFunc f args).run P w = .ok (.enter f args) w := by
  obtain ⟨fn, h1, h2, h3⟩ := hf
  have h4 : fn.body.isNone = false := by cases hb : fn.body <;> simp_all
  simp only [callFunc, Sem.run_bind, run_program, Result.andThen_ok, h1]
  rw [h2]
  simp [h4]

def AOp.isCall : AOp → Bool
  | .call _ | .callv => true
  | _ => false

/-- No result of a turning is a call. -/
def NoCall (o : Option (AOp × List Operand)) : Prop := ∀ x, o = some x → x.1.isCall = false
theorem noCall_none : NoCall none := fun x h => by cases h
theorem noCall_some {op : AOp} {os : List Operand} (h : op.isCall = false) : NoCall (some (op, os)) := fun x e => by cases e; exact h
theorem noCall_bind {α : Type} {x : Option α} {f : α → Option (AOp × List Operand)} (h : ∀ a, NoCall (f a)) : NoCall (x.bind f) := by
  cases x with
  | none => exact noCall_none
  | some a => exact h a
theorem noCall_map {α : Type} {x : Option α} {f : α → AOp × List Operand} (h : ∀ a, (f a).1.isCall = false) : NoCall (x.map f) := by
  cases x with
  | none => exact noCall_none
  | some a => intro y e; cases e; exact h a

theorem noCall_use {op : AOp} {os : List Operand} {o : Option (AOp × List Operand)} (h : NoCall o) (e : o = some (op, os)) : (∀ f, op ≠ .call f) ∧ op ≠ .callv := by
  have := h _ e
  exact ⟨fun f hf => (by rw [hf] at this; cases this), fun hf => (by rw [hf] at this; cases this)⟩

theorem compCall_nc {c : Call} {op : AOp} {os : List Operand} (h : compCall P c = some (op, os)) (hn : ∀ x, c.callee ≠ .value x) : (∀ f, op ≠ .call f) ∧ op ≠ .callv := by
  refine noCall_use ?_ h
  unfold compCall
  split
  · rename_i h; exact absurd h (hn _)
  · rename_i h; exact absurd h (hn _)
  · exact noCall_none
  · repeat' first
      | exact noCall_none
      | exact noCall_some rfl
      | (refine noCall_bind fun _ => ?_)
      | (refine noCall_map fun _ => ?_; rfl)
      | split
      | (dsimp only; split)

theorem compOp_nc {o : Op} {op : AOp} {os : List Operand} (h : compOp P o = some (op, os)) (hn : ∀ c, o ≠ .call c) : (∀ f, op ≠ .call f) ∧ op ≠ .callv := by
  refine noCall_use ?_ h
  clear h
  cases o
  case call c => exact absurd rfl (hn c)
  case makeMap t r => cases r <;> simp only [compOp] <;> first | exact noCall_none | exact noCall_some rfl
  case next it b => cases b <;> simp only [compOp] <;> first | exact noCall_none | exact noCall_some rfl
  case slice t x lo hi mx =>
    cases mx <;> simp only [compOp]
    · repeat' first
        | exact noCall_none
        | exact noCall_some rfl
        | (refine noCall_bind fun _ => ?_)
        | split
    · exact noCall_none
  all_goals simp only [compOp]
  all_goals repeat' first
      | exact noCall_none
      | exact noCall_some rfl
      | (refine noCall_bind fun _ => ?_)
      | (refine noCall_map fun _ => ?_; rfl)
      | split
      | (dsimp only; split)

theorem eff_sound (hsat : Sat G B w0 m H w) (hrel : RelT m n σ a) {o : Oper} {op : AOp} {os : List Operand} {Q : Exit → Act → World → Prop} {Kc : Act → World → Prop} {K : AV → Heap → Prop} (hc : compOp P o.op = some (op, os))
    (hd : ∀ t, o.dst = some t → t < n) (h : eff G P op (os.map (opE G σ)) H K)
    (hK : ∀ m' w' v cv H', m.le m' → Sat G B w0 m' H' w' → Rel m' v cv → K v H' → Kc (a.put o.dst cv) w') : o.wp P a w Kc Q := by
  have hargs := hrel.args hsat os
  have plain : ∀ (hq : op.quiet = true), (∃ v, Rd op (os.map (opE G σ)) H v ∧ K v H) → o.wp P a w Kc Q := by
    intro hq ⟨v, hv, hk⟩
    obtain ⟨cv, h1, h2⟩ := rd_sound hsat hc hargs hq hv
    unfold Oper.wp
    rw [h1]
    exact hK m w v cv H (.refl m) hsat h2 hk
  have loud : ∀ (hq : op.quiet = false), (∀ f, op ≠ .call f) → op ≠ .callv → ef op (os.map (opE G σ)) H K → o.wp P a w Kc Q := by
    intro hq h1 h2 h
    obtain ⟨nx, w', m', v, cv, H', e1, e2, e3, e4, e5, e6⟩ := ef_sound hsat hc hargs hq h1 h2 h
    unfold Oper.wp
    rw [e1]
    rcases e2 with rfl | ⟨rfl, rfl⟩
    · exact hK m' w' v cv H' e3 e4 e5 e6
    · exact hK m' w' v undef H' e3 e4 e5 e6
  have callK : ∀ {f : FuncId} {xs : List AV} {cargs : Array Value}, ACalls G P f xs H K → RelL m xs cargs.toList → (execOp a.eval o).run P w = .ok (.enter f cargs) w → o.wp P a w Kc Q := by
    intro f xs cargs hA hr he
    unfold Oper.wp
    rw [he]
    refine (hA.2 B w0 m w cargs hsat hr).mono ?_
    rintro e w' ⟨v, cv, m', H', rfl, h1, h2, h3, h4⟩
    exact hK m' w' v cv H' h1 h2 h3 h4
  obtain ⟨dst, oo, ty, pos, after, guard⟩ := o
  by_cases hcc : ∃ c, oo = .call c
  · obtain ⟨c, rfl⟩ := hcc
    have hc' : compCall P c = some (op, os) := hc
    have h2 := hc'
    unfold compCall at h2
    split at h2
    · rename_i f hcal
      cases h2
      have hA : ACalls G P f (c.args.toList.map (opE G σ)) H K := h
      refine callK hA (cargs := c.args.map a.eval) (by simpa using hargs) ?_
      simp only [execOp, resolve, hcal, Sem.run_bind, Sem.run_pure, Result.andThen_ok, Act.eval, Deferred.ofValue]
      simp only [invoke, Array.empty_append, Array.append_empty]
      exact callFunc_run hA.1 _ w
    · rename_i x hnf hcal
      cases h2
      have hv : match (x :: c.args.toList).map (opE G σ) with
        | .fn (.func f) first captured :: ys => ACalls G P f (first ++ ys ++ captured) H K
        | _ => False := h
      simp only [List.map_cons] at hv hargs
      obtain ⟨cx, cs, e, hx, hxs⟩ := hargs.uncons
      simp only [List.cons.injEq] at e
      obtain ⟨rfl, rfl⟩ := e
      generalize hax : opE G σ x = ax at hv hx
      cases ax <;> try (exact hv.elim)
      rename_i fn first captured
      cases fn <;> try (exact hv.elim)
      rename_i f
      generalize hcx : a.eval x = cx at hx
      cases hx with
      | fn _ _ _ fa ca hf hcp hfr hcr =>
        have hA : ACalls G P f (first ++ c.args.toList.map (opE G σ) ++ captured) H K := hv
        have r1 : RelL m first fa.toList := ⟨by simpa using hf, fun i x y h1 h2 => hfr i x y h1 (by simpa using h2)⟩
        have r2 : RelL m captured ca.toList := ⟨by simpa using hcp, fun i x y h1 h2 => hcr i x y h1 (by simpa using h2)⟩
        refine callK hA (cargs := fa ++ c.args.map a.eval ++ ca) (by
          simp only [Array.toList_append, Array.toList_map]
          exact (r1.append hxs).append r2) ?_
        simp only [execOp, resolve, hcal, hcx, Sem.run_bind, Sem.run_pure, Result.andThen_ok, Deferred.ofValue]
        simp only [invoke]
        exact callFunc_run hA.1 _ w
    · cases h2
    · have hnc := compCall_nc hc' (by rename_i b hcal; intro x hx; rw [hcal] at hx; cases hx)
      have h' : if op.quiet then ∃ v, Rd op (os.map (opE G σ)) H v ∧ K v H else ef op (os.map (opE G σ)) H K := by
        unfold eff at h
        split at h
        · exact absurd rfl (hnc.1 _)
        · exact absurd rfl hnc.2
        · exact h
      cases hq : op.quiet with
      | true => rw [hq] at h'; exact plain hq h'
      | false => rw [hq] at h'; exact loud hq hnc.1 hnc.2 h'
  · have hnc := compOp_nc hc (fun c e => hcc ⟨c, e⟩)
    have h' : if op.quiet then ∃ v, Rd op (os.map (opE G σ)) H v ∧ K v H else ef op (os.map (opE G σ)) H K := by
      unfold eff at h
      split at h
      · exact absurd rfl (hnc.1 _)
      · exact absurd rfl hnc.2
      · exact h
    cases hq : op.quiet with
    | true => rw [hq] at h'; exact plain hq h'
    | false => rw [hq] at h'; exact loud hq hnc.1 hnc.2 h'

end
end Go.AL
