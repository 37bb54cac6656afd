/- The abstract layer, part 19: functions. -/
import Derived.Test.YtpeaphpibnikcaaA18
import Derived.Laws.Sem
namespace Go.AL
open Go.RowKit

section
variable {G : Nat → Option (List AV)} {B : Nat} {w0 w w' : World} {m m' : Im} {H H' : Heap} {P : Program} {n : Nat} {σ : Env} {a : Act}

def readRes (tmps : Array Value) : ResultVar → Sem Value
  | .tmp t => pure (tmps.getD t undef)
  | .cell a t => do loadVar t (← asAddr (tmps.getD a undef))

theorem readRes_sound (hs : Sat G B w0 m H w) (hr : RelT m n σ a) {r : ResultVar} {ar : ARes} {v : AV} (hc : compRes P r = some ar) (h : resV σ H ar v) : ∃ cv, (readRes a.tmps r).run P w = .ok cv w ∧ Rel m v cv := by
  cases r with
  | tmp t =>
    cases hc
    have h : v = σ.get t := h
    subst h
    exact ⟨_, rfl, hr.rel t⟩
  | cell p t =>
    simp only [compRes] at hc
    split at hc
    · rename_i g s u hco
      cases hc
      have hu : u = p := by
        simp only [compOp] at hco
        simp only [Option.bind_eq_some_iff, Option.map_eq_some_iff, Prod.mk.injEq, List.cons.injEq, Operand.tmp.injEq] at hco
        repeat (first | (obtain ⟨_, hco⟩ := hco) | (cases hco))
        simp_all
      subst hu
      obtain ⟨cv, h1, h2⟩ := rd_sound (P := P) hs (ρ := a.eval) (o := { dst := none, op := .load t (.tmp u), type := 0, pos := "", after := #[], guard := none }) (xs := [σ.get u]) hco ⟨rfl, fun i x y hx hy => by
        cases i with
        | zero => simp at hx hy; subst hx hy; exact hr.rel u
        | succ i => simp at hx⟩ rfl h
      refine ⟨cv, ?_, h2⟩
      simp only [execOp, Sem.run_bind, Instr.loadAt] at h1
      simp only [readRes, Sem.run_bind]
      have he : a.eval (.tmp u) = a.tmps.getD u undef := rfl
      rw [he] at h1
      cases hv : a.tmps.getD u undef <;> rw [hv] at h1 <;> simp only [Instr.sureAddr] at h1 <;> try (simp [stuck] at h1; done)
      rename_i o
      cases o with
      | none => simp [stuck] at h1
      | some ad =>
        simp only [asAddr, Sem.run_pure, Result.andThen_ok] at h1 ⊢
        cases hl : (loadVar t ad).run P w with
        | halt x w2 => rw [hl] at h1; simp at h1
        | ok v2 w2 => rw [hl] at h1; simpa using h1
    · cases hc

theorem mapM_run_ok {α : Type} (f : α → Sem Value) : ∀ (l : List α) (vs : List Value) (w : World), l.length = vs.length → (∀ (i : Nat) (x : α) (v : Value), l[i]? = some x → vs[i]? = some v → (f x).run P w = .ok v w) → (l.mapM f).run P w = .ok vs w
  | [], [], w, _, _ => rfl
  | [], _ :: _, _, h, _ => by cases h
  | _ :: _, [], _, h, _ => by cases h
  | x :: l, v :: vs, w, h, hf => by
    rw [List.mapM_cons]
    simp only [Sem.run_bind, hf 0 x v rfl rfl, Result.andThen_ok]
    rw [mapM_run_ok f l vs w (by simpa using h) (fun i y u h1 h2 => hf (i + 1) y u (by simpa using h1) (by simpa using h2))]
    rfl

theorem results_sound {fn : Func} (hs : Sat G B w0 m H w) (hr : RelT m n σ a) {K : AV → Heap → Prop} {rs : List ARes} (hrs : fn.results.toList.mapM (compRes P) = some rs) (h : resP σ H K rs []) :
    ∃ v cv, (results fn a.tmps).run P w = .ok cv w ∧ Rel m v cv ∧ K v H := by
  have key : ∀ (l : List ResultVar) (rs : List ARes) (acc : List AV), l.mapM (compRes P) = some rs → resP σ H K rs acc →
      ∃ (vs : List AV) (cvs : List Value), l.length = cvs.length ∧ RelL m vs cvs ∧ (∀ (i : Nat) (x : ResultVar) (v : Value), l[i]? = some x → cvs[i]? = some v → (readRes a.tmps x).run P w = .ok v w) ∧ resP σ H K [] (vs.reverse ++ acc) := by
    intro l
    induction l with
    | nil =>
      intro rs acc h1 h2
      cases h1
      exact ⟨[], [], rfl, RelL.nil m, fun i x v h => by simp at h, h2⟩
    | cons r l ih =>
      intro rs acc h1 h2
      rw [List.mapM_cons] at h1
      simp only [Option.bind_eq_bind, Option.bind_eq_some_iff, Option.pure_def, Option.some.injEq] at h1
      obtain ⟨ar, har, rs', hrs', rfl⟩ := h1
      obtain ⟨v, hv, h3⟩ := h2
      obtain ⟨cv, hcv, hrel⟩ := readRes_sound hs hr har hv
      obtain ⟨vs, cvs, g1, g2, g3, g4⟩ := ih rs' (v :: acc) hrs' h3
      refine ⟨v :: vs, cv :: cvs, by simp [g1], g2.cons hrel, fun i x u hx hu => ?_, by simpa using g4⟩
      cases i with
      | zero => simp at hx hu; subst hx hu; exact hcv
      | succ i => exact g3 i x u (by simpa using hx) (by simpa using hu)
  obtain ⟨vs, cvs, h1, h2, h3, h4⟩ := key _ rs [] hrs h
  have hm : (fn.results.mapM (readRes a.tmps)).run P w = .ok cvs.toArray w := by
    rw [Array.mapM_eq_mapM_toList, Sem.run_map, mapM_run_ok _ _ cvs w h1 h3]
    rfl
  have hres : results fn a.tmps = (do let vs ← fn.results.mapM (readRes a.tmps); pure (if h : vs.size = 1 then vs[0] else .tuple vs)) := by
    rfl
  rw [hres, Sem.run_bind, hm, Result.andThen_ok, Sem.run_pure]
  rw [List.append_nil] at h4
  by_cases hlen : cvs.length = 1
  · obtain ⟨cv, rfl⟩ := List.length_eq_one_iff.1 hlen
    obtain ⟨v, rfl⟩ := List.length_eq_one_iff.1 (h2.1.trans hlen)
    exact ⟨v, cv, rfl, h2.2 0 v cv rfl rfl, h4⟩
  · refine ⟨.tup vs, .tuple cvs.toArray, by simp [hlen], .tup vs _ (by simp [h2.1]) (fun i x y hx hy => h2.2 i x y hx (by simpa using hy)), ?_⟩
    have hl : vs.reverse.length ≠ 1 := by rw [List.length_reverse, h2.1]; exact hlen
    simp only [resP] at h4
    split at h4
    · rename_i heq; rw [heq] at hl; exact absurd rfl hl
    · simpa using h4

/-- A function's contract, out of what its body does. -/
theorem denF_sound (hm : P.follows .mixedOrders = true) {f : Nat} {F : AFun} {hints : List Hint} (hF : compF P f hints = some F) {args : List AV} {K : AV → Heap → Prop} (h : denF G P F args H K) : ACalls G P f args H K := by
  unfold compF at hF
  cases hf : P.funcs[f]? with
  | none => rw [hf] at hF; cases hF
  | some fn =>
    rw [hf] at hF
    simp only [Option.bind_some] at hF
    cases hname : fn.name == "runtime.NumGoroutine" with
    | true => rw [hname] at hF; cases hF
    | false =>
      rw [hname] at hF
      simp only [Bool.false_eq_true, if_false, Option.bind_eq_some_iff, Option.map_eq_some_iff] at hF
      obtain ⟨c, hb, rs, hrs, ⟨ac, _⟩, hac, rfl⟩ := hF
      obtain ⟨hlen, h⟩ := h
      refine ⟨⟨fn, hf, hname, by rw [hb]; rfl⟩, fun B w0 m w cargs hs hr => ?_⟩
      have hal : cargs.size = args.length := by have := hr.1; simpa using this.symm
      have hlen' : args.length ≤ fn.ntmps := hlen
      have hrel : RelT m fn.ntmps (params args) { tmps := cargs ++ Array.replicate (fn.ntmps - cargs.size) undef, defers := [] } := by
        refine ⟨by simp; omega, rfl, fun t => ?_⟩
        rw [params_get]
        cases hx : args[t]? with
        | none => exact .any _
        | some x =>
          have ht : t < cargs.size := by have := (List.getElem?_eq_some_iff.1 hx).1; omega
          have : (cargs ++ Array.replicate (fn.ntmps - cargs.size) undef).getD t undef = cargs[t] := by
            rw [Array.getD_eq_getD_getElem?, Array.getElem?_append_left ht, Array.getElem?_eq_getElem ht]; rfl
          simp only
          rw [this]
          exact hr.2 t x _ hx (by simp [ht])
      refine calls_of_wp hf hb (wp_mono (den_sound hm c _ _ _ hac _ _ _ h B w0 m w _ hs hrel) ?_)
      rintro e a' w' ⟨m', σ', H', g1, g2, g3, g4⟩
      have fin : resP σ' H' K rs [] → a'.defers = [] ∧ ∃ v, (results fn a'.tmps).run P w' = .ok v w' ∧ ∃ v_1 cv m' H', (Ending.returned v) = .returned cv ∧ m.le m' ∧ Sat G B w0 m' H' w' ∧ Rel m' v_1 cv ∧ K v_1 H' := by
        intro h
        obtain ⟨v, cv, q1, q2, q3⟩ := results_sound g2 g3 hrs h
        exact ⟨g3.defers, cv, q1, v, cv, m', H', rfl, g1, g2, q2, q3⟩
      cases e with
      | normal => exact fin g4
      | ret => exact fin g4
      | _ => exact g4.elim

end
end Go.AL
