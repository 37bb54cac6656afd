/- The abstract layer, part 8: every operation that writes nothing is sound. -/
import Derived.Test.YtpeaphpibnikcaaA7
namespace Go.AL
open Go.RowKit

section
variable {G : Nat → Option (List AV)} {B : Nat} {w0 w w' : World} {m m' : Im} {H H' : Heap} {P : Program}

theorem exec_v {ρ : Operand → Value} {o : Oper} {s : Sem Value} {cv : Value} (h : execOp ρ o = (do pure (.value (← s)))) (hs : s.run P w = .ok cv w) : (execOp ρ o).run P w = .ok (.value cv) w := by
  rw [h]; simp [hs]

/-- What an operation yields that writes nothing, in the model. -/
def Yv (P : Program) (m : Im) (w : World) (s : Sem Next) (v : AV) : Prop := ∃ cv, s.run P w = .ok (.value cv) w ∧ Rel m v cv

theorem Yv.of {s : Sem Value} {v : AV} (h : ∃ cv, s.run P w = .ok cv w ∧ Rel m v cv) : Yv P m w (do pure (.value (← s))) v := by
  obtain ⟨cv, h1, h2⟩ := h
  exact ⟨cv, by simp [h1], h2⟩

theorem Rd.pure1 {op : AOp} {xs : List AV} {v : AV} (h : Rd op xs H v) (hn : ∀ agg sz id off, ¬ (op = .ld agg sz ∧ xs = [.ptr id off])) (h2 : ∀ id, ¬ (op = .len 2 ∧ xs = [.map id]))
    (h3 : ∀ kd z ok id k, ¬ (op = .lkp kd z ok ∧ xs = [.map id, k])) (h4 : ∀ id off n s, ¬ (op = .cvb ∧ xs = [.msl id off n s])) : pureF op xs = some v := by
  unfold Rd at h
  rcases h with h | h
  · exact h
  · split at h
    · exact absurd ⟨rfl, rfl⟩ (hn _ _ _ _)
    · exact absurd ⟨rfl, rfl⟩ (h2 _)
    · exact absurd ⟨rfl, rfl⟩ (h3 _ _ _ _ _)
    · exact absurd ⟨rfl, rfl⟩ (h4 _ _ _ _)
    · exact h.elim

theorem sliceAt_run {t : TypeId} {x : Value} {lo hi : Option Value} (h : ∀ n e, P.underlying t ≠ some (.array n e)) : (Instr.sliceAt t x lo hi none).run P w = (Instr.slice t x lo hi none).run P w := by
  unfold Instr.sliceAt
  cases hu : P.underlying t with
  | none => simp [underlying, Instr.slice, hu]
  | some d =>
    simp only [Sem.run_bind, run_underlying hu, Result.andThen_ok]
    cases d <;> first | rfl | (exact absurd hu (h _ _))

theorem bytesOf_one : ∀ (l : List AV) (bs : List UInt8), bytesOf l = some bs → ∀ x ∈ l, x.cells = [x]
  | [], _, _, x, hx => by cases hx
  | y :: l, bs, hb, x, hx => by
    unfold bytesOf at hb
    split at hb
    · rename_i e; cases e
    · rename_i n r e; cases e
      cases hb' : bytesOf l with
      | none => rw [hb'] at hb; cases hb
      | some q =>
        rcases List.mem_cons.1 hx with rfl | hx
        · rfl
        · exact bytesOf_one l q hb' x hx
    · cases hb

theorem snd_cvbm (hsat : Sat G B w0 m H w) {s d e : TypeId} {id off n : Nat} {c : Value} (h1 : P.underlying s = some (.slice e)) (h2 : P.underlying d = some .string) (h3 : P.underlying e = some (.int .u8))
    (hx : Rel m (.msl id off n 1) c) {vs : List AV} {bs : List UInt8} (hm : (id, AObj.cells vs) ∈ H) (hle : off + n ≤ vs.length) (hb : bytesOf ((vs.drop off).take n) = some bs) :
    ∃ cv, (convert s d c).run P w = .ok cv w ∧ Rel m (.str bs) cv := by
  refine ⟨.string ⟨bs.toArray⟩, ?_, by simpa using Rel.str (m := m) ⟨bs.toArray⟩⟩
  obtain ⟨_, _, cs, el, fr, hblk, hlen, hfr, hno, hcell⟩ := hsat.obj _ _ hm
  have hcv : ∀ c, (match c with | .slice .. => True | _ => False) → (convert s d c).run P w = (Conv.bytesToString c).run P w := by
    intro c hc
    split at hc
    · simp [convert, run_underlying h1, run_underlying h2, run_underlying h3]
    · cases hc
  have main : ∀ cap, (Conv.bytesToString (.slice (some ⟨id, off, none⟩) n cap)).run P w = .ok (.string ⟨bs.toArray⟩) w := by
    intro cap
    refine run_bytesToString (m := m) (f := fun i => (w.cell? ⟨id, off + i, none⟩).getD default) (xs := (vs.drop off).take n) (fun j hj => ?_) (by simp; omega) (fun i x hx => ?_) hb
    · obtain ⟨u, hu, _, _⟩ := hcell (off + j) vs[off + j] (List.getElem?_eq_getElem (by omega))
      rw [addr_add _ _ rfl]
      simp [World.cell?, hblk, hu]
    · rw [List.getElem?_take] at hx
      split at hx
      · rw [List.getElem?_drop] at hx
        obtain ⟨u, hu, hr, _⟩ := hcell (off + i) x hx
        simpa [World.cell?, hblk, hu] using hr
      · cases hx
  cases hx with
  | msl _ _ _ cap => rw [hcv _ trivial]; exact main cap
  | msl0 _ _ _ a =>
    rw [hcv _ trivial]
    simp [bytesOf] at hb; subst hb
    simp [Conv.bytesToString, loadCells, loadCellsFrom]
    rfl

theorem run_places : ∀ (l : List Field), l.all (fun (f : Field) => (size? P f.type).isSome) = true →
    (l.mapM (fun (f : Field) => (do pure (f.offset, ← sizeOf f.type) : Sem (Nat × Nat)))).run P w = .ok (l.map fun f => (f.offset, (size? P f.type).getD 0)) w
  | [], _ => by simp
  | f :: l, h => by
    simp only [List.all_cons, Bool.and_eq_true] at h
    cases hs : size? P f.type with
    | none => rw [hs] at h; simp at h
    | some s =>
      have hz := size?_run hs w
      rw [List.mapM_cons]
      simp only [Sem.run_bind, hz, Result.andThen_ok, Sem.run_pure, run_places l h.2, List.map_cons, hs, Option.getD_some]

theorem mapM_len {α β : Type} {f : α → Option β} : ∀ {l : List α} {r : List β}, l.mapM f = some r → r.length = l.length ∧ ∀ (i : Nat) (a : α) (b : β), l[i]? = some a → r[i]? = some b → f a = some b
  | [], r, h => by simp at h; subst h; simp
  | a :: l, r, h => by
    rw [List.mapM_cons] at h
    cases ha : f a with
    | none => rw [ha] at h; simp at h
    | some b =>
      rw [ha] at h
      cases hl : l.mapM f with
      | none => rw [hl] at h; simp at h
      | some r' =>
        rw [hl] at h; simp at h; subst h
        obtain ⟨h1, h2⟩ := mapM_len hl
        refine ⟨by simp [h1], fun i x y hx hy => ?_⟩
        cases i with
        | zero => simp at hx hy; subst hx hy; exact ha
        | succ i => exact h2 i x y (by simpa using hx) (by simpa using hy)

theorem rd_sound (hsat : Sat G B w0 m H w) {ρ : Operand → Value} {o : Oper} {op : AOp} {os : List Operand} {xs : List AV} {v : AV} (hc : compOp P o.op = some (op, os)) (hr : RelL m xs (os.map ρ)) (hq : op.quiet = true) (h : Rd op xs H v) :
    Yv P m w (execOp ρ o) v := by
  have one : ∀ {x : Operand}, os = [x] → ∃ a, xs = [a] ∧ Rel m a (ρ x) := by
    intro x e
    subst e
    match xs, hr with
    | [a], hr => exact ⟨a, rfl, hr.2 0 _ _ rfl rfl⟩
    | [], hr => have := hr.1; simp at this
    | _ :: _ :: _, hr => have := hr.1; simp at this
  have two : ∀ {x y : Operand}, os = [x, y] → ∃ a b, xs = [a, b] ∧ Rel m a (ρ x) ∧ Rel m b (ρ y) := by
    intro x y e
    subst e
    match xs, hr with
    | [a, b], hr => exact ⟨a, b, rfl, hr.2 0 _ _ rfl rfl, hr.2 1 _ _ rfl rfl⟩
    | [], hr => have := hr.1; simp at this
    | [_], hr => have := hr.1; simp at this
    | _ :: _ :: _ :: _, hr => have := hr.1; simp at this
  obtain ⟨dst, oo, ty, pos, after, guard⟩ := o
  simp only at hc
  cases oo with
  | move x =>
    simp only [compOp, Option.some.injEq, Prod.mk.injEq] at hc; obtain ⟨rfl, rfl⟩ := hc
    obtain ⟨a, rfl, ha⟩ := one rfl
    have hp := h.pure1 (by simp) (by simp) (by simp) (by simp)
    simp only [pureF, Option.some.injEq] at hp; subst hp
    exact ⟨ρ x, rfl, ha⟩
  | assign x =>
    simp only [compOp, Option.some.injEq, Prod.mk.injEq] at hc; obtain ⟨rfl, rfl⟩ := hc
    obtain ⟨a, rfl, ha⟩ := one rfl
    have hp := h.pure1 (by simp) (by simp) (by simp) (by simp)
    simp only [pureF, Option.some.injEq] at hp; subst hp
    exact ⟨ρ x, rfl, ha⟩
  | pick c a b =>
    simp only [compOp, Option.some.injEq, Prod.mk.injEq] at hc; obtain ⟨rfl, rfl⟩ := hc
    have hp := h.pure1 (by simp) (by simp) (by simp) (by simp)
    obtain ⟨y, ys, e, h1, h2⟩ : ∃ c0 r, xs = c0 :: r ∧ Rel m c0 (ρ c) ∧ RelL m r [ρ a, ρ b] := by
      cases xs with
      | nil => have := hr.1; simp at this
      | cons c0 r => obtain ⟨_, _, e, h1, h2⟩ := hr.uncons; simp at e; obtain ⟨rfl, rfl⟩ := e; exact ⟨c0, r, rfl, h1, h2⟩
    subst e
    match ys, h2 with
    | [p, q], h2 =>
      have hp1 := h2.2 0 _ _ rfl rfl
      have hq1 := h2.2 1 _ _ rfl rfl
      cases y <;> simp [pureF] at hp
      subst hp
      generalize hcc : ρ c = cc at h1
      cases h1
      rename_i bb
      cases bb
      · exact ⟨ρ b, by simp [execOp, hcc, asBool], hq1⟩
      · exact ⟨ρ a, by simp [execOp, hcc, asBool], hp1⟩
    | [], h2 => have := h2.1; simp at this
    | [_], h2 => have := h2.1; simp at this
    | _ :: _ :: _ :: _, h2 => have := h2.1; simp at this
  | nilCheck x =>
    simp only [compOp, Option.some.injEq, Prod.mk.injEq] at hc; obtain ⟨rfl, rfl⟩ := hc
    obtain ⟨a, rfl, ha⟩ := one rfl
    have hp := h.pure1 (by simp) (by simp) (by simp) (by simp)
    simp only [pureF] at hp
    generalize hcc : ρ x = cc at ha
    have ka := ha
    split at hp
    · cases hp; cases ha; exact ⟨_, by simp [execOp, hcc] <;> rfl, ka⟩
    · cases hp; cases ha; exact ⟨_, by simp [execOp, hcc] <;> rfl, ka⟩
    · cases hp; cases ha; exact ⟨_, by simp [execOp, hcc] <;> rfl, ka⟩
    · cases hp
  | load t a =>
    simp only [compOp] at hc
    cases hg : isAgg? P t with
    | none => rw [hg] at hc; cases hc
    | some g =>
      rw [hg] at hc
      cases hs : size? P t with
      | none => rw [hs] at hc; cases hc
      | some s =>
        rw [hs] at hc; cases hc
        obtain ⟨x, rfl, hx⟩ := one rfl
        refine .of ?_
        rcases h with hp | hp
        · cases x with
          | iptr cs => exact snd_ldi hsat hg hs hx hp
          | _ => simp [pureF] at hp
        · cases x with
          | ptr id off => obtain ⟨vs, hm, hv⟩ := hp; exact snd_ldp hsat hg hs hx hm hv
          | _ => simp at hp
  | extract x i =>
    simp only [compOp, Option.some.injEq, Prod.mk.injEq] at hc; obtain ⟨rfl, rfl⟩ := hc
    obtain ⟨a, rfl, ha⟩ := one rfl
    have hp := h.pure1 (by simp) (by simp) (by simp) (by simp)
    refine .of ?_
    cases a with
    | tup vs => exact snd_ext ha hp
    | _ => simp [pureF] at hp
  | unOp u t x =>
    simp only [compOp, Option.some.injEq, Prod.mk.injEq] at hc; obtain ⟨rfl, rfl⟩ := hc
    obtain ⟨a, rfl, ha⟩ := one rfl
    have hp := h.pure1 (by simp) (by simp) (by simp) (by simp)
    exact .of (snd_un ha (by simpa [pureF] using hp))
  | binOp b t x y yt =>
    by_cases hb : b = .eql ∨ b = .neq
    · have hc' : (match P.underlying t with
          | some (.struct fs) => (fs.toList.mapM (fun (f : Field) => kindT P f.type)).bind fun ks =>
            if fs.toList.all (fun f => f.name != "_" && (size? P f.type == some 1)) && fs.toList.map (·.offset) == List.range fs.size
              && !P.stoodInHeld t && !P.eqGuardType P.depth t then some (.eqs (b == .neq) ks, [x, y]) else none
          | some d => (eqKind d).map fun kd => (.eqg (b == .neq) kd, [x, y])
          | none => none) = some (op, os) := by rcases hb with rfl | rfl <;> exact hc
      clear hc
      cases hu : P.underlying t with
      | none => rw [hu] at hc'; cases hc'
      | some d =>
        rw [hu] at hc'
        by_cases hs : ∃ fs, d = .struct fs
        · obtain ⟨fs, rfl⟩ := hs
          simp only at hc'
          cases hks : fs.toList.mapM (fun (f : Field) => kindT P f.type) with
          | none => rw [hks] at hc'; cases hc'
          | some ks =>
            rw [hks] at hc'
            simp only [Option.bind_some] at hc'
            split at hc'
            · rename_i hcond
              cases hc'
              obtain ⟨a, e, rfl, ha, he⟩ := two rfl
              simp only [Bool.and_eq_true, List.all_eq_true, bne_iff_ne, ne_eq, beq_iff_eq, Bool.not_eq_true'] at hcond
              have hp := h.pure1 (by simp) (by simp) (by simp) (by simp)
              refine .of ?_
              cases a with
              | agg as => cases e with
                | agg es => exact snd_eqs hu hks (fun f hf => (hcond.1.1.1 f hf).1) hcond.1.1.2 hcond.1.2 hcond.2 hb ha he hp
                | _ => simp [pureF] at hp
              | _ => simp [pureF] at hp
            · cases hc'
        · have hc2 : (eqKind d).map (fun kd => (AOp.eqg (b == .neq) kd, [x, y])) = some (op, os) := by
            cases d <;> first | exact hc' | (exact absurd ⟨_, rfl⟩ hs)
          cases hk : eqKind d with
          | none => rw [hk] at hc2; cases hc2
          | some kd =>
            rw [hk] at hc2; cases hc2
            obtain ⟨a, e, rfl, ha, he⟩ := two rfl
            have hp := h.pure1 (by simp) (by simp) (by simp) (by simp)
            exact .of (snd_eqg hu hk hb ha he hp)
    · have hne : b ≠ .eql ∧ b ≠ .neq := ⟨fun e => hb (.inl e), fun e => hb (.inr e)⟩
      have hc' : some (AOp.bin b, [x, y]) = some (op, os) := by
        cases b <;> first | exact hc | (exact absurd rfl hne.1) | (exact absurd rfl hne.2)
      cases hc'
      obtain ⟨a, e, rfl, ha, he⟩ := two rfl
      have hp := h.pure1 (by simp) (by simp) (by simp) (by simp)
      refine .of ?_
      obtain ⟨cv, h1, h2⟩ := snd_bin (t := t) (w := w) (P := P) ha he (by simpa [pureF] using hp) hne
      refine ⟨cv, ?_, h2⟩
      have hg : eqGuard b t x y (ρ x) (ρ y) = pure () := by
        unfold eqGuard
        cases b <;> first | rfl | (exact absurd rfl hne.1) | (exact absurd rfl hne.2)
      rw [hg]; simpa using h1
  | convert s d x =>
    simp only [compOp] at hc
    split at hc
    · rename_i k1 k2 hs hd
      cases hc
      obtain ⟨a, rfl, ha⟩ := one rfl
      have hp := h.pure1 (by simp) (by simp) (by simp) (by simp)
      cases a with
      | int kn n => exact .of (snd_cvi hs hd ha hp)
      | _ => simp [pureF] at hp
    · rename_i hs hd
      cases hc
      obtain ⟨a, rfl, ha⟩ := one rfl
      have hp := h.pure1 (by simp) (by simp) (by simp) (by simp)
      cases a with
      | str l => exact .of (snd_cvs hs hd ha hp)
      | _ => simp [pureF] at hp
    · rename_i k hs hd
      cases hc
      obtain ⟨a, rfl, ha⟩ := one rfl
      have hp := h.pure1 (by simp) (by simp) (by simp) (by simp)
      cases a with
      | int kn n => exact .of (snd_cvc hs hd ha hp)
      | _ => simp [pureF] at hp
    · rename_i e hs hd
      split at hc
      · rename_i he
        cases hc
        obtain ⟨a, rfl, ha⟩ := one rfl
        refine .of ?_
        rcases h with hp | hp
        · cases a with
          | sl l t => exact snd_cvb hsat hs hd he ha hp
          | _ => simp [pureF] at hp
        · cases a with
          | msl id off n sz => obtain ⟨rfl, vs, bs, hm, hle, hb, rfl⟩ := hp; exact snd_cvbm hsat hs hd he ha hm hle hb
          | _ => simp at hp
      · rename_i he
        cases hc
        obtain ⟨a, rfl, ha⟩ := one rfl
        have hp := h.pure1 (by simp) (by simp) (by simp) (by simp)
        refine .of ?_
        cases a with
        | sl l t => exact snd_cvr hsat hs hd he ha hp
        | _ => simp [pureF] at hp
      · cases hc
    · split at hc
      · cases hc
        exfalso
        have hp := h.pure1 (by simp) (by simp) (by simp) (by simp)
        obtain ⟨a, rfl, ha⟩ := one rfl
        simp [pureF] at hp
      · cases hc
    · exfalso
      split at hc
      · split at hc
        · cases hc; cases hq
        · cases hc
      · cases hc
    · cases hc
  | makeInterface t x =>
    simp only [compOp] at hc
    split at hc
    · cases hc
    · cases hc
    · rename_i d hn hd
      cases hc
      obtain ⟨a, rfl, ha⟩ := one rfl
      have hp := h.pure1 (by simp) (by simp) (by simp) (by simp)
      exact .of (snd_mkif hd hn ha hp)
  | makeFunc f fs cs =>
    simp only [compOp, Option.some.injEq, Prod.mk.injEq] at hc; obtain ⟨rfl, rfl⟩ := hc
    have hp := h.pure1 (by simp) (by simp) (by simp) (by simp)
    refine .of (snd_mkfn (fa := fs.map ρ) (ca := cs.map ρ) (by simpa using hr) (by simp) hp)
  | slice t x lo hi mx =>
    cases mx with
    | some _ => simp [compOp] at hc
    | none =>
      simp only [compOp] at hc
      have hl : (lo.map ρ).isSome = lo.isSome := by cases lo <;> rfl
      have hh : (hi.map ρ).isSome = hi.isSome := by cases hi <;> rfl
      have hlist : (lo.toList ++ hi.toList).map ρ = (lo.map ρ).toList ++ (hi.map ρ).toList := by cases lo <;> cases hi <;> rfl
      split at hc
      · rename_i hu
        cases hc
        have hp := h.pure1 (by simp) (by simp) (by simp) (by simp)
        cases xs with
        | nil => have := hr.1; simp at this
        | cons a bs =>
          obtain ⟨_, _, e, ha, hbs⟩ := hr.uncons
          simp only [List.map_cons, List.cons.injEq] at e
          obtain ⟨rfl, rfl⟩ := e
          rw [hlist] at hbs
          rw [← hl, ← hh] at hp
          refine .of ?_
          cases a with
          | str l => simp only [Option.map_none]; rw [sliceAt_run (by rw [hu]; simp)]; exact snd_slc_str hu ha hbs hp
          | sl l t => simp [pureF] at hp
          | msl id off len s => simp [pureF] at hp
          | _ => simp [pureF] at hp
      · rename_i e hu
        cases hs : size? P e with
        | none => rw [hs] at hc; cases hc
        | some s =>
          rw [hs] at hc
          simp only [Option.bind_some] at hc
          split at hc
          · rename_i hs0
            cases hc
            have hp := h.pure1 (by simp) (by simp) (by simp) (by simp)
            cases xs with
            | nil => have := hr.1; simp at this
            | cons a bs =>
              obtain ⟨_, _, e, ha, hbs⟩ := hr.uncons
              simp only [List.map_cons, List.cons.injEq] at e
              obtain ⟨rfl, rfl⟩ := e
              rw [hlist] at hbs
              rw [← hl, ← hh] at hp
              refine .of ?_
              simp only [Option.map_none]
              rw [sliceAt_run (by rw [hu]; simp)]
              exact snd_slc hu hs ha hbs hp hs0
          · cases hc
      · cases hc
  | fieldAddr t x i =>
    simp only [compOp] at hc
    split at hc
    · rename_i fs hu
      cases hf : fs[i]? with
      | none => rw [hf] at hc; cases hc
      | some f =>
        rw [hf] at hc
        cases hs : size? P f.type with
        | none => simp [hs] at hc
        | some s =>
          simp only [Option.bind_some, hs] at hc
          split at hc
          · rename_i h0
            cases hc
            obtain ⟨a, rfl, ha⟩ := one rfl
            have hp := h.pure1 (by simp) (by simp) (by simp) (by simp)
            exact .of (snd_faddr hu hf hs h0 ha hp)
          · cases hc
    · cases hc
  | field t x i =>
    simp only [compOp] at hc
    split at hc
    · rename_i fs hu
      cases hf : fs[i]? with
      | none => rw [hf] at hc; cases hc
      | some f =>
        rw [hf] at hc
        cases hg : isAgg? P f.type with
        | none => simp [hg] at hc
        | some g =>
          cases hs : size? P f.type with
          | none => simp [hg, hs] at hc
          | some s =>
            simp only [Option.bind_some, hg, hs, Option.map_some, Option.some.injEq, Prod.mk.injEq] at hc
            obtain ⟨rfl, rfl⟩ := hc
            obtain ⟨a, rfl, ha⟩ := one rfl
            have hp := h.pure1 (by simp) (by simp) (by simp) (by simp)
            refine .of ?_
            cases a with
            | agg cs => exact snd_fld hu hf hg hs ha hp
            | _ => simp [pureF] at hp
    · cases hc
  | indexAddr t x i =>
    simp only [compOp] at hc
    split at hc
    · rename_i e hu
      cases hs : size? P e with
      | none => simp [hs] at hc
      | some s =>
        simp only [hs, Option.bind_some] at hc
        split at hc
        · rename_i h0
          cases hc
          obtain ⟨a, b, rfl, ha, hb⟩ := two rfl
          have hp := h.pure1 (by simp) (by simp) (by simp) (by simp)
          refine .of ?_
          cases b with
          | int k n => generalize hcc : ρ i = cc at hb; cases hb; exact snd_iaddr hu hs ha hp
          | _ => simp [pureF] at hp
        · cases hc
    · rename_i n e hu
      cases hs : size? P e with
      | none => simp [hs] at hc
      | some s =>
        simp only [hs, Option.bind_some] at hc
        split at hc
        · rename_i h0
          cases hc
          obtain ⟨a, b, rfl, ha, hb⟩ := two rfl
          have hp := h.pure1 (by simp) (by simp) (by simp) (by simp)
          refine .of ?_
          cases b with
          | int k n => generalize hcc : ρ i = cc at hb; cases hb; exact snd_aaddr hu hs ha hp
          | _ => simp [pureF] at hp
        · cases hc
    · cases hc
  | index t x i =>
    simp only [compOp] at hc
    split at hc
    · rename_i hu
      cases hc
      obtain ⟨a, b, rfl, ha, hb⟩ := two rfl
      have hp := h.pure1 (by simp) (by simp) (by simp) (by simp)
      refine .of ?_
      cases a with
      | str l => cases b with
        | int k n => generalize hcc : ρ i = cc at hb; cases hb; exact snd_ixs hu ha hp
        | _ => simp [pureF] at hp
      | _ => simp [pureF] at hp
    · rename_i n e hu
      cases hg : isAgg? P e with
      | none => simp [hg] at hc
      | some g =>
        cases hs : size? P e with
        | none => simp [hg, hs] at hc
        | some s =>
          simp only [hg, hs, Option.bind_some, Option.map_some, Option.some.injEq, Prod.mk.injEq] at hc
          obtain ⟨rfl, rfl⟩ := hc
          obtain ⟨a, b, rfl, ha, hb⟩ := two rfl
          have hp := h.pure1 (by simp) (by simp) (by simp) (by simp)
          refine .of ?_
          cases a with
          | agg cs => cases b with
            | int k n => generalize hcc : ρ i = cc at hb; cases hb; exact snd_ixa hu hg hs ha hp
            | _ => simp [pureF] at hp
          | _ => simp [pureF] at hp
    · cases hc
  | lookup t x i ok =>
    simp only [compOp] at hc
    split at hc
    · rename_i k e hu
      cases hk : kindT P k with
      | none => simp [hk] at hc
      | some kd =>
        cases hz : zero? P e with
        | none => simp [hk, hz] at hc
        | some z =>
          simp only [hk, hz, Option.bind_some, Option.map_some, Option.some.injEq, Prod.mk.injEq] at hc
          obtain ⟨rfl, rfl⟩ := hc
          obtain ⟨a, b, rfl, ha, hb⟩ := two rfl
          refine .of ?_
          rcases h with hp | hp
          · cases a with
            | nilm => generalize hcc : ρ x = cc at ha; cases ha; exact snd_lkp_nil hu hk hz hp
            | _ => simp [pureF] at hp
          · cases a with
            | map id => obtain ⟨es, r, hm, hkd, _, hl, rfl⟩ := hp; exact snd_lkp hsat hu hk hz ha hb hkd hm hl
            | _ => simp at hp
    · cases hc
  | typeAssert x xt t ok =>
    simp only [compOp] at hc
    split at hc
    · cases hc
    · rename_i d hn hu
      split at hc
      · rename_i hok
        cases hz : zero? P t with
        | none => rw [hz] at hc; cases hc
        | some z =>
          rw [hz] at hc; cases hc
          obtain ⟨a, rfl, ha⟩ := one rfl
          have hp := h.pure1 (by simp) (by simp) (by simp) (by simp)
          exact .of (snd_tas hu hn (fun _ => hz) ha hp)
      · rename_i hok
        cases hc
        obtain ⟨a, rfl, ha⟩ := one rfl
        have hp := h.pure1 (by simp) (by simp) (by simp) (by simp)
        exact .of (snd_tas hu hn (fun e => absurd e hok) ha hp)
    · cases hc
  | build t parts =>
    simp only [compOp] at hc
    have fin : ∀ {z : List AV} {cz : Value} {pl : List (Nat × Nat)} {place : Nat → Option (Nat × Nat)}, Rel m (.agg z) cz → pl.length = parts.toList.length →
        (∀ (i : Nat) (p : Nat × Operand) (q : Nat × Nat), parts.toList[i]? = some p → pl[i]? = some q → place p.1 = some q) → (fillL z pl xs).map AV.agg = some v → os = parts.toList.map (·.2) →
        ∃ cells, Instr.fill place cz.cells (parts.map fun (i, x) => (i, ρ x)).toList = some cells ∧ Rel m v (.agg cells) := by
      intro z cz pl place hz hl hpl hf hos
      cases hfl : fillL z pl xs with
      | none => rw [hfl] at hf; cases hf
      | some cs =>
        rw [hfl] at hf; cases hf
        subst hos
        cases hz with
        | agg _ ca k1 k2 k3 =>
          exact snd_fill (ps := (parts.map fun (i, x) => (i, ρ x)).toList) (.agg z ca k1 k2 k3) (by simp at hl ⊢; omega) (fun i p q hi hq' => by
            simp only [Array.toList_map, List.getElem?_map] at hi
            cases hpi : parts.toList[i]? with
            | none => rw [hpi] at hi; cases hi
            | some p' => rw [hpi] at hi; cases hi; exact hpl i p' q hpi hq') (by simpa [List.map_map, Function.comp_def] using hr) hfl
    split at hc
    · rename_i fs hu
      cases hz : zero? P t with
      | none => rw [hz] at hc; cases hc
      | some z =>
        rw [hz] at hc
        simp only [Option.bind_some] at hc
        cases hpl : parts.toList.mapM (fun (p : Nat × Operand) => (fs[p.1]?).bind fun f => (size? P f.type).map fun s => (f.offset, s)) with
        | none => rw [hpl] at hc; cases hc
        | some pl =>
          rw [hpl] at hc
          simp only [Option.bind_some] at hc
          split at hc
          · rename_i z'
            split at hc
            · rename_i hall
              cases hc
              have hp := h.pure1 (by simp) (by simp) (by simp) (by simp)
              obtain ⟨cz, hcz, hrz⟩ := zero?_run hz w
              obtain ⟨hl1, hl2⟩ := mapM_len hpl
              have hpr := run_places (w := w) fs.toList hall
              have hpr2 : (fs.mapM (fun (f : Field) => (do pure (f.offset, ← sizeOf f.type) : Sem (Nat × Nat)))).run P w = .ok (fs.toList.map fun f => (f.offset, (size? P f.type).getD 0)).toArray w := by
                rw [Array.mapM_eq_mapM_toList, Sem.run_map, hpr]; rfl
              obtain ⟨cells, hfill, hrel⟩ := fin (place := ((fs.toList.map fun f => (f.offset, (size? P f.type).getD 0)).toArray[·]?)) (hrz m) hl1 (fun i p q hi hq' => by
                have := hl2 i p q hi hq'
                cases hf : fs[p.1]? with
                | none => rw [hf] at this; cases this
                | some f =>
                  rw [hf] at this
                  simp only [Option.bind_some] at this
                  cases hs : size? P f.type with
                  | none => rw [hs] at this; cases this
                  | some s =>
                    rw [hs] at this; cases this
                    simp [hf, hs]) hp rfl
              refine .of ⟨.agg cells, ?_, hrel⟩
              simp only [Instr.build, Sem.run_bind, hcz, Result.andThen_ok, run_underlying hu, hpr2, hfill, Sem.run_pure]
            · cases hc
          · cases hc
    · rename_i n e hu
      cases hz : zero? P t with
      | none => rw [hz] at hc; cases hc
      | some z =>
        cases hs : size? P e with
        | none => simp [hz, hs] at hc
        | some s =>
          simp only [hz, hs, Option.bind_some] at hc
          split at hc
          · rename_i z'
            cases hc
            have hp := h.pure1 (by simp) (by simp) (by simp) (by simp)
            obtain ⟨cz, hcz, hrz⟩ := zero?_run hz w
            have hsz := size?_run hs w
            obtain ⟨cells, hfill, hrel⟩ := fin (place := fun i => some (i * s, s)) (hrz m) (by simp) (fun i p q hi hq' => by
              rw [List.getElem?_map, hi] at hq'; cases hq'; rfl) hp rfl
            refine .of ⟨.agg cells, ?_, hrel⟩
            simp only [Instr.build, Sem.run_bind, hcz, Result.andThen_ok, run_underlying hu, hsz, hfill, Sem.run_pure]
          · cases hc
    · cases hc
  | call c =>
    simp only [compOp, compCall] at hc
    split at hc
    · cases hc; cases hq
    · cases hc; cases hq
    · cases hc
    · rename_i b hcal
      have hexec : ∀ (s : Sem Value), (builtin b c.argTypes ty (c.args.map fun | .const _ => true | _ => false) (c.args.map ρ)) = (do pure (.value (← s))) →
          execOp ρ ⟨dst, .call c, ty, pos, after, guard⟩ = (do pure (.value (← s))) := by
        intro s hs
        simp only [execOp, resolve, hcal, invoke, pure_bind]
        exact hs
      split at hc
      · rename_i t hat
        have hlen : ∀ (kd : Nat) (d : TypeDesc), P.underlying t = some d → ((kd = 0 ∧ d = .string) ∨ (kd = 1 ∧ ∃ e, d = .slice e) ∨ (kd = 2 ∧ ∃ k e, d = .map k e)) → op = .len kd → os = c.args.toList → (∃ x, c.args.toList = [x]) →
            Yv P m w (execOp ρ ⟨dst, .call c, ty, pos, after, guard⟩) v := by
          intro kd d hu hkd ho hos hx
          subst ho hos
          obtain ⟨x, hx⟩ := hx
          obtain ⟨a, rfl, ha⟩ := one hx
          rw [hexec _ rfl]
          have hargs : c.args.map ρ = #[ρ x] := by rw [← Array.toList_inj]; simp [hx]
          rw [hargs]
          have hl : ∀ (y : Value), (Builtin.len_ c.argTypes ty #[y]).run P w = (Builtin.len_ #[t] ty #[y]).run P w := by
            intro y; simp [Builtin.len_, hat]
          refine .of ?_
          rw [hl]
          rcases h with hp | hp
          · exact snd_len hu hkd ha hp
          · split at hp
            · rename_i e1 e2; cases e1
            · rename_i e1 e2
              cases e1; cases e2
              obtain ⟨es, hm, rfl⟩ := hp
              obtain ⟨_, k, e, rfl⟩ : 2 = 2 ∧ ∃ k e, d = .map k e := by rcases hkd with ⟨h, _⟩ | ⟨h, _⟩ | h <;> first | exact h | cases h
              exact snd_lenm hsat hu ha hm
            · rename_i e1 e2; cases e1
            · rename_i e1 e2; cases e1
            · exact hp.elim
        split at hc
        · rename_i hu hx; cases hc; exact hlen 0 _ hu (.inl ⟨rfl, rfl⟩) rfl rfl ⟨_, hx⟩
        · rename_i hu hx; cases hc; exact hlen 1 _ hu (.inr (.inl ⟨rfl, _, rfl⟩)) rfl rfl ⟨_, hx⟩
        · rename_i hu hx; cases hc; exact hlen 2 _ hu (.inr (.inr ⟨rfl, _, _, rfl⟩)) rfl rfl ⟨_, hx⟩
        · cases hc
      · split at hc
        · cases hc
        · cases hc
          have hp := h.pure1 (by simp) (by simp) (by simp) (by simp)
          rw [hexec _ rfl]
          refine .of ?_
          cases xs with
          | nil => simp [pureF] at hp
          | cons a as =>
            obtain ⟨y, ys, e, ha, has⟩ := hr.uncons
            have he : (c.args.map ρ).toList = y :: ys := by simpa using e
            simp only [Builtin.min_, he]
            exact snd_min ha has (by simpa [pureF] using hp)
      · split at hc
        · cases hc
        · cases hc
          have hp := h.pure1 (by simp) (by simp) (by simp) (by simp)
          rw [hexec _ rfl]
          refine .of ?_
          cases xs with
          | nil => simp [pureF] at hp
          | cons a as =>
            obtain ⟨y, ys, e, ha, has⟩ := hr.uncons
            have he : (c.args.map ρ).toList = y :: ys := by simpa using e
            simp only [Builtin.max_, he]
            exact snd_max ha has (by simpa [pureF] using hp)
      · exfalso
        repeat' split at hc
        all_goals first | (cases hc; cases hq; done) | (cases hc; done)
      · exfalso
        split at hc
        · cases hs : (size? P _) with
          | none => rw [hs] at hc; cases hc
          | some s =>
            rw [hs] at hc
            simp only [Option.bind_some] at hc
            split at hc
            · cases hc; cases hq
            · cases hc
        · cases hc
      · cases hc
  | alloc t =>
    simp only [compOp] at hc
    cases hz : zero? P t with
    | none => rw [hz] at hc; cases hc
    | some z => rw [hz] at hc; simp only [Option.bind_some] at hc; split at hc <;> first | (cases hc; cases hq; done) | (cases hc; done)
  | box t x => simp only [compOp, Option.some.injEq, Prod.mk.injEq] at hc; obtain ⟨rfl, rfl⟩ := hc; cases hq
  | buildSlice t n parts =>
    simp only [compOp] at hc
    split at hc
    · rename_i e hu
      cases hz : zero? P e with
      | none => simp [hz] at hc
      | some z =>
        cases hs : size? P e with
        | none => simp [hz, hs] at hc
        | some s => simp only [hz, hs, Option.bind_some] at hc; split at hc <;> first | (cases hc; cases hq; done) | (cases hc; done)
    · cases hc
  | store t a v =>
    simp only [compOp] at hc
    cases hs : size? P t with
    | none => simp [hs] at hc
    | some s => simp only [hs, Option.map_some, Option.some.injEq, Prod.mk.injEq] at hc; obtain ⟨rfl, rfl⟩ := hc; cases hq
  | makeMap t r => cases r <;> simp [compOp] at hc; obtain ⟨rfl, rfl⟩ := hc; cases hq
  | makeSlice t l c =>
    simp only [compOp] at hc
    split at hc
    · rename_i e hu
      cases hz : zero? P e with
      | none => simp [hz] at hc
      | some z =>
        cases hs : size? P e with
        | none => simp [hz, hs] at hc
        | some s =>
          cases hb : bytes? P e with
          | none => simp [hz, hs, hb] at hc
          | some b => simp only [hz, hs, hb, Option.bind_some] at hc; split at hc <;> first | (cases hc; cases hq; done) | (cases hc; done)
    · cases hc
  | mapUpdate t a b c =>
    simp only [compOp] at hc
    split at hc
    · rename_i kt _ hu
      cases hk : kindT P kt with
      | none => simp [hk] at hc
      | some kd => simp only [hk, Option.map_some, Option.some.injEq, Prod.mk.injEq] at hc; obtain ⟨rfl, rfl⟩ := hc; cases hq
    · cases hc
  | range t x => simp only [compOp] at hc; split at hc <;> first | (cases hc; cases hq; done) | (cases hc; done)
  | next it b => cases b <;> simp [compOp] at hc; obtain ⟨rfl, rfl⟩ := hc; cases hq
  | _ => simp [compOp] at hc

end
end Go.AL
