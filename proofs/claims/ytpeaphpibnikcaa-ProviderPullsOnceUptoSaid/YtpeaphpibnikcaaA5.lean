/- The abstract layer, part 5: arithmetic, comparisons, conversions. -/
import Derived.Test.YtpeaphpibnikcaaA4
namespace Go.AL
open Go.RowKit

section
variable {G : Nat → Option (List AV)} {B : Nat} {w0 w w' : World} {m m' : Im} {H H' : Heap} {P : Program}

theorem snd_bin {op : BinOp} {t : TypeId} {x y v : AV} {c d : Value} (hx : Rel m x c) (hy : Rel m y d) (hp : binF op x y = some v) (hne : op ≠ .eql ∧ op ≠ .neq) :
    ∃ cv, (binOp op t c d).run P w = .ok cv w ∧ Rel m v cv := by
  unfold binF at hp
  split at hp
  · rename_i k a k' b
    cases hx; cases hy
    split at hp
    · split at hp
      · cases hp
      · cases hp
        rename_i hb
        exact ⟨_, by simp [binOp, Op.shift, hb] <;> rfl, .int _ _⟩
    · split at hp
      · cases hp
      · cases hp
        rename_i hb
        exact ⟨_, by simp [binOp, Op.shift, hb] <;> rfl, .int _ _⟩
    · split at hp
      · rename_i hk
        subst hk
        split at hp
        all_goals first
          | (cases hp; exact ⟨_, by simp [binOp, Op.intArith, Op.intCmp, Op.intBits] <;> rfl, by constructor⟩)
          | (cases hp; refine ⟨_, ?_, .int _ _⟩; simp [binOp, Op.intBits, intB]; done)
          | (by_cases hb : b = 0
             · simp [hb] at hp
             · simp only [hb, if_false, Option.some.injEq] at hp; subst hp; exact ⟨_, by simp [binOp, Op.intDiv, hb] <;> rfl, .int _ _⟩)
          | (exfalso; simp at hp; done)
      · cases hp
  · rename_i a b
    cases hx with
    | str s =>
      cases hy with
      | str u =>
        have e1 : ∀ s : ByteArray, s.toList = s.data.toList := fun s => ByteArray.toList_eq s
        have e2 : (s.data.toList == u.data.toList) = decide (s.data.toList = u.data.toList) := by rw [Bool.eq_iff_iff]; simp
        split at hp
        · split at hp
          · rename_i hle
            cases hp
            refine ⟨.string (s ++ u), ?_, ?_⟩
            · have hle' : ¬ (((s.size + u.size : Nat) : Int) > IntKind.i64.max) := by
                have h2 : s.size + u.size ≤ maxLen := by simpa using hle
                simp only [maxLen] at h2
                have : IntKind.i64.max = 9223372036854775807 := by decide
                rw [this]; omega
              simp only [binOp, Op.stringOp, hle', if_false, Sem.run_pure]
            · have := Rel.str (m := m) (s ++ u)
              rwa [show (s ++ u).data.toList = s.data.toList ++ u.data.toList by simp] at this
          · cases hp
        all_goals first
          | (cases hp; refine ⟨_, ?_, .bool _⟩; simp only [binOp, Op.stringOp, e1, e2, Sem.run_pure]; done)
          | (exfalso; simp at hp; done)
  · cases hp

theorem same_tok {xs : List AV} {t : Tok} {a : Option Addr} {n c : Nat} (h : Rel m (.sl xs t) (.slice a n c)) : a.isNone = decide (t = .nil) := by
  cases h with
  | slnil => simp
  | sl _ _ a len cap sz f ht => simp [ht]

theorem equalIn_run {t : TypeId} {d : TypeDesc} {x y : AV} {c e : Value} {b : Bool} (n : Nat) (hd : P.underlying t = some d) (hk : eqKind d = some x.eqK)
    (hx : Rel m x c) (hy : Rel m y e) (h6 : x.eqK ≠ 6) (hb : x.same y = some b) : (Op.equalIn (n + 1) t c e).run P w = .ok b w := by
  unfold AV.same at hb
  split at hb
  case h_2 => exact absurd rfl h6
  case h_3 => exact absurd rfl h6
  case h_20 => cases hb
  all_goals (have hb' := Option.some.inj hb; clear hb; subst hb')
  all_goals (cases hx <;> cases hy)
  all_goals (cases d <;> simp [eqKind, AV.eqK] at hk)
  all_goals (unfold Op.equalIn; simp only [Sem.run_bind, run_underlying hd, Result.andThen_ok, Sem.run_pure])
  all_goals first
    | rfl
    | (simp only [Result.ok.injEq, and_true]; rw [Bool.eq_iff_iff]; simp; done)
    | (exfalso; exact absurd rfl ‹Tok.nil ≠ Tok.nil›)
    | (simp only [Result.ok.injEq, and_true]; simp [‹_ ≠ Tok.nil›]; done)
    | skip

theorem eql_neq : (BinOp.eql == BinOp.neq) = false := by decide

theorem binOp_equal {op : BinOp} {t : TypeId} {x y : AV} {c e : Value} {b : Bool} {xo yo : Operand} (ho : op = .eql ∨ op = .neq) (hx : Rel m x c) (hy : Rel m y e) (h6 : x.eqK ≠ 6) (hb : x.same y = some b)
    (h : (Op.equal t c e).run P w = .ok b w) : (do eqGuard op t xo yo c e; binOp op t c e : Sem Value).run P w = .ok (.bool ((op == .neq) != b)) w := by
  unfold AV.same at hb
  split at hb
  case h_2 => exact absurd rfl h6
  case h_3 => exact absurd rfl h6
  case h_20 => cases hb
  all_goals (clear hb)
  all_goals (cases hx <;> cases hy)
  all_goals (rcases ho with rfl | rfl <;> simp [eqGuard, binOp, h, eql_neq])

theorem snd_eqg {op : BinOp} {t : TypeId} {d : TypeDesc} {kd : Nat} {x y v : AV} {c e : Value} {xo yo : Operand} (hd : P.underlying t = some d) (hk : eqKind d = some kd) (ho : op = .eql ∨ op = .neq)
    (hx : Rel m x c) (hy : Rel m y e) (hp : pureF (.eqg (op == .neq) kd) [x, y] = some v) :
    ∃ cv, (do eqGuard op t xo yo c e; binOp op t c e : Sem Value).run P w = .ok cv w ∧ Rel m v cv := by
  simp only [pureF] at hp
  split at hp
  case isFalse => cases hp
  rename_i hK
  cases hb : x.same y with
  | none => rw [hb] at hp; cases hp
  | some b =>
    rw [hb] at hp; cases hp
    by_cases h6 : x.eqK = 6
    · refine ⟨_, ?_, .bool _⟩
      unfold AV.same at hb
      split at hb
      case h_2 =>
        split at hb
        · rename_i hkk
          subst hkk
          cases hb; cases hx; cases hy
          rcases ho with rfl | rfl <;> simp [eqGuard, binOp, Op.intCmp, Bool.beq_eq_decide_eq, bne] <;> rfl
        · cases hb
      case h_3 =>
        cases hb; cases hx; cases hy
        rcases ho with rfl | rfl <;> simp [eqGuard, binOp, Op.stringOp, ByteArray.toList_eq, eql_neq, bne] <;> (rw [Bool.eq_iff_iff]; simp)
      case h_20 => cases hb
      all_goals exact absurd h6 (by simp [AV.eqK])
    · subst hK
      exact ⟨_, binOp_equal ho hx hy h6 hb (equalIn_run 9999 hd hk hx hy h6 hb), .bool _⟩

theorem kindT_one {t : TypeId} {k d : Nat} {a b : AV} {c e : Value} (hk : kindT P t = some k) (ha : a.kindN = k) (hb : b.kindN = k) (hra : Rel m a c) (hrb : Rel m b e) :
    isAgg? P t = some false ∧ (a.same b = none → False ∨ ∃ k1 k2 n1 n2, a = .int k1 n1 ∧ b = .int k2 n2 ∧ k1 ≠ k2) ∧ ∀ r, a.same b = some r → (Op.equalIn (d + 1) t c e).run P w = .ok r w := by
  unfold kindT at hk
  split at hk <;> first | (have := Option.some.inj hk; subst this) | cases hk
  all_goals rename_i hu
  all_goals refine ⟨by simp [isAgg?, hu], ?_, ?_⟩
  all_goals (cases a <;> simp [AV.kindN] at ha; cases b <;> simp [AV.kindN] at hb)
  · simp [AV.same]
  · intro r hr; cases hra; cases hrb; simp only [AV.same, Option.some.injEq] at hr; subst hr; rw [run_equalIn_bool' w d t _ _ hu, Bool.beq_eq_decide_eq]
  · rename_i k1 n1 k2 n2
    intro h
    by_cases hkk : k1 = k2
    · simp [AV.same, hkk] at h
    · exact .inr ⟨_, _, _, _, rfl, rfl, hkk⟩
  · rename_i k1 n1 k2 n2
    intro r hr
    cases hra; cases hrb
    simp only [AV.same] at hr
    split at hr
    · rename_i hkk; subst hkk
      have := Option.some.inj hr; subst this
      rw [run_equalIn_int w d t _ _ _ _ hu]; rfl
    · cases hr
  · simp [AV.same]
  · intro r hr; cases hra; cases hrb; simp only [AV.same, Option.some.injEq] at hr; subst hr
    rw [run_equalIn_string w d t _ _ hu, ByteArray.toList_eq, ByteArray.toList_eq]; congr 1; rw [Bool.eq_iff_iff]; simp

theorem eqFields_run {d : Nat} {ca cb : Array Value} {xs ys : List AV} : ∀ (fs : List Field) (o : Nat) (ks : List Nat) (r : Bool),
    fs.mapM (fun (f : Field) => kindT P f.type) = some ks → (∀ f ∈ fs, f.name ≠ "_") → (∀ i f, fs[i]? = some f → f.offset = o + i) →
    (xs.drop o).map AV.kindN = ks → (ys.drop o).map AV.kindN = ks →
    Rel m (.agg xs) (.agg ca) → Rel m (.agg ys) (.agg cb) → sameL (xs.drop o) (ys.drop o) = some r → (Op.eqFields (d + 1) ca cb fs).run P w = .ok r w := by
  intro fs
  induction fs with
  | nil =>
    intro o ks r hk _ _ hx hy _ _ hs
    simp at hk; subst hk
    simp at hx hy
    rw [List.drop_eq_nil_of_le hx, List.drop_eq_nil_of_le hy] at hs
    simp [sameL] at hs; subst hs
    simp [Op.eqFields]
  | cons f fs ih =>
    intro o ks r hk hn ho hx hy hra hrb hs
    rw [List.mapM_cons] at hk
    cases hkf : kindT P f.type with
    | none => rw [hkf] at hk; simp at hk
    | some k =>
      rw [hkf] at hk
      cases hks : fs.mapM (fun (f : Field) => kindT P f.type) with
      | none => rw [hks] at hk; simp at hk
      | some ks' =>
        rw [hks] at hk; simp at hk; subst hk
        have hox : o < xs.length := by
          rcases Nat.lt_or_ge o xs.length with h | h
          · exact h
          · rw [List.drop_eq_nil_of_le h] at hx; simp at hx
        have hoy : o < ys.length := by
          rcases Nat.lt_or_ge o ys.length with h | h
          · exact h
          · rw [List.drop_eq_nil_of_le h] at hy; simp at hy
        rw [List.drop_eq_getElem_cons hox] at hx hs
        rw [List.drop_eq_getElem_cons hoy] at hy hs
        simp only [List.map_cons, List.cons.injEq] at hx hy
        have hof : f.offset = o := by have := ho 0 f rfl; simpa using this
        have hnm : f.name ≠ "_" := hn f (by simp)
        have key := hra
        have key2 := hrb
        cases hra with
        | agg _ _ hl1 _ hr1 =>
          cases hrb with
          | agg _ _ hl2 _ hr2 =>
            have e1 : ca[o]? = some ca[o] := Array.getElem?_eq_getElem (by omega)
            have e2 : cb[o]? = some cb[o] := Array.getElem?_eq_getElem (by omega)
            have r1 := hr1 o _ _ (List.getElem?_eq_getElem hox) e1
            have r2 := hr2 o _ _ (List.getElem?_eq_getElem hoy) e2
            obtain ⟨hag, hnone, hrun⟩ := kindT_one (w := w) (d := d) hkf hx.1 hy.1 r1 r2
            have hg := isAgg?_run hag w
            have p1 : (part f.type ca f.offset).run P w = .ok ca[o] w := by rw [hof]; simp only [part, Sem.run_bind, hg, Result.andThen_ok, Bool.false_eq_true, if_false, e1, Sem.run_pure]
            have p2 : (part f.type cb f.offset).run P w = .ok cb[o] w := by rw [hof]; simp only [part, Sem.run_bind, hg, Result.andThen_ok, Bool.false_eq_true, if_false, e2, Sem.run_pure]
            simp only [sameL] at hs
            simp only [Op.eqFields, ne_eq, hnm, not_false_eq_true, if_true, Sem.run_bind, p1, p2, Result.andThen_ok]
            split at hs
            · rename_i hsame
              rw [hrun _ hsame]
              simp only [Result.andThen_ok, Bool.not_true, Bool.false_eq_true, if_false]
              exact ih (o + 1) ks' r hks (fun g hg => hn g (by simp [hg])) (fun i g hg => by have := ho (i + 1) g (by simpa using hg); omega) hx.2 hy.2 key key2 hs
            · rename_i hsame
              rw [hrun _ hsame]
              cases hs
              simp
            · cases hs

theorem snd_eqs {op : BinOp} {t : TypeId} {fs : Array Field} {ks : List Nat} {xs ys : List AV} {v : AV} {c e : Value} {xo yo : Operand} (hu : P.underlying t = some (.struct fs))
    (hks : fs.toList.mapM (fun (f : Field) => kindT P f.type) = some ks) (hn : ∀ f ∈ fs.toList, f.name ≠ "_") (ho : fs.toList.map (·.offset) = List.range fs.size) (h1 : P.stoodInHeld t = false)
    (h2 : P.eqGuardType P.depth t = false) (hop : op = .eql ∨ op = .neq) (hx : Rel m (.agg xs) c) (hy : Rel m (.agg ys) e) (hp : pureF (.eqs (op == .neq) ks) [.agg xs, .agg ys] = some v) :
    ∃ cv, (do eqGuard op t xo yo c e; binOp op t c e : Sem Value).run P w = .ok cv w ∧ Rel m v cv := by
  simp only [pureF] at hp
  split at hp
  case isFalse => cases hp
  rename_i hk
  cases hb : sameL xs ys with
  | none => rw [hb] at hp; cases hp
  | some b =>
    rw [hb] at hp; cases hp
    refine ⟨_, ?_, .bool _⟩
    have kx := hx
    have ky := hy
    cases hx with
    | agg _ ca =>
      cases hy with
      | agg _ cb =>
        have hf : P.fieldsOf t = fs := by simp [Program.fieldsOf, hu]
        have hr := run_equalIn_struct w 9999 t ca cb (by rw [hf]; exact hu) h1
        rw [hf, eqFields_run fs.toList 0 ks b hks hn (fun i f hi => by
          have h := congrArg (fun l => l[i]?) ho
          have hlt : i < fs.size := by simpa using (List.getElem?_eq_some_iff.1 hi).1
          simp only [List.getElem?_map, hi, Option.map_some, List.getElem?_range hlt, Option.some.injEq] at h
          omega) (by simpa using hk.1) (by simpa using hk.2) kx ky (by simpa using hb)] at hr
        have hg := run_eqGuard_agg (P := P) w op t xo yo ca cb h2
        rcases hop with rfl | rfl
        · simp only [Sem.run_bind, hg, Result.andThen_ok, run_eql_struct, hr, eql_neq]; simp
        · simp only [Sem.run_bind, hg, Result.andThen_ok, run_neq_struct, hr]; simp

end
end Go.AL
