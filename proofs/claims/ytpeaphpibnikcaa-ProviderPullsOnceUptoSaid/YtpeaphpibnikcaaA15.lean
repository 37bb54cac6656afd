/- The abstract layer, part 15: regions. -/
import Derived.Test.YtpeaphpibnikcaaA14
namespace Go.AL
open Go.RowKit

/-- The operations of a region, one after another. -/
def runL (G : Nat → Option (List AV)) (P : Program) : List AOper → Env → Heap → (Env → Heap → Prop) → Prop
  | [], σ, H, K => K σ H
  | o :: l, σ, H, K => doOp G P o σ H fun σ' H' => runL G P l σ' H' K

section
variable {G : Nat → Option (List AV)} {B : Nat} {w0 w w' : World} {m m' : Im} {H H' : Heap} {P : Program} {n : Nat} {σ : Env} {a : Act} {ops : Array Oper}

theorem compO_dst {o : Oper} {ao : AOper} (h : compO P n ops o = some ao) : ao.dst = o.dst ∧ (∀ t, o.dst = some t → t < n) ∧ compOp P o.op = some (ao.op, ao.args) ∧
    (match o.guard, ao.guard with
      | none, none => True
      | some (j, want), some (t, want') => (ops[j]?).bind (·.dst) = some t ∧ want = want'
      | _, _ => False) := by
  unfold compO at h
  cases hc : compOp P o.op with
  | none => rw [hc] at h; cases h
  | some c =>
    rw [hc] at h
    simp only [Option.bind_some] at h
    split at h
    · rename_i hd
      have hd' : ∀ t, o.dst = some t → t < n := by
        intro t ht
        rw [ht] at hd
        simpa [dstOk] using hd
      split at h
      · rename_i hg
        cases h
        rw [hg]
        exact ⟨rfl, hd', rfl, trivial⟩
      · rename_i j want hg
        cases hj : (ops[j]?).bind (·.dst) with
        | none => rw [hj] at h; cases h
        | some t =>
          rw [hj] at h; cases h
          rw [hg]
          exact ⟨rfl, hd', rfl, hj, rfl⟩
    · cases h

theorem doOp_sound (hsat : Sat G B w0 m H w) (hrel : RelT m n σ a) {i : Nat} {o : Oper} {ao : AOper} {K : Env → Heap → Prop} {Q : Exit → Act → World → Prop} {Kc : Act → World → Prop} (ho : ops[i]? = some o) (hc : compO P n ops o = some ao)
    (h : doOp G P ao σ H K) (hK : ∀ m' w' a' σ' H', m.le m' → Sat G B w0 m' H' w' → RelT m' n σ' a' → K σ' H' → Kc a' w') : wpOp P ops Q i Kc a w := by
  obtain ⟨hdst, hd, hco, hg⟩ := compO_dst hc
  have yes : eff G P ao.op (ao.args.map (opE G σ)) H (fun v H' => K (σ.put ao.dst v) H') → o.wp P a w Kc Q := by
    intro h
    refine eff_sound hsat hrel hco hd h (fun m' w' v cv H' h1 h2 h3 h4 => hK m' w' _ _ H' h1 h2 ((hrel.mono h1).put hd h3) ?_)
    rw [hdst] at h4; exact h4
  have no : K (σ.put ao.dst .undef) H → Kc (a.put o.dst undef) w := by
    intro h
    rw [hdst] at h
    exact hK m w _ _ H (.refl m) hsat (hrel.put hd (.tup [] #[] rfl (fun i x y h => by simp at h))) h
  unfold wpOp
  rw [ho]
  simp only
  unfold doOp gate at h
  cases hgo : o.guard with
  | none =>
    rw [hgo] at hg
    have hw : Region.wanted o (yielded ops a.tmps) = true := by simp [Region.wanted, hgo]
    rw [if_pos hw]
    cases hga : ao.guard with
    | none => rw [hga] at h; exact .inl (yes h)
    | some _ => rw [hga] at hg; exact hg.elim
  | some jw =>
    obtain ⟨j, want⟩ := jw
    rw [hgo] at hg
    cases hga : ao.guard with
    | none => rw [hga] at hg; exact hg.elim
    | some tw =>
      obtain ⟨t, want'⟩ := tw
      rw [hga] at hg h
      obtain ⟨hj, rfl⟩ := hg
      simp only at h
      have hrt := hrel.rel t
      have hy : yielded ops a.tmps j = match a.tmps[t]? with | some (.bool b) => some b | _ => none := by
        unfold yielded; rw [hj]; rfl
      split at h
      · rename_i b hb
        rw [hb] at hrt
        generalize hgt : a.tmps.getD t undef = cv at hrt
        cases hrt
        have htm : a.tmps[t]? = some (.bool b) := by
          rw [Array.getD_eq_getD_getElem?] at hgt
          cases hq : a.tmps[t]? with
          | none => rw [hq] at hgt; cases hgt
          | some u => rw [hq] at hgt; simp at hgt; rw [hgt]
        have hw : Region.wanted o (yielded ops a.tmps) = (b == want) := by simp [Region.wanted, hgo, hy, htm]
        rw [hw]
        split at h
        · rename_i hbw; subst hbw; simp only [beq_self_eq_true, if_true]; exact .inl (yes h)
        · rename_i hbw
          have : (b == want) = false := by simpa using hbw
          rw [this]; exact no h
      · rename_i hb
        rw [hb] at hrt
        generalize hgt : a.tmps.getD t undef = cv at hrt
        have hyn : yielded ops a.tmps j = none := by
          rw [hy]
          rw [Array.getD_eq_getD_getElem?] at hgt
          cases hq : a.tmps[t]? with
          | none => rfl
          | some u =>
            rw [hq] at hgt; simp at hgt; subst hgt
            cases hrt
            rfl
        have hw : Region.wanted o (yielded ops a.tmps) = false := by simp [Region.wanted, hgo, hyn]
        rw [hw]; exact no h
      · exact h.elim

/-- What a piece of code may end in, abstractly and in the model. -/
def Post (G : Nat → Option (List AV)) (B : Nat) (w0 : World) (m : Im) (n : Nat) (Q : Exit → Env → Heap → Prop) : Exit → Act → World → Prop :=
  fun e a w => ∃ m' σ H, m.le m' ∧ Sat G B w0 m' H w ∧ RelT m' n σ a ∧ Q e σ H

theorem runL_sound {aos : List AOper} (hlen : aos.length = ops.size) (hcs : ∀ (i : Nat) (o : Oper), ops[i]? = some o → ∃ ao : AOper, aos[i]? = some ao ∧ compO P n ops o = some ao) {K : Env → Heap → Prop} {Q : Exit → Act → World → Prop} :
    ∀ (k i : Nat), i + k = ops.size → ∀ (m : Im) (w : World) (a : Act) (σ : Env) (H : Heap), Sat G B w0 m H w → RelT m n σ a → runL G P (aos.drop i) σ H K →
      (∀ m' w' a' σ' H', m.le m' → Sat G B w0 m' H' w' → RelT m' n σ' a' → K σ' H' → Q .normal a' w') → wpOps P ops Q (List.range' i k) a w
  | 0, i, hi, m, w, a, σ, H, hsat, hrel, h, hK => by
    rw [List.drop_eq_nil_of_le (by omega)] at h
    exact hK m w a σ H (.refl m) hsat hrel h
  | k + 1, i, hi, m, w, a, σ, H, hsat, hrel, h, hK => by
    have hlt : i < ops.size := by omega
    rw [List.range'_succ, wpOps_cons]
    obtain ⟨ao, ha, hco⟩ := hcs i ops[i] (Array.getElem?_eq_getElem hlt)
    have hd : aos.drop i = ao :: aos.drop (i + 1) := by
      have hl : i < aos.length := by omega
      rw [List.drop_eq_getElem_cons hl]
      congr 1
      rw [List.getElem?_eq_getElem hl] at ha; cases ha; rfl
    rw [hd] at h
    exact doOp_sound hsat hrel (Array.getElem?_eq_getElem hlt) hco h (fun m' w' a' σ' H' h1 h2 h3 h4 =>
      runL_sound hlen hcs k (i + 1) (by omega) m' w' a' σ' H' h2 h3 h4 (fun m2 w2 a2 σ2 H2 g1 g2 g3 g4 => hK m2 w2 a2 σ2 H2 (h1.trans g1) g2 g3 g4))

/-- All operations of a region turned. -/
def compR (P : Program) (n : Nat) (ops : Array Oper) : Option (List AOper) := ops.toList.mapM (compO P n ops)

theorem compR_spec {aos : List AOper} (h : compR P n ops = some aos) : aos.length = ops.size ∧ ∀ (i : Nat) (o : Oper), ops[i]? = some o → ∃ ao : AOper, aos[i]? = some ao ∧ compO P n ops o = some ao := by
  obtain ⟨h1, h2⟩ := mapM_len h
  refine ⟨by simpa using h1, fun i o ho => ?_⟩
  have hi : i < aos.length := by rw [h1]; simpa using (Array.getElem?_eq_some_iff.1 ho).1
  exact ⟨aos[i], List.getElem?_eq_getElem hi, h2 i o _ (by simpa using ho) (List.getElem?_eq_getElem hi)⟩

/-- A piece of code, abstractly. -/
def AWp (G : Nat → Option (List AV)) (P : Program) (n : Nat) (c : Code) (σ : Env) (H : Heap) (Q : Exit → Env → Heap → Prop) : Prop :=
  ∀ B w0 m w a, Sat G B w0 m H w → RelT m n σ a → c.wp P (Post G B w0 m n Q) a w

theorem AWp_region {id : Nat} {aos : List AOper} {K : Env → Heap → Prop} {Q : Exit → Env → Heap → Prop} (hc : compR P n ops = some aos) (h : runL G P aos σ H K) (hK : ∀ σ H, K σ H → Q .normal σ H) : AWp G P n (.region id ops false) σ H Q := by
  intro B w0 m w a hsat hrel
  obtain ⟨h1, h2⟩ := compR_spec hc
  refine wp_region ?_
  rw [List.range_eq_range']
  exact runL_sound h1 h2 ops.size 0 (by omega) m w a σ H hsat hrel h (fun m' w' a' σ' H' g1 g2 g3 g4 => ⟨m', σ', H', g1, g2, g3, hK _ _ g4⟩)

end
end Go.AL
