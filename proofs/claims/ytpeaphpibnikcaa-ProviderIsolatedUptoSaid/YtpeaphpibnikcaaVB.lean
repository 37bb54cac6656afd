/- The provider made out of lists that may be written. -/
import Derived.Test.YtpeaphpibnikcaaVA
set_option linter.unusedSimpArgs false
set_option linter.unusedVariables false
set_option maxRecDepth 100000
set_option maxHeartbeats 4000000
namespace Go.AL.Fun
open Go Go.AL

def m19 (xs : List AV) (H : Heap) (K : Kv) : Prop := ∃ (u : Nat) (fs : List Fld), xs = [.agg [.int .i64 4, .str [], .int .i64 0, .bool false, .sl [] .nil, .msl u 0 fs.length 7]] ∧ Val.wtf fs ≤ 1048576 ∧ lookH u H = some (.cells (flat (Val.fvs fs))) ∧ K.ap (.int .i64 (chkM fs .no)) H
def m20 (xs : List AV) (H : Heap) (K : Kv) : Prop := ∃ (u : Nat) (l : List (List UInt8)), xs = [.msl u 0 l.length 1, .fn (.func 21) [] []] ∧ l.length ≤ 1099511627776 ∧ (∀ s ∈ l, s.length ≤ 1099511627776) ∧ lookH u H = some (.cells (strsAV l)) ∧ K.ap (.bool (!(l.all nameB))) H
theorem fvs_all (fs : List Fld) : AllSz 7 (Val.fvs fs) := by
  intro x hx
  rw [Val.fvs_map] at hx
  obtain ⟨f, _, rfl⟩ := List.mem_map.1 hx
  obtain ⟨k, v⟩ := f
  obtain ⟨k', s', n', b', it', is', ft', fs'⟩ := v
  simp [AV.cells, Val.cs, Val.fav]
theorem strs_flat (l : List (List UInt8)) : flat (strsAV l) = strsAV l := by
  induction l with
  | nil => rfl
  | cons s l ih => simp only [strsAV, List.map_cons, flat, List.flatMap_cons, AV.cells, List.cons_append, List.nil_append] at ih ⊢; rw [ih]
theorem m19_ok {P : Program} (h : ∀ xs H K, c19 xs H ⟨K⟩ → ACalls (fun _ => none) P 19 xs H K) : ∀ xs H K, m19 xs H ⟨K⟩ → ACalls (fun _ => none) P 19 xs H K := by
  rintro xs H K ⟨u, fs, rfl, hw, hl, k⟩
  have hp := h [.agg [.int .i64 4, .str [], .int .i64 0, .bool false, .sl [] .nil, .sl (Val.fvs fs) .no]] [] (fun v _ => v = .int .i64 (chkM fs .no)) (x_c19 (is := []) (by simp only [Val.wt, Val.wts, List.length_nil]; omega) _ _ rfl)
  refine ⟨hp.1, fun B w0 m w cargs hs hr => ?_⟩
  obtain ⟨c, r2, e2, g2, hr⟩ := hr.uncons
  have e3 := hr.unnil
  subst e3
  obtain rfl : cargs = #[c] := by cases cargs; simp_all
  have g3 : Rel (im0 w) (.agg [.int .i64 4, .str [], .int .i64 0, .bool false, .sl [] .nil, .sl (Val.fvs fs) .no]) c := by
    cases g2 with
    | agg _ ca hl2 h1 hr2 =>
      refine .agg _ ca hl2 h1 fun i x y hx hy => ?_
      by_cases hi : i = 5
      · subst hi
        simp at hx
        subst hx
        have q := hr2 5 (.msl u 0 fs.length 7) y rfl hy
        exact Rel.thaw hs q (lookH_mem hl) (fvs_all fs) (Val.fvs_len fs) (by decide)
      · refine (hr2 i x y ?_ hy).mono hs.le_im0
        match i, hi, hx with
        | 0, _, hx => exact hx
        | 1, _, hx => exact hx
        | 2, _, hx => exact hx
        | 3, _, hx => exact hx
        | 4, _, hx => exact hx
        | i + 6, _, hx => simp at hx
  refine (hp.pureH hs ((RelL.nil _).cons g3)).mono ?_
  rintro e w' ⟨cv, m1, rfl, hr1, hs'⟩
  refine ⟨_, cv, m, H, rfl, .refl m, hs', ?_, k⟩
  cases hr1
  exact .int _ _
theorem m20_ok {P : Program} (h : ∀ xs H K, c20 xs H ⟨K⟩ → ACalls (fun _ => none) P 20 xs H K) : ∀ xs H K, m20 xs H ⟨K⟩ → ACalls (fun _ => none) P 20 xs H K := by
  rintro xs H K ⟨u, l, rfl, hl1, hl2, hl, k⟩
  have hp := h [.sl (strsAV l) .no, .fn (.func 21) [] []] [] (fun v _ => v = .bool (!(l.all nameB))) (x_c20 hl1 hl2 _ _ rfl)
  refine ⟨hp.1, fun B w0 m w cargs hs hr => ?_⟩
  obtain ⟨c, r2, e2, g2, hr⟩ := hr.uncons
  obtain ⟨d, r3, e3, g4, hr⟩ := hr.uncons
  have e4 := hr.unnil
  subst e3 e4
  obtain rfl : cargs = #[c, d] := by cases cargs; simp_all
  have g3 : Rel (im0 w) (.sl (strsAV l) .no) c := Rel.thaw hs g2 (by rw [strs_flat]; exact lookH_mem hl) (strs_all l) (strs_len l) (by decide)
  refine (hp.pureH hs (((RelL.nil _).cons (g4.mono hs.le_im0)).cons g3)).mono ?_
  rintro e w' ⟨cv, m1, rfl, hr1, hs'⟩
  refine ⟨_, cv, m, H, rfl, .refl m, hs', ?_, k⟩
  cases hr1
  exact .bool _
end Go.AL.Fun
