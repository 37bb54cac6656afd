/- strconv.FormatInt at base 10: the kit's contract, as a contract of the abstract layer. What is called knows no tables, too. -/
import Derived.Test.YtpeaphpibnikcaaDoorT21
import Derived.Shelf.Strconv.Itoa4
set_option linter.unusedSimpArgs false
set_option linter.unusedVariables false
set_option maxRecDepth 100000
namespace Go.AL
open Go.RowKit
section
variable {G : Nat → Option (List AV)} {B : Nat} {w0 w w' : World} {m : Im} {H : Heap} {P : Program}
/-- A contract that names no table holds where there are some. -/
theorem ACalls.tabs {f : Nat} {xs : List AV} {K : AV → Heap → Prop} (h : ACalls (fun _ => none) P f xs H K) : ACalls G P f xs H K := by
  refine ⟨h.1, fun B w0 m w cargs hs hr => ?_⟩
  have hs0 : Sat (fun _ => none) B w0 m H w := ⟨hs.below, hs.base, hs.cell, hs.size, hs.nodup, hs.obj, fun g cs hg => by cases hg⟩
  refine (h.2 B w0 m w cargs hs0 hr).mono ?_
  rintro e w' ⟨v, cv, m', H', q1, q2, q3, q4, q5⟩
  exact ⟨v, cv, m', H', q1, q2, ⟨q3.below, q3.base, q3.cell, q3.size, q3.nodup, q3.obj, fun g cs hg => ⟨(hs.glob g cs hg).1, (hs.glob g cs hg).2.mono q2⟩⟩, q4, q5⟩
/-- What lies behind the heap and draws turn nothing. -/
theorem Sat.behind (hs : Sat G B w0 m H w) (hb : Below w.heap.size w w') : Sat G B w0 m H w' := by
  have hk : ∀ k, k < w.heap.size → w'.heap[k]? = w.heap[k]? := fun k hk => hb.block k hk
  refine ⟨hs.below.trans (hb.mono hs.base), Nat.le_trans hs.base hb.size, fun b o v h => ?_, fun b n h => ?_, hs.nodup, fun id o hm => ?_, hs.glob⟩
  · rw [World.cell?_of_block (w := w) (a := ⟨b, o, none⟩) (hk _ (hs.cell_lt h))]
    exact hs.cell b o v h
  · rw [hk _ (hs.size_lt h)]; exact hs.size b n h
  · obtain ⟨q1, q2, q3⟩ := hs.obj id o hm
    exact ⟨q1, Nat.lt_of_lt_of_le q2 hb.size, AObj.ok_of_block (.refl m) (hk _ q2) (fun _ => rfl) q3⟩
/-- A table that is held reads so. -/
theorem Sat.tabIs (hs : Sat G B w0 m H w) {g : Nat} {k : IntKind} {zs : List Int} {nm : String} (hg : G g = some (zs.map (AV.int k))) (hn : P.globalNamed nm = some g) : Lib.TabIs P w nm k zs := by
  obtain ⟨⟨h1, vs, e, fr, h2, h3⟩, h4⟩ := hs.glob g _ hg
  have h5 : w.heap[g]? = some (.cells vs e fr) := (hs.below.block g h1).trans h2
  unfold Lib.TabIs World.var?
  rw [hn]
  show (match w.heap[g]? with | some (.cells cs _ _) => some cs | _ => none) = _
  rw [h5]
  cases h4 with
  | iptr cs a f hs' hc h1' hr =>
    refine congrArg some (Array.ext (by simpa using h3) fun i q1 q2 => ?_)
    have q3 : i < zs.length := by simpa using q2
    have q4 := hs.cell _ _ _ (hc i (by simpa using q3))
    have q5 := hr i (.int k zs[i]) (by simp [q3])
    have q6 : w.cell? ⟨g, 0 + i, none⟩ = some vs[i] := by
      unfold World.cell?
      rw [h5]
      simp [q1]
    rw [q6] at q4
    have e9 := Option.some.inj q4
    rw [← e9] at q5
    have e8 : ∀ u, Rel m (AV.int k zs[i]) u → u = Value.int k zs[i] := fun u hu => by cases hu; rfl
    rw [e8 _ q5]
    simp
end
end Go.AL
namespace Go.Proofs.YtpeaphpibnikcaaDoor.lib
open Go.AL Go.AL.Fun Go.RowKit Go.Proofs

def fiLayRen : Go.Shelf.Ren := ⟨fun x => match x with | 129 => 67 | 173 => 37 | 246 => 47 | 283 => 55 | 284 => 56 | 285 => 57 | 286 => 58 | 317 => 66 | 318 => 68 | 319 => 69 | 320 => 70 | 337 => 79 | 338 => 80 | n => n, fun x => match x with | 0 => 0 | 2 => 2 | 3 => 3 | 4 => 4 | 5 => 5 | 9 => 9 | 20 => 20 | 37 => 48 | 46 => 103 | 51 => 100 | 53 => 87 | 171 => 86 | 173 => 90 | 212 => 99 | 213 => 101 | 232 => 123 | 233 => 124 | n => n, fun x => match x with | 17 => 0 | 18 => 4 | 19 => 5 | n => n⟩
theorem fiLay : Lays.n173 Tryd.prog fiLayRen where
  mixed := by kernel_rfl
  f129 := Tryd.func67.trans (congrArg some (by kernel_rfl))
  f173 := Tryd.func37.trans (congrArg some (by kernel_rfl))
  f246 := Tryd.func47.trans (congrArg some (by kernel_rfl))
  f283 := Tryd.func55.trans (congrArg some (by kernel_rfl))
  f284 := Tryd.func56.trans (congrArg some (by kernel_rfl))
  f285 := Tryd.func57.trans (congrArg some (by kernel_rfl))
  f286 := Tryd.func58.trans (congrArg some (by kernel_rfl))
  f317 := Tryd.func66.trans (congrArg some (by kernel_rfl))
  f318 := Tryd.func68.trans (congrArg some (by kernel_rfl))
  f319 := Tryd.func69.trans (congrArg some (by kernel_rfl))
  f320 := Tryd.func70.trans (congrArg some (by kernel_rfl))
  f337 := Tryd.func79.trans (congrArg some (by kernel_rfl))
  f338 := Tryd.func80.trans (congrArg some (by kernel_rfl))
  t0 := Tryd.underlying0
  a0 := Tryd.isAgg0
  z0 := Tryd.sizeOf0
  v0 := Tryd.zeroValue0
  t2 := Tryd.underlying2
  a2 := Tryd.isAgg2
  z2 := Tryd.sizeOf2
  v2 := Tryd.zeroValue2
  t3 := Tryd.underlying3
  a3 := Tryd.isAgg3
  z3 := Tryd.sizeOf3
  v3 := Tryd.zeroValue3
  t4 := Tryd.underlying4
  a4 := Tryd.isAgg4
  z4 := Tryd.sizeOf4
  v4 := Tryd.zeroValue4
  t5 := Tryd.underlying5
  a5 := Tryd.isAgg5
  z5 := Tryd.sizeOf5
  v5 := Tryd.zeroValue5
  t9 := Tryd.underlying9
  a9 := Tryd.isAgg9
  z9 := Tryd.sizeOf9
  v9 := Tryd.zeroValue9
  t20 := Tryd.underlying20
  a20 := Tryd.isAgg20
  z20 := Tryd.sizeOf20
  v20 := Tryd.zeroValue20
  t37 := Tryd.underlying48
  a37 := Tryd.isAgg48
  z37 := Tryd.sizeOf48
  v37 := Tryd.zeroValue48
  t46 := Tryd.underlying103
  a46 := Tryd.isAgg103
  z46 := Tryd.sizeOf103
  v46 := Tryd.zeroValue103
  t51 := Tryd.underlying100
  a51 := Tryd.isAgg100
  z51 := Tryd.sizeOf100
  v51 := Tryd.zeroValue100
  t53 := Tryd.underlying87
  a53 := Tryd.isAgg87
  z53 := Tryd.sizeOf87
  v53 := Tryd.zeroValue87
  t171 := Tryd.underlying86
  a171 := Tryd.isAgg86
  z171 := Tryd.sizeOf86
  v171 := Tryd.zeroValue86
  t173 := Tryd.underlying90
  a173 := Tryd.isAgg90
  z173 := Tryd.sizeOf90
  v173 := Tryd.zeroValue90
  t212 := Tryd.underlying99
  a212 := Tryd.isAgg99
  z212 := Tryd.sizeOf99
  v212 := Tryd.zeroValue99
  t213 := Tryd.underlying101
  a213 := Tryd.isAgg101
  z213 := Tryd.sizeOf101
  t232 := Tryd.underlying123
  a232 := Tryd.isAgg123
  z232 := Tryd.sizeOf123
  v232 := Tryd.zeroValue123
  t233 := Tryd.underlying124
  a233 := Tryd.isAgg124
  z233 := Tryd.sizeOf124
  v233 := Tryd.zeroValue124
  g17 := by kernel_rfl
  g18 := by kernel_rfl
  g19 := by kernel_rfl
theorem fiLayM : LaysM.n173 Tryd.prog fiLayRen := { fiLay with
  i0 := by kernel_rfl
  i2 := by kernel_rfl
  i3 := by kernel_rfl
  i4 := by kernel_rfl
  i5 := by kernel_rfl
  i9 := by kernel_rfl
  i20 := by kernel_rfl
  i37 := by kernel_rfl
  i46 := by kernel_rfl
  i51 := by kernel_rfl
  i53 := by kernel_rfl
  i171 := by kernel_rfl
  i173 := by kernel_rfl
  i212 := by kernel_rfl
  i232 := by kernel_rfl
  i233 := by kernel_rfl
  m17 := by kernel_rfl
  m18 := by kernel_rfl
  m19 := by kernel_rfl
}

theorem h37 {G : Nat → Option (List AV)} (hG : G 0 = some (Lib.pow10Tab.map (AV.int .u64))) : ∀ xs H K, c37 xs H ⟨K⟩ → ACalls G Tryd.prog 37 xs H K := by
  rintro xs H K ⟨n, rfl, n0, n1, k⟩
  refine ⟨fnOk_of f37_ok, fun B w0 m w cargs hs hr => ?_⟩
  obtain ⟨v1, r1, e1, h1, hr⟩ := hr.uncons
  obtain ⟨v2, r2, e2, h2, hr⟩ := hr.uncons
  have e3 := hr.unnil
  subst e2 e3
  obtain rfl : cargs = #[v1, v2] := by cases cargs; simp_all
  cases h1
  cases h2
  refine (Any.strconv_FormatInt_10 fiLayM n n0 n1 w (hs.tabIs hG (by kernel_rfl))).mono ?_
  rintro e w' ⟨rfl, j, os, rfl⟩
  have := Rel.str (m := m) ⟨(Lib.itoa n).toArray⟩
  exact ⟨_, _, m, H, rfl, .refl m, hs.behind ⟨rfl, rfl, rfl, by show w.heap.size ≤ (w.heap ++ os).size; rw [Array.size_append]; omega, fun k hk => by show (w.heap ++ os)[k]? = _; exact Array.getElem?_append_left hk⟩, this, by simpa using k⟩
end Go.Proofs.YtpeaphpibnikcaaDoor.lib
