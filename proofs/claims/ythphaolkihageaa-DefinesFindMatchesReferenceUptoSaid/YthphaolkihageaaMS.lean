/- The library's slices.Sort of strings: the kit's contract, as a contract of the abstract layer. -/
import Derived.Test.YthphaolkihageaaMH
import Derived.Shelf.Sort.Plain
import Derived.Shelf.Slices.In.SortNone
set_option linter.unusedSimpArgs false
set_option linter.unusedVariables false
set_option maxRecDepth 100000
namespace Go.AL.Fun
open Go Go.AL
def sortS (ns : List (List UInt8)) : List (List UInt8) := ns.mergeSort fun x y => decide (x ≤ y)
theorem sortS_perm (ns : List (List UInt8)) : (sortS ns).Perm ns := List.mergeSort_perm _ _
theorem sortS_len (ns : List (List UInt8)) : (sortS ns).length = ns.length := (sortS_perm ns).length_eq
/-- A list of names sorted in its place. -/
def c22 (xs : List AV) (H : Heap) (K : Kv) : Prop := (xs = [.sl [] .nil] ∧ K.ap (.tup []) H) ∨ ∃ (u : Nat) (ns : List (List UInt8)), xs = [.msl u 0 ns.length 1] ∧ lookH u H = some (.cells (strsAV ns)) ∧ H.keys.Nodup ∧ ns.length ≤ 1000000 ∧ K.ap (.tup []) (setH u (.cells (strsAV (sortS ns))) H)
end Go.AL.Fun
namespace Go.Proofs.Ythphaolkihageaa.lib
open Go.AL Go.AL.Fun Go.RowKit Go.Proofs Go.Sort

def sortLayRen : Go.Shelf.Ren := ⟨fun x => match x with | 125 => 31 | 128 => 45 | 129 => 46 | 190 => 22 | 258 => 30 | 302 => 36 | 303 => 37 | 304 => 38 | 305 => 39 | 306 => 40 | 307 => 41 | 308 => 42 | 309 => 43 | 310 => 44 | 329 => 52 | 330 => 53 | 333 => 51 | 334 => 54 | 335 => 55 | 336 => 56 | 344 => 58 | n => n, fun x => match x with | 0 => 0 | 3 => 3 | 4 => 4 | 5 => 5 | 9 => 9 | 31 => 31 | 46 => 58 | 51 => 76 | 53 => 78 | 131 => 73 | 182 => 68 | 183 => 69 | 218 => 82 | 222 => 86 | 228 => 89 | 229 => 90 | n => n, fun n => n⟩
theorem sortLay : Lays.n190 Try.prog sortLayRen where
  mixed := by kernel_rfl
  f125 := Try.func31.trans (congrArg some (by kernel_rfl))
  f128 := Try.func45.trans (congrArg some (by kernel_rfl))
  f129 := Try.func46.trans (congrArg some (by kernel_rfl))
  f190 := Try.func22.trans (congrArg some (by kernel_rfl))
  f258 := Try.func30.trans (congrArg some (by kernel_rfl))
  f302 := Try.func36.trans (congrArg some (by kernel_rfl))
  f303 := Try.func37.trans (congrArg some (by kernel_rfl))
  f304 := Try.func38.trans (congrArg some (by kernel_rfl))
  f305 := Try.func39.trans (congrArg some (by kernel_rfl))
  f306 := Try.func40.trans (congrArg some (by kernel_rfl))
  f307 := Try.func41.trans (congrArg some (by kernel_rfl))
  f308 := Try.func42.trans (congrArg some (by kernel_rfl))
  f309 := Try.func43.trans (congrArg some (by kernel_rfl))
  f310 := Try.func44.trans (congrArg some (by kernel_rfl))
  f329 := Try.func52.trans (congrArg some (by kernel_rfl))
  f330 := Try.func53.trans (congrArg some (by kernel_rfl))
  f333 := Try.func51.trans (congrArg some (by kernel_rfl))
  f334 := Try.func54.trans (congrArg some (by kernel_rfl))
  f335 := Try.func55.trans (congrArg some (by kernel_rfl))
  f336 := Try.func56.trans (congrArg some (by kernel_rfl))
  f344 := Try.func58.trans (congrArg some (by kernel_rfl))
  t0 := Try.underlying0
  a0 := Try.isAgg0
  z0 := Try.sizeOf0
  v0 := Try.zeroValue0
  t3 := Try.underlying3
  a3 := Try.isAgg3
  z3 := Try.sizeOf3
  v3 := Try.zeroValue3
  t4 := Try.underlying4
  a4 := Try.isAgg4
  z4 := Try.sizeOf4
  v4 := Try.zeroValue4
  t5 := Try.underlying5
  a5 := Try.isAgg5
  z5 := Try.sizeOf5
  v5 := Try.zeroValue5
  t9 := Try.underlying9
  a9 := Try.isAgg9
  z9 := Try.sizeOf9
  v9 := Try.zeroValue9
  t31 := Try.underlying31
  a31 := Try.isAgg31
  z31 := Try.sizeOf31
  v31 := Try.zeroValue31
  t46 := Try.underlying58
  a46 := Try.isAgg58
  z46 := Try.sizeOf58
  v46 := Try.zeroValue58
  t51 := Try.underlying76
  a51 := Try.isAgg76
  z51 := Try.sizeOf76
  v51 := Try.zeroValue76
  t53 := Try.underlying78
  a53 := Try.isAgg78
  z53 := Try.sizeOf78
  v53 := Try.zeroValue78
  t131 := Try.underlying73
  a131 := Try.isAgg73
  z131 := Try.sizeOf73
  v131 := Try.zeroValue73
  t182 := Try.underlying68
  a182 := Try.isAgg68
  z182 := Try.sizeOf68
  v182 := Try.zeroValue68
  t183 := Try.underlying69
  a183 := Try.isAgg69
  z183 := Try.sizeOf69
  v183 := Try.zeroValue69
  t218 := Try.underlying82
  a218 := Try.isAgg82
  z218 := Try.sizeOf82
  v218 := Try.zeroValue82
  t222 := Try.underlying86
  a222 := Try.isAgg86
  z222 := Try.sizeOf86
  v222 := Try.zeroValue86
  t228 := Try.underlying89
  a228 := Try.isAgg89
  z228 := Try.sizeOf89
  v228 := Try.zeroValue89
  t229 := Try.underlying90
  a229 := Try.isAgg90
  z229 := Try.sizeOf90
  v229 := Try.zeroValue90

/-- A row of strings put into a block. -/
theorem put_sat {G : Nat → Option (List AV)} {B : Nat} {w0 w : World} {m : Im} {H : Heap} {u : Nat} {ns ms : List (List UInt8)} (hs : Sat G B w0 m H w) (hn : H.keys.Nodup) (hl : lookH u H = some (.cells (strsAV ns))) (hm : ms.length = ns.length) :
    Holds encStr w u 0 ns.toArray ∧ u < w.heap.size ∧ Sat G B w0 m (setH u (.cells (strsAV ms)) H) (putRow encStr w u 0 ms.toArray) := by
  obtain ⟨hB, hid, cs, e, fr, hb, hlen, hfr, hno, hcell⟩ := hs.obj _ _ (lookH_mem hl)
  rw [strs_len] at hlen
  have hget : ∀ (j : Nat) (hj : j < ns.length), cs[j]? = some (encStr ns[j]) := by
    intro j hj
    obtain ⟨c, h1, h2, h3⟩ := hcell j (.str ns[j]) (by rw [strs_get, List.getElem?_eq_getElem hj]; rfl)
    rw [h1]
    generalize ns[j] = t at h2 ⊢
    generalize hx : AV.str t = x at h2
    cases h2 with
    | str s =>
      injection hx with hx
      subst hx
      cases s
      rfl
    | _ => cases hx
  refine ⟨fun j hj => ?_, hid, ?_⟩
  · have hj' : j < ns.length := by simpa using hj
    refine ⟨?_, by rw [Nat.zero_add]; exact nofr hb hfr j (by omega)⟩
    simp only [World.cell?, hb, Nat.zero_add]
    rw [hget j hj']
    simp [getElem!_pos, hj']
  · have hw : (putRow encStr w u 0 ms.toArray).heap[u]? = some (.cells (putCells encStr 0 ms.toArray cs) e fr) := by
      simp [putRow, mapBlock, Array.getElem?_modify, hb, onCells]
    have hk : ∀ k, k ≠ u → (putRow encStr w u 0 ms.toArray).heap[k]? = w.heap[k]? := fun k hk => by
      simp only [putRow, mapBlock, Array.getElem?_modify]
      rw [if_neg (fun e => hk e.symm)]
    have hsz : (putCells encStr 0 ms.toArray cs).size = cs.size := by simp [putCells]
    have hr : Rpl H (u, .cells (strsAV ns)) (u, .cells (strsAV ms)) (setH u (.cells (strsAV ms)) H) := renH_rpl hl
    refine hs.turn (below_of hB hk rfl rfl rfl (size_putRow _ _ _ _ _)) (.refl m) u (fun k h _ => hk k h) hB (by rw [size_putRow]; exact hid) (fun _ _ _ => rfl) (fun o v h => by rw [hno o] at h; cases h) (fun _ _ => rfl) (fun n h => ?_) (fun j o h => ?_) (hr.nodup hs.nodup (.inl rfl))
    · obtain ⟨cs0, e0, fr0, g1, g2⟩ := hs.size u n h
      rw [hb] at g1; cases g1
      exact ⟨_, e, fr, hw, by rw [hsz]; exact g2⟩
    · rcases hr.mem hs.nodup _ h with h | ⟨h1, h2⟩
      · cases h
        refine .inl ⟨rfl, _, e, fr, hw, by rw [strs_len, hsz]; omega, by rw [hsz]; exact hfr, hno, fun i x hi => ?_⟩
        rw [strs_get] at hi
        have hi' : i < ms.length := by
          rcases Nat.lt_or_ge i ms.length with h | h
          · exact h
          · rw [List.getElem?_eq_none h] at hi; cases hi
        rw [List.getElem?_eq_getElem hi'] at hi
        cases hi
        have hic : i < cs.size := by omega
        refine ⟨encStr ms[i], ?_, .str ⟨ms[i].toArray⟩, rfl⟩
        simp only [putCells, Array.getElem?_mapIdx, Array.getElem?_eq_getElem hic, Option.map_some]
        rw [if_pos (by simp; omega)]
        simp [getElem!_pos, hi']
      · exact .inr ⟨h2, h1⟩
theorem below_ahead (w : World) (n : Nat) : Below w.heap.size w (Sort.ahead w n) := ⟨rfl, rfl, rfl, Nat.le_refl _, fun _ _ => rfl⟩
theorem below_grow (w : World) (os : Array Obj) : Below w.heap.size w (grow w os) := ⟨rfl, rfl, rfl, by simp [grow], fun k hk => by simp [grow, Array.getElem?_append_left hk]⟩
theorem h22 {G : Nat → Option (List AV)} : ∀ xs H K, c22 xs H ⟨K⟩ → ACalls G Try.prog 22 xs H K := by
  rintro xs H K (⟨rfl, k⟩ | ⟨u, ns, rfl, hl, hn, hle, k⟩)
  · refine ⟨fnOk_of f22_ok, fun B w0 m w cargs hs hr => ?_⟩
    obtain ⟨v1, r1, e1, h1, hr⟩ := hr.uncons
    have e2 := hr.unnil
    subst e2
    obtain rfl : cargs = #[v1] := by cases cargs; simp_all
    generalize hv1 : AV.sl [] .nil = x1 at h1
    obtain rfl : v1 = .slice none 0 0 := by
      cases h1 with
      | slnil => rfl
      | sl xs t a len cap sz f ht hl hlc hcm hs' hz hc h1' hr' hk => cases hv1; exact absurd rfl ht
      | _ => cases hv1
    refine (Any.slices_Sort_string_none sortLay none 0 w).mono ?_
    rintro e w' ⟨rfl, rfl⟩
    exact ⟨.tup [], _, m, H, rfl, .refl m, hs, .tup [] #[] rfl (fun i x y h => by simp at h), k⟩
  · refine ⟨fnOk_of f22_ok, fun B w0 m w cargs hs hr => ?_⟩
    obtain ⟨v1, r1, e1, h1, hr⟩ := hr.uncons
    have e2 := hr.unnil
    subst e2
    obtain rfl : cargs = #[v1] := by cases cargs; simp_all
    have tup0 : Rel m (.tup []) (.tuple #[]) := .tup [] #[] rfl (fun i x y h => by simp at h)
    generalize hv1 : ns.length = n1 at h1
    cases h1 with
    | msl _ _ _ cap =>
      subst hv1
      obtain ⟨q1, q2, _⟩ := put_sat (ms := ns) hs hn hl rfl
      refine (Any.slices_Sort_string sortLay u 0 cap ns w q1 q2 (by omega)).mono ?_
      rintro e w' ⟨rfl, n, os, rfl⟩
      have hs1 := hs.behind (below_ahead w n)
      obtain ⟨_, _, hs2⟩ := put_sat (ms := sortS ns) hs1 hn hl (sortS_len ns)
      exact ⟨.tup [], _, m, _, rfl, .refl m, hs2.behind (below_grow _ os), tup0, k⟩
    | msl0 _ _ _ a =>
      have e0 : ns = [] := List.length_eq_zero_iff.1 hv1
      subst e0
      refine (Any.slices_Sort_string_none sortLay (some a) 0 w).mono ?_
      rintro e w' ⟨rfl, rfl⟩
      have e3 : sortS [] = [] := by simp [sortS]
      have hk : setH u (.cells (strsAV [])) H = H := set_same hl
      rw [e3, hk] at k
      exact ⟨.tup [], _, m, H, rfl, .refl m, hs, tup0, k⟩
end Go.Proofs.Ythphaolkihageaa.lib
