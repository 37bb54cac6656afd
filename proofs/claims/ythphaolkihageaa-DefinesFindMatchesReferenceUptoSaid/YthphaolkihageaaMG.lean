/- Definitions of a template: what calls reach, walked. -/
import Derived.Test.YthphaolkihageaaME
set_option linter.unusedSimpArgs false
set_option linter.unusedVariables false
set_option maxRecDepth 100000
set_option maxHeartbeats 4000000
namespace Go.AL.Fun
open Go Go.AL

theorem strs_flat (l : List (List UInt8)) : flat (strsAV l) = strsAV l := by
  induction l with
  | nil => rfl
  | cons s l ih => simp only [strsAV, List.map_cons, flat, List.flatMap_cons, AV.cells, List.cons_append, List.nil_append] at ih ⊢; rw [ih]
theorem ren_nodup {b id : Nat} {o : AObj} {H : Heap} (hn : H.keys.Nodup) (hbk : b ∈ H.keys) (hid : id ∉ othK b H) : (renH b id o H).keys.Nodup := by
  have hk : (renH b id o H).keys.Perm (id :: othK b H) := by
    clear hid hn
    revert hbk
    induction H with
    | nil => intro h; simp [Heap.keys] at h
    | cons p H ih =>
      obtain ⟨j, o'⟩ := p
      intro hbk
      simp only [othK, renH]
      by_cases h : b = j
      · subst h; rw [if_pos rfl, if_pos rfl]; exact .refl _
      · rw [if_neg h, if_neg h]
        have hb' : b ∈ Heap.keys H := by simpa [Heap.keys, h] using hbk
        exact ((ih hb').cons j).trans (.swap id j _)
  rw [hk.nodup_iff]
  exact List.nodup_cons.2 ⟨hid, (List.nodup_cons.1 ((othK_keys hbk).nodup_iff.1 hn)).2⟩
/-- An append to a list whose cells are told. -/
theorem app_msl {t : Th} {H R : Heap} {K : Kv} {b n bytes : Nat} {vs ys : List AV} {y : AV} (hp : H.Perm ((b, .cells vs) :: R)) (hn : H.keys.Nodup) (hl : vs.length = n) (src : ∀ K' : Kl AV, K'.ap ys → xSrc 1 y H (K := K')) (hf : flat ys = ys)
    (h3 : n + ys.length ≤ maxLen) (h4 : (n + ys.length) * bytes ≤ 140737488355328) (hK : ∀ id H', H'.Perm ((id, .cells (vs ++ ys)) :: R) → H'.keys.Nodup → K.ap (.msl id 0 (n + ys.length) 1) H') : xE (t := t) (.app 1 bytes) [.msl b 0 n 1, y] H (K := K) := by
  rw [x_appm]
  refine ⟨by decide, src _ ⟨⟨rfl, h3, h4⟩, ?_⟩⟩
  have hlk := look_head hp hn
  have hbk : b ∈ H.keys := List.mem_map.2 ⟨_, (lookH_iff hn).1 hlk, rfl⟩
  rw [hlk, x_cells]
  refine ⟨⟨by omega, othK_nodup hn⟩, fun id hid => ?_⟩
  rw [hf]
  refine hK id _ ((renH_perm hp hn).trans ?_) (ren_nodup hn hbk hid)
  simp only [renH, if_true]
  exact .refl _
/-- The list of names found. -/
def nmV (ns : List (List UInt8)) (id : Nat) : AV := if ns = [] then .sl [] .nil else .msl id 0 ns.length 1
def nmH (ns : List (List UInt8)) (id : Nat) : Heap := if ns = [] then [] else [(id, .cells (strsAV ns))]
def vF (lb nb vb : Nat) : AV := .fn (.func 20) [] [.ptr lb 0, .ptr nb 0, .ptr vb 0]
def vA (lb nb vb : Nat) (l : List Nd) (tl : Tok) (ns : List (List UInt8)) (id : Nat) : Heap :=
  (lb, .cells [.sl (Nd.avs l) tl]) :: (nb, .cells [nmV ns id]) :: (vb, .cells [vF lb nb vb]) :: nmH ns id
/-- The memory of a search. -/
structure VX (lb nb vb : Nat) (l : List Nd) (tl : Tok) (ns : List (List UInt8)) (id : Nat) (R H : Heap) : Prop where
  p : H.Perm (vA lb nb vb l tl ns id ++ R)
  n : H.keys.Nodup
section
variable {lb nb vb : Nat} {l : List Nd} {tl : Tok} {ns : List (List UInt8)} {id : Nat} {R H : Heap}
theorem VX.push (h : VX lb nb vb l tl ns id R H) {z : Nat} (o : AObj) (hz : z ∉ H.keys) : VX lb nb vb l tl ns id ((z, o) :: R) ((z, o) :: H) :=
  ⟨(h.p.cons _).trans List.perm_middle.symm, List.nodup_cons.2 ⟨hz, h.n⟩⟩
theorem VX.pop {x : Nat × AObj} (h : VX lb nb vb l tl ns id (x :: R) H) : ∃ H0, Hle H0 H ∧ VX lb nb vb l tl ns id R H0 :=
  ⟨_, hle_sub h.p ((List.Sublist.refl _).append (List.sublist_cons_self _ _)), .refl _, nodup_sub h.p ((List.Sublist.refl _).append (List.sublist_cons_self _ _)) h.n⟩
theorem VX.lk (h : VX lb nb vb l tl ns id R H) (j : Nat) : lookH j H = lookH j (vA lb nb vb l tl ns id ++ R) := lookH_perm h.p h.n j
theorem VX.nv (h : VX lb nb vb l tl ns id R H) : (vA lb nb vb l tl ns id ++ R).keys.Nodup := nodup_perm h.p h.n
theorem VX.ne (h : VX lb nb vb l tl ns id R H) : (¬ nb = lb ∧ ¬ vb = lb ∧ ¬ vb = nb) := by
  have := h.nv
  simp only [vA, List.cons_append, Heap.keys, List.map_cons, List.nodup_cons, List.mem_cons, not_or] at this
  exact ⟨fun e => this.1.1 e.symm, fun e => this.1.2.1 e.symm, fun e => this.2.1.1 e.symm⟩
theorem VX.ll (h : VX lb nb vb l tl ns id R H) : lookH lb H = some (.cells [.sl (Nd.avs l) tl]) := by
  rw [h.lk]; simp [vA, lookH]
theorem VX.nm (h : VX lb nb vb l tl ns id R H) : lookH nb H = some (.cells [nmV ns id]) := by
  rw [h.lk]; simp [vA, lookH, h.ne.1]
theorem VX.v (h : VX lb nb vb l tl ns id R H) : lookH vb H = some (.cells [vF lb nb vb]) := by
  rw [h.lk]; simp [vA, lookH, h.ne.2.1, h.ne.2.2]
theorem VX.r (h : VX lb nb vb l tl ns id R H) {y : Nat} {o : AObj} (hm : (y, o) ∈ R) : lookH y H = some o := (lookH_iff h.n).2 (h.p.mem_iff.2 (List.mem_append_right _ hm))
theorem look_other {j nb : Nat} {o : AObj} {H : Heap} (h : ¬ j = nb) : lookH j (setH nb o H) = lookH j H := by show lookH j (renH nb nb o H) = _; rw [look_ren, if_neg h]
theorem VX.names (h : VX lb nb vb l tl ns id R H) (h0 : ns ≠ []) : lookH id H = some (.cells (strsAV ns)) := by
  have hp : H.Perm ((id, .cells (strsAV ns)) :: ((lb, .cells [.sl (Nd.avs l) tl]) :: (nb, .cells [nmV ns id]) :: (vb, .cells [vF lb nb vb]) :: R)) := by
    have e : vA lb nb vb l tl ns id ++ R = [(lb, .cells [.sl (Nd.avs l) tl]), (nb, .cells [nmV ns id]), (vb, .cells [vF lb nb vb])] ++ (id, .cells (strsAV ns)) :: R := by simp [vA, nmH, h0]
    exact (e ▸ h.p).trans List.perm_middle
  exact look_head hp h.n
/-- A name comes along. -/
theorem VX.add {t : Th} {K : Kv} {s : List UInt8} {w : Nat} (h : VX lb nb vb l tl ns id R H) (hl : ns.length ≤ 1000000)
    (hK : ∀ id' H', lookH nb H' = some (.cells [nmV ns id]) → VX lb nb vb l tl (ns ++ [s]) id' R (setH nb (.cells [.msl id' 0 (ns.length + 1) 1]) H') → K.ap (.msl id' 0 (ns.length + 1) 1) H') : xE (t := t) (.app 1 16) [nmV ns id, .sl [.str s] (.at w 1 1)] H (K := K) := by
  have e1 : [AV.str s] = strsAV [s] := rfl
  have ne := h.ne
  by_cases h0 : ns = []
  · subst h0
    have ev : nmV [] id = .sl [] .nil := rfl
    rw [ev, x_appnil, xsrc_sl]
    refine ⟨by decide, strs_all [s], ⟨by simp [maxLen_eq], by simp⟩, ⟨fun e => (by cases e), fun _ => .inr fun id' hid => ?_⟩⟩
    have e2 : ¬ nb = id' := key_ne h.nm hid
    refine hK id' _ (by simp only [lookH, e2, if_false]; exact h.nm) ⟨?_, by rw [keys_set]; exact List.nodup_cons.2 ⟨hid, h.n⟩⟩
    simp only [setH, renH, e2, if_false]
    have hp := renH_perm (b := nb) (id := nb) (o := .cells [.msl id' 0 1 1]) h.p h.n
    have e3 : renH nb nb (.cells [.msl id' 0 1 1]) (vA lb nb vb l tl [] id ++ R) = (lb, .cells [.sl (Nd.avs l) tl]) :: (nb, .cells [.msl id' 0 1 1]) :: (vb, .cells [vF lb nb vb]) :: R := by
      simp [vA, nmH, renH, ne.1]
    rw [e3] at hp
    have e4 : vA lb nb vb l tl ([] ++ [s]) id' ++ R = [(lb, .cells [.sl (Nd.avs l) tl]), (nb, .cells [.msl id' 0 1 1]), (vb, .cells [vF lb nb vb])] ++ (id', .cells [.str s]) :: R := by simp [vA, nmH, nmV, strsAV]
    rw [e4]
    exact (hp.cons _).trans (List.perm_middle (a := (id', AObj.cells [.str s])) (l₁ := [(lb, .cells [.sl (Nd.avs l) tl]), (nb, .cells [.msl id' 0 1 1]), (vb, .cells [vF lb nb vb])]) (l₂ := R)).symm
  · have ev : nmV ns id = .msl id 0 ns.length 1 := if_neg h0
    have en : ∀ (x : AV), (vA lb nb vb l tl ns id ++ R) = [(lb, .cells [.sl (Nd.avs l) tl]), (nb, .cells [nmV ns id]), (vb, .cells [vF lb nb vb])] ++ (id, .cells (strsAV ns)) :: R := fun _ => by simp [vA, nmH, h0]
    have hp0 : H.Perm ((id, .cells (strsAV ns)) :: ([(lb, .cells [.sl (Nd.avs l) tl]), (nb, .cells [nmV ns id]), (vb, .cells [vF lb nb vb])] ++ R)) := (en .undef ▸ h.p).trans List.perm_middle
    rw [ev, e1]
    refine app_msl (bytes := 16) hp0 h.n (strs_len ns) (src_sl_of _ _ (strs_all _)) (strs_flat [s]) (by simp only [strs_len, List.length_cons, List.length_nil, maxLen_eq]; omega) (by simp only [strs_len, List.length_cons, List.length_nil]; omega) fun id' H' g1 g2 => ?_
    have e9 := nodup_perm g1 g2
    have e2 : ¬ nb = id' := by
      simp only [List.cons_append, Heap.keys, List.map_cons, List.nodup_cons, List.mem_cons, not_or] at e9
      exact fun e => e9.1.2.1 e.symm
    refine hK id' H' (by rw [lookH_perm g1 g2]; simp [lookH, e2, ne.1]) ⟨?_, by rw [keys_set]; exact g2⟩
    have hp := renH_perm (b := nb) (id := nb) (o := .cells [.msl id' 0 (ns.length + 1) 1]) g1 g2
    have e3 : renH nb nb (.cells [.msl id' 0 (ns.length + 1) 1]) ((id', .cells (strsAV ns ++ strsAV [s])) :: ([(lb, .cells [.sl (Nd.avs l) tl]), (nb, .cells [nmV ns id]), (vb, .cells [vF lb nb vb])] ++ R)) =
        (id', .cells (strsAV ns ++ strsAV [s])) :: ([(lb, .cells [.sl (Nd.avs l) tl]), (nb, .cells [.msl id' 0 (ns.length + 1) 1]), (vb, .cells [vF lb nb vb])] ++ R) := by
      simp [renH, ne.1, e2]
    rw [e3] at hp
    have e4 : vA lb nb vb l tl (ns ++ [s]) id' ++ R = [(lb, .cells [.sl (Nd.avs l) tl]), (nb, .cells [.msl id' 0 (ns.length + 1) 1]), (vb, .cells [vF lb nb vb])] ++ (id', .cells (strsAV ns ++ strsAV [s])) :: R := by simp [vA, nmH, nmV, strsAV]
    rw [e4]
    exact hp.trans List.perm_middle.symm
end
end Go.AL.Fun
