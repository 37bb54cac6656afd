/- The abstract layer, part 20: the same, to be computed with: heaps as tables, one way for every step. -/
import Derived.Test.YtpeaphpibnikcaaA19
namespace Go.AL
open Go.RowKit

def lookH (id : Nat) : Heap → Option AObj
  | [] => none
  | (j, o) :: H => if id = j then some o else lookH id H
/-- The entry of b becomes an entry of id. -/
def renH (b id : Nat) (o : AObj) : Heap → Heap
  | [] => []
  | (j, p) :: H => if b = j then (id, o) :: H else (j, p) :: renH b id o H
def setH (id : Nat) (o : AObj) (H : Heap) : Heap := renH id id o H
/-- All keys but the first that is b. -/
def othK (b : Nat) : Heap → List Nat
  | [] => []
  | (j, _) :: H => if b = j then Heap.keys H else j :: othK b H

def optS (o : Option AV) (K : AV → Prop) : Prop := match o with | some v => K v | none => False

/-- What is handed to append or copy, as elements. -/
def srcS (sz : Nat) (x : AV) (H : Heap) (K : List AV → Prop) : Prop :=
  match x with
  | .sl xs _ => AllSz sz xs ∧ K xs
  | .str s => sz = 1 ∧ K (bytesAV s)
  | .msl id off n s => s = sz ∧ (match lookH id H with
    | some (.cells vs) => off + n * sz ≤ vs.length ∧ (if sz = 1 then AllSz 1 ((vs.drop off).take n) ∧ flat ((vs.drop off).take n) = (vs.drop off).take n ∧ K ((vs.drop off).take n)
        else ∃ ys, AllSz sz ys ∧ ys.length = n ∧ flat ys = (vs.drop off).take (n * sz) ∧ K ys)
    | _ => False)
  | _ => False

def quietS (op : AOp) (xs : List AV) (H : Heap) (K : AV → Prop) : Prop :=
  match op, xs with
  | .ld agg sz, [.ptr id off] => match lookH id H with
    | some (.cells vs) => if agg then off + sz ≤ vs.length ∧ K (.agg ((vs.drop off).take sz)) else optS vs[off]? K
    | _ => False
  | .len 2, [.map id] => match lookH id H with
    | some (.map es) => K (.int .i64 es.length)
    | _ => False
  | .lkp kd z ok, [.map id, k] => match lookH id H with
    | some (.map es) => k.kindN = kd ∧ kd ≤ 2 ∧ (match lookA k es with | some r => K (foundA z ok r) | none => False)
    | _ => False
  | .cvb, [.msl id off n s] => s = 1 ∧ (match lookH id H with
    | some (.cells vs) => off + n ≤ vs.length ∧ (match bytesOf ((vs.drop off).take n) with | some bs => K (.str bs) | none => False)
    | _ => False)
  | op, xs => optS (pureF op xs) K

def isU8 : List AV → Bool
  | [.int .u8 _] => true
  | _ => false

/-- What a program's functions do: as far as the table says; the others by their contracts. -/
def callS (G : Nat → Option (List AV)) (P : Program) : List (Nat × (List AV → Heap → (AV → Heap → Prop) → Prop)) → Nat → List AV → Heap → (AV → Heap → Prop) → Prop
  | [], f, xs, H, K => ACalls G P f xs H K
  | (g, c) :: t, f, xs, H, K => if f = g then c xs H K else callS G P t f xs H K

abbrev Tbl := List (Nat × (List AV → Heap → (AV → Heap → Prop) → Prop))

def loudS (op : AOp) (xs : List AV) (H : Heap) (K : AV → Heap → Prop) : Prop :=
  match op, xs with
  | .st sz, [.ptr id off, x] => match lookH id H with
    | some (.cells vs) => 0 < sz ∧ x.cells.length = sz ∧ off + sz ≤ vs.length ∧ K .undef (setH id (.cells (splice vs off x.cells)) H)
    | _ => False
  | .box, [x] => 0 < x.cells.length ∧ ∀ id, id ∉ H.keys → K (.ptr id 0) ((id, .cells x.cells) :: H)
  | .alloc z, [] => ∀ id, id ∉ H.keys → K (.ptr id 0) ((id, .cells z) :: H)
  | .bslice sz n z pl, xs => match fillL ((List.replicate n z).flatten) pl xs with
    | some cs => if sz = 1 then (if isU8 z && n != 0 then (∀ id, id ∉ H.keys → K (.msl id 0 n 1) ((id, .cells cs) :: H))
          else (∀ id, id ∉ H.keys → K (.msl id 0 n 1) ((id, .cells cs) :: H)) ∨ ((AllSz 1 cs ∧ cs.length = n ∧ flat cs = cs) ∧ ∀ id, id ∉ H.keys → K (.sl cs (.at id n 1)) ((id, .spare n) :: H)))
        else (∀ id, id ∉ H.keys → K (.msl id 0 n sz) ((id, .cells cs) :: H)) ∨
         (∃ ys, AllSz sz ys ∧ ys.length = n ∧ flat ys = cs ∧ ∀ id, id ∉ H.keys → K (.sl ys (.at id (n * sz) sz)) ((id, .spare (n * sz)) :: H))
    | none => False
  | .sb, [.str s] => s.length ≤ maxLen ∧ ∀ id, id ∉ H.keys → K (.msl id 0 s.length 1) ((id, .cells (bytesAV s)) :: H)
  | .cvm, [.msl id 0 n s] => s = 1 ∧ 0 < n ∧ (match lookH id H with
    | some (.cells vs) => n = vs.length ∧ AllSz 1 vs ∧ flat vs = vs ∧ K (.sl vs (.at id n 1)) (setH id (.spare n) H)
    | _ => False)
  | .mksl sz bytes z, [.int _ n, .int _ c] => 0 ≤ n ∧ n ≤ c ∧ c ≤ maxLen ∧ bytes * c ≤ 281474976710656 ∧
      ∀ id, id ∉ H.keys → K (.msl id 0 n.toNat sz) ((id, .cells ((List.replicate n.toNat z).flatten)) :: H)
  | .mkmap, [] => ∀ id, id ∉ H.keys → K (.map id) ((id, .map []) :: H)
  | .mup kd, [.map id, k, v] => match lookH id H with
    | some (.map es) => k.kindN = kd ∧ kd ≤ 2 ∧ v ≠ .any ∧ (match updA k v es with | some es' => K .undef (setH id (.map es') H) | none => False)
    | _ => False
  | .rngs, [.str s] => ∀ id, id ∉ H.keys → K (.ptr id 0) ((id, .iter s 0) :: H)
  | .nxts, [.ptr id 0] => match lookH id H with
    | some (.iter s pos) => if pos < s.length then K (.tup [.bool true, .int .i64 pos, .int .i32 (Utf8.decode ⟨s.toArray⟩ pos).1]) (setH id (.iter s (pos + (Utf8.decode ⟨s.toArray⟩ pos).2)) H)
        else K (.tup [.bool false]) H
    | _ => False
  | .app sz bytes, [s, x] => 0 < sz ∧ srcS sz x H fun ys => match s with
      | .sl xs t => AllSz sz xs ∧ xs.length + ys.length ≤ maxLen ∧ (xs.length + ys.length) * bytes ≤ 140737488355328 ∧ (match t with
        | .nil => (ys = [] → K (.sl [] .nil) H) ∧ (ys ≠ [] → ∀ id e, id ∉ H.keys → K (.sl ys (.at id e sz)) ((id, .spare e) :: H))
        | .at b e s' => s' = sz ∧ (match lookH b H with
          | some (.spare e0) => e0 = e ∧ b ∉ othK b H ∧ ∀ id e', id ∉ othK b H → K (.sl (xs ++ ys) (.at id e' sz)) (renH b id (.spare e') H)
          | _ => False)
        | .no => False)
      | .msl b 0 n s' => s' = sz ∧ n + ys.length ≤ maxLen ∧ (n + ys.length) * bytes ≤ 140737488355328 ∧ (match lookH b H with
          | some (.cells vs) => vs.length = n * sz ∧ b ∉ othK b H ∧ ∀ id, id ∉ othK b H → K (.msl id 0 (n + ys.length) sz) (renH b id (.cells (vs ++ flat ys)) H)
          | _ => False)
      | _ => False
  | .cpy sz, [d, x] => srcS sz x H fun ys => match d with
      | .msl id off n s => s = sz ∧ (match lookH id H with
          | some (.cells vs) => off + n * sz ≤ vs.length ∧ K (.int .i64 (Nat.min ys.length n : Nat)) (setH id (.cells (splice vs off (flat (ys.take n)))) H)
          | _ => False)
      | .sl [] _ => K (.int .i64 0) H
      | _ => False
  | _, _ => False

def effS (G : Nat → Option (List AV)) (P : Program) (T : Tbl) (op : AOp) (xs : List AV) (H : Heap) (K : AV → Heap → Prop) : Prop :=
  match op with
  | .call f => callS G P T f xs H K
  | .callv => match xs with
    | .fn (.func f) first captured :: ys => callS G P T f (first ++ ys ++ captured) H K
    | _ => False
  | op => if op.quiet then quietS op xs H fun v => K v H else loudS op xs H K

section
variable {G : Nat → Option (List AV)} {H H' : Heap} {P : Program}

theorem lookH_mem {id : Nat} {o : AObj} : ∀ {H : Heap}, lookH id H = some o → (id, o) ∈ H
  | [], h => by cases h
  | (j, p) :: H, h => by
    simp only [lookH] at h
    split at h
    · rename_i e; subst e; cases h; exact List.mem_cons_self
    · exact List.mem_cons_of_mem _ (lookH_mem h)

theorem renH_rpl {b id : Nat} {o p : AObj} : ∀ {H : Heap}, lookH b H = some o → Rpl H (b, o) (id, p) (renH b id p H)
  | [], h => by cases h
  | (j, q) :: H, h => by
    simp only [lookH] at h
    simp only [renH]
    split at h
    · rename_i e; subst e; cases h; rw [if_pos rfl]; exact .here _ _ _
    · rename_i e; rw [if_neg e]; exact .there _ _ _ _ _ (renH_rpl h)

theorem rpl_keys_mem {p q : Nat × AObj} (h : Rpl H p q H') : p.1 ∈ H.keys := by
  obtain ⟨l, r, h1, _⟩ := h.keys
  rw [h1]; simp

theorem rpl_eq {b id : Nat} {o p : AObj} : ∀ {H H' : Heap}, lookH b H = some o → b ∉ othK b H → Rpl H (b, o) (id, p) H' → H' = renH b id p H
  | [], _, h, _, _ => by cases h
  | (j, q) :: H, H', h, hn, hr => by
    simp only [lookH] at h
    simp only [othK] at hn
    simp only [renH]
    split at h
    · rename_i e; subst e; cases h
      rw [if_pos rfl] at hn ⊢
      cases hr with
      | here => rfl
      | there _ _ _ _ T' hr => exact absurd (rpl_keys_mem hr) hn
    · rename_i e
      rw [if_neg e] at hn ⊢
      cases hr with
      | here => exact absurd rfl e
      | there _ _ _ _ T' hr => rw [rpl_eq h (fun hm => hn (List.mem_cons_of_mem _ hm)) hr]

theorem othK_of {b id : Nat} : ∀ {H : Heap}, b ∉ othK b H → id = b ∨ id ∉ H.keys → id ∉ othK b H
  | [], _, _ => by simp [othK]
  | (j, q) :: H, h, hid => by
    simp only [othK] at h ⊢
    split
    · rename_i e
      rw [if_pos e] at h
      rcases hid with rfl | hid
      · exact h
      · exact fun hm => hid (List.mem_cons_of_mem _ hm)
    · rename_i e
      rw [if_neg e] at h
      rw [List.mem_cons, not_or] at h ⊢
      refine ⟨?_, othK_of h.2 (hid.imp _root_.id fun hid hm => hid (List.mem_cons_of_mem _ hm))⟩
      rcases hid with rfl | hid
      · exact e
      · intro e2; exact hid (by rw [e2]; exact List.mem_cons_self)

theorem optS_some {o : Option AV} {K : AV → Prop} (h : optS o K) : ∃ v, o = some v ∧ K v := by
  cases o with
  | none => exact h.elim
  | some v => exact ⟨v, rfl, h⟩

theorem quietS_sound {op : AOp} {xs : List AV} {K : AV → Prop} (h : quietS op xs H K) : ∃ v, Rd op xs H v ∧ K v := by
  unfold quietS at h
  split at h
  · rename_i agg sz id off
    split at h
    · rename_i vs hl
      cases agg with
      | true =>
        rw [if_pos rfl] at h
        exact ⟨_, .inr ⟨vs, lookH_mem hl, by rw [if_pos rfl]; exact ⟨h.1, rfl⟩⟩, h.2⟩
      | false =>
        obtain ⟨v, hv, hk⟩ := optS_some h
        exact ⟨v, .inr ⟨vs, lookH_mem hl, hv⟩, hk⟩
    · exact h.elim
  · split at h
    · rename_i es hl; exact ⟨_, .inr ⟨es, lookH_mem hl, rfl⟩, h⟩
    · exact h.elim
  · split at h
    · rename_i es hl
      obtain ⟨h1, h2, h3⟩ := h
      split at h3
      · rename_i r hr; exact ⟨_, .inr ⟨es, r, lookH_mem hl, h1, h2, hr, rfl⟩, h3⟩
      · exact h3.elim
    · exact h.elim
  · obtain ⟨h0, h⟩ := h
    split at h
    · rename_i vs hl
      obtain ⟨h1, h2⟩ := h
      split at h2
      · rename_i bs hb; exact ⟨_, .inr ⟨h0, vs, bs, lookH_mem hl, h1, hb, rfl⟩, h2⟩
      · exact h2.elim
    · exact h.elim
  · obtain ⟨v, hv, hk⟩ := optS_some h
    exact ⟨v, .inl hv, hk⟩

theorem srcS_sound {sz : Nat} {x : AV} {K : List AV → Prop} (h : srcS sz x H K) : ∃ ys, Src sz x H ys ∧ K ys := by
  unfold srcS at h
  split at h
  · exact ⟨_, ⟨h.1, rfl⟩, h.2⟩
  · rename_i s
    refine ⟨_, ⟨?_, h.1, rfl⟩, h.2⟩
    rw [h.1]; exact allSz_bytes _
  · obtain ⟨h0, h⟩ := h
    split at h
    · rename_i vs hl
      obtain ⟨h1, h⟩ := h
      split at h
      · rename_i e
        subst e
        obtain ⟨h2, h3, h4⟩ := h
        rw [Nat.mul_one] at h1
        refine ⟨_, ⟨h2, h0, ?_, vs, lookH_mem hl, by omega, by rw [h3, Nat.mul_one]⟩, h4⟩
        simp; omega
      · obtain ⟨ys, h2, h3, h4, h5⟩ := h
        exact ⟨ys, ⟨h2, h0, h3, vs, lookH_mem hl, h1, h4⟩, h5⟩
    · exact h.elim
  · exact h.elim

theorem loudS_sound {op : AOp} {xs : List AV} {K : AV → Heap → Prop} (h : loudS op xs H K) : ef op xs H K := by
  unfold loudS at h
  split at h
  · split at h
    · rename_i vs hl
      obtain ⟨h1, h2, h3, h4⟩ := h
      exact ⟨_, _, vs, _, rfl, h1, h2, h3, renH_rpl hl, h4⟩
    · exact h.elim
  · exact h
  · exact h
  · unfold ef
    split at h
    · rename_i cs hf
      split at h
      · rename_i e; subst e
        split at h
        · exact ⟨cs, hf, .inl h⟩
        · rcases h with h | ⟨⟨h1, h2, h3⟩, h4⟩
          · exact ⟨cs, hf, .inl h⟩
          · exact ⟨cs, hf, .inr ⟨cs, h1, h2, h3, by simpa using h4⟩⟩
      · exact ⟨cs, hf, h⟩
    · exact h.elim
  · exact ⟨h.1, .inl h.2⟩
  · obtain ⟨h0, h1, h⟩ := h
    split at h
    · rename_i vs hl
      obtain ⟨h2, h3, h4, h5⟩ := h
      exact ⟨h0, h1, vs, lookH_mem hl, h2, .inr ⟨h3, h4, _, renH_rpl hl, h5⟩⟩
    · exact h.elim
  · exact h
  · exact h
  · split at h
    · rename_i es hl
      obtain ⟨h1, h2, h3, h4⟩ := h
      split at h4
      · rename_i es' hu; exact ⟨es, es', _, h1, h2, h3, hu, renH_rpl hl, h4⟩
      · exact h4.elim
    · exact h.elim
  · exact h
  · split at h
    · rename_i s pos hl
      refine ⟨s, pos, fun hlt => ?_, fun hle => ?_, lookH_mem hl⟩
      · rw [if_pos hlt] at h; exact ⟨_, renH_rpl hl, h⟩
      · rw [if_neg (by omega)] at h; exact ⟨lookH_mem hl, h⟩
    · exact h.elim
  · obtain ⟨h0, h⟩ := h
    obtain ⟨ys, hs, h⟩ := srcS_sound h
    refine ⟨ys, hs, h0, ?_⟩
    split at h
    · obtain ⟨h1, h2, h3, h4⟩ := h
      refine ⟨h1, h2, h3, ?_⟩
      split at h4
      · exact h4
      · obtain ⟨h5, h6⟩ := h4
        split at h6
        · rename_i e0 hl
          obtain ⟨rfl, h7, h8⟩ := h6
          refine ⟨h5, lookH_mem hl, fun id e' H' hid hr => ?_⟩
          rw [rpl_eq hl h7 hr]
          exact h8 id e' (othK_of h7 hid)
        · exact h6.elim
      · exact h4
    · obtain ⟨h1, h2, h3, h4⟩ := h
      split at h4
      · rename_i vs hl
        obtain ⟨h5, h6, h7⟩ := h4
        refine ⟨h1, h2, h3, vs, h5, lookH_mem hl, fun id H' hid hr => ?_⟩
        rw [rpl_eq hl h6 hr]
        exact h7 id (othK_of h6 hid)
      · exact h4.elim
    · exact h.elim
  · obtain ⟨ys, hs, h⟩ := srcS_sound h
    refine ⟨ys, hs, ?_⟩
    split at h
    · obtain ⟨h1, h2⟩ := h
      split at h2
      · rename_i vs hl
        exact ⟨h1, vs, _, h2.1, renH_rpl hl, h2.2⟩
      · exact h2.elim
    · exact h
    · exact h.elim
  · exact h.elim

end
end Go.AL
