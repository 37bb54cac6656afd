/- The abstract layer, part 17: a region that draws its order, once for all orders. -/
import Derived.Test.YtpeaphpibnikcaaA16
namespace Go.AL
open Go.RowKit

/-- Whom each operation waits for. -/
def edgesOf (ops : Array Oper) : List (List Nat) := ops.toList.map fun o => (o.after.toList.filter (Region.binds .any)).map (·.on)

/-- A number worked out before it is used. -/
def forceN {α : Type} (n : Nat) (k : Nat → α) : α := match n with | 0 => k 0 | m + 1 => k (m + 1)

/-- Whom an operation comes behind, as a number's bits: those it waits for, and those that they come behind. -/
def maskOf (look : Nat → Nat) (e : List Nat) : Nat := e.foldl (fun mk k => mk ||| (2 ^ k ||| look k)) 0

def befL : List (List Nat) → Nat → List Nat → List Nat
  | [], _, acc => acc.reverse
  | e :: es, j, acc => forceN (maskOf (fun i => if i < j then acc.getD (j - 1 - i) 0 else 0) e) fun v => befL es (j + 1) (v :: acc)

/-- Whom each operation comes behind, whatever the order. -/
def befs (es : List (List Nat)) : List Nat := befL es 0 []

def befOk (es : List (List Nat)) (bef : List Nat) : Bool :=
  (List.range bef.length).all fun i => (bef.getD i 0 == maskOf (fun k => bef.getD k 0) (es.getD i [])) && (es.getD i []).all fun e => decide (e < i)

def pairsOk (es : List (List Nat)) (bef : List Nat) : List Item → Bool
  | [] => true
  | x :: l => !(es.getD x.i []).contains x.i && l.all (fun j => !(es.getD x.i []).contains j.i && x.i != j.i && ((bef.getD j.i 0).testBit x.i || pairOk x j)) && pairsOk es bef l

def mkItems (aos : List AOper) : List (Nat × List Nat) → List Item
  | [] => []
  | (i, ob) :: l => match aos[i]? with
    | some o => ⟨i, o, ob⟩ :: mkItems aos l
    | none => []

/-- A region that draws its order, turned: in the order that is told. -/
def compD (P : Program) (n : Nat) (ops : Array Oper) (ord : List (Nat × List Nat)) : Option (List Item) :=
  (compR P n ops).bind fun aos =>
    let es := edgesOf ops
    let bef := befs es
    let items := mkItems aos ord
    if befOk es bef && (es.all (fun l => l.all fun e => decide (e < ops.size)) && (es.length == ops.size && (bef.length == ops.size && (items.length == ops.size && ((List.range ops.size).all (fun i => items.any fun x => x.i == i) && pairsOk es bef items))))) then some items else none

theorem mkItems_mem {aos : List AOper} : ∀ (l : List (Nat × List Nat)) (x : Item), x ∈ mkItems aos l → aos[x.i]? = some x.o
  | [], _, h => by cases h
  | (i, ob) :: l, x, h => by
    rw [mkItems] at h
    split at h
    · rename_i o ho
      rcases List.mem_cons.1 h with rfl | h
      · exact ho
      · exact mkItems_mem l x h
    · cases h

theorem maskOf_bit {look : Nat → Nat} {b : Nat} : ∀ (e : List Nat) (mk : Nat), (e.foldl (fun mk k => mk ||| (2 ^ k ||| look k)) mk).testBit b = true → mk.testBit b = true ∨ b ∈ e ∨ ∃ k ∈ e, (look k).testBit b = true
  | [], mk, h => .inl h
  | k :: e, mk, h => by
    rw [List.foldl_cons] at h
    rcases maskOf_bit e _ h with h | h | ⟨k', h1, h2⟩
    · rw [Nat.testBit_or, Nat.testBit_or, Nat.testBit_two_pow, Bool.or_eq_true, Bool.or_eq_true, decide_eq_true_eq] at h
      rcases h with h | h | h
      · exact .inl h
      · exact .inr (.inl (by rw [h]; exact List.mem_cons_self))
      · exact .inr (.inr ⟨k, List.mem_cons_self, h⟩)
    · exact .inr (.inl (List.mem_cons_of_mem _ h))
    · exact .inr (.inr ⟨k', List.mem_cons_of_mem _ h1, h2⟩)

/-- What holds of two of which the first stands earlier. -/
def PairR (es : List (List Nat)) (bef : List Nat) (x j : Item) : Prop := j.i ∉ es.getD x.i [] ∧ x.i ≠ j.i ∧ ((bef.getD j.i 0).testBit x.i = true ∨ pairOk x j = true)

theorem pairsOk_spec {es : List (List Nat)} {bef : List Nat} : ∀ {l : List Item}, pairsOk es bef l = true → l.Pairwise (PairR es bef) ∧ ∀ x ∈ l, x.i ∉ es.getD x.i []
  | [], _ => ⟨.nil, fun _ h => by cases h⟩
  | x :: l, h => by
    simp only [pairsOk, Bool.and_eq_true, List.all_eq_true, Bool.not_eq_true', Bool.or_eq_true, bne_iff_ne, ne_eq] at h
    obtain ⟨⟨h1, h2⟩, h3⟩ := h
    obtain ⟨i1, i2⟩ := pairsOk_spec h3
    refine ⟨.cons (fun j hj => ?_) i1, fun y hy => ?_⟩
    · obtain ⟨⟨g1, g2⟩, g3⟩ := h2 j hj
      exact ⟨by simpa using g1, g2, g3⟩
    · rcases List.mem_cons.1 hy with rfl | hy
      · simpa using h1
      · exact i2 y hy

section
variable {G : Nat → Option (List AV)} {B : Nat} {w0 w w' : World} {m m' : Im} {H H' : Heap} {P : Program} {n : Nat} {σ : Env} {a : Act} {ops : Array Oper}

theorem ready_mem {listed : Array Bool} {i : Nat} (h : i ∈ Region.ready .any ops listed) : i < ops.size ∧ listed.getD i true = false ∧ ∀ e ∈ (edgesOf ops).getD i [], listed.getD e false = true := by
  simp only [Region.ready, List.mem_filter, List.mem_range, Bool.and_eq_true, Bool.not_eq_true'] at h
  obtain ⟨hi, h1, h2⟩ := h
  refine ⟨hi, h1, fun e he => ?_⟩
  rw [Array.getElem?_eq_getElem hi] at h2
  simp only [Option.map_some, Option.getD_some, Array.all_eq_true', Bool.or_eq_true, Bool.not_eq_true'] at h2
  simp only [edgesOf, List.getD_eq_getElem?_getD, List.getElem?_map, Array.getElem?_toList, Array.getElem?_eq_getElem hi, Option.map_some, Option.getD_some, List.mem_map, List.mem_filter, Array.mem_toList_iff] at he
  obtain ⟨ed, ⟨g1, g2⟩, rfl⟩ := he
  rcases h2 ed g1 with h | h
  · rw [h] at g2; cases g2
  · exact h

theorem ready_of {listed : Array Bool} {i : Nat} (hi : i < ops.size) (h1 : listed.getD i true = false) (h2 : ∀ e ∈ (edgesOf ops).getD i [], listed.getD e false = true) : i ∈ Region.ready .any ops listed := by
  simp only [Region.ready, List.mem_filter, List.mem_range, Bool.and_eq_true, Bool.not_eq_true']
  refine ⟨hi, h1, ?_⟩
  rw [Array.getElem?_eq_getElem hi]
  simp only [Option.map_some, Option.getD_some, Array.all_eq_true', Bool.or_eq_true, Bool.not_eq_true']
  intro ed hed
  cases hb : Region.binds .any ed with
  | false => exact .inl rfl
  | true =>
    refine .inr (h2 _ ?_)
    simp only [edgesOf, List.getD_eq_getElem?_getD, List.getElem?_map, Array.getElem?_toList, Array.getElem?_eq_getElem hi, Option.map_some, Option.getD_some, List.mem_map, List.mem_filter, Array.mem_toList_iff]
    exact ⟨ed, ⟨hed, hb⟩, rfl⟩

/-- Closed: who is listed has all listed whom it waits for. -/
def Closed (es : List (List Nat)) (listed : Array Bool) : Prop := ∀ i : Nat, listed.getD i false = true → ∀ e ∈ es.getD i [], listed.getD e false = true

theorem bef_listed {es : List (List Nat)} {bef : List Nat} (hb : befOk es bef = true) {listed : Array Bool} (hc : Closed es listed) : ∀ (i : Nat), (∀ e ∈ es.getD i [], listed.getD e false = true) → ∀ b, (bef.getD i 0).testBit b = true → listed.getD b false = true := by
  intro i
  induction i using Nat.strongRecOn with
  | _ i ih =>
    intro he b hbm
    have hi : i < bef.length := by
      apply Decidable.byContradiction; intro hn
      rw [List.getD_eq_getElem?_getD, List.getElem?_eq_none (by omega)] at hbm
      simp at hbm
    simp only [befOk, List.all_eq_true, List.mem_range, Bool.and_eq_true, beq_iff_eq, decide_eq_true_eq] at hb
    obtain ⟨h1, h2⟩ := hb i hi
    rw [h1] at hbm
    rcases maskOf_bit _ _ hbm with h | h | ⟨k, h3, h4⟩
    · simp at h
    · exact he b h
    · exact ih k (h2 k h3) (hc k (he k h3)) b h4

theorem seqD_doOp {x : Item} {l : List Item} {pend : List Pend} {K : Env → Heap → Prop} (hK : KExt K) (h : seqD G P (x :: l) pend σ H K) : doOp G P x.o σ H fun σ' H' => seqD G P l [] σ' H' K := by
  rw [seqD] at h
  unfold doOp
  refine gate_mono (fun h => ?_) (fun h => seqD_ext hK _ _ _ _ _ _ (fun _ h => by cases h) (fun _ => rfl) h) h
  cases hq : x.o.op.quiet with
  | true =>
    rw [hq, if_pos rfl] at h
    obtain ⟨v, h1, h2⟩ := h
    have h2 := seqD_ext hK _ _ [] _ (σ.put x.o.dst v) _ (fun _ h => by cases h) (fun _ => rfl) h2
    unfold eff
    split
    · rename_i ho; rw [ho] at hq; cases hq
    · rename_i ho; rw [ho] at hq; cases hq
    · rw [if_pos hq]; exact ⟨v, h1, h2⟩
  | false =>
    rw [hq] at h
    refine eff_mono (fun v H' h => ?_) h
    have h' : seqD G P l pend (σ.put x.o.dst v) H' K := by
      unfold oblP at h
      split at h
      · exact h
      · exact h.2
    exact seqD_ext hK _ _ _ _ _ _ (fun _ h => by cases h) (fun _ => rfl) h'

theorem wpAny_seqD {aos : List AOper} (hcs : ∀ (i : Nat) (o : Oper), ops[i]? = some o → ∃ ao : AOper, aos[i]? = some ao ∧ compO P n ops o = some ao) {es : List (List Nat)} {bef : List Nat} (hes : es = edgesOf ops) (hbo : befOk es bef = true) (hEdge : ∀ i e, e ∈ es.getD i [] → e < ops.size)
    {K : Env → Heap → Prop} (hKe : KExt K) {Q : Exit → Act → World → Prop} :
    ∀ (fuel : Nat) (listed : Array Bool) (items : List Item) (m : Im) (w : World) (a : Act) (σ : Env) (H : Heap), listed.size = ops.size → Closed es listed → items.length = fuel →
      items.Pairwise (PairR es bef) → (∀ x ∈ items, x.i ∉ es.getD x.i [] ∧ aos[x.i]? = some x.o ∧ x.i < ops.size ∧ listed.getD x.i false = false) → (∀ i, i < ops.size → listed.getD i false = false → ∃ x ∈ items, x.i = i) →
      Sat G B w0 m H w → RelT m n σ a → seqD G P items [] σ H K →
      (∀ m' w' a' σ' H', m.le m' → Sat G B w0 m' H' w' → RelT m' n σ' a' → K σ' H' → Q .normal a' w') → wpAny P .any ops Q fuel listed a w
  | 0, listed, items, m, w, a, σ, H, hsz, hcl, hlen, hpw, hit, hcov, hsat, hrel, h, hK => by
    have : items = [] := List.eq_nil_of_length_eq_zero hlen
    subst this
    refine ⟨?_, hK m w a σ H (.refl m) hsat hrel h⟩
    apply List.eq_nil_iff_forall_not_mem.2
    intro i hi
    obtain ⟨h1, h2, _⟩ := ready_mem hi
    have : listed.getD i false = false := by
      rw [Array.getD_eq_getD_getElem?, Array.getElem?_eq_getElem (by omega)] at h2 ⊢; exact h2
    obtain ⟨x, hx, _⟩ := hcov i h1 this
    cases hx
  | fuel + 1, listed, items, m, w, a, σ, H, hsz, hcl, hlen, hpw, hit, hcov, hsat, hrel, h, hK => by
    have hlf : ∀ i, i < ops.size → listed.getD i true = listed.getD i false := by
      intro i hi
      rw [Array.getD_eq_getD_getElem?, Array.getD_eq_getD_getElem?, Array.getElem?_eq_getElem (by omega)]; rfl
    refine ⟨fun hr => ?_, fun i hi => ?_⟩
    · exfalso
      cases items with
      | nil => cases hlen
      | cons x l =>
        obtain ⟨g1, g2, g3, g4⟩ := hit x List.mem_cons_self
        have : x.i ∈ Region.ready .any ops listed := by
          refine ready_of g3 (by rw [hlf _ g3]; exact g4) (fun e he => ?_)
          rw [← hes] at he
          cases hl : listed.getD e false with
          | true => rfl
          | false =>
            by_cases heo : e < ops.size
            · obtain ⟨y, hy, rfl⟩ := hcov e heo hl
              rcases List.mem_cons.1 hy with rfl | hy
              · exact absurd he g1
              · exact absurd he ((List.rel_of_pairwise_cons hpw hy).1)
            · exact absurd (hEdge _ _ he) heo
        rw [hr] at this; cases this
    · obtain ⟨h1, h2, h3⟩ := ready_mem hi
      rw [← hes] at h3
      have h2' : listed.getD i false = false := by rw [← hlf i h1]; exact h2
      obtain ⟨j, hj, rfl⟩ := hcov i h1 h2'
      obtain ⟨l1, l2, rfl⟩ := List.append_of_mem hj
      have hp : ∀ x ∈ l1, pairOk x j = true := by
        intro x hx
        obtain ⟨_, _, hor⟩ := (List.pairwise_append.1 hpw).2.2 x hx j List.mem_cons_self
        rcases hor with hb | hb
        · have := bef_listed hbo hcl j.i h3 _ hb
          rw [(hit x (List.mem_append_left _ hx)).2.2.2] at this; cases this
        · exact hb
      have hd := seqD_doOp hKe (seqD_front hKe l1 [] σ H hp h)
      obtain ⟨ao, ha, hco⟩ := hcs j.i ops[j.i] (Array.getElem?_eq_getElem h1)
      have : ao = j.o := by
        have := (hit j hj).2.1
        rw [this] at ha; cases ha; rfl
      subst this
      refine doOp_sound hsat hrel (Array.getElem?_eq_getElem h1) hco hd (fun m' w' a' σ' H' q1 q2 q3 q4 => ?_)
      have hmid : ∀ x, x ∈ l1 ++ l2 → x ∈ l1 ++ j :: l2 := by
        intro x hx
        rcases List.mem_append.1 hx with h | h
        · exact List.mem_append_left _ h
        · exact List.mem_append_right _ (List.mem_cons_of_mem _ h)
      have hne : ∀ x ∈ l1 ++ l2, x.i ≠ j.i := by
        intro x hx
        have hpp := List.pairwise_append.1 hpw
        rcases List.mem_append.1 hx with h | h
        · exact (hpp.2.2 x h j List.mem_cons_self).2.1
        · exact Ne.symm (List.rel_of_pairwise_cons hpp.2.1 h).2.1
      have hset : ∀ k, (listed.setIfInBounds j.i true).getD k false = if j.i = k then true else listed.getD k false := by
        intro k
        simp only [Array.getD_eq_getD_getElem?, Array.getElem?_setIfInBounds]
        split
        · rename_i e; subst e; rw [if_pos (by omega)]; rfl
        · rfl
      refine wpAny_seqD hcs hes hbo hEdge hKe fuel _ (l1 ++ l2) m' w' a' σ' H' (by simpa using hsz) ?_ ?_ ?_ ?_ ?_ q2 q3 q4 (fun m2 w2 a2 σ2 H2 g1 g2 g3 g4 => hK m2 w2 a2 σ2 H2 (q1.trans g1) g2 g3 g4)
      · intro k hk e he
        rw [hset] at hk ⊢
        split at hk
        · rename_i e'; subst e'
          have := h3 e he
          rw [this]; simp
        · have := hcl k hk e he
          rw [this]; simp
      · simp only [List.length_append, List.length_cons] at hlen ⊢; omega
      · exact hpw.sublist (List.Sublist.append (List.Sublist.refl l1) (List.sublist_cons_self j l2))
      · intro x hx
        obtain ⟨g1, g2, g3, g4⟩ := hit x (hmid x hx)
        refine ⟨g1, g2, g3, ?_⟩
        rw [hset, if_neg (Ne.symm (hne x hx))]; exact g4
      · intro k hk hkl
        rw [hset] at hkl
        split at hkl
        · cases hkl
        · rename_i hjk
          obtain ⟨x, hx, rfl⟩ := hcov k hk hkl
          refine ⟨x, ?_, rfl⟩
          rcases List.mem_append.1 hx with h | h
          · exact List.mem_append_left _ h
          · rcases List.mem_cons.1 h with rfl | h
            · exact absurd rfl hjk
            · exact List.mem_append_right _ h

theorem AWp_draw {id : Nat} {items : List Item} {ord : List (Nat × List Nat)} {K : Env → Heap → Prop} {Q : Exit → Env → Heap → Prop} (hm : P.follows .mixedOrders = true) (hc : compD P n ops ord = some items) (hKe : KExt K) (h : seqD G P items [] σ H K) (hK : ∀ σ H, K σ H → Q .normal σ H) :
    AWp G P n (.region id ops true) σ H Q := by
  intro B w0 m w a hsat hrel
  unfold compD at hc
  cases hcr : compR P n ops with
  | none => rw [hcr] at hc; cases hc
  | some aos =>
    rw [hcr] at hc
    simp only [Option.bind_some] at hc
    split at hc
    · rename_i hck
      cases hc
      simp only [Bool.and_eq_true, beq_iff_eq, List.all_eq_true, List.mem_range, List.any_eq_true, decide_eq_true_eq] at hck
      obtain ⟨c1, c0, c2, c3, c4, c5, c6⟩ := hck
      obtain ⟨p1, p2⟩ := pairsOk_spec c6
      obtain ⟨_, hcs⟩ := compR_spec hcr
      refine wp_region_any hm ?_
      refine wpAny_seqD hcs rfl c1 (fun i e he => ?_) hKe ops.size _ _ m _ a σ H (by simp) ?_ c4 p1 ?_ ?_ hsat.drew hrel h (fun m' w' a' σ' H' g1 g2 g3 g4 => ⟨m', σ', H', g1, g2, g3, hK _ _ g4⟩)
      · rw [List.getD_eq_getElem?_getD] at he
        cases hg : (edgesOf ops)[i]? with
        | none => rw [hg] at he; cases he
        | some l => rw [hg] at he; exact c0 l (List.mem_of_getElem? hg) e he
      · intro i hi
        rw [Array.getD_eq_getD_getElem?, Array.getElem?_replicate] at hi
        split at hi <;> cases hi
      · intro x hx
        have hx' := mkItems_mem _ x hx
        refine ⟨p2 x hx, hx', ?_, ?_⟩
        · have := (List.getElem?_eq_some_iff.1 hx').1
          obtain ⟨hl, _⟩ := compR_spec hcr
          omega
        · rw [Array.getD_eq_getD_getElem?, Array.getElem?_replicate]; split <;> rfl
      · intro i hi _
        obtain ⟨x, hx, he⟩ := c5 i hi
        exact ⟨x, hx, he⟩
    · cases hc

end
end Go.AL
