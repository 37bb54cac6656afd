/- The abstract layer, text B1: its parts 1, 2, 3, 4, 5, 6, 7, 8, 9. -/
import Derived.WalkKit
import Derived.Orders
import Derived.LaidEql
import GoSem.Core.Utf8
import Derived.WalkLawsBesides
set_option linter.unusedVariables false
set_option linter.unusedSimpArgs false
/- The abstract layer, part 1: abstract values, their relation to the model's values, the abstract heap, and when it stands for a world. -/
namespace Go.AL
open Go.RowKit

/-- What is known of a slice's spare place: nil; nothing; it begins at cell e of block b, elements of sz cells. -/
inductive Tok where
  | nil | no | at (b e sz : Nat)
  deriving DecidableEq

/-- Abstract values. A slice is the list of its elements. -/
inductive AV where
  | any
  | bool (b : Bool)
  | int (k : IntKind) (n : Int)
  | str (s : List UInt8)
  | nilp
  | ptr (id off : Nat)
  | iptr (cs : List AV)
  | sl (xs : List AV) (t : Tok)
  | msl (id off len sz : Nat)
  | nilm
  | map (id : Nat)
  | fn (f : Fn) (first captured : List AV)
  | nilf
  | iface (t : TypeId) (v : AV)
  | nili
  | agg (cs : List AV)
  | tup (vs : List AV)
  deriving Inhabited

def AV.cells : AV → List AV
  | .agg cs => cs
  | .any => []
  | .tup _ => []
  | v => [v]

def AV.undef : AV := .tup []

/-- The memory that never turns again, and the sizes of blocks. -/
structure Im where
  cell : Nat → Nat → Option Value
  size : Nat → Option Nat

structure Im.le (m m' : Im) : Prop where
  cell : ∀ b o v, m.cell b o = some v → m'.cell b o = some v
  size : ∀ b n, m.size b = some n → m'.size b = some n

theorem Im.le.refl (m : Im) : m.le m := ⟨fun _ _ _ h => h, fun _ _ h => h⟩
theorem Im.le.trans {a b c : Im} (h : a.le b) (k : b.le c) : a.le c := ⟨fun _ _ _ h' => k.cell _ _ _ (h.cell _ _ _ h'), fun _ _ h' => k.size _ _ (h.size _ _ h')⟩

inductive Rel (m : Im) : AV → Value → Prop
  | any (v : Value) : Rel m .any v
  | bool (b : Bool) : Rel m (.bool b) (.bool b)
  | int (k : IntKind) (n : Int) : Rel m (.int k n) (.int k n)
  | str (s : ByteArray) : Rel m (.str s.data.toList) (.string s)
  | nilp : Rel m .nilp (.pointer none)
  | ptr (id off : Nat) : Rel m (.ptr id off) (.pointer (some ⟨id, off, none⟩))
  | iptr (cs : List AV) (a : Addr) (f : Nat → Value) (hs : cs ≠ [] → a.spot = none)
      (hc : ∀ i : Nat, i < cs.length → m.cell a.block (a.off + i) = some (f i))
      (h1 : ∀ i : Nat, i < cs.length → (f i).oneCell' = true)
      (hr : ∀ (i : Nat) (x : AV), cs[i]? = some x → Rel m x (f i)) : Rel m (.iptr cs) (.pointer (some a))
  | slnil : Rel m (.sl [] .nil) (.slice none 0 0)
  | sl (xs : List AV) (t : Tok) (a : Addr) (len cap sz : Nat) (f : Nat → Nat → Value) (ht : t ≠ .nil) (hl : len = xs.length) (hlc : len ≤ cap) (hcm : cap ≤ maxLen)
      (hs : xs ≠ [] → a.spot = none)
      (hz : ∀ (i : Nat) (x : AV), xs[i]? = some x → x.cells.length = sz)
      (hc : ∀ i j : Nat, i < xs.length → j < sz → m.cell a.block (a.off + i * sz + j) = some (f i j))
      (h1 : ∀ i j : Nat, i < xs.length → j < sz → (f i j).oneCell' = true)
      (hr : ∀ (i : Nat) (x : AV) (j : Nat) (y : AV), xs[i]? = some x → x.cells[j]? = some y → Rel m y (f i j))
      (hk : ∀ b e s, t = .at b e s → cap = len ∨ (a.block = b ∧ a.spot = none ∧ a.off + len * s = e ∧ (xs ≠ [] → sz = s) ∧ ∃ n, m.size b = some n ∧ a.off + cap * s ≤ n)) :
      Rel m (.sl xs t) (.slice (some a) len cap)
  | msl (id off len cap sz n : Nat) (hlc : len ≤ cap) (hcm : cap ≤ maxLen) (hn : m.size id = some n) (hcap : off + cap * sz ≤ n) :
      Rel m (.msl id off len sz) (.slice (some ⟨id, off, none⟩) len cap)
  | msl0 (id off sz : Nat) (a : Addr) : Rel m (.msl id off 0 sz) (.slice (some a) 0 0)
  | nilm : Rel m .nilm (.map none)
  | map (id : Nat) : Rel m (.map id) (.map (some id))
  | fn (f : Fn) (fs cs : List AV) (fa ca : Array Value) (hf : fs.length = fa.size) (hc : cs.length = ca.size)
      (hfr : ∀ (i : Nat) (x : AV) (y : Value), fs[i]? = some x → fa[i]? = some y → Rel m x y) (hcr : ∀ (i : Nat) (x : AV) (y : Value), cs[i]? = some x → ca[i]? = some y → Rel m x y) :
      Rel m (.fn f fs cs) (.func f fa ca)
  | nilf : Rel m .nilf .nilFunc
  | iface (t : TypeId) (v : AV) (cv : Value) (h : Rel m v cv) (hn : v ≠ .any) : Rel m (.iface t v) (.iface t cv)
  | nili : Rel m .nili .nilIface
  | agg (cs : List AV) (ca : Array Value) (hl : cs.length = ca.size) (h1 : ∀ (i : Nat) (y : Value), ca[i]? = some y → y.oneCell' = true)
      (hr : ∀ (i : Nat) (x : AV) (y : Value), cs[i]? = some x → ca[i]? = some y → Rel m x y) : Rel m (.agg cs) (.agg ca)
  | tup (vs : List AV) (va : Array Value) (hl : vs.length = va.size)
      (hr : ∀ (i : Nat) (x : AV) (y : Value), vs[i]? = some x → va[i]? = some y → Rel m x y) : Rel m (.tup vs) (.tuple va)

theorem Rel.mono {m m' : Im} (hm : m.le m') {v : AV} {c : Value} (h : Rel m v c) : Rel m' v c := by
  induction h with
  | any v => exact .any v
  | bool b => exact .bool b
  | int k n => exact .int k n
  | str s => exact .str s
  | nilp => exact .nilp
  | ptr id off => exact .ptr id off
  | iptr cs a f hs hc h1 _ ih => exact .iptr cs a f hs (fun i hi => hm.cell _ _ _ (hc i hi)) h1 ih
  | slnil => exact .slnil
  | sl xs t a len cap sz f ht hl hlc hcm hs hz hc h1 _ hk ih =>
    exact .sl xs t a len cap sz f ht hl hlc hcm hs hz (fun i j hi hj => hm.cell _ _ _ (hc i j hi hj)) h1 ih
      (fun b e s h => (hk b e s h).imp id fun ⟨h1, h2, h3, h5, n, h4, h6⟩ => ⟨h1, h2, h3, h5, n, hm.size _ _ h4, h6⟩)
  | msl id off len cap sz n hlc hcm hn hcap => exact .msl id off len cap sz n hlc hcm (hm.size _ _ hn) hcap
  | msl0 id off sz a => exact .msl0 id off sz a
  | nilm => exact .nilm
  | map id => exact .map id
  | fn f fs cs fa ca hf hc _ _ ihf ihc => exact .fn f fs cs fa ca hf hc ihf ihc
  | nilf => exact .nilf
  | iface t v cv _ hn ih => exact .iface t v cv ih hn
  | nili => exact .nili
  | agg cs ca hl h1 _ ih => exact .agg cs ca hl h1 ih
  | tup vs va hl _ ih => exact .tup vs va hl ih

/-- Two lists, value by value. -/
def RelL (m : Im) (xs : List AV) (ys : List Value) : Prop := xs.length = ys.length ∧ ∀ (i : Nat) (x : AV) (y : Value), xs[i]? = some x → ys[i]? = some y → Rel m x y

theorem RelL.mono {m m' : Im} (hm : m.le m') {xs : List AV} {ys : List Value} (h : RelL m xs ys) : RelL m' xs ys := ⟨h.1, fun i x y h1 h2 => (h.2 i x y h1 h2).mono hm⟩
theorem RelL.nil (m : Im) : RelL m [] [] := ⟨rfl, fun i x y h => by simp at h⟩
theorem RelL.cons {m : Im} {x : AV} {y : Value} {xs : List AV} {ys : List Value} (h : Rel m x y) (hs : RelL m xs ys) : RelL m (x :: xs) (y :: ys) := by
  refine ⟨by simp [hs.1], fun i a b h1 h2 => ?_⟩
  cases i with
  | zero => simp at h1 h2; subst h1 h2; exact h
  | succ i => simp at h1 h2; exact hs.2 i a b h1 h2
theorem RelL.uncons {m : Im} {x : AV} {xs : List AV} {ys : List Value} (h : RelL m (x :: xs) ys) : ∃ y ys', ys = y :: ys' ∧ Rel m x y ∧ RelL m xs ys' := by
  cases ys with
  | nil => have := h.1; simp at this
  | cons y ys => exact ⟨y, ys, rfl, h.2 0 x y rfl rfl, by have := h.1; simpa using this, fun i a b h1 h2 => h.2 (i + 1) a b (by simpa using h1) (by simpa using h2)⟩
theorem RelL.unnil {m : Im} {ys : List Value} (h : RelL m [] ys) : ys = [] := by cases ys with | nil => rfl | cons _ _ => have := h.1; simp at this
theorem RelL.append {m : Im} {xs xs' : List AV} {ys ys' : List Value} (h : RelL m xs ys) (h' : RelL m xs' ys') : RelL m (xs ++ xs') (ys ++ ys') := by
  induction xs generalizing ys with
  | nil => rw [h.unnil]; exact h'
  | cons x xs ih =>
    obtain ⟨y, ys, rfl, hx, hs⟩ := h.uncons
    exact (ih hs).cons hx
theorem RelL.get {m : Im} {xs : List AV} {ys : List Value} (h : RelL m xs ys) (i : Nat) {x : AV} (hx : xs[i]? = some x) : ∃ y, ys[i]? = some y ∧ Rel m x y := by
  have hi : i < ys.length := by rw [← h.1]; exact (List.getElem?_eq_some_iff.1 hx).1
  exact ⟨ys[i], List.getElem?_eq_getElem hi, h.2 i x _ hx (List.getElem?_eq_getElem hi)⟩

/-- An abstract object. -/
inductive AObj where
  | cells (vs : List AV)
  | spare (e : Nat)
  | map (es : List (AV × AV))
  | iter (s : List UInt8) (pos : Nat)
  | raw (t : TypeId) (cs : List Value)
  | keep (o : Obj)

abbrev Heap := List (Nat × AObj)

def AObj.ok (m : Im) (w : World) (id : Nat) : AObj → Prop
  | .cells vs => ∃ cs e fr, w.heap[id]? = some (.cells cs e fr) ∧ vs.length ≤ cs.size ∧ (fr.1 = fr.2 ∨ cs.size ≤ fr.1) ∧
      (∀ o, m.cell id o = none) ∧ (∀ (i : Nat) (x : AV), vs[i]? = some x → ∃ c : Value, cs[i]? = some c ∧ Rel m x c ∧ c.oneCell' = true)
  | .spare e => ∃ cs el fr, w.heap[id]? = some (.cells cs el fr) ∧ (fr.1 = fr.2 ∨ cs.size ≤ fr.1) ∧ (∀ o, e ≤ o → m.cell id o = none)
  | .map es => ∃ ents clock, w.heap[id]? = some (.map ents clock) ∧ es.length = ents.size ∧ (∀ (i : Nat) (k v : AV) (x : MapEntry), es[i]? = some (k, v) → ents[i]? = some x → Rel m k x.key ∧ Rel m v x.val)
  | .iter s pos => ∃ b : ByteArray, b.data.toList = s ∧ w.heap[id]? = some (.stringIter b pos)
  | .raw t cs => w.heap[id]? = some (.cells cs.toArray t (0, 0)) ∧ ∀ o, m.cell id o = none
  | .keep o => (∀ cs e fr, o ≠ .cells cs e fr) ∧ w.heap[id]? = some o

structure Sat (G : Nat → Option (List AV)) (B : Nat) (w0 : World) (m : Im) (H : Heap) (w : World) : Prop where
  below : Below B w0 w
  base : B ≤ w.heap.size
  cell : ∀ b o v, m.cell b o = some v → w.cell? ⟨b, o, none⟩ = some v
  size : ∀ b n, m.size b = some n → ∃ cs e fr, w.heap[b]? = some (.cells cs e fr) ∧ cs.size = n
  nodup : (H.map Prod.fst).Nodup
  obj : ∀ id o, (id, o) ∈ H → B ≤ id ∧ id < w.heap.size ∧ o.ok m w id
  glob : ∀ g cs, G g = some cs → (g < B ∧ ∃ vs e fr, w0.heap[g]? = some (.cells vs e fr) ∧ vs.size = cs.length) ∧ Rel m (.iptr cs) (.pointer (some ⟨g, 0, none⟩))

variable {G : Nat → Option (List AV)} {B : Nat} {w0 w w' : World} {m m' : Im} {H H' : Heap}

/-- A draw turns nothing. -/
theorem Sat.drew (h : Sat G B w0 m H w) : Sat G B w0 m H w.drew :=
  ⟨h.below.drew, h.base, h.cell, h.size, h.nodup, h.obj, h.glob⟩

/-- Only membership counts. -/
theorem Sat.perm (h : Sat G B w0 m H w) (hp : H.Perm H') : Sat G B w0 m H' w :=
  ⟨h.below, h.base, h.cell, h.size, (hp.map _).nodup_iff.1 h.nodup, fun id o hm => h.obj id o (hp.mem_iff.2 hm), h.glob⟩

/-- What is not wanted any more is let go. -/
theorem Sat.drop (h : Sat G B w0 m H w) (hs : H'.Sublist H) : Sat G B w0 m H' w :=
  ⟨h.below, h.base, h.cell, h.size, (hs.map _).nodup h.nodup, fun id o hm => h.obj id o (hs.subset hm), h.glob⟩

/-- No more than there is, in any order. -/
def Hle (H0 H : Heap) : Prop := ∃ L : Heap, L.Sublist H ∧ L.Perm H0
theorem Hle.refl (H : Heap) : Hle H H := ⟨H, List.Sublist.refl _, .refl _⟩
theorem Hle.of_sub {H0 H : Heap} (h : H0.Sublist H) : Hle H0 H := ⟨H0, h, .refl _⟩
theorem Hle.of_perm {H0 H : Heap} (h : H.Perm H0) : Hle H0 H := ⟨H, List.Sublist.refl _, h⟩
theorem Hle.right (A H : Heap) : Hle H (A ++ H) := .of_sub (List.sublist_append_right A H)
theorem Hle.tail (x : Nat × AObj) (H : Heap) : Hle H (x :: H) := .of_sub (List.sublist_cons_self x H)
theorem Sat.weak (h : Sat G B w0 m H w) (hs : Hle H' H) : Sat G B w0 m H' w := by
  obtain ⟨L, h1, h2⟩ := hs
  exact (h.drop h1).perm h2

theorem Sat.uniq (h : Sat G B w0 m H w) {id : Nat} {o o' : AObj} (h1 : (id, o) ∈ H) (h2 : (id, o') ∈ H) : o = o' := by
  have hn := h.nodup
  clear h
  induction H with
  | nil => simp at h1
  | cons p H ih =>
    simp only [List.map_cons, List.nodup_cons] at hn
    rcases List.mem_cons.1 h1 with e1 | e1 <;> rcases List.mem_cons.1 h2 with e2 | e2
    · rw [← e1] at e2; exact (Prod.mk.injEq .. ▸ e2).2.symm
    · exfalso; apply hn.1; rw [← e1]; exact List.mem_map.2 ⟨_, e2, rfl⟩
    · exfalso; apply hn.1; rw [← e2]; exact List.mem_map.2 ⟨_, e1, rfl⟩
    · exact ih e1 e2 hn.2

theorem nofr {w : World} {id : Nat} {cs : Array Value} {e : TypeId} {fr : Nat × Nat} (hb : w.heap[id]? = some (.cells cs e fr)) (h : fr.1 = fr.2 ∨ cs.size ≤ fr.1) (o : Nat) (ho : o < cs.size) : w.frozen? ⟨id, o, none⟩ = false := by
  simp only [World.frozen?, hb, Bool.and_eq_false_iff, decide_eq_false_iff_not]
  rcases h with h | h
  · by_cases h2 : fr.1 ≤ o
    · exact .inr (by omega)
    · exact .inl h2
  · exact .inl (by omega)

/-- An object is as it was where its block is as it was. -/
theorem AObj.ok_of_block {o : AObj} {id : Nat} (hm : m.le m') (hb : w'.heap[id]? = w.heap[id]?) (hfresh : ∀ x, m'.cell id x = m.cell id x) (h : o.ok m w id) : o.ok m' w' id := by
  cases o with
  | cells vs =>
    obtain ⟨cs, e, fr, h1, h2, h3, h4, h5⟩ := h
    refine ⟨cs, e, fr, by rw [hb]; exact h1, h2, h3, fun o => by rw [hfresh]; exact h4 o, fun i x hi => ?_⟩
    obtain ⟨c, hc, hr, h1⟩ := h5 i x hi
    exact ⟨c, hc, hr.mono hm, h1⟩
  | spare e =>
    obtain ⟨cs, el, fr, h1, h2, h3⟩ := h
    exact ⟨cs, el, fr, by rw [hb]; exact h1, h2, fun o h => by rw [hfresh]; exact h3 o h⟩
  | map es =>
    obtain ⟨ents, clock, h1, h2, h3⟩ := h
    exact ⟨ents, clock, by rw [hb]; exact h1, h2, fun i k v x hi hx => ⟨(h3 i k v x hi hx).1.mono hm, (h3 i k v x hi hx).2.mono hm⟩⟩
  | iter s pos =>
    obtain ⟨b, h1, h2⟩ := h
    exact ⟨b, h1, by rw [hb]; exact h2⟩
  | raw t cs => exact ⟨by rw [hb]; exact h.1, fun o => by rw [hfresh]; exact h.2 o⟩
  | keep o => exact ⟨h.1, by rw [hb]; exact h.2⟩

end Go.AL

/- The abstract layer, part 2: abstract operations, what they do to abstract values and heaps, and how the model's operations are turned into them. -/
namespace Go.AL
open Go.RowKit

inductive AOp where
  | mv | pick | nilck
  | faddr (off : Nat) | iaddr (sz : Nat) | aaddr (sz n : Nat)
  | ld (agg : Bool) (sz : Nat) | st (sz : Nat)
  | box | alloc (z : List AV) | rawal (t : TypeId)
  | build (z : List AV) (pl : List (Nat × Nat))
  | bslice (sz n : Nat) (z : List AV) (pl : List (Nat × Nat))
  | fld (agg : Bool) (off sz : Nat) | ixs | ixa (agg : Bool) (sz n : Nat)
  | bin (op : BinOp) | eqg (neg : Bool) (kd : Nat) | eqs (neg : Bool) (ks : List Nat)
  | un (op : UnOp)
  | cvi (k : IntKind) | cvs | cvb | cvr | cvc | sb | cvm
  | mkif (t : TypeId) | mkfn (f : Fn) (n : Nat) | mkmap | mksl (sz bytes : Nat) (z : List AV)
  | slc (sz : Nat) (lo hi : Bool)
  | slp (sz n : Nat) (lo hi : Bool)
  | lkp (kd : Nat) (z : AV) (ok : Bool) | mup (kd : Nat)
  | rngs | nxts
  | tas (t : Option TypeId) (z : AV) (ok : Bool)
  | ext (i : Nat)
  | len (kd : Nat) | min | max
  | app (sz bytes : Nat) | cpy (sz : Nat) | clr (sz : Nat) (z : List AV)
  | call (f : Nat) | callv | stuck

/-- Is that a builder's zero: a nil pointer and a nil slice? -/
def isBld : List AV → Bool
  | [.nilp, .sl [] .nil] => true
  | _ => false
theorem isBld_eq {z : List AV} (h : isBld z = true) : z = [.nilp, .sl [] .nil] := by
  unfold isBld at h; split at h
  · rfl
  · cases h
/-- Does an operation leave memory alone? -/
def AOp.quiet : AOp → Bool
  | .st _ | .box | .alloc _ | .rawal _ | .bslice _ _ _ _ | .sb | .cvm | .mkmap | .mksl _ _ _ | .mup _ | .rngs | .nxts | .app _ _ | .cpy _ | .clr _ _ | .slp _ _ _ _ | .call _ | .callv | .stuck => false
  | _ => true

/-- The scalar equality, as far as it is wanted. -/
def AV.same : AV → AV → Option Bool
  | .bool a, .bool b => some (decide (a = b))
  | .int k a, .int k' b => if k = k' then some (decide (a = b)) else none
  | .str a, .str b => some (decide (a = b))
  | .nilp, .nilp => some true
  | .nilp, .ptr _ _ => some false | .ptr _ _, .nilp => some false
  | .nilp, .iptr _ => some false | .iptr _, .nilp => some false
  | .sl _ t, .sl [] .nil => some (decide (t = .nil))
  | .sl [] .nil, .sl _ t => some (decide (t = .nil))
  | .msl _ _ _ _, .sl [] .nil => some false
  | .nilm, .nilm => some true | .map _, .nilm => some false | .nilm, .map _ => some false
  | .nilf, .nilf => some true | .fn _ _ _, .nilf => some false | .nilf, .fn _ _ _ => some false
  | .nili, .iface _ _ => some false | .iface _ _, .nili => some false
  | _, _ => none

/-- Which comparison a value takes part in. -/
def AV.eqK : AV → Nat
  | .bool _ => 0
  | .nilp | .ptr _ _ | .iptr _ => 1
  | .sl _ _ | .msl _ _ _ _ => 2
  | .nilm | .map _ => 3
  | .fn _ _ _ | .nilf => 4
  | .iface _ _ | .nili => 5
  | .int _ _ | .str _ => 6
  | _ => 7

def sameL : List AV → List AV → Option Bool
  | [], [] => some true
  | a :: as, b :: bs => match a.same b with
    | some true => sameL as bs
    | some false => some false
    | none => none
  | _, _ => none

def AV.kindN : AV → Nat
  | .bool _ => 0 | .int _ _ => 1 | .str _ => 2 | _ => 3

def AV.scal : AV → Bool
  | .bool _ | .int _ _ | .str _ => true
  | _ => false

def splice (vs : List AV) (off : Nat) (xs : List AV) : List AV := vs.take off ++ xs ++ vs.drop (off + xs.length)

def fillL : List AV → List (Nat × Nat) → List AV → Option (List AV)
  | z, [], [] => some z
  | z, (o, s) :: pl, x :: xs => if x.cells.length = s ∧ 0 < s ∧ o + s ≤ z.length then fillL (splice z o x.cells) pl xs else none
  | _, _, _ => none

def intB (op : BinOp) (k : IntKind) (x y : Int) : Int :=
  let a := BitVec.ofInt k.bits x
  let b := BitVec.ofInt k.bits y
  match op with
  | .and => k.wrap (a &&& b).toNat
  | .or => k.wrap (a ||| b).toNat
  | .xor => k.wrap (a ^^^ b).toNat
  | _ => k.wrap (a &&& ~~~b).toNat

def binF (op : BinOp) : AV → AV → Option AV
  | .int k a, .int k' b =>
    match op with
    | .shl => if b < 0 then none else some (.int k (k.wrap (a * 2 ^ (Nat.min b.toNat k.bits))))
    | .shr => if b < 0 then none else some (.int k (a.fdiv (2 ^ (Nat.min b.toNat k.bits))))
    | op => if k = k' then (match op with
      | .add => some (.int k (k.wrap (a + b)))
      | .sub => some (.int k (k.wrap (a - b)))
      | .mul => some (.int k (k.wrap (a * b)))
      | .quo => if b = 0 then none else some (.int k (k.wrap (a.tdiv b)))
      | .rem => if b = 0 then none else some (.int k (a.tmod b))
      | .lss => some (.bool (decide (a < b)))
      | .leq => some (.bool (decide (a ≤ b)))
      | .gtr => some (.bool (decide (a > b)))
      | .geq => some (.bool (decide (a ≥ b)))
      | .and | .or | .xor | .andNot => some (.int k (intB op k a b))
      | _ => none) else none
  | .str a, .str b =>
    match op with
    | .add => if a.length + b.length ≤ maxLen then some (.str (a ++ b)) else none
    | .lss => some (.bool (Op.bytesLess a b))
    | .leq => some (.bool (Op.bytesLess a b || decide (a = b)))
    | .gtr => some (.bool (!(Op.bytesLess a b || decide (a = b))))
    | .geq => some (.bool (!Op.bytesLess a b))
    | _ => none
  | _, _ => none

def unF (op : UnOp) : AV → Option AV
  | .bool b => match op with | .not => some (.bool (!b)) | _ => none
  | .int k n => match op with
    | .neg => some (.int k (k.wrap (0 - n)))
    | .xor => some (.int k (intB .xor k (if k.signed then -1 else k.max) n))
    | _ => none
  | _ => none

def byteAV (b : UInt8) : AV := .int .u8 (b.toNat : Int)
def bytesAV (l : List UInt8) : List AV := l.map byteAV

/-- A list of byte values as bytes. -/
def bytesOf : List AV → Option (List UInt8)
  | [] => some []
  | .int .u8 n :: r => (bytesOf r).map (UInt8.ofNat n.toNat :: ·)
  | _ => none

def runesOf : List AV → Option (List Int)
  | [] => some []
  | .int .i32 n :: r => (runesOf r).map (n :: ·)
  | _ => none

def encL (l : List Int) : List UInt8 := l.flatMap fun r => (Utf8.encode r).data.toList

/-- The two bounds of a slice expression, out of those that are written. -/
def boundsF (lo hi : Bool) (len : Nat) : List AV → Option (Nat × Nat)
  | [.int _ l, .int _ h] => if lo ∧ hi ∧ 0 ≤ l ∧ l ≤ h ∧ h ≤ len then some (l.toNat, h.toNat) else none
  | [.int _ x] => if lo ∧ ¬ hi then (if 0 ≤ x ∧ x ≤ len then some (x.toNat, len) else none)
    else if hi ∧ ¬ lo then (if 0 ≤ x ∧ x ≤ len then some (0, x.toNat) else none) else none
  | [] => if lo ∨ hi then none else some (0, len)
  | _ => none

def minF : AV → List AV → Option AV
  | x, [] => some x
  | .int k a, .int _ b :: r => minF (.int k (if b < a then b else a)) r
  | _, _ => none
def maxF : AV → List AV → Option AV
  | x, [] => some x
  | .int k a, .int _ b :: r => maxF (.int k (if b > a then b else a)) r
  | _, _ => none

def lookA (k : AV) : List (AV × AV) → Option (Option AV)
  | [] => some none
  | (k', v) :: es => match k.same k' with
    | some true => some (some v)
    | some false => lookA k es
    | none => none

def updA (k v : AV) : List (AV × AV) → Option (List (AV × AV))
  | [] => some [(k, v)]
  | (k', v') :: es => match k.same k' with
    | some true => some ((k, v) :: es)
    | some false => (updA k v es).map ((k', v') :: ·)
    | none => none

def foundA (z : AV) (ok : Bool) (r : Option AV) : AV :=
  match r with
  | some v => if ok then .tup [v, .bool true] else v
  | none => if ok then .tup [z, .bool false] else z

def AllSz (sz : Nat) (xs : List AV) : Prop := ∀ x ∈ xs, x.cells.length = sz
instance (sz : Nat) (xs : List AV) : Decidable (AllSz sz xs) := inferInstanceAs (Decidable (∀ x ∈ xs, x.cells.length = sz))

/-- What an operation yields that looks at its operands alone. -/
def pureF : AOp → List AV → Option AV
  | .mv, [x] => some x
  | .pick, [.bool b, x, y] => some (if b then x else y)
  | .nilck, [x] => match x with
    | .ptr _ _ => some x | .iptr _ => some x | .fn (.func _) _ _ => some x | _ => none
  | .faddr o, [x] => match x with
    | .ptr id off => some (.ptr id (off + o)) | .iptr cs => some (.iptr (cs.drop o)) | _ => none
  | .iaddr sz, [x, .int _ i] => match x with
    | .sl xs _ => match xs[i.toNat]? with
      | some y => if 0 ≤ i ∧ y.cells.length = sz then some (.iptr y.cells) else none
      | none => none
    | .msl id off len s => if s = sz ∧ 0 ≤ i ∧ i < len then some (.ptr id (off + i.toNat * sz)) else none
    | _ => none
  | .aaddr sz n, [x, .int _ i] => if 0 ≤ i ∧ i < n then (match x with
    | .ptr id off => some (.ptr id (off + i.toNat * sz)) | .iptr cs => some (.iptr (cs.drop (i.toNat * sz))) | _ => none) else none
  | .ld agg sz, [.iptr cs] => if agg then (if sz ≤ cs.length then some (.agg (cs.take sz)) else none) else cs[0]?
  | .build z pl, xs => (fillL z pl xs).map .agg
  | .fld agg off sz, [.agg cs] => if agg then some (.agg ((cs.drop off).take sz)) else cs[off]?
  | .ixs, [.str s, .int _ i] => if 0 ≤ i then (s[i.toNat]?).map byteAV else none
  | .ixa agg sz n, [.agg cs, .int _ i] => if 0 ≤ i ∧ i < n then (if agg then some (.agg ((cs.drop (i.toNat * sz)).take sz)) else cs[i.toNat * sz]?) else none
  | .bin op, [x, y] => binF op x y
  | .eqg neg kd, [x, y] => if x.eqK = kd then (x.same y).map fun b => .bool (neg != b) else none
  | .eqs neg ks, [.agg xs, .agg ys] => if xs.map AV.kindN = ks ∧ ys.map AV.kindN = ks then (sameL xs ys).map fun b => .bool (neg != b) else none
  | .un op, [x] => unF op x
  | .cvi k, [.int _ n] => some (.int k (k.wrap n))
  | .cvs, [.str s] => some (.str s)
  | .cvb, [.sl xs _] => (bytesOf xs).map .str
  | .cvr, [.sl xs _] => (runesOf xs).map fun l => .str (encL l)
  | .cvc, [.int _ n] => some (.str (Utf8.encode n).data.toList)
  | .mkif t, [x] => match x with | .any => none | x => some (.iface t x)
  | .mkfn f n, xs => if n ≤ xs.length then some (.fn f (xs.take n) (xs.drop n)) else none
  | .slc sz lo hi, x :: bs => match x with
    | .str s => if sz = 0 then (boundsF lo hi s.length bs).map fun (l, h) => .str ((s.take h).drop l) else none
    | .sl xs t => if 0 < sz ∧ AllSz sz xs then (boundsF lo hi xs.length bs).map fun (l, h) => .sl ((xs.take h).drop l) (if h = xs.length then t else .no) else none
    | .msl id off len s => if 0 < sz ∧ s = sz then (boundsF lo hi len bs).map fun (l, h) => .msl id (off + l * sz) (h - l) sz else none
    | _ => none
  | .tas t z ok, [x] => match t, x with
    | some t, .iface u v => if u = t then some (if ok then .tup [v, .bool true] else v) else if ok then some (.tup [z, .bool false]) else none
    | some _, .nili => if ok then some (.tup [z, .bool false]) else none
    | none, .iface u v => some (if ok then .tup [.iface u v, .bool true] else .iface u v)
    | none, .nili => if ok then some (.tup [z, .bool false]) else none
    | _, _ => none
  | .ext i, [.tup vs] => vs[i]?
  | .len kd, [x] => match kd, x with
    | 0, .str s => some (.int .i64 s.length) | 1, .sl xs _ => some (.int .i64 xs.length) | 1, .msl _ _ n _ => some (.int .i64 n) | 2, .nilm => some (.int .i64 0) | _, _ => none
  | .min, x :: xs => minF x xs
  | .max, x :: xs => maxF x xs
  | .lkp kd z ok, [.nilm, k] => if k.kindN = kd ∧ kd ≤ 2 then some (foundA z ok none) else none
  | _, _ => none

/-- What an operation yields that writes nothing. -/
def Rd (op : AOp) (xs : List AV) (H : Heap) (v : AV) : Prop :=
  pureF op xs = some v ∨
  match op, xs with
  | .ld agg sz, [.ptr id off] => ∃ vs, (id, AObj.cells vs) ∈ H ∧ (if agg then off + sz ≤ vs.length ∧ v = .agg ((vs.drop off).take sz) else vs[off]? = some v)
  | .len 2, [.map id] => ∃ es, (id, AObj.map es) ∈ H ∧ v = .int .i64 es.length
  | .lkp kd z ok, [.map id, k] => ∃ es r, (id, AObj.map es) ∈ H ∧ k.kindN = kd ∧ kd ≤ 2 ∧ lookA k es = some r ∧ v = foundA z ok r
  | .cvb, [.msl id off n s] => s = 1 ∧ ∃ vs bs, (id, AObj.cells vs) ∈ H ∧ off + n ≤ vs.length ∧ bytesOf ((vs.drop off).take n) = some bs ∧ v = .str bs
  | _, _ => False

/-- One entry of the heap turned into another, in its place. -/
inductive Rpl : Heap → Nat × AObj → Nat × AObj → Heap → Prop
  | here (p q : Nat × AObj) (T : Heap) : Rpl (p :: T) p q (q :: T)
  | there (x p q : Nat × AObj) (T T' : Heap) : Rpl T p q T' → Rpl (x :: T) p q (x :: T')

def Heap.keys (H : Heap) : List Nat := H.map Prod.fst

def flat (xs : List AV) : List AV := xs.flatMap AV.cells

/-- What is handed to append or copy: n elements, as cells. -/
def Src (sz : Nat) (x : AV) (H : Heap) (ys : List AV) : Prop :=
  AllSz sz ys ∧
  match x with
  | .sl xs _ => ys = xs
  | .str s => sz = 1 ∧ ys = bytesAV s
  | .msl id off n s => s = sz ∧ ys.length = n ∧ ∃ vs, (id, AObj.cells vs) ∈ H ∧ off + n * sz ≤ vs.length ∧ flat ys = (vs.drop off).take (n * sz)
  | _ => False

/-- What an operation that writes or makes memory does. -/
def ef (op : AOp) (xs : List AV) (H : Heap) (K : AV → Heap → Prop) : Prop :=
  match op, xs with
  | .st sz, [p, x] => ∃ id off vs H', p = .ptr id off ∧ 0 < sz ∧ x.cells.length = sz ∧ off + sz ≤ vs.length ∧
      Rpl H (id, .cells vs) (id, .cells (splice vs off x.cells)) H' ∧ K .undef H'
  | .box, [x] => 0 < x.cells.length ∧ ∀ id, id ∉ H.keys → K (.ptr id 0) ((id, .cells x.cells) :: H)
  | .alloc z, [] => ∀ id, id ∉ H.keys → K (.ptr id 0) ((id, .cells z) :: H)
  | .rawal t, [] => ∀ id, id ∉ H.keys → K (.ptr id 0) ((id, .raw t [.pointer none, .slice none 0 0]) :: H)
  | .bslice sz n z pl, xs => ∃ cs, fillL ((List.replicate n z).flatten) pl xs = some cs ∧
      ((∀ id, id ∉ H.keys → K (.msl id 0 n sz) ((id, .cells cs) :: H)) ∨
       (∃ ys, AllSz sz ys ∧ ys.length = n ∧ flat ys = cs ∧ ∀ id, id ∉ H.keys → K (.sl ys (.at id (n * sz) sz)) ((id, .spare (n * sz)) :: H)))
  | .sb, [.str s] => s.length ≤ maxLen ∧
      ((∀ id, id ∉ H.keys → K (.msl id 0 s.length 1) ((id, .cells (bytesAV s)) :: H)) ∨
       (∀ id, id ∉ H.keys → K (.sl (bytesAV s) (.at id s.length 1)) ((id, .spare s.length) :: H)))
  | .cvm, [.msl id 0 n s] => s = 1 ∧ 0 < n ∧ ∃ vs, (id, AObj.cells vs) ∈ H ∧ n = vs.length ∧ (K (.msl id 0 n 1) H ∨ (AllSz 1 vs ∧ flat vs = vs ∧ ∃ H', Rpl H (id, .cells vs) (id, .spare n) H' ∧ K (.sl vs (.at id n 1)) H'))
  | .mksl sz bytes z, [.int _ n, .int _ c] => 0 ≤ n ∧ n ≤ c ∧ c ≤ maxLen ∧ bytes * c ≤ 281474976710656 ∧
      ∀ id, id ∉ H.keys → K (.msl id 0 n.toNat sz) ((id, .cells ((List.replicate n.toNat z).flatten)) :: H)
  | .mkmap, [] => ∀ id, id ∉ H.keys → K (.map id) ((id, .map []) :: H)
  | .mup kd, [.map id, k, v] => ∃ es es' H', k.kindN = kd ∧ kd ≤ 2 ∧ v ≠ .any ∧ updA k v es = some es' ∧ Rpl H (id, .map es) (id, .map es') H' ∧ K .undef H'
  | .rngs, [.str s] => ∀ id, id ∉ H.keys → K (.ptr id 0) ((id, .iter s 0) :: H)
  | .nxts, [.ptr id 0] => ∃ s pos, (pos < s.length → ∃ H', Rpl H (id, .iter s pos) (id, .iter s (pos + (Utf8.decode ⟨s.toArray⟩ pos).2)) H' ∧
        K (.tup [.bool true, .int .i64 pos, .int .i32 (Utf8.decode ⟨s.toArray⟩ pos).1]) H') ∧
      (s.length ≤ pos → (id, AObj.iter s pos) ∈ H ∧ K (.tup [.bool false]) H) ∧ (id, AObj.iter s pos) ∈ H
  | .app sz bytes, [s, x] => ∃ ys, Src sz x H ys ∧ 0 < sz ∧ (match s with
      | .sl xs t => AllSz sz xs ∧ xs.length + ys.length ≤ maxLen ∧ (xs.length + ys.length) * bytes ≤ 140737488355328 ∧ (match t with
        | .nil => (ys = [] → K (.sl [] .nil) H) ∧ (ys ≠ [] → (∀ id e, id ∉ H.keys → K (.sl ys (.at id e sz)) ((id, .spare e) :: H)) ∨ (∀ id, id ∉ H.keys → K (.msl id 0 ys.length sz) ((id, .cells (flat ys)) :: H)))
        | .at b e s' => s' = sz ∧ (b, AObj.spare e) ∈ H ∧ ∀ id e' H', (id = b ∨ id ∉ H.keys) → Rpl H (b, .spare e) (id, .spare e') H' → K (.sl (xs ++ ys) (.at id e' sz)) H'
        | .no => False)
      | .msl b 0 n s' => s' = sz ∧ n + ys.length ≤ maxLen ∧ (n + ys.length) * bytes ≤ 140737488355328 ∧ ∃ vs, vs.length = n * sz ∧ (b, AObj.cells vs) ∈ H ∧
          ∀ id H', (id = b ∨ id ∉ H.keys) → Rpl H (b, .cells vs) (id, .cells (vs ++ flat ys)) H' → K (.msl id 0 (n + ys.length) sz) H'
      | _ => False)
  | .cpy sz, [d, x] => ∃ ys, Src sz x H ys ∧ (match d with
      | .msl id off n s => s = sz ∧ ∃ vs H', off + n * sz ≤ vs.length ∧ Rpl H (id, .cells vs) (id, .cells (splice vs off (flat (ys.take n)))) H' ∧ K (.int .i64 (Nat.min ys.length n : Nat)) H'
      | .sl [] _ => K (.int .i64 0) H
      | _ => False)
  | .clr sz z, [d] => (match d with
      | .msl id off n s => s = sz ∧ ∃ vs H', off + n * sz ≤ vs.length ∧ Rpl H (id, .cells vs) (id, .cells (splice vs off (List.replicate n z).flatten)) H' ∧ K (.tup []) H'
      | .sl [] _ => K (.tup []) H
      | _ => False)
  | .slp sz n lo hi, .ptr id off :: bs => ∃ vs l h, (id, AObj.cells vs) ∈ H ∧ off + n * sz ≤ vs.length ∧ boundsF lo hi n bs = some (l, h) ∧ K (.msl id (off + l * sz) (h - l) sz) H
  | _, _ => False

end Go.AL

/- The abstract layer, part 3: how the model's operations are turned into abstract ones, and facts on the model's memory operations under the relation. -/
namespace Go.AL
open Go.RowKit

def scalAV : Value → Option AV
  | .bool b => some (.bool b)
  | .int k n => some (.int k n)
  | .string s => some (.str s.data.toList)
  | .pointer none => some .nilp
  | .slice none 0 0 => some (.sl [] .nil)
  | .map none => some .nilm
  | .nilFunc => some .nilf
  | .nilIface => some .nili
  | _ => none

def toAV : Value → Option AV
  | .agg cs => (cs.toList.mapM scalAV).map .agg
  | .tuple vs => if vs.toList.isEmpty then some (.tup []) else none
  | v => scalAV v

/-- An operand, abstractly. -/
def opAV (G : Nat → Option (List AV)) (σ : List AV) : Operand → AV
  | .tmp t => σ.getD t .any
  | .const v => (toAV v).getD .any
  | .global g => match G g with | some cs => .iptr cs | none => .any
  | .func f => .fn (.func f) [] []

def isAgg? (P : Program) (t : TypeId) : Option Bool :=
  match P.underlying t with
  | some (.struct _) | some (.array _ _) => some true
  | some _ => some false
  | none => none
def size? (P : Program) (t : TypeId) : Option Nat := (P.info? t).map (·.size)
def bytes? (P : Program) (t : TypeId) : Option Nat := (P.info? t).map (·.bytes)
def zero? (P : Program) (t : TypeId) : Option AV := ((P.info? t).bind (·.zero)).bind toAV

def scalT (P : Program) (t : TypeId) : Bool :=
  match P.underlying t with
  | some .bool | some (.int _) | some .string => true
  | _ => false

def kindT (P : Program) (t : TypeId) : Option Nat :=
  match P.underlying t with
  | some .bool => some 0 | some (.int _) => some 1 | some .string => some 2
  | _ => none

def eqKind : TypeDesc → Option Nat
  | .bool => some 0 | .pointer _ => some 1 | .slice _ => some 2 | .map _ _ => some 3 | .func _ _ _ => some 4 | .interface _ => some 5
  | .int _ | .string => some 6
  | _ => none

def compCall (P : Program) (c : Call) : Option (AOp × List Operand) :=
  match c.callee with
  | .value (.func f) => some (.call f, c.args.toList)
  | .value x => some (.callv, x :: c.args.toList)
  | .invoke _ _ => none
  | .builtin b =>
    let xs := c.args.toList
    match b, c.argTypes[0]? with
    | .len, some t => match P.underlying t, xs with
      | some .string, [_] => some (.len 0, xs)
      | some (.slice _), [_] => some (.len 1, xs)
      | some (.map _ _), [_] => some (.len 2, xs)
      | _, _ => none
    | .min, _ => if xs.isEmpty then none else some (.min, xs)
    | .max, _ => if xs.isEmpty then none else some (.max, xs)
    | .append, some t => match P.underlying t, c.argTypes[1]?, xs with
      | some (.slice e), some t2, [_, _] => match P.underlying t2, size? P e, bytes? P e, zero? P e with
        | some (.slice _), some s, some b, some z => if z.cells.length = s then some (.app s b, xs) else none
        | some .string, some s, some b, some z => if z.cells.length = s then some (.app s b, xs) else none
        | _, _, _, _ => none
      | _, _, _ => none
    | .clear, some t => match P.underlying t, xs with
      | some (.slice e), [_] => (zero? P e).bind fun z => (size? P e).bind fun s => if z.cells.length = s ∧ 0 < s then some (.clr s z.cells, xs) else none
      | _, _ => none
    | .copy, some t => match P.underlying t, xs with
      | some (.slice e), [_, _] => (size? P e).bind fun s => if 0 < s then some (.cpy s, xs) else none
      | _, _ => none
    | _, _ => none

def compOp (P : Program) : Op → Option (AOp × List Operand)
  | .move x | .assign x => some (.mv, [x])
  | .pick c a b => some (.pick, [c, a, b])
  | .nilCheck x => some (.nilck, [x])
  | .alloc t => (zero? P t).bind fun z => if 0 < z.cells.length then some (if isBld z.cells then (.rawal t, []) else (.alloc z.cells, [])) else none
  | .box _ x => some (.box, [x])
  | .build t parts => match P.underlying t with
    | some (.struct fs) => (zero? P t).bind fun z =>
        (parts.toList.mapM fun (p : Nat × Operand) => (fs[p.1]?).bind fun f => (size? P f.type).map fun s => (f.offset, s)).bind fun pl =>
        match z with
        | .agg z => if fs.toList.all (fun (f : Field) => (size? P f.type).isSome) then some (.build z pl, parts.toList.map (·.2)) else none
        | _ => none
    | some (.array _ e) => (zero? P t).bind fun z => (size? P e).bind fun s =>
        match z with
        | .agg z => some (.build z (parts.toList.map fun p => (p.1 * s, s)), parts.toList.map (·.2))
        | _ => none
    | _ => none
  | .buildSlice t n parts => match P.underlying t with
    | some (.slice e) => (zero? P e).bind fun z => (size? P e).bind fun s => if z.cells.length = s ∧ 0 < s ∧ n * s ≤ 65536 then
        some (.bslice s n z.cells (parts.toList.map fun p => (p.1 * s, s)), parts.toList.map (·.2)) else none
    | _ => none
  | .load t a => (isAgg? P t).bind fun g => (size? P t).map fun s => (.ld g s, [a])
  | .store t a v => (size? P t).map fun s => (.st s, [a, v])
  | .binOp op t x y _ => match op with
    | .eql | .neq => match P.underlying t with
      | some (.struct fs) => (fs.toList.mapM (fun (f : Field) => kindT P f.type)).bind fun ks =>
          if fs.toList.all (fun f => f.name != "_" && (size? P f.type == some 1)) && fs.toList.map (·.offset) == List.range fs.size
            && !P.stoodInHeld t && !P.eqGuardType P.depth t then some (.eqs (op == .neq) ks, [x, y]) else none
      | some d => (eqKind d).map fun kd => (.eqg (op == .neq) kd, [x, y])
      | none => none
    | op => some (.bin op, [x, y])
  | .unOp op _ x => some (.un op, [x])
  | .convert s d x => match P.underlying s, P.underlying d with
    | some (.int _), some (.int k) => some (.cvi k, [x])
    | some .string, some .string => some (.cvs, [x])
    | some (.int _), some .string => some (.cvc, [x])
    | some (.slice e), some .string => match P.underlying e with
      | some (.int .u8) => some (.cvb, [x])
      | some (.int .i32) => some (.cvr, [x])
      | _ => none
    | some .string, some (.slice e) => match P.underlying e with
      | some (.int .u8) => some (.sb, [x])
      | _ => none
    | some (.slice _), some (.slice e) => match P.underlying e with
      | some (.int .u8) => if s == d then some (.cvm, [x]) else none
      | _ => none
    | _, _ => none
  | .makeInterface t x => match P.underlying t with
    | some (.interface _) | none => none
    | some _ => some (.mkif t, [x])
  | .makeFunc fn first captured => some (.mkfn fn first.size, first.toList ++ captured.toList)
  | .makeMap _ none => some (.mkmap, [])
  | .makeSlice t l c => match P.underlying t with
    | some (.slice e) => (zero? P e).bind fun z => (size? P e).bind fun s => (bytes? P e).bind fun b => if z.cells.length = s ∧ 0 < s then some (.mksl s b z.cells, [l, c]) else none
    | _ => none
  | .slice t x lo hi none => match P.underlying t with
    | some .string => some (.slc 0 lo.isSome hi.isSome, x :: (lo.toList ++ hi.toList))
    | some (.slice e) => (size? P e).bind fun s => if 0 < s then some (.slc s lo.isSome hi.isSome, x :: (lo.toList ++ hi.toList)) else none
    | some (.array n e) => (size? P e).bind fun s => if 0 < s ∧ n ≤ 65536 then some (.slp s n lo.isSome hi.isSome, x :: (lo.toList ++ hi.toList)) else none
    | _ => none
  | .fieldAddr t x i => match P.underlying t with
    | some (.struct fs) => (fs[i]?).bind fun f => (size? P f.type).bind fun s => if 0 < s then some (.faddr f.offset, [x]) else none
    | _ => none
  | .field t x i => match P.underlying t with
    | some (.struct fs) => (fs[i]?).bind fun f => (isAgg? P f.type).bind fun g => (size? P f.type).map fun s => (.fld g f.offset s, [x])
    | _ => none
  | .indexAddr t x i => match P.underlying t with
    | some (.slice e) => (size? P e).bind fun s => if 0 < s then some (.iaddr s, [x, i]) else none
    | some (.array n e) => (size? P e).bind fun s => if 0 < s then some (.aaddr s n, [x, i]) else none
    | _ => none
  | .index t x i => match P.underlying t with
    | some .string => some (.ixs, [x, i])
    | some (.array n e) => (isAgg? P e).bind fun g => (size? P e).map fun s => (.ixa g s n, [x, i])
    | _ => none
  | .lookup t x i ok => match P.underlying t with
    | some (.map k e) => (kindT P k).bind fun kd => (zero? P e).map fun z => (.lkp kd z ok, [x, i])
    | _ => none
  | .mapUpdate t m k v => match P.underlying t with
    | some (.map kt _) => (kindT P kt).map fun kd => (.mup kd, [m, k, v])
    | _ => none
  | .range t x => match P.underlying t with
    | some .string => some (.rngs, [x])
    | _ => none
  | .next it true => some (.nxts, [it])
  | .typeAssert x _ t ok => match P.underlying t with
    | some (.interface _) => none
    | some _ => if ok then (zero? P t).map fun z => (.tas (some t) z ok, [x]) else some (.tas (some t) .nili ok, [x])
    | none => none
  | .extract x i => some (.ext i, [x])
  | .call c => compCall P c
  | _ => none

section facts
variable {G : Nat → Option (List AV)} {B : Nat} {w0 w w' : World} {m m' : Im} {H H' : Heap} {P : Program}

theorem oneCell_int (k : IntKind) (n : Int) : (Value.int k n).oneCell' = true := rfl

/-- A value that stands for one cell. -/
theorem Rel.cells_of {v : AV} {c : Value} (h : Rel m v c) (hz : 0 < v.cells.length) : v.cells.length = c.cells.size ∧
    (∀ (i : Nat) (x : AV) (y : Value), v.cells[i]? = some x → c.cells[i]? = some y → Rel m x y) ∧ (∀ (i : Nat) (y : Value), c.cells[i]? = some y → y.oneCell' = true) := by
  have one : ∀ {v : AV} {c : Value}, Rel m v c → v.cells = [v] → c.cells = #[c] → c.oneCell' = true → v.cells.length = c.cells.size ∧
    (∀ (i : Nat) (x : AV) (y : Value), v.cells[i]? = some x → c.cells[i]? = some y → Rel m x y) ∧ (∀ (i : Nat) (y : Value), c.cells[i]? = some y → y.oneCell' = true) := by
    intro v c h h1 h2 h3
    rw [h1, h2]
    refine ⟨rfl, fun i x y hx hy => ?_, fun i y hy => ?_⟩
    · cases i <;> simp at hx hy; subst hx hy; exact h
    · cases i <;> simp at hy; subst hy; exact h3
  cases h with
  | any v => simp [AV.cells] at hz
  | tup vs va hl hr => simp [AV.cells] at hz
  | agg cs ca hl h1 hr => exact ⟨hl, hr, h1⟩
  | bool b => exact one (.bool b) rfl rfl rfl
  | int k n => exact one (.int k n) rfl rfl rfl
  | str s => exact one (.str s) rfl rfl rfl
  | nilp => exact one .nilp rfl rfl rfl
  | ptr id off => exact one (.ptr id off) rfl rfl rfl
  | iptr cs a f hs hc h1 hr => exact one (.iptr cs a f hs hc h1 hr) rfl rfl rfl
  | slnil => exact one .slnil rfl rfl rfl
  | sl xs t a len cap sz f ht hl hlc hcm hs hz' hc h1 hr hk => exact one (.sl xs t a len cap sz f ht hl hlc hcm hs hz' hc h1 hr hk) rfl rfl rfl
  | msl id off len cap sz n hlc hcm hn hcap => exact one (.msl id off len cap sz n hlc hcm hn hcap) rfl rfl rfl
  | msl0 id off sz a => exact one (.msl0 id off sz a) rfl rfl rfl
  | nilm => exact one .nilm rfl rfl rfl
  | map id => exact one (.map id) rfl rfl rfl
  | fn f fs cs fa ca hf hc hfr hcr => exact one (.fn f fs cs fa ca hf hc hfr hcr) rfl rfl rfl
  | nilf => exact one .nilf rfl rfl rfl
  | iface t v cv h hn => exact one (.iface t v cv h hn) rfl rfl rfl
  | nili => exact one .nili rfl rfl rfl

theorem Rel.one_of {v : AV} {c : Value} (h : Rel m v c) (hv : v.cells = [v]) (hna : ∀ cs, v ≠ .agg cs) : c.oneCell' = true := by
  cases h <;> first | rfl | (simp [AV.cells] at hv; done) | (exact absurd rfl (hna _))

theorem scalAV_rel {v : Value} {a : AV} (h : scalAV v = some a) : Rel m a v ∧ v.oneCell' = true := by
  unfold scalAV at h
  split at h <;> first | (cases h; exact ⟨by constructor, rfl⟩) | cases h

theorem mapM_scal : ∀ {l : List Value} {as : List AV}, l.mapM scalAV = some as → as.length = l.length ∧ ∀ (i : Nat) (x : AV) (y : Value), as[i]? = some x → l[i]? = some y → Rel m x y ∧ y.oneCell' = true
  | [], as, h => by simp at h; subst h; simp
  | v :: l, as, h => by
    rw [List.mapM_cons] at h
    cases hv : scalAV v with
    | none => rw [hv] at h; simp at h
    | some a =>
      rw [hv] at h
      cases hl : l.mapM scalAV with
      | none => rw [hl] at h; simp at h
      | some as' =>
        rw [hl] at h; simp at h; subst h
        obtain ⟨h1, h2⟩ := mapM_scal hl
        refine ⟨by simp [h1], fun i x y hx hy => ?_⟩
        cases i with
        | zero => simp at hx hy; subst hx hy; exact scalAV_rel hv
        | succ i => simp at hx hy; exact h2 i x y hx hy

theorem toAV_rel {v : Value} {a : AV} (h : toAV v = some a) : Rel m a v := by
  unfold toAV at h
  split at h
  · rename_i cs
    cases hl : cs.toList.mapM scalAV with
    | none => rw [hl] at h; simp at h
    | some as =>
      rw [hl] at h; simp at h; subst h
      obtain ⟨h1, h2⟩ := mapM_scal (m := m) hl
      refine .agg as cs (by simpa using h1) (fun i y hy => ?_) (fun i x y hx hy => (h2 i x y hx (by simpa using hy)).1)
      have hi : i < as.length := by rw [h1]; simpa using (Array.getElem?_eq_some_iff.1 hy).1
      exact (h2 i as[i] y (List.getElem?_eq_getElem hi) (by simpa using hy)).2
  · rename_i vs
    split at h
    · rename_i he
      cases h
      have : vs = #[] := by cases vs; simpa using he
      subst this
      exact .tup [] #[] rfl (fun i x y h => by simp at h)
    · cases h
  · exact (scalAV_rel h).1

theorem opAV_rel (hs : Sat G B w0 m H w) {σ : List AV} {a : Act} (hσ : RelL m σ a.tmps.toList) (x : Operand) : Rel m (opAV G σ x) (a.eval x) := by
  cases x with
  | tmp t =>
    simp only [opAV, Act.eval]
    rw [List.getD_eq_getElem?_getD, Array.getD_eq_getD_getElem?]
    cases h : σ[t]? with
    | none => exact .any _
    | some y =>
      obtain ⟨c, hc, hr⟩ := hσ.get t h
      have : a.tmps[t]? = some c := by simpa using hc
      rw [this]; exact hr
  | const v =>
    simp only [opAV, Act.eval]
    cases h : toAV v with
    | none => exact .any _
    | some y => exact toAV_rel h
  | global g =>
    simp only [opAV, Act.eval]
    cases h : G g with
    | none => exact .any _
    | some cs => exact (hs.glob g cs h).2
  | func f => exact .fn (.func f) [] [] #[] #[] rfl rfl (fun i x y h => by simp at h) (fun i x y h => by simp at h)

/-- Loading cells that are known. -/
theorem run_loadCells_known (n : Nat) : ∀ (a : Addr) (f : Nat → Value) (w : World) (i : Nat) (acc : Array Value), (∀ j, j < n → w.cell? (a.add (i + j)) = some (f (i + j))) →
    (loadCellsFrom a i n acc).run P w = .ok (acc ++ (Array.ofFn fun j : Fin n => f (i + j))) w := by
  induction n with
  | zero => intro a f w i acc _; simp [loadCellsFrom]
  | succ n ih =>
    intro a f w i acc h
    have h0 := h 0 (by omega)
    simp only [Nat.add_zero] at h0
    simp only [loadCellsFrom, Sem.run_bind, run_load, h0, Result.andThen_ok]
    rw [ih a f w (i + 1) (acc.push (f i)) (fun j hj => by have := h (j + 1) (by omega); rwa [show i + 1 + j = i + (j + 1) by omega])]
    congr 1
    rw [← Array.toList_inj]
    simp only [Array.toList_append, Array.toList_push, Array.toList_ofFn]
    rw [List.ofFn_succ, List.append_assoc, List.singleton_append]
    congr 3
    funext j
    simp only [Fin.val_succ]
    congr 1
    omega

theorem addr_add (a : Addr) (n : Nat) (hs : a.spot = none) : a.add n = ⟨a.block, a.off + n, none⟩ := by
  unfold Addr.add
  split
  · rename_i h; subst h; cases a; simp_all
  · cases a; simp_all

end facts
end Go.AL

/- The abstract layer, part 4: the operations that look at their operands alone. -/
namespace Go.AL
open Go.RowKit

section
variable {G : Nat → Option (List AV)} {B : Nat} {w0 w w' : World} {m m' : Im} {H H' : Heap} {P : Program}

theorem size?_run {t : TypeId} {s : Nat} (h : size? P t = some s) (w : World) : (sizeOf t).run P w = .ok s w := by
  unfold size? at h
  cases hi : P.info? t with
  | none => rw [hi] at h; cases h
  | some i => rw [hi] at h; cases h; simp [sizeOf, typeInfo, hi]

theorem bytes?_run {t : TypeId} {s : Nat} (h : bytes? P t = some s) (w : World) : ∃ i, (typeInfo t).run P w = .ok i w ∧ i.bytes = s := by
  unfold bytes? at h
  cases hi : P.info? t with
  | none => rw [hi] at h; cases h
  | some i => rw [hi] at h; cases h; exact ⟨i, by simp [typeInfo, hi], rfl⟩

theorem isAgg?_run {t : TypeId} {g : Bool} (h : isAgg? P t = some g) (w : World) : (isAgg t).run P w = .ok g w := by
  unfold isAgg? at h
  cases hi : P.underlying t with
  | none => rw [hi] at h; cases h
  | some d => rw [hi] at h; cases d <;> cases h <;> simp [isAgg, run_underlying hi]

theorem zero?_run {t : TypeId} {z : AV} (h : zero? P t = some z) (w : World) : ∃ c, (zeroValue t).run P w = .ok c w ∧ ∀ m, Rel m z c := by
  unfold zero? at h
  cases hi : P.info? t with
  | none => rw [hi] at h; cases h
  | some i =>
    rw [hi] at h
    simp only [Option.bind_some] at h
    cases hz : i.zero with
    | none => rw [hz] at h; cases h
    | some c => rw [hz] at h; exact ⟨c, by simp [zeroValue, typeInfo, hi, hz], fun m => toAV_rel h⟩

theorem iptr_drop {cs : List AV} {a : Addr} (h : Rel m (.iptr cs) (.pointer (some a))) (o : Nat) : Rel m (.iptr (cs.drop o)) (.pointer (some (a.add o))) := by
  cases h with
  | iptr _ _ f hs hc h1 hr =>
    by_cases ho : o = 0
    · subst ho; simp only [List.drop_zero]; rw [show a.add 0 = a from by simp [Addr.add]]; exact .iptr cs a f hs hc h1 hr
    · refine .iptr _ _ (fun i => f (o + i)) (fun _ => by simp [Addr.add, ho]) (fun i hi => ?_) (fun i hi => ?_) (fun i x hx => ?_)
      · simp only [Addr.add, ho, if_false]
        rw [Nat.add_assoc]
        exact hc (o + i) (by simp at hi; omega)
      · exact h1 (o + i) (by simp at hi; omega)
      · rw [List.getElem?_drop] at hx
        exact hr _ _ hx

theorem ptr_add (id off o : Nat) : Rel m (.ptr id (off + o)) (.pointer (some ((⟨id, off, none⟩ : Addr).add o))) := by
  rw [addr_add _ _ rfl]; exact .ptr id (off + o)

theorem snd_faddr {t : TypeId} {fs : Array Field} {i s : Nat} {f : Field} {x v : AV} {c : Value} (h1 : P.underlying t = some (.struct fs)) (h2 : fs[i]? = some f) (h3 : size? P f.type = some s) (hs : 0 < s)
    (hx : Rel m x c) (hp : pureF (.faddr f.offset) [x] = some v) : ∃ cv, (Instr.fieldAt t c i).run P w = .ok cv w ∧ Rel m v cv := by
  have hz := size?_run h3
  simp only [pureF] at hp
  split at hp
  · cases hp
    cases hx
    refine ⟨_, ?_, ptr_add _ _ _⟩
    simp [Instr.fieldAt, run_underlying h1, h2, Instr.sureAddr, fieldPlace, hz, Nat.pos_iff_ne_zero.1 hs]
  · cases hp
    cases hx with
    | iptr _ a g k1 k2 k3 k4 =>
      refine ⟨_, ?_, iptr_drop (.iptr _ a g k1 k2 k3 k4) _⟩
      simp [Instr.fieldAt, run_underlying h1, h2, Instr.sureAddr, fieldPlace, hz, Nat.pos_iff_ne_zero.1 hs]
  · cases hp

/-- The cells of one element of a slice. -/
theorem sl_elem {xs : List AV} {t : Tok} {a : Addr} {len cap : Nat} (h : Rel m (.sl xs t) (.slice (some a) len cap)) {i : Nat} {y : AV} (hy : xs[i]? = some y) :
    len = xs.length ∧ Rel m (.iptr y.cells) (.pointer (some (a.add (i * y.cells.length)))) := by
  cases h with
  | sl _ _ _ _ _ sz f ht hl hlc hcm hs hz hc h1 hr hk =>
    have hi : i < xs.length := (List.getElem?_eq_some_iff.1 hy).1
    have hsp : a.spot = none := hs (by intro h; subst h; simp at hi)
    have hsz := hz i y hy
    refine ⟨hl, ?_⟩
    rw [addr_add _ _ hsp]
    refine .iptr _ _ (f i) (fun _ => rfl) (fun j hj => ?_) (fun j hj => ?_) (fun j x hx => hr i y j x hy hx)
    · simp only [hsz]; exact hc i j hi (by omega)
    · exact h1 i j hi (by omega)

theorem snd_iaddr {t e : TypeId} {sz : Nat} {x v : AV} {c : Value} {k : IntKind} {i : Int} (h1 : P.underlying t = some (.slice e)) (h3 : size? P e = some sz)
    (hx : Rel m x c) (hp : pureF (.iaddr sz) [x, .int k i] = some v) : ∃ cv, (Instr.indexAt t c (.int k i)).run P w = .ok cv w ∧ Rel m v cv := by
  have hz := size?_run h3
  simp only [pureF] at hp
  split at hp
  · rename_i xs tk
    split at hp
    · rename_i y hy
      split at hp
      · rename_i hc
        cases hp
        obtain ⟨h0, hsz⟩ := hc
        have hi := (List.getElem?_eq_some_iff.1 hy).1
        cases hx with
        | slnil => simp at hi
        | sl _ _ a len cap sz' f k1 k2 k3 k4 k5 k6 k7 k8 k9 k10 =>
          obtain ⟨hl, hr⟩ := sl_elem (.sl xs tk a len cap sz' f k1 k2 k3 k4 k5 k6 k7 k8 k9 k10) hy
          rw [hsz] at hr
          refine ⟨_, ?_, hr⟩
          have hlt : i < (len : Int) := by omega
          simp [Instr.indexAt, asIntOf, run_underlying h1, hz, h0, hlt]
      · cases hp
    · cases hp
  · rename_i id off len s
    split at hp
    · rename_i hc
      obtain ⟨rfl, h0, hlt⟩ := hc
      cases hp
      cases hx with
      | msl _ _ _ cap _ n k1 k2 k3 =>
        refine ⟨_, ?_, ptr_add _ _ _⟩
        simp [Instr.indexAt, asIntOf, run_underlying h1, hz, h0, hlt]
      | msl0 => simp at hlt; omega
    · cases hp
  · cases hp

theorem snd_aaddr {t e : TypeId} {sz n : Nat} {x v : AV} {c : Value} {k : IntKind} {i : Int} (h1 : P.underlying t = some (.array n e)) (h3 : size? P e = some sz)
    (hx : Rel m x c) (hp : pureF (.aaddr sz n) [x, .int k i] = some v) : ∃ cv, (Instr.indexAt t c (.int k i)).run P w = .ok cv w ∧ Rel m v cv := by
  have hz := size?_run h3
  simp only [pureF] at hp
  split at hp
  · rename_i hc
    obtain ⟨h0, hlt⟩ := hc
    split at hp
    · cases hp
      cases hx
      refine ⟨_, ?_, ptr_add _ _ _⟩
      simp [Instr.indexAt, asIntOf, run_underlying h1, hz, h0, hlt, Instr.sureAddr]
    · cases hp
      cases hx with
      | iptr _ a g k1 k2 k3 k4 =>
        refine ⟨_, ?_, iptr_drop (.iptr _ a g k1 k2 k3 k4) _⟩
        simp [Instr.indexAt, asIntOf, run_underlying h1, hz, h0, hlt, Instr.sureAddr]
    · cases hp
  · cases hp

theorem relL_agg {cs : List AV} {f : Nat → Value} {n : Nat} (hn : n ≤ cs.length) (h1 : ∀ i, i < cs.length → (f i).oneCell' = true) (hr : ∀ (i : Nat) (x : AV), cs[i]? = some x → Rel m x (f i)) :
    Rel m (.agg (cs.take n)) (.agg (Array.ofFn fun j : Fin n => f j)) := by
  refine .agg _ _ (by simp; omega) (fun i y hy => ?_) (fun i x y hx hy => ?_)
  · rw [Array.getElem?_ofFn] at hy
    split at hy
    · have := Option.some.inj hy; subst this; exact h1 _ (by simp; omega)
    · cases hy
  · rw [Array.getElem?_ofFn] at hy
    split at hy
    · rename_i hin
      have := Option.some.inj hy; subst this
      rw [List.getElem?_take, if_pos hin] at hx
      exact hr _ _ hx
    · cases hy

theorem snd_ldi (hsat : Sat G B w0 m H w) {t : TypeId} {g : Bool} {sz : Nat} {cs : List AV} {v : AV} {c : Value} (h1 : isAgg? P t = some g) (h2 : size? P t = some sz)
    (hx : Rel m (.iptr cs) c) (hp : pureF (.ld g sz) [.iptr cs] = some v) : ∃ cv, (Instr.loadAt t c).run P w = .ok cv w ∧ Rel m v cv := by
  have hg := isAgg?_run h1
  have hz := size?_run h2
  simp only [pureF] at hp
  cases hx with
  | iptr _ a f hs hc h3 hr =>
    cases g with
    | true =>
      simp only [if_true] at hp
      split at hp
      · rename_i hle
        cases hp
        refine ⟨_, ?_, relL_agg hle h3 hr⟩
        have hl := run_loadCells_known (P := P) sz a f w 0 #[] (fun j hj => by
          have hsp := hs (by intro h; subst h; simp at hle; omega)
          rw [addr_add _ _ hsp]
          simpa using hsat.cell _ _ _ (hc j (by omega)))
        simp only [Nat.zero_add, Array.empty_append] at hl
        simp [Instr.loadAt, Instr.sureAddr, loadVar, hg, hz, loadCells, hl]
      · cases hp
    | false =>
      simp only [Bool.false_eq_true, if_false] at hp
      have hlt := (List.getElem?_eq_some_iff.1 hp).1
      have hsp := hs (by intro h; subst h; simp at hlt)
      have h0 := hsat.cell _ _ _ (hc 0 hlt)
      refine ⟨f 0, ?_, hr 0 v hp⟩
      have ha : (⟨a.block, a.off + 0, none⟩ : Addr) = a := by cases a; simp_all
      rw [ha] at h0
      simp [Instr.loadAt, Instr.sureAddr, loadVar, hg, h0]

theorem snd_ixs {t : TypeId} {s : List UInt8} {v : AV} {c : Value} {k : IntKind} {i : Int} (h1 : P.underlying t = some .string)
    (hx : Rel m (.str s) c) (hp : pureF .ixs [.str s, .int k i] = some v) : ∃ cv, (Instr.index t c (.int k i)).run P w = .ok cv w ∧ Rel m v cv := by
  simp only [pureF] at hp
  split at hp
  · rename_i h0
    cases hx with
    | str b =>
      cases hb : b.data.toList[i.toNat]? with
      | none => rw [hb] at hp; cases hp
      | some u =>
        rw [hb] at hp; cases hp
        have hb' : b[i.toNat]? = some u := by
          have hlt := (List.getElem?_eq_some_iff.1 hb).1
          have hlt' : i.toNat < b.size := by simpa using hlt
          rw [getElem?_pos b i.toNat hlt']
          congr 1
          have := (List.getElem?_eq_some_iff.1 hb).2
          rw [← this]; rfl
        exact ⟨_, by simp [Instr.index, asIntOf, run_underlying h1, h0, hb'], .int _ _⟩
  · cases hp

theorem rel_part {cs : List AV} {ca : Array Value} (h : Rel m (.agg cs) (.agg ca)) {t : TypeId} {g : Bool} {sz off : Nat} {v : AV} (h1 : isAgg? P t = some g) (h2 : size? P t = some sz)
    (hp : (if g then some (.agg ((cs.drop off).take sz)) else cs[off]?) = some v) : ∃ cv, (part t ca off).run P w = .ok cv w ∧ Rel m v cv := by
  have hg := isAgg?_run h1
  have hz := size?_run h2
  cases h with
  | agg _ _ hl ho hr =>
    cases g with
    | true =>
      simp only [if_true] at hp
      cases hp
      refine ⟨_, by simp only [part, Sem.run_bind, hg, Result.andThen_ok, if_true, hz, Sem.run_pure]; rfl, ?_⟩
      refine .agg _ _ ?_ (fun i y hy => ?_) (fun i x y hx hy => ?_)
      · simp [hl]; omega
      · rw [Array.getElem?_extract] at hy
        split at hy
        · exact ho _ y hy
        · cases hy
      · rw [Array.getElem?_extract] at hy
        rw [List.getElem?_take, List.getElem?_drop] at hx
        split at hy
        · split at hx
          · exact hr _ x y hx hy
          · cases hx
        · cases hy
    | false =>
      simp only [Bool.false_eq_true, if_false] at hp
      have hlt := (List.getElem?_eq_some_iff.1 hp).1
      have hy : ca[off]? = some ca[off] := Array.getElem?_eq_getElem (by omega)
      exact ⟨ca[off], by simp only [part, Sem.run_bind, hg, Result.andThen_ok, Bool.false_eq_true, if_false, hy, Sem.run_pure], hr off v _ hp hy⟩

theorem snd_fld {t : TypeId} {fs : Array Field} {i sz : Nat} {f : Field} {g : Bool} {cs : List AV} {v : AV} {c : Value} (h1 : P.underlying t = some (.struct fs)) (h2 : fs[i]? = some f)
    (h3 : isAgg? P f.type = some g) (h4 : size? P f.type = some sz) (hx : Rel m (.agg cs) c) (hp : pureF (.fld g f.offset sz) [.agg cs] = some v) :
    ∃ cv, (Instr.field t c i).run P w = .ok cv w ∧ Rel m v cv := by
  simp only [pureF] at hp
  cases hx with
  | agg _ ca hl ho hr =>
    obtain ⟨cv, hc, hv⟩ := rel_part (w := w) (.agg cs ca hl ho hr) h3 h4 hp
    exact ⟨cv, by simp [Instr.field, run_underlying h1, h2, asAgg, hc], hv⟩

theorem snd_ixa {t e : TypeId} {n sz : Nat} {g : Bool} {cs : List AV} {v : AV} {c : Value} {k : IntKind} {i : Int} (h1 : P.underlying t = some (.array n e))
    (h3 : isAgg? P e = some g) (h4 : size? P e = some sz) (hx : Rel m (.agg cs) c) (hp : pureF (.ixa g sz n) [.agg cs, .int k i] = some v) :
    ∃ cv, (Instr.index t c (.int k i)).run P w = .ok cv w ∧ Rel m v cv := by
  simp only [pureF] at hp
  split at hp
  · rename_i hc
    obtain ⟨h0, hlt⟩ := hc
    cases hx with
    | agg _ ca hl ho hr =>
      obtain ⟨cv, hc, hv⟩ := rel_part (w := w) (.agg cs ca hl ho hr) h3 h4 hp
      have hz := size?_run h4
      exact ⟨cv, by simp [Instr.index, asIntOf, run_underlying h1, h0, hlt, hz, hc], hv⟩
  · cases hp

end
end Go.AL

/- The abstract layer, part 5: arithmetic, comparisons, conversions. -/
namespace Go.AL
open Go.RowKit

section
variable {G : Nat → Option (List AV)} {B : Nat} {w0 w w' : World} {m m' : Im} {H H' : Heap} {P : Program}

theorem snd_bin {op : BinOp} {t : TypeId} {x y v : AV} {c d : Value} (hx : Rel m x c) (hy : Rel m y d) (hp : binF op x y = some v) (hne : op ≠ .eql ∧ op ≠ .neq) :
    ∃ cv, (binOp op t c d).run P w = .ok cv w ∧ Rel m v cv := by
  unfold binF at hp
  split at hp
  · rename_i k a k' b
    cases hx; cases hy
    split at hp
    · split at hp
      · cases hp
      · cases hp
        rename_i hb
        exact ⟨_, by simp [binOp, Op.shift, hb] <;> rfl, .int _ _⟩
    · split at hp
      · cases hp
      · cases hp
        rename_i hb
        exact ⟨_, by simp [binOp, Op.shift, hb] <;> rfl, .int _ _⟩
    · split at hp
      · rename_i hk
        subst hk
        split at hp
        all_goals first
          | (cases hp; exact ⟨_, by simp [binOp, Op.intArith, Op.intCmp, Op.intBits] <;> rfl, by constructor⟩)
          | (cases hp; refine ⟨_, ?_, .int _ _⟩; simp [binOp, Op.intBits, intB]; done)
          | (by_cases hb : b = 0
             · simp [hb] at hp
             · simp only [hb, if_false, Option.some.injEq] at hp; subst hp; exact ⟨_, by simp [binOp, Op.intDiv, hb] <;> rfl, .int _ _⟩)
          | (exfalso; simp at hp; done)
      · cases hp
  · rename_i a b
    cases hx with
    | str s =>
      cases hy with
      | str u =>
        have e1 : ∀ s : ByteArray, s.toList = s.data.toList := fun s => ByteArray.toList_eq s
        have e2 : (s.data.toList == u.data.toList) = decide (s.data.toList = u.data.toList) := by rw [Bool.eq_iff_iff]; simp
        split at hp
        · split at hp
          · rename_i hle
            cases hp
            refine ⟨.string (s ++ u), ?_, ?_⟩
            · have hle' : ¬ (((s.size + u.size : Nat) : Int) > IntKind.i64.max) := by
                have h2 : s.size + u.size ≤ maxLen := by simpa using hle
                simp only [maxLen] at h2
                have : IntKind.i64.max = 9223372036854775807 := by decide
                rw [this]; omega
              simp only [binOp, Op.stringOp, hle', if_false, Sem.run_pure]
            · have := Rel.str (m := m) (s ++ u)
              rwa [show (s ++ u).data.toList = s.data.toList ++ u.data.toList by simp] at this
          · cases hp
        all_goals first
          | (cases hp; refine ⟨_, ?_, .bool _⟩; simp only [binOp, Op.stringOp, e1, e2, Sem.run_pure]; done)
          | (exfalso; simp at hp; done)
  · cases hp

theorem same_tok {xs : List AV} {t : Tok} {a : Option Addr} {n c : Nat} (h : Rel m (.sl xs t) (.slice a n c)) : a.isNone = decide (t = .nil) := by
  cases h with
  | slnil => simp
  | sl _ _ a len cap sz f ht => simp [ht]

theorem equalIn_run {t : TypeId} {d : TypeDesc} {x y : AV} {c e : Value} {b : Bool} (n : Nat) (hd : P.underlying t = some d) (hk : eqKind d = some x.eqK)
    (hx : Rel m x c) (hy : Rel m y e) (h6 : x.eqK ≠ 6) (hb : x.same y = some b) : (Op.equalIn (n + 1) t c e).run P w = .ok b w := by
  unfold AV.same at hb
  split at hb
  case h_2 => exact absurd rfl h6
  case h_3 => exact absurd rfl h6
  case h_20 => cases hb
  all_goals (have hb' := Option.some.inj hb; clear hb; subst hb')
  all_goals (cases hx <;> cases hy)
  all_goals (cases d <;> simp [eqKind, AV.eqK] at hk)
  all_goals (unfold Op.equalIn; simp only [Sem.run_bind, run_underlying hd, Result.andThen_ok, Sem.run_pure])
  all_goals first
    | rfl
    | (simp only [Result.ok.injEq, and_true]; rw [Bool.eq_iff_iff]; simp; done)
    | (exfalso; exact absurd rfl ‹Tok.nil ≠ Tok.nil›)
    | (simp only [Result.ok.injEq, and_true]; simp [‹_ ≠ Tok.nil›]; done)
    | skip

theorem eql_neq : (BinOp.eql == BinOp.neq) = false := by decide

theorem binOp_equal {op : BinOp} {t : TypeId} {x y : AV} {c e : Value} {b : Bool} {xo yo : Operand} (ho : op = .eql ∨ op = .neq) (hx : Rel m x c) (hy : Rel m y e) (h6 : x.eqK ≠ 6) (hb : x.same y = some b)
    (h : (Op.equal t c e).run P w = .ok b w) : (do eqGuard op t xo yo c e; binOp op t c e : Sem Value).run P w = .ok (.bool ((op == .neq) != b)) w := by
  unfold AV.same at hb
  split at hb
  case h_2 => exact absurd rfl h6
  case h_3 => exact absurd rfl h6
  case h_20 => cases hb
  all_goals (clear hb)
  all_goals (cases hx <;> cases hy)
  all_goals (rcases ho with rfl | rfl <;> simp [eqGuard, binOp, h, eql_neq])

theorem snd_eqg {op : BinOp} {t : TypeId} {d : TypeDesc} {kd : Nat} {x y v : AV} {c e : Value} {xo yo : Operand} (hd : P.underlying t = some d) (hk : eqKind d = some kd) (ho : op = .eql ∨ op = .neq)
    (hx : Rel m x c) (hy : Rel m y e) (hp : pureF (.eqg (op == .neq) kd) [x, y] = some v) :
    ∃ cv, (do eqGuard op t xo yo c e; binOp op t c e : Sem Value).run P w = .ok cv w ∧ Rel m v cv := by
  simp only [pureF] at hp
  split at hp
  case isFalse => cases hp
  rename_i hK
  cases hb : x.same y with
  | none => rw [hb] at hp; cases hp
  | some b =>
    rw [hb] at hp; cases hp
    by_cases h6 : x.eqK = 6
    · refine ⟨_, ?_, .bool _⟩
      unfold AV.same at hb
      split at hb
      case h_2 =>
        split at hb
        · rename_i hkk
          subst hkk
          cases hb; cases hx; cases hy
          rcases ho with rfl | rfl <;> simp [eqGuard, binOp, Op.intCmp, Bool.beq_eq_decide_eq, bne] <;> rfl
        · cases hb
      case h_3 =>
        cases hb; cases hx; cases hy
        rcases ho with rfl | rfl <;> simp [eqGuard, binOp, Op.stringOp, ByteArray.toList_eq, eql_neq, bne] <;> (rw [Bool.eq_iff_iff]; simp)
      case h_20 => cases hb
      all_goals exact absurd h6 (by simp [AV.eqK])
    · subst hK
      exact ⟨_, binOp_equal ho hx hy h6 hb (equalIn_run 9999 hd hk hx hy h6 hb), .bool _⟩

theorem kindT_one {t : TypeId} {k d : Nat} {a b : AV} {c e : Value} (hk : kindT P t = some k) (ha : a.kindN = k) (hb : b.kindN = k) (hra : Rel m a c) (hrb : Rel m b e) :
    isAgg? P t = some false ∧ (a.same b = none → False ∨ ∃ k1 k2 n1 n2, a = .int k1 n1 ∧ b = .int k2 n2 ∧ k1 ≠ k2) ∧ ∀ r, a.same b = some r → (Op.equalIn (d + 1) t c e).run P w = .ok r w := by
  unfold kindT at hk
  split at hk <;> first | (have := Option.some.inj hk; subst this) | cases hk
  all_goals rename_i hu
  all_goals refine ⟨by simp [isAgg?, hu], ?_, ?_⟩
  all_goals (cases a <;> simp [AV.kindN] at ha; cases b <;> simp [AV.kindN] at hb)
  · simp [AV.same]
  · intro r hr; cases hra; cases hrb; simp only [AV.same, Option.some.injEq] at hr; subst hr; rw [run_equalIn_bool' w d t _ _ hu, Bool.beq_eq_decide_eq]
  · rename_i k1 n1 k2 n2
    intro h
    by_cases hkk : k1 = k2
    · simp [AV.same, hkk] at h
    · exact .inr ⟨_, _, _, _, rfl, rfl, hkk⟩
  · rename_i k1 n1 k2 n2
    intro r hr
    cases hra; cases hrb
    simp only [AV.same] at hr
    split at hr
    · rename_i hkk; subst hkk
      have := Option.some.inj hr; subst this
      rw [run_equalIn_int w d t _ _ _ _ hu]; rfl
    · cases hr
  · simp [AV.same]
  · intro r hr; cases hra; cases hrb; simp only [AV.same, Option.some.injEq] at hr; subst hr
    rw [run_equalIn_string w d t _ _ hu, ByteArray.toList_eq, ByteArray.toList_eq]; congr 1; rw [Bool.eq_iff_iff]; simp

theorem eqFields_run {d : Nat} {ca cb : Array Value} {xs ys : List AV} : ∀ (fs : List Field) (o : Nat) (ks : List Nat) (r : Bool),
    fs.mapM (fun (f : Field) => kindT P f.type) = some ks → (∀ f ∈ fs, f.name ≠ "_") → (∀ i f, fs[i]? = some f → f.offset = o + i) →
    (xs.drop o).map AV.kindN = ks → (ys.drop o).map AV.kindN = ks →
    Rel m (.agg xs) (.agg ca) → Rel m (.agg ys) (.agg cb) → sameL (xs.drop o) (ys.drop o) = some r → (Op.eqFields (d + 1) ca cb fs).run P w = .ok r w := by
  intro fs
  induction fs with
  | nil =>
    intro o ks r hk _ _ hx hy _ _ hs
    simp at hk; subst hk
    simp at hx hy
    rw [List.drop_eq_nil_of_le hx, List.drop_eq_nil_of_le hy] at hs
    simp [sameL] at hs; subst hs
    simp [Op.eqFields]
  | cons f fs ih =>
    intro o ks r hk hn ho hx hy hra hrb hs
    rw [List.mapM_cons] at hk
    cases hkf : kindT P f.type with
    | none => rw [hkf] at hk; simp at hk
    | some k =>
      rw [hkf] at hk
      cases hks : fs.mapM (fun (f : Field) => kindT P f.type) with
      | none => rw [hks] at hk; simp at hk
      | some ks' =>
        rw [hks] at hk; simp at hk; subst hk
        have hox : o < xs.length := by
          rcases Nat.lt_or_ge o xs.length with h | h
          · exact h
          · rw [List.drop_eq_nil_of_le h] at hx; simp at hx
        have hoy : o < ys.length := by
          rcases Nat.lt_or_ge o ys.length with h | h
          · exact h
          · rw [List.drop_eq_nil_of_le h] at hy; simp at hy
        rw [List.drop_eq_getElem_cons hox] at hx hs
        rw [List.drop_eq_getElem_cons hoy] at hy hs
        simp only [List.map_cons, List.cons.injEq] at hx hy
        have hof : f.offset = o := by have := ho 0 f rfl; simpa using this
        have hnm : f.name ≠ "_" := hn f (by simp)
        have key := hra
        have key2 := hrb
        cases hra with
        | agg _ _ hl1 _ hr1 =>
          cases hrb with
          | agg _ _ hl2 _ hr2 =>
            have e1 : ca[o]? = some ca[o] := Array.getElem?_eq_getElem (by omega)
            have e2 : cb[o]? = some cb[o] := Array.getElem?_eq_getElem (by omega)
            have r1 := hr1 o _ _ (List.getElem?_eq_getElem hox) e1
            have r2 := hr2 o _ _ (List.getElem?_eq_getElem hoy) e2
            obtain ⟨hag, hnone, hrun⟩ := kindT_one (w := w) (d := d) hkf hx.1 hy.1 r1 r2
            have hg := isAgg?_run hag w
            have p1 : (part f.type ca f.offset).run P w = .ok ca[o] w := by rw [hof]; simp only [part, Sem.run_bind, hg, Result.andThen_ok, Bool.false_eq_true, if_false, e1, Sem.run_pure]
            have p2 : (part f.type cb f.offset).run P w = .ok cb[o] w := by rw [hof]; simp only [part, Sem.run_bind, hg, Result.andThen_ok, Bool.false_eq_true, if_false, e2, Sem.run_pure]
            simp only [sameL] at hs
            simp only [Op.eqFields, ne_eq, hnm, not_false_eq_true, if_true, Sem.run_bind, p1, p2, Result.andThen_ok]
            split at hs
            · rename_i hsame
              rw [hrun _ hsame]
              simp only [Result.andThen_ok, Bool.not_true, Bool.false_eq_true, if_false]
              exact ih (o + 1) ks' r hks (fun g hg => hn g (by simp [hg])) (fun i g hg => by have := ho (i + 1) g (by simpa using hg); omega) hx.2 hy.2 key key2 hs
            · rename_i hsame
              rw [hrun _ hsame]
              cases hs
              simp
            · cases hs

theorem snd_eqs {op : BinOp} {t : TypeId} {fs : Array Field} {ks : List Nat} {xs ys : List AV} {v : AV} {c e : Value} {xo yo : Operand} (hu : P.underlying t = some (.struct fs))
    (hks : fs.toList.mapM (fun (f : Field) => kindT P f.type) = some ks) (hn : ∀ f ∈ fs.toList, f.name ≠ "_") (ho : fs.toList.map (·.offset) = List.range fs.size) (h1 : P.stoodInHeld t = false)
    (h2 : P.eqGuardType P.depth t = false) (hop : op = .eql ∨ op = .neq) (hx : Rel m (.agg xs) c) (hy : Rel m (.agg ys) e) (hp : pureF (.eqs (op == .neq) ks) [.agg xs, .agg ys] = some v) :
    ∃ cv, (do eqGuard op t xo yo c e; binOp op t c e : Sem Value).run P w = .ok cv w ∧ Rel m v cv := by
  simp only [pureF] at hp
  split at hp
  case isFalse => cases hp
  rename_i hk
  cases hb : sameL xs ys with
  | none => rw [hb] at hp; cases hp
  | some b =>
    rw [hb] at hp; cases hp
    refine ⟨_, ?_, .bool _⟩
    have kx := hx
    have ky := hy
    cases hx with
    | agg _ ca =>
      cases hy with
      | agg _ cb =>
        have hf : P.fieldsOf t = fs := by simp [Program.fieldsOf, hu]
        have hr := run_equalIn_struct w 9999 t ca cb (by rw [hf]; exact hu) h1
        rw [hf, eqFields_run fs.toList 0 ks b hks hn (fun i f hi => by
          have h := congrArg (fun l => l[i]?) ho
          have hlt : i < fs.size := by simpa using (List.getElem?_eq_some_iff.1 hi).1
          simp only [List.getElem?_map, hi, Option.map_some, List.getElem?_range hlt, Option.some.injEq] at h
          omega) (by simpa using hk.1) (by simpa using hk.2) kx ky (by simpa using hb)] at hr
        have hg := run_eqGuard_agg (P := P) w op t xo yo ca cb h2
        rcases hop with rfl | rfl
        · simp only [Sem.run_bind, hg, Result.andThen_ok, run_eql_struct, hr, eql_neq]; simp
        · simp only [Sem.run_bind, hg, Result.andThen_ok, run_neq_struct, hr]; simp

end
end Go.AL

/- The abstract layer, part 6: conversions, slicing, composite values, look-ups. -/
namespace Go.AL
open Go.RowKit

section
variable {G : Nat → Option (List AV)} {B : Nat} {w0 w w' : World} {m m' : Im} {H H' : Heap} {P : Program}

theorem snd_un {o : UnOp} {x v : AV} {c : Value} (hx : Rel m x c) (hp : unF o x = some v) : ∃ cv, (Op.unary o c).run P w = .ok cv w ∧ Rel m v cv := by
  unfold unF at hp
  split at hp
  · cases hx
    split at hp
    · cases hp; exact ⟨_, by simp [Op.unary] <;> rfl, .bool _⟩
    · cases hp
  · cases hx
    split at hp
    · cases hp; exact ⟨_, by simp [Op.unary, Op.intArith] <;> rfl, .int _ _⟩
    · cases hp; exact ⟨_, by simp [Op.unary, Op.intBits] <;> rfl, .int _ _⟩
    · cases hp
  · cases hp

theorem snd_cvi {s d : TypeId} {k k' kn : IntKind} {n : Int} {v : AV} {c : Value} (h1 : P.underlying s = some (.int k')) (h2 : P.underlying d = some (.int k)) (hx : Rel m (.int kn n) c)
    (hp : pureF (.cvi k) [.int kn n] = some v) : ∃ cv, (convert s d c).run P w = .ok cv w ∧ Rel m v cv := by
  cases hp; cases hx
  exact ⟨_, by simp [convert, run_underlying h1, run_underlying h2, Conv.intToInt] <;> rfl, .int _ _⟩

theorem snd_cvs {s d : TypeId} {l : List UInt8} {v : AV} {c : Value} (h1 : P.underlying s = some .string) (h2 : P.underlying d = some .string) (hx : Rel m (.str l) c)
    (hp : pureF .cvs [.str l] = some v) : ∃ cv, (convert s d c).run P w = .ok cv w ∧ Rel m v cv := by
  cases hp
  cases hx with
  | str b => exact ⟨_, by simp [convert, run_underlying h1, run_underlying h2] <;> rfl, .str _⟩

theorem snd_cvc {s d : TypeId} {k kn : IntKind} {n : Int} {v : AV} {c : Value} (h1 : P.underlying s = some (.int k)) (h2 : P.underlying d = some .string) (hx : Rel m (.int kn n) c)
    (hp : pureF .cvc [.int kn n] = some v) : ∃ cv, (convert s d c).run P w = .ok cv w ∧ Rel m v cv := by
  cases hp; cases hx
  exact ⟨_, by simp [convert, run_underlying h1, run_underlying h2, Conv.intToString] <;> rfl, .str _⟩

/-- The bytes of cells. -/
theorem bytes_cells {F : Value → ByteArray → Sem (ForInStep ByteArray)} (hF : ∀ n s, F (.int .u8 n) s = pure (ForInStep.yield (s.push (UInt8.ofNat n.toNat)))) :
    ∀ {xs : List AV} {bs : List UInt8} {cs : List Value}, bytesOf xs = some bs → RelL m xs cs → ∀ acc : ByteArray,
    (forIn cs acc F).run P w = .ok ⟨acc.data ++ bs.toArray⟩ w
  | [], bs, cs, h, hr, acc => by
    simp [bytesOf] at h; subst h; rw [hr.unnil]; simp
  | x :: xs, bs, cs, h, hr, acc => by
    obtain ⟨y, ys, rfl, h1, h2⟩ := hr.uncons
    unfold bytesOf at h
    split at h
    · rename_i e; cases e
    · rename_i n r e
      cases e
      cases hb : bytesOf xs with
      | none => rw [hb] at h; cases h
      | some bs' =>
        rw [hb] at h; simp at h; subst h
        cases h1
        simp only [List.forIn_cons, Sem.run_bind]
        rw [hF, Sem.run_pure, Result.andThen_ok]
        simp only []
        rw [bytes_cells hF hb h2]
        congr 1
        simp [ByteArray.push]
    · cases h

theorem run_bytesToString {a : Addr} {n cap : Nat} {f : Nat → Value} {xs : List AV} {bs : List UInt8} (hf : ∀ j, j < n → w.cell? (a.add j) = some (f j)) (hl : xs.length = n)
    (hr : ∀ (i : Nat) (x : AV), xs[i]? = some x → Rel m x (f i)) (hb : bytesOf xs = some bs) :
    (Conv.bytesToString (.slice (some a) n cap)).run P w = .ok (.string ⟨bs.toArray⟩) w := by
  have h := run_loadCells_known (P := P) n a f w 0 #[] (fun j hj => by simpa using hf j hj)
  simp only [Nat.zero_add, Array.empty_append] at h
  simp only [Conv.bytesToString, Sem.run_bind, loadCells, h, Result.andThen_ok]
  rw [← Array.forIn_toList]
  rw [bytes_cells (m := m) (fun n s => rfl) hb ⟨by simp [hl], fun i x y hx hy => ?_⟩]
  · simp
  · rw [Array.toList_ofFn, List.getElem?_ofFn] at hy
    split at hy
    · have e := Option.some.inj hy; subst e; exact hr i x hx
    · cases hy

theorem snd_cvb {s d e : TypeId} {xs : List AV} {t : Tok} {v : AV} {c : Value} (hsat : Sat G B w0 m H w) (h1 : P.underlying s = some (.slice e)) (h2 : P.underlying d = some .string) (h3 : P.underlying e = some (.int .u8))
    (hx : Rel m (.sl xs t) c) (hp : pureF .cvb [.sl xs t] = some v) : ∃ cv, (convert s d c).run P w = .ok cv w ∧ Rel m v cv := by
  simp only [pureF] at hp
  cases hb : bytesOf xs with
  | none => rw [hb] at hp; cases hp
  | some bs =>
    rw [hb] at hp; cases hp
    refine ⟨.string ⟨bs.toArray⟩, ?_, by simpa using Rel.str (m := m) ⟨bs.toArray⟩⟩
    have hcv : ∀ c, (match c with | .slice .. => True | _ => False) → (convert s d c).run P w = (Conv.bytesToString c).run P w := by
      intro c hc
      split at hc
      · simp [convert, run_underlying h1, run_underlying h2, run_underlying h3]
      · cases hc
    have b1 : ∀ (i : Nat) (x : AV), xs[i]? = some x → x.cells.length = 1 ∧ x.cells = [x] := by
      intro i x hx
      have : ∀ (l : List AV) (bs : List UInt8), bytesOf l = some bs → ∀ x ∈ l, x.cells.length = 1 ∧ x.cells = [x] := by
        intro l
        induction l with
        | nil => intro bs _ x hx; cases hx
        | cons y l ih =>
          intro bs hb x hx
          unfold bytesOf at hb
          split at hb
          · rename_i e; cases e
          · rename_i n r e; cases e
            cases hb' : bytesOf l with
            | none => rw [hb'] at hb; cases hb
            | some q =>
              rcases List.mem_cons.1 hx with rfl | hx
              · exact ⟨rfl, rfl⟩
              · exact ih q hb' x hx
          · cases hb
      exact this xs bs hb x (List.mem_of_getElem? hx)
    cases hx with
    | slnil =>
      simp [bytesOf] at hb; subst hb
      rw [hcv _ trivial]; simp [Conv.bytesToString]; rfl
    | sl _ _ a len cap sz f ht hl hlc hcm hs hz hc ho hr hk =>
      rw [hcv _ trivial]
      refine run_bytesToString (m := m) (f := fun i => f i 0) (xs := xs) (fun j hj => ?_) hl.symm (fun i x hx => ?_) hb
      · have hj' : j < xs.length := by omega
        have hsz : sz = 1 := by rw [← hz j xs[j] (List.getElem?_eq_getElem hj')]; exact (b1 j _ (List.getElem?_eq_getElem hj')).1
        subst hsz
        rw [addr_add _ _ (hs (by intro h; subst h; simp at hj'))]
        have := hc j 0 hj' (by omega)
        simpa using hsat.cell _ _ _ this
      · exact hr i x 0 x hx (by rw [(b1 i x hx).2]; rfl)

theorem runes_cells {F : Value → ByteArray → Sem (ForInStep ByteArray)} (hF : ∀ n s, F (.int .i32 n) s = pure (ForInStep.yield (s ++ Utf8.encode n))) :
    ∀ {xs : List AV} {bs : List Int} {cs : List Value}, runesOf xs = some bs → RelL m xs cs → ∀ acc : ByteArray,
    (forIn cs acc F).run P w = .ok ⟨acc.data ++ (encL bs).toArray⟩ w
  | [], bs, cs, h, hr, acc => by
    simp [runesOf] at h; subst h; rw [hr.unnil]; simp [encL]
  | x :: xs, bs, cs, h, hr, acc => by
    obtain ⟨y, ys, rfl, h1, h2⟩ := hr.uncons
    unfold runesOf at h
    split at h
    · rename_i e; cases e
    · rename_i n r e
      cases e
      cases hb : runesOf xs with
      | none => rw [hb] at h; cases h
      | some bs' =>
        rw [hb] at h; simp at h; subst h
        cases h1
        simp only [List.forIn_cons, Sem.run_bind]
        rw [hF, Sem.run_pure, Result.andThen_ok]
        simp only []
        rw [runes_cells hF hb h2]
        congr 1
        simp only [encL, List.flatMap_cons]
        congr 1
        rw [← Array.toList_inj]
        simp
    · cases h

theorem snd_cvr {s d e : TypeId} {xs : List AV} {t : Tok} {v : AV} {c : Value} (hsat : Sat G B w0 m H w) (h1 : P.underlying s = some (.slice e)) (h2 : P.underlying d = some .string) (h3 : P.underlying e = some (.int .i32))
    (hx : Rel m (.sl xs t) c) (hp : pureF .cvr [.sl xs t] = some v) : ∃ cv, (convert s d c).run P w = .ok cv w ∧ Rel m v cv := by
  simp only [pureF] at hp
  cases hb : runesOf xs with
  | none => rw [hb] at hp; cases hp
  | some bs =>
    rw [hb] at hp; cases hp
    refine ⟨.string ⟨(encL bs).toArray⟩, ?_, by simpa using Rel.str (m := m) ⟨(encL bs).toArray⟩⟩
    have hcv : ∀ c, (match c with | .slice .. => True | _ => False) → (convert s d c).run P w = (Conv.runesToString c).run P w := by
      intro c hc
      split at hc
      · simp [convert, run_underlying h1, run_underlying h2, run_underlying h3]
      · cases hc
    have b1 : ∀ (l : List AV) (bs : List Int), runesOf l = some bs → ∀ x ∈ l, x.cells.length = 1 ∧ x.cells = [x] := by
      intro l
      induction l with
      | nil => intro bs _ x hx; cases hx
      | cons y l ih =>
        intro bs hb x hx
        unfold runesOf at hb
        split at hb
        · rename_i e; cases e
        · rename_i n r e; cases e
          cases hb' : runesOf l with
          | none => rw [hb'] at hb; cases hb
          | some q =>
            rcases List.mem_cons.1 hx with rfl | hx
            · exact ⟨rfl, rfl⟩
            · exact ih q hb' x hx
        · cases hb
    cases hx with
    | slnil =>
      simp [runesOf] at hb; subst hb
      rw [hcv _ trivial]; simp [Conv.runesToString, encL]; rfl
    | sl _ _ a len cap sz f ht hl hlc hcm hs hz hc ho hr hk =>
      rw [hcv _ trivial]
      have hcell : ∀ j, j < len → w.cell? (a.add j) = some (f j 0) := by
        intro j hj
        have hj' : j < xs.length := by omega
        have hsz : sz = 1 := by rw [← hz j xs[j] (List.getElem?_eq_getElem hj')]; exact (b1 xs bs hb _ (List.getElem_mem hj')).1
        subst hsz
        rw [addr_add _ _ (hs (by intro h; subst h; simp at hj'))]
        have := hc j 0 hj' (by omega)
        simpa using hsat.cell _ _ _ this
      have h := run_loadCells_known (P := P) len a (fun i => f i 0) w 0 #[] (fun j hj => by simpa using hcell j hj)
      simp only [Nat.zero_add, Array.empty_append] at h
      simp only [Conv.runesToString, Sem.run_bind, loadCells, h, Result.andThen_ok]
      rw [← Array.forIn_toList]
      rw [runes_cells (m := m) (fun n s => rfl) hb ⟨by simp [hl], fun i x y hx hy => ?_⟩]
      · simp
      · rw [Array.toList_ofFn, List.getElem?_ofFn] at hy
        split at hy
        · have e := Option.some.inj hy; subst e
          exact hr i x 0 x hx (by rw [(b1 xs bs hb x (List.mem_of_getElem? hx)).2]; rfl)
        · cases hy

theorem snd_mkif {t : TypeId} {d : TypeDesc} {x v : AV} {c : Value} (h1 : P.underlying t = some d) (h2 : ∀ ms, d ≠ .interface ms) (hx : Rel m x c) (hp : pureF (.mkif t) [x] = some v) :
    ∃ cv, (Instr.makeInterface t c).run P w = .ok cv w ∧ Rel m v cv := by
  simp only [pureF] at hp
  split at hp
  · cases hp
  · rename_i hne
    cases hp
    refine ⟨.iface t c, ?_, .iface t _ c hx hne⟩
    simp only [Instr.makeInterface, Sem.run_bind, run_underlying h1, Result.andThen_ok]
    cases d <;> first | (exact absurd rfl (h2 _)) | rfl

theorem snd_ext {i : Nat} {vs : List AV} {v : AV} {c : Value} (hx : Rel m (.tup vs) c) (hp : pureF (.ext i) [.tup vs] = some v) : ∃ cv, (Instr.extract c i).run P w = .ok cv w ∧ Rel m v cv := by
  simp only [pureF] at hp
  cases hx with
  | tup _ va hl hr =>
    have hlt : i < va.size := by rw [← hl]; exact (List.getElem?_eq_some_iff.1 hp).1
    have e : va[i]? = some va[i] := Array.getElem?_eq_getElem hlt
    exact ⟨va[i], by simp [Instr.extract, e], hr i v _ hp e⟩

theorem snd_tas {x v : AV} {c : Value} {xt t : TypeId} {ok : Bool} {z : AV} {d : TypeDesc} (h1 : P.underlying t = some d) (h2 : ∀ ms, d ≠ .interface ms) (hz : ok = true → zero? P t = some z)
    (hx : Rel m x c) (hp : pureF (.tas (some t) z ok) [x] = some v) : ∃ cv, (Instr.typeAssert c xt t ok).run P w = .ok cv w ∧ Rel m v cv := by
  have tup2 : ∀ {a : AV} {ca : Value} (b : Bool), Rel m a ca → Rel m (.tup [a, .bool b]) (.tuple #[ca, .bool b]) := by
    intro a ca b h
    refine .tup _ _ rfl (fun i x y hx hy => ?_)
    match i with
    | 0 => simp at hx hy; subst hx hy; exact h
    | 1 => simp at hx hy; subst hx hy; exact .bool b
    | n + 2 => simp at hx
  simp only [pureF] at hp
  split at hp
  · rename_i t' u y e1
    have e := Option.some.inj e1; subst e
    cases hx with
    | iface _ _ cv h hn =>
      split at hp
      · rename_i hut; subst hut
        cases hp
        cases ok with
        | true => exact ⟨.tuple #[cv, .bool true], by simp only [Instr.typeAssert, Sem.run_bind, run_underlying h1, Result.andThen_ok]; cases d <;> first | (exact absurd rfl (h2 _)) | simp, tup2 true h⟩
        | false => exact ⟨cv, by simp only [Instr.typeAssert, Sem.run_bind, run_underlying h1, Result.andThen_ok]; cases d <;> first | (exact absurd rfl (h2 _)) | simp, h⟩
      · rename_i hut
        split at hp
        · rename_i hok; subst hok
          cases hp
          obtain ⟨cz, hcz, hrz⟩ := zero?_run (hz rfl) w
          exact ⟨.tuple #[cz, .bool false], by simp only [Instr.typeAssert, Sem.run_bind, run_underlying h1, Result.andThen_ok]; cases d <;> first | (exact absurd rfl (h2 _)) | simp [hut, hcz], tup2 false (hrz m)⟩
        · cases hp
  · rename_i t' e1
    cases hx
    split at hp
    · rename_i hok; subst hok
      cases hp
      obtain ⟨cz, hcz, hrz⟩ := zero?_run (hz rfl) w
      exact ⟨.tuple #[cz, .bool false], by simp only [Instr.typeAssert, Sem.run_bind, run_underlying h1, Result.andThen_ok]; cases d <;> first | (exact absurd rfl (h2 _)) | simp [hcz], tup2 false (hrz m)⟩
    · cases hp
  · rename_i e; cases e
  · rename_i e; cases e
  · cases hp

theorem snd_len {t ty : TypeId} {kd : Nat} {d : TypeDesc} {x v : AV} {c : Value} (h1 : P.underlying t = some d) (h2 : (kd = 0 ∧ d = .string) ∨ (kd = 1 ∧ ∃ e, d = .slice e) ∨ (kd = 2 ∧ ∃ k e, d = .map k e))
    (hx : Rel m x c) (hp : pureF (.len kd) [x] = some v) : ∃ cv, (Builtin.len_ #[t] ty #[c]).run P w = .ok cv w ∧ Rel m v cv := by
  simp only [pureF] at hp
  split at hp
  · cases hp
    obtain ⟨_, rfl⟩ : 0 = 0 ∧ d = .string := by rcases h2 with h | ⟨h, _⟩ | ⟨h, _⟩ <;> first | exact h | cases h
    cases hx with
    | str s => exact ⟨_, by simp [Builtin.len_, run_underlying h1] <;> rfl, by have := Rel.int (m := m) .i64 (s.size : Int); simpa [goInt] using this⟩
  · cases hp
    obtain ⟨_, e, rfl⟩ : 1 = 1 ∧ ∃ e, d = .slice e := by rcases h2 with ⟨h, _⟩ | h | ⟨h, _⟩ <;> first | exact h | cases h
    cases hx with
    | slnil => exact ⟨_, by simp [Builtin.len_, run_underlying h1] <;> rfl, .int _ _⟩
    | sl _ _ a len cap sz f ht hl => subst hl; exact ⟨_, by simp [Builtin.len_, run_underlying h1] <;> rfl, .int _ _⟩
  · cases hp
    obtain ⟨_, e, rfl⟩ : 1 = 1 ∧ ∃ e, d = .slice e := by rcases h2 with ⟨h, _⟩ | h | ⟨h, _⟩ <;> first | exact h | cases h
    cases hx <;> exact ⟨_, by simp [Builtin.len_, run_underlying h1] <;> rfl, .int _ _⟩
  · cases hp
    obtain ⟨_, k, e, rfl⟩ : 2 = 2 ∧ ∃ k e, d = .map k e := by rcases h2 with ⟨h, _⟩ | ⟨h, _⟩ | h <;> first | exact h | cases h
    cases hx; exact ⟨_, by simp [Builtin.len_, run_underlying h1] <;> rfl, .int _ _⟩
  · cases hp

theorem snd_min : ∀ {xs : List AV} {x v : AV} {c : Value} {cs : List Value}, Rel m x c → RelL m xs cs → minF x xs = some v → ∃ cv, (cs.foldlM Builtin.min2 c : Sem Value).run P w = .ok cv w ∧ Rel m v cv
  | [], x, v, c, cs, hx, hr, h => by
    rw [hr.unnil]; simp [minF] at h; subst h; exact ⟨c, by simp, hx⟩
  | y :: xs, x, v, c, cs, hx, hr, h => by
    obtain ⟨d, ds, rfl, hy, hr'⟩ := hr.uncons
    unfold minF at h
    split at h
    · rename_i e; cases e
    · rename_i k a k' b r e
      cases e
      cases hx; cases hy
      obtain ⟨cv, h1, h2⟩ := snd_min (.int k (if b < a then b else a)) hr' h
      exact ⟨cv, by simp [List.foldlM_cons, Builtin.min2, h1], h2⟩
    · cases h

theorem snd_max : ∀ {xs : List AV} {x v : AV} {c : Value} {cs : List Value}, Rel m x c → RelL m xs cs → maxF x xs = some v → ∃ cv, (cs.foldlM Builtin.max2 c : Sem Value).run P w = .ok cv w ∧ Rel m v cv
  | [], x, v, c, cs, hx, hr, h => by
    rw [hr.unnil]; simp [maxF] at h; subst h; exact ⟨c, by simp, hx⟩
  | y :: xs, x, v, c, cs, hx, hr, h => by
    obtain ⟨d, ds, rfl, hy, hr'⟩ := hr.uncons
    unfold maxF at h
    split at h
    · rename_i e; cases e
    · rename_i k a k' b r e
      cases e
      cases hx; cases hy
      obtain ⟨cv, h1, h2⟩ := snd_max (.int k (if b > a then b else a)) hr' h
      exact ⟨cv, by simp [List.foldlM_cons, Builtin.max2, h1], h2⟩
    · cases h

theorem setAll_get (o : Nat) : ∀ (l : List Value) (k : Nat) (ca : Array Value) (i : Nat),
    ((l.zipIdx k).foldl (fun (cs : Array Value) (p : Value × Nat) => cs.setIfInBounds (o + p.2) p.1) ca)[i]? = if i < ca.size then (if o + k ≤ i ∧ i < o + k + l.length then l[i - (o + k)]? else ca[i]?) else none
  | [], k, ca, i => by
    simp only [List.zipIdx_nil, List.foldl_nil, List.length_nil]
    have hf : ¬ (o + k ≤ i ∧ i < o + k + 0) := by omega
    simp only [hf, if_false]
    split
    · rfl
    · exact Array.getElem?_eq_none (by omega)
  | c :: l, k, ca, i => by
    simp only [List.zipIdx_cons, List.foldl_cons]
    rw [setAll_get o l (k + 1)]
    simp only [Array.size_setIfInBounds]
    by_cases hi : i < ca.size
    · simp only [hi, if_true]
      by_cases h1 : o + (k + 1) ≤ i ∧ i < o + (k + 1) + l.length
      · rw [if_pos h1, if_pos (by simp; omega)]
        rw [show i - (o + k) = (i - (o + (k + 1))) + 1 by omega]
        simp
      · rw [if_neg h1]
        by_cases h2 : i = o + k
        · subst h2
          rw [if_pos (by simp)]
          simp [hi]
        · rw [if_neg (by simp; omega)]
          rw [Array.getElem?_setIfInBounds_ne (by omega)]
    · simp [hi]

theorem splice_get (vs : List AV) (o : Nat) (xs : List AV) (h : o + xs.length ≤ vs.length) (i : Nat) :
    (splice vs o xs)[i]? = if i < vs.length then (if o ≤ i ∧ i < o + xs.length then xs[i - o]? else vs[i]?) else none := by
  unfold splice
  have hlt : (vs.take o).length = o := by simp; omega
  rcases Nat.lt_or_ge i o with h1 | h1
  · rw [List.append_assoc, List.getElem?_append_left (by omega), if_pos (by omega), if_neg (by omega), List.getElem?_take, if_pos h1]
  · rcases Nat.lt_or_ge i (o + xs.length) with h2 | h2
    · rw [List.append_assoc, List.getElem?_append_right (by omega), hlt, List.getElem?_append_left (by omega), if_pos (by omega), if_pos ⟨h1, h2⟩]
    · rw [List.getElem?_append_right (by simp [hlt]; omega), List.getElem?_drop]
      simp only [List.length_append, hlt]
      have hf : ¬ (o ≤ i ∧ i < o + xs.length) := by omega
      rw [show o + xs.length + (i - (o + xs.length)) = i by omega]
      simp only [hf, if_false]
      split
      · rfl
      · exact List.getElem?_eq_none (by omega)

theorem splice_length (vs : List AV) (o : Nat) (xs : List AV) (h : o + xs.length ≤ vs.length) : (splice vs o xs).length = vs.length := by
  unfold splice; simp; omega

theorem rel_splice {z : List AV} {ca : Array Value} {x : AV} {c : Value} {o : Nat} (hz : Rel m (.agg z) (.agg ca)) (hx : Rel m x c) (h0 : 0 < x.cells.length) (hle : o + x.cells.length ≤ z.length) :
    Rel m (.agg (splice z o x.cells)) (.agg (c.cells.zipIdx.foldl (fun cs (c, j) => cs.setIfInBounds (o + j) c) ca)) := by
  obtain ⟨g1, g2, g3⟩ := hx.cells_of h0
  have hget : ∀ i, (c.cells.zipIdx.foldl (fun (cs : Array Value) (p : Value × Nat) => cs.setIfInBounds (o + p.2) p.1) ca)[i]? = if i < ca.size then (if o ≤ i ∧ i < o + c.cells.size then c.cells[i - o]? else ca[i]?) else none := by
    intro i
    rw [← Array.foldl_toList, Array.toList_zipIdx]
    have := setAll_get o c.cells.toList 0 ca i
    simpa using this
  cases hz with
  | agg _ _ hl ho hr =>
    have hsize : (c.cells.zipIdx.foldl (fun (cs : Array Value) (p : Value × Nat) => cs.setIfInBounds (o + p.2) p.1) ca).size = ca.size := by
      have a1 := hget ca.size
      have a2 : ∀ i, i < ca.size → i < (c.cells.zipIdx.foldl (fun (cs : Array Value) (p : Value × Nat) => cs.setIfInBounds (o + p.2) p.1) ca).size := by
        intro i hi
        have := hget i
        rw [if_pos hi] at this
        rcases Nat.lt_or_ge i (c.cells.zipIdx.foldl (fun (cs : Array Value) (p : Value × Nat) => cs.setIfInBounds (o + p.2) p.1) ca).size with h | h
        · exact h
        · rw [Array.getElem?_eq_none h] at this
          split at this
          · rw [Array.getElem?_eq_getElem (by omega)] at this; cases this
          · rw [Array.getElem?_eq_getElem hi] at this; cases this
      rw [if_neg (by omega)] at a1
      have a3 := Array.getElem?_eq_none_iff.1 a1
      rcases Nat.eq_zero_or_pos ca.size with h | h
      · omega
      · have := a2 (ca.size - 1) (by omega); omega
    refine .agg _ _ (by rw [splice_length _ _ _ hle]; exact hl.trans hsize.symm) (fun i y hy => ?_) (fun i x' y hx' hy => ?_)
    · rw [hget] at hy
      split at hy
      · split at hy
        · exact g3 _ _ hy
        · exact ho _ _ hy
      · cases hy
    · rw [hget] at hy
      have hiz : i < z.length := by
        have := (List.getElem?_eq_some_iff.1 hx').1
        rw [splice_length _ _ _ hle] at this; exact this
      rw [splice_get _ _ _ hle, if_pos hiz] at hx'
      split at hy
      · split at hy
        · rw [if_pos (by omega)] at hx'; exact g2 _ _ _ hx' hy
        · rw [if_neg (by omega)] at hx'; exact hr _ _ _ hx' hy
      · cases hy

/-- What 'build' does with the cells of a literal. -/
theorem snd_fill : ∀ {ps : List (Nat × Value)} {pl : List (Nat × Nat)} {z xs cs : List AV} {ca : Array Value} {place : Nat → Option (Nat × Nat)},
    Rel m (.agg z) (.agg ca) → ps.length = pl.length → (∀ (i : Nat) (p : Nat × Value) (q : Nat × Nat), ps[i]? = some p → pl[i]? = some q → place p.1 = some q) → RelL m xs (ps.map Prod.snd) → fillL z pl xs = some cs →
    ∃ cb, Instr.fill place ca ps = some cb ∧ Rel m (.agg cs) (.agg cb)
  | [], pl, z, xs, cs, ca, place, hz, hl, hp, hr, h => by
    have : pl = [] := by cases pl with | nil => rfl | cons _ _ => simp at hl
    subst this
    have : xs = [] := by have := hr.1; simpa using this
    subst this
    simp [fillL] at h; subst h
    exact ⟨ca, by simp [Instr.fill], hz⟩
  | (i, c) :: ps, pl, z, xs, cs, ca, place, hz, hl, hp, hr, h => by
    cases pl with
    | nil => simp at hl
    | cons q pl =>
      cases xs with
      | nil => have := hr.1; simp at this
      | cons x xs =>
        obtain ⟨d, ds, e, hx, hr'⟩ := hr.uncons
        simp only [List.map_cons, List.cons.injEq] at e
        obtain ⟨rfl, rfl⟩ := e
        obtain ⟨o, s⟩ := q
        unfold fillL at h
        split at h
        · rename_i hc
          obtain ⟨h1, h2, h3⟩ := hc
          have hpl := hp 0 _ _ rfl rfl
          simp only at hpl
          obtain ⟨g1, g2, g3⟩ := hx.cells_of (by omega)
          have hstep := rel_splice hz hx (o := o) (by omega) (by omega)
          have hsz : ca.size = z.length := by cases hz; omega
          obtain ⟨cb, hcb, hrb⟩ := snd_fill (place := place) hstep (by simpa using hl) (fun i p q hpi hqi => hp (i + 1) p q (by simpa using hpi) (by simpa using hqi)) hr' h
          refine ⟨cb, ?_, hrb⟩
          unfold Instr.fill
          rw [hpl]
          simp only []
          rw [if_neg (by simp; omega)]
          exact hcb
        · cases h

end
end Go.AL

/- The abstract layer, part 7: slicing, look-ups, loads out of objects; all operations that write nothing. -/
namespace Go.AL
open Go.RowKit

section
variable {G : Nat → Option (List AV)} {B : Nat} {w0 w w' : World} {m m' : Im} {H H' : Heap} {P : Program}

theorem run_sliceBound {k : IntKind} {i : Int} {y : Nat} {code : BoundsCode} (h0 : 0 ≤ i) (h1 : i ≤ y) : (Instr.sliceBound (.int k i) y code).run P w = .ok i.toNat w := by
  simp [Instr.sliceBound, asIntOf, h0, h1]

theorem run_bounds {isS : Bool} {len cap l h : Nat} {lo hi : Option Value} {bs : List AV} (hb : boundsF lo.isSome hi.isSome len bs = some (l, h)) (hr : RelL m bs (lo.toList ++ hi.toList)) (hlc : len ≤ cap) :
    (Instr.sliceBounds isS len cap lo hi none).run P w = .ok (l, h, cap) w ∧ l ≤ h ∧ h ≤ len := by
  unfold boundsF at hb
  split at hb
  · split at hb
    · rename_i k1 a k2 b hc
      obtain ⟨c1, c2, c3, c4, c5⟩ := hc
      cases hb
      cases lo with
      | none => simp at c1
      | some lv =>
        cases hi with
        | none => simp at c2
        | some hv =>
          obtain ⟨y, ys, e, h1, h2⟩ := hr.uncons
          obtain ⟨y', ys', e', h1', h2'⟩ := h2.uncons
          simp at e; obtain ⟨rfl, rfl⟩ := e
          simp at e'; obtain ⟨rfl, _⟩ := e'
          cases h1; cases h1'
          refine ⟨?_, by omega, by omega⟩
          have hb1 : b ≤ (cap : Int) := by omega
          have e1 := run_sliceBound (P := P) (w := w) (k := k2) (code := if isS then .sliceAcap else .sliceAlen) (show 0 ≤ b by omega) hb1
          have e2 := run_sliceBound (P := P) (w := w) (k := k1) (y := b.toNat) (code := .sliceB) c3 (by omega)
          simp [Instr.sliceBounds, e1, e2]
    · cases hb
  · rename_i k x
    split at hb
    · rename_i hc
      split at hb
      · rename_i hc2
        cases hb
        cases lo with
        | none => simp at hc
        | some lv =>
          cases hi with
          | some hv => simp at hc
          | none =>
            obtain ⟨y, ys, e, h1, h2⟩ := hr.uncons
            simp at e; obtain ⟨rfl, rfl⟩ := e
            cases h1
            have e2 := run_sliceBound (P := P) (w := w) (k := k) (y := len) (code := .sliceB) hc2.1 hc2.2
            exact ⟨by simp [Instr.sliceBounds, e2], by omega, Nat.le_refl _⟩
      · cases hb
    · split at hb
      · rename_i hc
        split at hb
        · rename_i hc2
          cases hb
          cases hi with
          | none => simp at hc
          | some hv =>
            cases lo with
            | some lv => simp at hc
            | none =>
              obtain ⟨y, ys, e, h1, h2⟩ := hr.uncons
              simp at e; obtain ⟨rfl, rfl⟩ := e
              cases h1
              have e1 := run_sliceBound (P := P) (w := w) (k := k) (code := if isS then .sliceAcap else .sliceAlen) hc2.1 (show x ≤ (cap : Int) by omega)
              exact ⟨by simp [Instr.sliceBounds, e1], Nat.zero_le _, by omega⟩
        · cases hb
      · cases hb
  · split at hb
    · cases hb
    · rename_i hc
      cases hb
      cases lo with
      | some _ => simp at hc
      | none =>
        cases hi with
        | some _ => simp at hc
        | none => exact ⟨by simp [Instr.sliceBounds], Nat.zero_le _, Nat.le_refl _⟩
  · cases hb

theorem snd_slc_str {t : TypeId} {lo hi : Option Value} {s : List UInt8} {bs : List AV} {v : AV} {c : Value} {sz : Nat} (h1 : P.underlying t = some .string) (hx : Rel m (.str s) c) (hr : RelL m bs (lo.toList ++ hi.toList))
    (hp : pureF (.slc sz lo.isSome hi.isSome) (.str s :: bs) = some v) : ∃ cv, (Instr.slice t c lo hi none).run P w = .ok cv w ∧ Rel m v cv := by
  simp only [pureF] at hp
  split at hp
  · cases hb : boundsF lo.isSome hi.isSome s.length bs with
    | none => rw [hb] at hp; cases hp
    | some lh =>
      rw [hb] at hp; cases hp
      obtain ⟨l, h⟩ := lh
      cases hx with
      | str b =>
        have hsz : b.data.toList.length = b.size := by simp
        rw [hsz] at hb
        obtain ⟨e, hl, hh⟩ := run_bounds (P := P) (w := w) (isS := false) hb hr (Nat.le_refl _)
        refine ⟨.string (b.extract l h), by simp [Instr.slice, run_underlying h1, e], ?_⟩
        have := Rel.str (m := m) (b.extract l h)
        have e2 : (b.extract l h).data.toList = (b.data.toList.take h).drop l := by
          rw [ByteArray.data_extract, Array.toList_extract, List.extract_eq_take_drop, List.drop_take]
        rwa [e2] at this
  · cases hp

theorem sl_sub {xs : List AV} {t : Tok} {a : Addr} {len cap l h sz : Nat} (hx : Rel m (.sl xs t) (.slice (some a) len cap)) (hsz : AllSz sz xs) (h0 : 0 < sz) (hl : l ≤ h) (hh : h ≤ xs.length) :
    Rel m (.sl ((xs.take h).drop l) (if h = xs.length then t else .no)) (.slice (some (if cap = l then a else a.add (l * sz))) (h - l) (cap - l)) := by
  cases hx with
  | sl _ _ _ _ _ sz' f ht hlen hlc hcm hs hz hc ho hr hk =>
    have hszx : ∀ i, i < xs.length → sz' = sz := fun i hi => by rw [← hz i xs[i] (List.getElem?_eq_getElem hi)]; exact hsz _ (List.getElem_mem hi)
    have hlen' : ((xs.take h).drop l).length = h - l := by simp; omega
    have hget : ∀ i x, ((xs.take h).drop l)[i]? = some x → xs[l + i]? = some x := by
      intro i x hi
      rw [List.getElem?_drop, List.getElem?_take] at hi
      split at hi
      · exact hi
      · cases hi
    have hne : ((xs.take h).drop l) ≠ [] → l < h := by
      intro hn
      have : 0 < ((xs.take h).drop l).length := List.length_pos_iff.2 hn
      omega
    refine .sl _ _ _ _ _ sz' (fun i j => f (l + i) j) ?_ hlen'.symm (by omega) (by omega) ?_ (fun i x hi => hz _ x (hget i x hi)) ?_ ?_ (fun i x j y hi hj => hr _ x j y (hget i x hi) hj) ?_
    · split
      · exact ht
      · simp
    · intro hn
      have := hne hn
      split
      · omega
      · by_cases hl0 : l = 0
        · subst hl0; simp only [Nat.zero_mul, Addr.add, if_true]; exact hs (by intro e; subst e; simp at hh; omega)
        · have : l * sz ≠ 0 := by have := Nat.mul_pos (Nat.pos_of_ne_zero hl0) h0; omega
          simp [Addr.add, this]
    · intro i j hi hj
      rw [hlen'] at hi
      have hsz2 := hszx (l + i) (by omega)
      have hcl : cap ≠ l := by omega
      have hsp := hs (by intro e; subst e; simp at hh; omega)
      rw [if_neg hcl, addr_add _ _ hsp]
      have := hc (l + i) j (by omega) hj
      rw [← this]
      subst hsz2
      show m.cell a.block (a.off + l * sz' + i * sz' + j) = _
      congr 1
      rw [Nat.add_mul]
      omega
    · intro i j hi hj
      rw [hlen'] at hi
      exact ho (l + i) j (by omega) hj
    · intro b e s htk
      split at htk
      · rename_i hhx
        subst htk
        rcases hk b e s rfl with h1 | ⟨h1, h2, h3, h5, n, h4, h6⟩
        · exact .inl (by omega)
        · by_cases hcl : cap = l
          · exact .inl (by omega)
          · refine .inr ⟨?_, ?_, ?_, fun hn => h5 (by intro e; subst e; simp at hhx; have := hne hn; omega), n, h4, ?_⟩
            · rw [if_neg hcl, addr_add _ _ h2]; exact h1
            · rw [if_neg hcl, addr_add _ _ h2]
            · rw [if_neg hcl, addr_add _ _ h2]
              simp only
              by_cases hx0 : xs = []
              · subst hx0; simp at hhx; have : l = 0 := by omega
                subst this; subst hhx
                simp at hlen; subst hlen
                simpa using h3
              · have hss : sz' = s := h5 hx0
                have hpos : 0 < xs.length := List.length_pos_iff.2 hx0
                have := hszx 0 hpos
                subst hss
                subst this
                rw [← h3, Nat.add_assoc, ← Nat.add_mul]
                congr 2
                omega
            · rw [if_neg hcl, addr_add _ _ h2]
              simp only
              by_cases hx0 : xs = []
              · subst hx0; simp at hhx; have : l = 0 := by omega
                subst this
                simpa using h6
              · have hss : sz' = s := h5 hx0
                have hpos : 0 < xs.length := List.length_pos_iff.2 hx0
                have := hszx 0 hpos
                subst hss
                subst this
                rw [Nat.add_assoc, ← Nat.add_mul, show l + (cap - l) = cap by omega]
                exact h6
      · cases htk

theorem snd_slc {t e : TypeId} {lo hi : Option Value} {x : AV} {bs : List AV} {v : AV} {c : Value} {sz : Nat} (h1 : P.underlying t = some (.slice e)) (h2 : size? P e = some sz) (hx : Rel m x c)
    (hr : RelL m bs (lo.toList ++ hi.toList)) (hp : pureF (.slc sz lo.isSome hi.isSome) (x :: bs) = some v) (hs0 : 0 < sz) : ∃ cv, (Instr.slice t c lo hi none).run P w = .ok cv w ∧ Rel m v cv := by
  have hz := size?_run h2
  simp only [pureF] at hp
  split at hp
  · split at hp
    · omega
    · cases hp
  · rename_i xs tk
    split at hp
    · rename_i hc
      cases hb : boundsF lo.isSome hi.isSome xs.length bs with
      | none => rw [hb] at hp; cases hp
      | some lh =>
        rw [hb] at hp; cases hp
        obtain ⟨l, h⟩ := lh
        cases hx with
        | slnil =>
          obtain ⟨e, hl, hh⟩ := run_bounds (P := P) (w := w) (isS := true) (cap := 0) hb hr (Nat.le_refl _)
          have e1 : h = 0 := by simpa using hh
          subst e1
          have e2 : l = 0 := by omega
          subst e2
          simp at e
          exact ⟨.slice none 0 0, by simp [Instr.slice, run_underlying h1, e, hz], by simpa using Rel.slnil (m := m)⟩
        | sl _ _ a len cap sz' f ht hlen hlc hcm hs hz' hcc ho hrr hk =>
          have hx' : Rel m (.sl xs tk) (.slice (some a) len cap) := .sl xs tk a len cap sz' f ht hlen hlc hcm hs hz' hcc ho hrr hk
          obtain ⟨e, hl, hh⟩ := run_bounds (P := P) (w := w) (isS := true) (cap := cap) hb hr (by omega)
          rw [← hlen] at e
          refine ⟨_, ?_, sl_sub hx' hc.2 hc.1 hl hh⟩
          simp only [Instr.slice, Sem.run_bind, run_underlying h1, Result.andThen_ok, e, hz, Sem.run_pure, Option.map_some]
          split <;> rfl
    · cases hp
  · rename_i id off len s
    split at hp
    · rename_i hc
      obtain ⟨_, rfl⟩ := hc
      cases hb : boundsF lo.isSome hi.isSome len bs with
      | none => rw [hb] at hp; cases hp
      | some lh =>
        rw [hb] at hp; cases hp
        obtain ⟨l, h⟩ := lh
        cases hx with
        | msl _ _ _ cap _ n k1 k2 k3 k4 =>
          obtain ⟨e, hl, hh⟩ := run_bounds (P := P) (w := w) (isS := true) (cap := cap) hb hr k1
          refine ⟨.slice (some (if cap = l then ⟨id, off, none⟩ else (⟨id, off, none⟩ : Addr).add (l * s))) (h - l) (cap - l), ?_, ?_⟩
          · simp only [Instr.slice, Sem.run_bind, run_underlying h1, Result.andThen_ok, e, hz, Sem.run_pure, Option.map_some]
            split <;> rfl
          · by_cases hcl : cap = l
            · have : h - l = 0 := by omega
              show Rel m (.msl id (off + l * s) (h - l) s) _
              rw [this, show cap - l = 0 by omega]
              exact .msl0 _ _ _ _
            · rw [if_neg hcl, addr_add _ _ rfl]
              refine .msl id (off + l * s) (h - l) (cap - l) s n (by omega) (by omega) k3 ?_
              rw [Nat.add_assoc, ← Nat.add_mul, show l + (cap - l) = cap by omega]
              exact k4
        | msl0 _ _ _ a =>
          obtain ⟨e, hl, hh⟩ := run_bounds (P := P) (w := w) (isS := true) (cap := 0) hb hr (Nat.le_refl _)
          have e1 : h = 0 := by omega
          subst e1
          have e2 : l = 0 := by omega
          subst e2
          exact ⟨.slice (some a) 0 0, by simp [Instr.slice, run_underlying h1, e, hz], .msl0 _ _ _ _⟩
    · cases hp
  · cases hp

theorem snd_mkfn {f : Fn} {n : Nat} {xs : List AV} {v : AV} {fa ca : Array Value} (hr : RelL m xs (fa.toList ++ ca.toList)) (hn : n = fa.size) (hp : pureF (.mkfn f n) xs = some v) :
    ∃ cv, (Instr.makeFunc f fa ca).run P w = .ok cv w ∧ Rel m v cv := by
  have hp : (if n ≤ xs.length then some (.fn f (xs.take n) (xs.drop n)) else none) = some v := by
    rw [← hp]; rfl
  split at hp
  · rename_i hle
    cases hp
    subst hn
    have hlen := hr.1
    simp only [List.length_append, Array.length_toList] at hlen
    refine ⟨.func f fa ca, rfl, .fn f _ _ _ _ (by simp; omega) (by simp; omega) (fun i x y hx hy => ?_) (fun i x y hx hy => ?_)⟩
    · rw [List.getElem?_take] at hx
      split at hx
      · refine hr.2 i x y hx ?_
        rw [List.getElem?_append_left (by simpa using (Array.getElem?_eq_some_iff.1 hy).1)]
        simpa using hy
      · cases hx
    · rw [List.getElem?_drop] at hx
      refine hr.2 _ x y hx ?_
      rw [List.getElem?_append_right (by simp)]
      simpa using hy
  · cases hp

theorem snd_tasI {x v : AV} {c : Value} {xt t : TypeId} {ok : Bool} {z : AV} (h1 : P.underlying t = some (.interface #[])) (hz : ok = true → zero? P t = some z)
    (hx : Rel m x c) (hp : pureF (.tas none z ok) [x] = some v) (hi : ∀ u y, x = .iface u y → ∃ inf, P.info? u = some inf) : ∃ cv, (Instr.typeAssert c xt t ok).run P w = .ok cv w ∧ Rel m v cv := by
  have tup2 : ∀ {a : AV} {ca : Value} (b : Bool), Rel m a ca → Rel m (.tup [a, .bool b]) (.tuple #[ca, .bool b]) := by
    intro a ca b h
    refine .tup _ _ rfl (fun i x y hx hy => ?_)
    match i with
    | 0 => simp at hx hy; subst hx hy; exact h
    | 1 => simp at hx hy; subst hx hy; exact .bool b
    | n + 2 => simp at hx
  simp only [pureF] at hp
  split at hp
  · rename_i e; cases e
  · rename_i e; cases e
  · rename_i u y e
    cases hp
    obtain ⟨inf, hinf⟩ := hi u y rfl
    cases hx with
    | iface _ _ cv h hn =>
      have hmm : Instr.missingMethod #[] inf.methods = none := by simp [Instr.missingMethod, Instr.least]
      cases ok with
      | true => exact ⟨.tuple #[.iface u cv, .bool true], by simp [Instr.typeAssert, run_underlying h1, typeInfo, hinf, hmm], tup2 true (.iface u y cv h hn)⟩
      | false => exact ⟨.iface u cv, by simp [Instr.typeAssert, run_underlying h1, typeInfo, hinf, hmm], .iface u y cv h hn⟩
  · rename_i e
    cases hx
    split at hp
    · rename_i hok; subst hok
      cases hp
      obtain ⟨cz, hcz, hrz⟩ := zero?_run (hz rfl) w
      exact ⟨.tuple #[cz, .bool false], by simp [Instr.typeAssert, run_underlying h1, hcz], tup2 false (hrz m)⟩
    · cases hp
  · cases hp

theorem snd_ldp (hsat : Sat G B w0 m H w) {t : TypeId} {g : Bool} {sz id off : Nat} {v : AV} {c : Value} (h1 : isAgg? P t = some g) (h2 : size? P t = some sz)
    (hx : Rel m (.ptr id off) c) {vs : List AV} (hm : (id, AObj.cells vs) ∈ H) (hp : if g then off + sz ≤ vs.length ∧ v = .agg ((vs.drop off).take sz) else vs[off]? = some v) :
    ∃ cv, (Instr.loadAt t c).run P w = .ok cv w ∧ Rel m v cv := by
  have hg := isAgg?_run h1
  have hz := size?_run h2
  obtain ⟨_, _, cs, e, fr, hb, hlen, hfr, hno, hcell⟩ := hsat.obj _ _ hm
  have hc : ∀ i, i < vs.length → ∃ u, w.cell? ⟨id, i, none⟩ = some u ∧ (∀ x, vs[i]? = some x → Rel m x u) ∧ u.oneCell' = true := by
    intro i hi
    obtain ⟨u, hu, hr, h1⟩ := hcell i vs[i] (List.getElem?_eq_getElem hi)
    refine ⟨u, by simp [World.cell?, hb, hu], fun x hx => ?_, h1⟩
    rw [List.getElem?_eq_getElem hi] at hx; cases hx; exact hr
  cases hx
  cases g with
  | true =>
    simp only [if_true] at hp
    obtain ⟨hle, rfl⟩ := hp
    have hf : ∃ f : Nat → Value, ∀ j, j < sz → w.cell? ⟨id, off + j, none⟩ = some (f j) ∧ (∀ x, vs[off + j]? = some x → Rel m x (f j)) ∧ (f j).oneCell' = true := by
      refine ⟨fun j => (w.cell? ⟨id, off + j, none⟩).getD default, fun j hj => ?_⟩
      obtain ⟨u, h1, h2, h3⟩ := hc (off + j) (by omega)
      simp only [h1, Option.getD_some]; exact ⟨trivial, h2, h3⟩
    obtain ⟨f, hf⟩ := hf
    have hl := run_loadCells_known (P := P) sz ⟨id, off, none⟩ f w 0 #[] (fun j hj => by
      rw [addr_add _ _ rfl]; simpa using (hf j hj).1)
    simp only [Nat.zero_add, Array.empty_append] at hl
    refine ⟨_, by simp only [Instr.loadAt, Instr.sureAddr, Sem.run_bind, Sem.run_pure, Result.andThen_ok, loadVar, hg, if_true, hz, loadCells, hl]; rfl, ?_⟩
    refine .agg _ _ (by simp; omega) (fun i y hy => ?_) (fun i x y hx hy => ?_)
    · rw [Array.getElem?_ofFn] at hy
      split at hy
      · have e := Option.some.inj hy; subst e; exact (hf i (by omega)).2.2
      · cases hy
    · rw [Array.getElem?_ofFn] at hy
      split at hy
      · rename_i hin
        have e := Option.some.inj hy; subst e
        rw [List.getElem?_take, if_pos hin, List.getElem?_drop] at hx
        exact (hf i hin).2.1 x hx
      · cases hy
  | false =>
    simp only [Bool.false_eq_true, if_false] at hp
    have hlt := (List.getElem?_eq_some_iff.1 hp).1
    obtain ⟨u, h1, h2, h3⟩ := hc off hlt
    exact ⟨u, by simp only [Instr.loadAt, Instr.sureAddr, Sem.run_bind, Sem.run_pure, Result.andThen_ok, loadVar, hg, Bool.false_eq_true, if_false, run_load, h1], h2 v hp⟩

theorem snd_lenm (hsat : Sat G B w0 m H w) {t ty k e : TypeId} {id : Nat} {c : Value} (h1 : P.underlying t = some (.map k e)) (hx : Rel m (.map id) c) {es : List (AV × AV)} (hm : (id, AObj.map es) ∈ H) :
    ∃ cv, (Builtin.len_ #[t] ty #[c]).run P w = .ok cv w ∧ Rel m (.int .i64 es.length) cv := by
  obtain ⟨_, _, ents, clock, hb, hl, _⟩ := hsat.obj _ _ hm
  cases hx
  refine ⟨.int .i64 ents.size, ?_, by rw [hl]; exact .int _ _⟩
  simp [Builtin.len_, run_underlying h1, getObj, Sem.run, hb, goInt]

/-- Scalar keys. -/
theorem same_now {kt : TypeId} {d : TypeDesc} {a b : AV} {c e : Value} {kd : Nat} (hk : kindT P kt = some kd) (hu : P.underlying kt = some d) (ha : Rel m a c) (hb : Rel m b e) (hkd : a.kindN = kd) {r : Bool}
    (h : a.same b = some r) : Instr.sameNow d c e = some r := by
  unfold kindT at hk
  rw [hu] at hk
  cases a with
  | bool x =>
    cases b <;> simp [AV.same] at h
    cases ha; cases hb
    simp only [AV.kindN] at hkd; subst hkd
    cases d <;> simp at hk
    subst h
    simp only [Instr.sameNow, Option.some.injEq]; rw [Bool.eq_iff_iff]; simp
  | int k x =>
    cases b <;> simp [AV.same] at h
    cases ha; cases hb
    simp only [AV.kindN] at hkd; subst hkd
    cases d <;> simp at hk
    obtain ⟨rfl, rfl⟩ := h
    simp only [Instr.sameNow, if_true, Option.some.injEq]; rw [Bool.eq_iff_iff]; simp
  | str x =>
    cases b <;> simp [AV.same] at h
    cases ha; cases hb
    simp only [AV.kindN] at hkd; subst hkd
    cases d <;> simp at hk
    subst h
    simp only [Instr.sameNow, Option.some.injEq]
    rw [beq_toListBytes, ByteArray.toList_eq, ByteArray.toList_eq, Bool.eq_iff_iff]; simp
  | _ => simp only [AV.kindN] at hkd; subst hkd; cases d <;> simp at hk

theorem find_now {kt : TypeId} {d : TypeDesc} {a : AV} {c : Value} {kd : Nat} (hk : kindT P kt = some kd) (hu : P.underlying kt = some d) (ha : Rel m a c) (hkd : a.kindN = kd) :
    ∀ (es : List (AV × AV)) (ents : List MapEntry) (j : Nat) (r : Option AV), es.length = ents.length → (∀ (i : Nat) (k v : AV) (x : MapEntry), es[i]? = some (k, v) → ents[i]? = some x → Rel m k x.key ∧ Rel m v x.val) →
      lookA a es = some r → ∃ q, Instr.findNow d c ents j = some q ∧ (match r, q with
        | none, none => True
        | some v, some (i, u) => ∃ i', i = j + i' ∧ (∃ k x, es[i']? = some (k, v) ∧ ents[i']? = some x ∧ x.val = u ∧ a.same k = some true) ∧ Rel m v u ∧ ∀ i'' k v', i'' < i' → es[i'']? = some (k, v') → a.same k = some false
        | _, _ => False)
  | [], ents, j, r, hl, hr, h => by
    have : ents = [] := by cases ents with | nil => rfl | cons _ _ => simp at hl
    subst this
    simp [lookA] at h; subst h
    exact ⟨none, rfl, trivial⟩
  | (k, v) :: es, ents, j, r, hl, hr, h => by
    cases ents with
    | nil => simp at hl
    | cons x ents =>
      obtain ⟨h1, h2⟩ := hr 0 k v x rfl rfl
      simp only [lookA] at h
      split at h
      · rename_i hs
        cases h
        refine ⟨some (j, x.val), by simp [Instr.findNow, same_now hk hu ha h1 hkd hs], 0, rfl, ⟨k, x, rfl, rfl, rfl, hs⟩, h2, fun i'' k v' hlt => by omega⟩
      · rename_i hs
        obtain ⟨q, hq, hm⟩ := find_now hk hu ha hkd es ents (j + 1) r (by simpa using hl) (fun i k v x h1 h2 => hr (i + 1) k v x (by simpa using h1) (by simpa using h2)) h
        refine ⟨q, by simp [Instr.findNow, same_now hk hu ha h1 hkd hs, hq], ?_⟩
        cases r with
        | none => cases q with | none => trivial | some _ => exact hm
        | some v =>
          cases q with
          | none => exact hm
          | some iu =>
            obtain ⟨i, u⟩ := iu
            obtain ⟨i', e1, ⟨k', x', e2, e3, e4, e5⟩, e6, e7⟩ := hm
            refine ⟨i' + 1, by omega, ⟨k', x', by simpa using e2, by simpa using e3, e4, e5⟩, e6, fun i'' k1 v1 hlt he => ?_⟩
            cases i'' with
            | zero => simp at he; rw [← he.1]; exact hs
            | succ i'' => exact e7 i'' k1 v1 (by omega) (by simpa using he)
      · cases h

theorem run_checkKey {kt : TypeId} {kd : Nat} {c : Value} (hk : kindT P kt = some kd) (e : Bool) : (Instr.checkKey e 10000 kt c).run P w = .ok () w := by
  unfold kindT at hk
  show (Instr.checkKey e (9999 + 1) kt c).run P w = _
  rw [Instr.checkKey]
  split at hk <;> first | (cases hk; done) | skip
  all_goals (rename_i hu; simp only [Sem.run_bind, run_underlying hu, Result.andThen_ok]; rfl)

theorem found_rel {z : AV} {u : Value} {v : AV} {ok : Bool} (h : Rel m v u) : Rel m (foundA z ok (some v)) (if ok then .tuple #[u, .bool true] else u) := by
  cases ok
  · exact h
  · refine .tup _ _ rfl (fun i x y hx hy => ?_)
    match i with
    | 0 => simp at hx hy; subst hx hy; exact h
    | 1 => simp at hx hy; subst hx hy; exact .bool _
    | n + 2 => simp at hx

theorem nfound_rel {z : AV} {cz : Value} {ok : Bool} (h : Rel m z cz) : Rel m (foundA z ok none) (if ok then .tuple #[cz, .bool false] else cz) := by
  cases ok
  · exact h
  · refine .tup _ _ rfl (fun i x y hx hy => ?_)
    match i with
    | 0 => simp at hx hy; subst hx hy; exact h
    | 1 => simp at hx hy; subst hx hy; exact .bool _
    | n + 2 => simp at hx

theorem snd_lkp_nil {t k e : TypeId} {kd : Nat} {z key v : AV} {ck : Value} {ok : Bool} (h1 : P.underlying t = some (.map k e)) (h2 : kindT P k = some kd) (h3 : zero? P e = some z) (hp : pureF (.lkp kd z ok) [.nilm, key] = some v) :
    ∃ cv, (Instr.lookup t (.map none) ck ok).run P w = .ok cv w ∧ Rel m v cv := by
  obtain ⟨cz, hcz, hrz⟩ := zero?_run h3 w
  simp only [pureF] at hp
  split at hp
  · cases hp
    have hck := run_checkKey (w := w) (c := ck) h2 true
    unfold kindT at h2
    cases hu : P.underlying k with
    | none => rw [hu] at h2; cases h2
    | some d =>
      refine ⟨_, ?_, nfound_rel (hrz m)⟩
      simp [Instr.lookup, run_underlying h1, hck, Instr.findKey, run_underlying hu, Instr.findNow, hcz]
  · cases hp

theorem snd_lkp (hsat : Sat G B w0 m H w) {t k e : TypeId} {kd id : Nat} {z key : AV} {c ck : Value} {ok : Bool} (h1 : P.underlying t = some (.map k e)) (h2 : kindT P k = some kd) (h3 : zero? P e = some z)
    (hx : Rel m (.map id) c) (hk : Rel m key ck) (hkd : key.kindN = kd) {es : List (AV × AV)} {r : Option AV} (hm : (id, AObj.map es) ∈ H) (hl : lookA key es = some r) :
    ∃ cv, (Instr.lookup t c ck ok).run P w = .ok cv w ∧ Rel m (foundA z ok r) cv := by
  obtain ⟨_, _, ents, clock, hb, hlen, hr⟩ := hsat.obj _ _ hm
  obtain ⟨cz, hcz, hrz⟩ := zero?_run h3 w
  cases hx
  cases hu : P.underlying k with
  | none => unfold kindT at h2; rw [hu] at h2; cases h2
  | some d =>
    obtain ⟨q, hq, hm⟩ := find_now h2 hu hk hkd es ents.toList 0 r (by simpa using hlen) (fun i k v x h1 h2 => hr i k v x h1 (by simpa using h2)) hl
    have hck := run_checkKey (w := w) (c := ck) h2 ents.isEmpty
    have hg : (getObj id).run P w = .ok (.map ents clock) w := by simp [getObj, Sem.run, hb]
    cases r with
    | none =>
      cases q with
      | some _ => exact hm.elim
      | none => exact ⟨_, by simp [Instr.lookup, run_underlying h1, hg, hck, Instr.findKey, run_underlying hu, hq, hcz] <;> rfl, nfound_rel (hrz m)⟩
    | some v =>
      cases q with
      | none => exact hm.elim
      | some iu =>
        obtain ⟨i, u⟩ := iu
        obtain ⟨i', _, _, hrv, _⟩ := hm
        exact ⟨_, by simp [Instr.lookup, run_underlying h1, hg, hck, Instr.findKey, run_underlying hu, hq] <;> rfl, found_rel hrv⟩

end
end Go.AL

/- The abstract layer, part 8: every operation that writes nothing is sound. -/
namespace Go.AL
open Go.RowKit

section
variable {G : Nat → Option (List AV)} {B : Nat} {w0 w w' : World} {m m' : Im} {H H' : Heap} {P : Program}

theorem exec_v {ρ : Operand → Value} {o : Oper} {s : Sem Value} {cv : Value} (h : execOp ρ o = (do pure (.value (← s)))) (hs : s.run P w = .ok cv w) : (execOp ρ o).run P w = .ok (.value cv) w := by
  rw [h]; simp [hs]

/-- What an operation yields that writes nothing, in the model. -/
def Yv (P : Program) (m : Im) (w : World) (s : Sem Next) (v : AV) : Prop := ∃ cv, s.run P w = .ok (.value cv) w ∧ Rel m v cv

theorem Yv.of {s : Sem Value} {v : AV} (h : ∃ cv, s.run P w = .ok cv w ∧ Rel m v cv) : Yv P m w (do pure (.value (← s))) v := by
  obtain ⟨cv, h1, h2⟩ := h
  exact ⟨cv, by simp [h1], h2⟩

theorem Rd.pure1 {op : AOp} {xs : List AV} {v : AV} (h : Rd op xs H v) (hn : ∀ agg sz id off, ¬ (op = .ld agg sz ∧ xs = [.ptr id off])) (h2 : ∀ id, ¬ (op = .len 2 ∧ xs = [.map id]))
    (h3 : ∀ kd z ok id k, ¬ (op = .lkp kd z ok ∧ xs = [.map id, k])) (h4 : ∀ id off n s, ¬ (op = .cvb ∧ xs = [.msl id off n s])) : pureF op xs = some v := by
  unfold Rd at h
  rcases h with h | h
  · exact h
  · split at h
    · exact absurd ⟨rfl, rfl⟩ (hn _ _ _ _)
    · exact absurd ⟨rfl, rfl⟩ (h2 _)
    · exact absurd ⟨rfl, rfl⟩ (h3 _ _ _ _ _)
    · exact absurd ⟨rfl, rfl⟩ (h4 _ _ _ _)
    · exact h.elim

theorem sliceAt_run {t : TypeId} {x : Value} {lo hi : Option Value} (h : ∀ n e, P.underlying t ≠ some (.array n e)) : (Instr.sliceAt t x lo hi none).run P w = (Instr.slice t x lo hi none).run P w := by
  unfold Instr.sliceAt
  cases hu : P.underlying t with
  | none => simp [underlying, Instr.slice, hu]
  | some d =>
    simp only [Sem.run_bind, run_underlying hu, Result.andThen_ok]
    cases d <;> first | rfl | (exact absurd hu (h _ _))

theorem bytesOf_one : ∀ (l : List AV) (bs : List UInt8), bytesOf l = some bs → ∀ x ∈ l, x.cells = [x]
  | [], _, _, x, hx => by cases hx
  | y :: l, bs, hb, x, hx => by
    unfold bytesOf at hb
    split at hb
    · rename_i e; cases e
    · rename_i n r e; cases e
      cases hb' : bytesOf l with
      | none => rw [hb'] at hb; cases hb
      | some q =>
        rcases List.mem_cons.1 hx with rfl | hx
        · rfl
        · exact bytesOf_one l q hb' x hx
    · cases hb

theorem snd_cvbm (hsat : Sat G B w0 m H w) {s d e : TypeId} {id off n : Nat} {c : Value} (h1 : P.underlying s = some (.slice e)) (h2 : P.underlying d = some .string) (h3 : P.underlying e = some (.int .u8))
    (hx : Rel m (.msl id off n 1) c) {vs : List AV} {bs : List UInt8} (hm : (id, AObj.cells vs) ∈ H) (hle : off + n ≤ vs.length) (hb : bytesOf ((vs.drop off).take n) = some bs) :
    ∃ cv, (convert s d c).run P w = .ok cv w ∧ Rel m (.str bs) cv := by
  refine ⟨.string ⟨bs.toArray⟩, ?_, by simpa using Rel.str (m := m) ⟨bs.toArray⟩⟩
  obtain ⟨_, _, cs, el, fr, hblk, hlen, hfr, hno, hcell⟩ := hsat.obj _ _ hm
  have hcv : ∀ c, (match c with | .slice .. => True | _ => False) → (convert s d c).run P w = (Conv.bytesToString c).run P w := by
    intro c hc
    split at hc
    · simp [convert, run_underlying h1, run_underlying h2, run_underlying h3]
    · cases hc
  have main : ∀ cap, (Conv.bytesToString (.slice (some ⟨id, off, none⟩) n cap)).run P w = .ok (.string ⟨bs.toArray⟩) w := by
    intro cap
    refine run_bytesToString (m := m) (f := fun i => (w.cell? ⟨id, off + i, none⟩).getD default) (xs := (vs.drop off).take n) (fun j hj => ?_) (by simp; omega) (fun i x hx => ?_) hb
    · obtain ⟨u, hu, _, _⟩ := hcell (off + j) vs[off + j] (List.getElem?_eq_getElem (by omega))
      rw [addr_add _ _ rfl]
      simp [World.cell?, hblk, hu]
    · rw [List.getElem?_take] at hx
      split at hx
      · rw [List.getElem?_drop] at hx
        obtain ⟨u, hu, hr, _⟩ := hcell (off + i) x hx
        simpa [World.cell?, hblk, hu] using hr
      · cases hx
  cases hx with
  | msl _ _ _ cap => rw [hcv _ trivial]; exact main cap
  | msl0 _ _ _ a =>
    rw [hcv _ trivial]
    simp [bytesOf] at hb; subst hb
    simp [Conv.bytesToString, loadCells, loadCellsFrom]
    rfl

theorem run_places : ∀ (l : List Field), l.all (fun (f : Field) => (size? P f.type).isSome) = true →
    (l.mapM (fun (f : Field) => (do pure (f.offset, ← sizeOf f.type) : Sem (Nat × Nat)))).run P w = .ok (l.map fun f => (f.offset, (size? P f.type).getD 0)) w
  | [], _ => by simp
  | f :: l, h => by
    simp only [List.all_cons, Bool.and_eq_true] at h
    cases hs : size? P f.type with
    | none => rw [hs] at h; simp at h
    | some s =>
      have hz := size?_run hs w
      rw [List.mapM_cons]
      simp only [Sem.run_bind, hz, Result.andThen_ok, Sem.run_pure, run_places l h.2, List.map_cons, hs, Option.getD_some]

theorem mapM_len {α β : Type} {f : α → Option β} : ∀ {l : List α} {r : List β}, l.mapM f = some r → r.length = l.length ∧ ∀ (i : Nat) (a : α) (b : β), l[i]? = some a → r[i]? = some b → f a = some b
  | [], r, h => by simp at h; subst h; simp
  | a :: l, r, h => by
    rw [List.mapM_cons] at h
    cases ha : f a with
    | none => rw [ha] at h; simp at h
    | some b =>
      rw [ha] at h
      cases hl : l.mapM f with
      | none => rw [hl] at h; simp at h
      | some r' =>
        rw [hl] at h; simp at h; subst h
        obtain ⟨h1, h2⟩ := mapM_len hl
        refine ⟨by simp [h1], fun i x y hx hy => ?_⟩
        cases i with
        | zero => simp at hx hy; subst hx hy; exact ha
        | succ i => exact h2 i x y (by simpa using hx) (by simpa using hy)

theorem rd_sound (hsat : Sat G B w0 m H w) {ρ : Operand → Value} {o : Oper} {op : AOp} {os : List Operand} {xs : List AV} {v : AV} (hc : compOp P o.op = some (op, os)) (hr : RelL m xs (os.map ρ)) (hq : op.quiet = true) (h : Rd op xs H v) :
    Yv P m w (execOp ρ o) v := by
  have one : ∀ {x : Operand}, os = [x] → ∃ a, xs = [a] ∧ Rel m a (ρ x) := by
    intro x e
    subst e
    match xs, hr with
    | [a], hr => exact ⟨a, rfl, hr.2 0 _ _ rfl rfl⟩
    | [], hr => have := hr.1; simp at this
    | _ :: _ :: _, hr => have := hr.1; simp at this
  have two : ∀ {x y : Operand}, os = [x, y] → ∃ a b, xs = [a, b] ∧ Rel m a (ρ x) ∧ Rel m b (ρ y) := by
    intro x y e
    subst e
    match xs, hr with
    | [a, b], hr => exact ⟨a, b, rfl, hr.2 0 _ _ rfl rfl, hr.2 1 _ _ rfl rfl⟩
    | [], hr => have := hr.1; simp at this
    | [_], hr => have := hr.1; simp at this
    | _ :: _ :: _ :: _, hr => have := hr.1; simp at this
  obtain ⟨dst, oo, ty, pos, after, guard⟩ := o
  simp only at hc
  cases oo with
  | move x =>
    simp only [compOp, Option.some.injEq, Prod.mk.injEq] at hc; obtain ⟨rfl, rfl⟩ := hc
    obtain ⟨a, rfl, ha⟩ := one rfl
    have hp := h.pure1 (by simp) (by simp) (by simp) (by simp)
    simp only [pureF, Option.some.injEq] at hp; subst hp
    exact ⟨ρ x, rfl, ha⟩
  | assign x =>
    simp only [compOp, Option.some.injEq, Prod.mk.injEq] at hc; obtain ⟨rfl, rfl⟩ := hc
    obtain ⟨a, rfl, ha⟩ := one rfl
    have hp := h.pure1 (by simp) (by simp) (by simp) (by simp)
    simp only [pureF, Option.some.injEq] at hp; subst hp
    exact ⟨ρ x, rfl, ha⟩
  | pick c a b =>
    simp only [compOp, Option.some.injEq, Prod.mk.injEq] at hc; obtain ⟨rfl, rfl⟩ := hc
    have hp := h.pure1 (by simp) (by simp) (by simp) (by simp)
    obtain ⟨y, ys, e, h1, h2⟩ : ∃ c0 r, xs = c0 :: r ∧ Rel m c0 (ρ c) ∧ RelL m r [ρ a, ρ b] := by
      cases xs with
      | nil => have := hr.1; simp at this
      | cons c0 r => obtain ⟨_, _, e, h1, h2⟩ := hr.uncons; simp at e; obtain ⟨rfl, rfl⟩ := e; exact ⟨c0, r, rfl, h1, h2⟩
    subst e
    match ys, h2 with
    | [p, q], h2 =>
      have hp1 := h2.2 0 _ _ rfl rfl
      have hq1 := h2.2 1 _ _ rfl rfl
      cases y <;> simp [pureF] at hp
      subst hp
      generalize hcc : ρ c = cc at h1
      cases h1
      rename_i bb
      cases bb
      · exact ⟨ρ b, by simp [execOp, hcc, asBool], hq1⟩
      · exact ⟨ρ a, by simp [execOp, hcc, asBool], hp1⟩
    | [], h2 => have := h2.1; simp at this
    | [_], h2 => have := h2.1; simp at this
    | _ :: _ :: _ :: _, h2 => have := h2.1; simp at this
  | nilCheck x =>
    simp only [compOp, Option.some.injEq, Prod.mk.injEq] at hc; obtain ⟨rfl, rfl⟩ := hc
    obtain ⟨a, rfl, ha⟩ := one rfl
    have hp := h.pure1 (by simp) (by simp) (by simp) (by simp)
    simp only [pureF] at hp
    generalize hcc : ρ x = cc at ha
    have ka := ha
    split at hp
    · cases hp; cases ha; exact ⟨_, by simp [execOp, hcc] <;> rfl, ka⟩
    · cases hp; cases ha; exact ⟨_, by simp [execOp, hcc] <;> rfl, ka⟩
    · cases hp; cases ha; exact ⟨_, by simp [execOp, hcc] <;> rfl, ka⟩
    · cases hp
  | load t a =>
    simp only [compOp] at hc
    cases hg : isAgg? P t with
    | none => rw [hg] at hc; cases hc
    | some g =>
      rw [hg] at hc
      cases hs : size? P t with
      | none => rw [hs] at hc; cases hc
      | some s =>
        rw [hs] at hc; cases hc
        obtain ⟨x, rfl, hx⟩ := one rfl
        refine .of ?_
        rcases h with hp | hp
        · cases x with
          | iptr cs => exact snd_ldi hsat hg hs hx hp
          | _ => simp [pureF] at hp
        · cases x with
          | ptr id off => obtain ⟨vs, hm, hv⟩ := hp; exact snd_ldp hsat hg hs hx hm hv
          | _ => simp at hp
  | extract x i =>
    simp only [compOp, Option.some.injEq, Prod.mk.injEq] at hc; obtain ⟨rfl, rfl⟩ := hc
    obtain ⟨a, rfl, ha⟩ := one rfl
    have hp := h.pure1 (by simp) (by simp) (by simp) (by simp)
    refine .of ?_
    cases a with
    | tup vs => exact snd_ext ha hp
    | _ => simp [pureF] at hp
  | unOp u t x =>
    simp only [compOp, Option.some.injEq, Prod.mk.injEq] at hc; obtain ⟨rfl, rfl⟩ := hc
    obtain ⟨a, rfl, ha⟩ := one rfl
    have hp := h.pure1 (by simp) (by simp) (by simp) (by simp)
    exact .of (snd_un ha (by simpa [pureF] using hp))
  | binOp b t x y yt =>
    by_cases hb : b = .eql ∨ b = .neq
    · have hc' : (match P.underlying t with
          | some (.struct fs) => (fs.toList.mapM (fun (f : Field) => kindT P f.type)).bind fun ks =>
            if fs.toList.all (fun f => f.name != "_" && (size? P f.type == some 1)) && fs.toList.map (·.offset) == List.range fs.size
              && !P.stoodInHeld t && !P.eqGuardType P.depth t then some (.eqs (b == .neq) ks, [x, y]) else none
          | some d => (eqKind d).map fun kd => (.eqg (b == .neq) kd, [x, y])
          | none => none) = some (op, os) := by rcases hb with rfl | rfl <;> exact hc
      clear hc
      cases hu : P.underlying t with
      | none => rw [hu] at hc'; cases hc'
      | some d =>
        rw [hu] at hc'
        by_cases hs : ∃ fs, d = .struct fs
        · obtain ⟨fs, rfl⟩ := hs
          simp only at hc'
          cases hks : fs.toList.mapM (fun (f : Field) => kindT P f.type) with
          | none => rw [hks] at hc'; cases hc'
          | some ks =>
            rw [hks] at hc'
            simp only [Option.bind_some] at hc'
            split at hc'
            · rename_i hcond
              cases hc'
              obtain ⟨a, e, rfl, ha, he⟩ := two rfl
              simp only [Bool.and_eq_true, List.all_eq_true, bne_iff_ne, ne_eq, beq_iff_eq, Bool.not_eq_true'] at hcond
              have hp := h.pure1 (by simp) (by simp) (by simp) (by simp)
              refine .of ?_
              cases a with
              | agg as => cases e with
                | agg es => exact snd_eqs hu hks (fun f hf => (hcond.1.1.1 f hf).1) hcond.1.1.2 hcond.1.2 hcond.2 hb ha he hp
                | _ => simp [pureF] at hp
              | _ => simp [pureF] at hp
            · cases hc'
        · have hc2 : (eqKind d).map (fun kd => (AOp.eqg (b == .neq) kd, [x, y])) = some (op, os) := by
            cases d <;> first | exact hc' | (exact absurd ⟨_, rfl⟩ hs)
          cases hk : eqKind d with
          | none => rw [hk] at hc2; cases hc2
          | some kd =>
            rw [hk] at hc2; cases hc2
            obtain ⟨a, e, rfl, ha, he⟩ := two rfl
            have hp := h.pure1 (by simp) (by simp) (by simp) (by simp)
            exact .of (snd_eqg hu hk hb ha he hp)
    · have hne : b ≠ .eql ∧ b ≠ .neq := ⟨fun e => hb (.inl e), fun e => hb (.inr e)⟩
      have hc' : some (AOp.bin b, [x, y]) = some (op, os) := by
        cases b <;> first | exact hc | (exact absurd rfl hne.1) | (exact absurd rfl hne.2)
      cases hc'
      obtain ⟨a, e, rfl, ha, he⟩ := two rfl
      have hp := h.pure1 (by simp) (by simp) (by simp) (by simp)
      refine .of ?_
      obtain ⟨cv, h1, h2⟩ := snd_bin (t := t) (w := w) (P := P) ha he (by simpa [pureF] using hp) hne
      refine ⟨cv, ?_, h2⟩
      have hg : eqGuard b t x y (ρ x) (ρ y) = pure () := by
        unfold eqGuard
        cases b <;> first | rfl | (exact absurd rfl hne.1) | (exact absurd rfl hne.2)
      rw [hg]; simpa using h1
  | convert s d x =>
    simp only [compOp] at hc
    split at hc
    · rename_i k1 k2 hs hd
      cases hc
      obtain ⟨a, rfl, ha⟩ := one rfl
      have hp := h.pure1 (by simp) (by simp) (by simp) (by simp)
      cases a with
      | int kn n => exact .of (snd_cvi hs hd ha hp)
      | _ => simp [pureF] at hp
    · rename_i hs hd
      cases hc
      obtain ⟨a, rfl, ha⟩ := one rfl
      have hp := h.pure1 (by simp) (by simp) (by simp) (by simp)
      cases a with
      | str l => exact .of (snd_cvs hs hd ha hp)
      | _ => simp [pureF] at hp
    · rename_i k hs hd
      cases hc
      obtain ⟨a, rfl, ha⟩ := one rfl
      have hp := h.pure1 (by simp) (by simp) (by simp) (by simp)
      cases a with
      | int kn n => exact .of (snd_cvc hs hd ha hp)
      | _ => simp [pureF] at hp
    · rename_i e hs hd
      split at hc
      · rename_i he
        cases hc
        obtain ⟨a, rfl, ha⟩ := one rfl
        refine .of ?_
        rcases h with hp | hp
        · cases a with
          | sl l t => exact snd_cvb hsat hs hd he ha hp
          | _ => simp [pureF] at hp
        · cases a with
          | msl id off n sz => obtain ⟨rfl, vs, bs, hm, hle, hb, rfl⟩ := hp; exact snd_cvbm hsat hs hd he ha hm hle hb
          | _ => simp at hp
      · rename_i he
        cases hc
        obtain ⟨a, rfl, ha⟩ := one rfl
        have hp := h.pure1 (by simp) (by simp) (by simp) (by simp)
        refine .of ?_
        cases a with
        | sl l t => exact snd_cvr hsat hs hd he ha hp
        | _ => simp [pureF] at hp
      · cases hc
    · split at hc
      · cases hc
        exfalso
        have hp := h.pure1 (by simp) (by simp) (by simp) (by simp)
        obtain ⟨a, rfl, ha⟩ := one rfl
        simp [pureF] at hp
      · cases hc
    · exfalso
      split at hc
      · split at hc
        · cases hc; cases hq
        · cases hc
      · cases hc
    · cases hc
  | makeInterface t x =>
    simp only [compOp] at hc
    split at hc
    · cases hc
    · cases hc
    · rename_i d hn hd
      cases hc
      obtain ⟨a, rfl, ha⟩ := one rfl
      have hp := h.pure1 (by simp) (by simp) (by simp) (by simp)
      exact .of (snd_mkif hd hn ha hp)
  | makeFunc f fs cs =>
    simp only [compOp, Option.some.injEq, Prod.mk.injEq] at hc; obtain ⟨rfl, rfl⟩ := hc
    have hp := h.pure1 (by simp) (by simp) (by simp) (by simp)
    refine .of (snd_mkfn (fa := fs.map ρ) (ca := cs.map ρ) (by simpa using hr) (by simp) hp)
  | slice t x lo hi mx =>
    cases mx with
    | some _ => simp [compOp] at hc
    | none =>
      simp only [compOp] at hc
      have hl : (lo.map ρ).isSome = lo.isSome := by cases lo <;> rfl
      have hh : (hi.map ρ).isSome = hi.isSome := by cases hi <;> rfl
      have hlist : (lo.toList ++ hi.toList).map ρ = (lo.map ρ).toList ++ (hi.map ρ).toList := by cases lo <;> cases hi <;> rfl
      split at hc
      · rename_i hu
        cases hc
        have hp := h.pure1 (by simp) (by simp) (by simp) (by simp)
        cases xs with
        | nil => have := hr.1; simp at this
        | cons a bs =>
          obtain ⟨_, _, e, ha, hbs⟩ := hr.uncons
          simp only [List.map_cons, List.cons.injEq] at e
          obtain ⟨rfl, rfl⟩ := e
          rw [hlist] at hbs
          rw [← hl, ← hh] at hp
          refine .of ?_
          cases a with
          | str l => simp only [Option.map_none]; rw [sliceAt_run (by rw [hu]; simp)]; exact snd_slc_str hu ha hbs hp
          | sl l t => simp [pureF] at hp
          | msl id off len s => simp [pureF] at hp
          | _ => simp [pureF] at hp
      · rename_i e hu
        cases hs : size? P e with
        | none => rw [hs] at hc; cases hc
        | some s =>
          rw [hs] at hc
          simp only [Option.bind_some] at hc
          split at hc
          · rename_i hs0
            cases hc
            have hp := h.pure1 (by simp) (by simp) (by simp) (by simp)
            cases xs with
            | nil => have := hr.1; simp at this
            | cons a bs =>
              obtain ⟨_, _, e, ha, hbs⟩ := hr.uncons
              simp only [List.map_cons, List.cons.injEq] at e
              obtain ⟨rfl, rfl⟩ := e
              rw [hlist] at hbs
              rw [← hl, ← hh] at hp
              refine .of ?_
              simp only [Option.map_none]
              rw [sliceAt_run (by rw [hu]; simp)]
              exact snd_slc hu hs ha hbs hp hs0
          · cases hc
      · exfalso
        rename_i n e hu
        cases hs : size? P e with
        | none => rw [hs] at hc; cases hc
        | some s =>
          rw [hs] at hc
          simp only [Option.bind_some] at hc
          split at hc
          · cases hc; cases hq
          · cases hc
      · cases hc
  | fieldAddr t x i =>
    simp only [compOp] at hc
    split at hc
    · rename_i fs hu
      cases hf : fs[i]? with
      | none => rw [hf] at hc; cases hc
      | some f =>
        rw [hf] at hc
        cases hs : size? P f.type with
        | none => simp [hs] at hc
        | some s =>
          simp only [Option.bind_some, hs] at hc
          split at hc
          · rename_i h0
            cases hc
            obtain ⟨a, rfl, ha⟩ := one rfl
            have hp := h.pure1 (by simp) (by simp) (by simp) (by simp)
            exact .of (snd_faddr hu hf hs h0 ha hp)
          · cases hc
    · cases hc
  | field t x i =>
    simp only [compOp] at hc
    split at hc
    · rename_i fs hu
      cases hf : fs[i]? with
      | none => rw [hf] at hc; cases hc
      | some f =>
        rw [hf] at hc
        cases hg : isAgg? P f.type with
        | none => simp [hg] at hc
        | some g =>
          cases hs : size? P f.type with
          | none => simp [hg, hs] at hc
          | some s =>
            simp only [Option.bind_some, hg, hs, Option.map_some, Option.some.injEq, Prod.mk.injEq] at hc
            obtain ⟨rfl, rfl⟩ := hc
            obtain ⟨a, rfl, ha⟩ := one rfl
            have hp := h.pure1 (by simp) (by simp) (by simp) (by simp)
            refine .of ?_
            cases a with
            | agg cs => exact snd_fld hu hf hg hs ha hp
            | _ => simp [pureF] at hp
    · cases hc
  | indexAddr t x i =>
    simp only [compOp] at hc
    split at hc
    · rename_i e hu
      cases hs : size? P e with
      | none => simp [hs] at hc
      | some s =>
        simp only [hs, Option.bind_some] at hc
        split at hc
        · rename_i h0
          cases hc
          obtain ⟨a, b, rfl, ha, hb⟩ := two rfl
          have hp := h.pure1 (by simp) (by simp) (by simp) (by simp)
          refine .of ?_
          cases b with
          | int k n => generalize hcc : ρ i = cc at hb; cases hb; exact snd_iaddr hu hs ha hp
          | _ => simp [pureF] at hp
        · cases hc
    · rename_i n e hu
      cases hs : size? P e with
      | none => simp [hs] at hc
      | some s =>
        simp only [hs, Option.bind_some] at hc
        split at hc
        · rename_i h0
          cases hc
          obtain ⟨a, b, rfl, ha, hb⟩ := two rfl
          have hp := h.pure1 (by simp) (by simp) (by simp) (by simp)
          refine .of ?_
          cases b with
          | int k n => generalize hcc : ρ i = cc at hb; cases hb; exact snd_aaddr hu hs ha hp
          | _ => simp [pureF] at hp
        · cases hc
    · cases hc
  | index t x i =>
    simp only [compOp] at hc
    split at hc
    · rename_i hu
      cases hc
      obtain ⟨a, b, rfl, ha, hb⟩ := two rfl
      have hp := h.pure1 (by simp) (by simp) (by simp) (by simp)
      refine .of ?_
      cases a with
      | str l => cases b with
        | int k n => generalize hcc : ρ i = cc at hb; cases hb; exact snd_ixs hu ha hp
        | _ => simp [pureF] at hp
      | _ => simp [pureF] at hp
    · rename_i n e hu
      cases hg : isAgg? P e with
      | none => simp [hg] at hc
      | some g =>
        cases hs : size? P e with
        | none => simp [hg, hs] at hc
        | some s =>
          simp only [hg, hs, Option.bind_some, Option.map_some, Option.some.injEq, Prod.mk.injEq] at hc
          obtain ⟨rfl, rfl⟩ := hc
          obtain ⟨a, b, rfl, ha, hb⟩ := two rfl
          have hp := h.pure1 (by simp) (by simp) (by simp) (by simp)
          refine .of ?_
          cases a with
          | agg cs => cases b with
            | int k n => generalize hcc : ρ i = cc at hb; cases hb; exact snd_ixa hu hg hs ha hp
            | _ => simp [pureF] at hp
          | _ => simp [pureF] at hp
    · cases hc
  | lookup t x i ok =>
    simp only [compOp] at hc
    split at hc
    · rename_i k e hu
      cases hk : kindT P k with
      | none => simp [hk] at hc
      | some kd =>
        cases hz : zero? P e with
        | none => simp [hk, hz] at hc
        | some z =>
          simp only [hk, hz, Option.bind_some, Option.map_some, Option.some.injEq, Prod.mk.injEq] at hc
          obtain ⟨rfl, rfl⟩ := hc
          obtain ⟨a, b, rfl, ha, hb⟩ := two rfl
          refine .of ?_
          rcases h with hp | hp
          · cases a with
            | nilm => generalize hcc : ρ x = cc at ha; cases ha; exact snd_lkp_nil hu hk hz hp
            | _ => simp [pureF] at hp
          · cases a with
            | map id => obtain ⟨es, r, hm, hkd, _, hl, rfl⟩ := hp; exact snd_lkp hsat hu hk hz ha hb hkd hm hl
            | _ => simp at hp
    · cases hc
  | typeAssert x xt t ok =>
    simp only [compOp] at hc
    split at hc
    · cases hc
    · rename_i d hn hu
      split at hc
      · rename_i hok
        cases hz : zero? P t with
        | none => rw [hz] at hc; cases hc
        | some z =>
          rw [hz] at hc; cases hc
          obtain ⟨a, rfl, ha⟩ := one rfl
          have hp := h.pure1 (by simp) (by simp) (by simp) (by simp)
          exact .of (snd_tas hu hn (fun _ => hz) ha hp)
      · rename_i hok
        cases hc
        obtain ⟨a, rfl, ha⟩ := one rfl
        have hp := h.pure1 (by simp) (by simp) (by simp) (by simp)
        exact .of (snd_tas hu hn (fun e => absurd e hok) ha hp)
    · cases hc
  | build t parts =>
    simp only [compOp] at hc
    have fin : ∀ {z : List AV} {cz : Value} {pl : List (Nat × Nat)} {place : Nat → Option (Nat × Nat)}, Rel m (.agg z) cz → pl.length = parts.toList.length →
        (∀ (i : Nat) (p : Nat × Operand) (q : Nat × Nat), parts.toList[i]? = some p → pl[i]? = some q → place p.1 = some q) → (fillL z pl xs).map AV.agg = some v → os = parts.toList.map (·.2) →
        ∃ cells, Instr.fill place cz.cells (parts.map fun (i, x) => (i, ρ x)).toList = some cells ∧ Rel m v (.agg cells) := by
      intro z cz pl place hz hl hpl hf hos
      cases hfl : fillL z pl xs with
      | none => rw [hfl] at hf; cases hf
      | some cs =>
        rw [hfl] at hf; cases hf
        subst hos
        cases hz with
        | agg _ ca k1 k2 k3 =>
          exact snd_fill (ps := (parts.map fun (i, x) => (i, ρ x)).toList) (.agg z ca k1 k2 k3) (by simp at hl ⊢; omega) (fun i p q hi hq' => by
            simp only [Array.toList_map, List.getElem?_map] at hi
            cases hpi : parts.toList[i]? with
            | none => rw [hpi] at hi; cases hi
            | some p' => rw [hpi] at hi; cases hi; exact hpl i p' q hpi hq') (by simpa [List.map_map, Function.comp_def] using hr) hfl
    split at hc
    · rename_i fs hu
      cases hz : zero? P t with
      | none => rw [hz] at hc; cases hc
      | some z =>
        rw [hz] at hc
        simp only [Option.bind_some] at hc
        cases hpl : parts.toList.mapM (fun (p : Nat × Operand) => (fs[p.1]?).bind fun f => (size? P f.type).map fun s => (f.offset, s)) with
        | none => rw [hpl] at hc; cases hc
        | some pl =>
          rw [hpl] at hc
          simp only [Option.bind_some] at hc
          split at hc
          · rename_i z'
            split at hc
            · rename_i hall
              cases hc
              have hp := h.pure1 (by simp) (by simp) (by simp) (by simp)
              obtain ⟨cz, hcz, hrz⟩ := zero?_run hz w
              obtain ⟨hl1, hl2⟩ := mapM_len hpl
              have hpr := run_places (w := w) fs.toList hall
              have hpr2 : (fs.mapM (fun (f : Field) => (do pure (f.offset, ← sizeOf f.type) : Sem (Nat × Nat)))).run P w = .ok (fs.toList.map fun f => (f.offset, (size? P f.type).getD 0)).toArray w := by
                rw [Array.mapM_eq_mapM_toList, Sem.run_map, hpr]; rfl
              obtain ⟨cells, hfill, hrel⟩ := fin (place := ((fs.toList.map fun f => (f.offset, (size? P f.type).getD 0)).toArray[·]?)) (hrz m) hl1 (fun i p q hi hq' => by
                have := hl2 i p q hi hq'
                cases hf : fs[p.1]? with
                | none => rw [hf] at this; cases this
                | some f =>
                  rw [hf] at this
                  simp only [Option.bind_some] at this
                  cases hs : size? P f.type with
                  | none => rw [hs] at this; cases this
                  | some s =>
                    rw [hs] at this; cases this
                    simp [hf, hs]) hp rfl
              refine .of ⟨.agg cells, ?_, hrel⟩
              simp only [Instr.build, Sem.run_bind, hcz, Result.andThen_ok, run_underlying hu, hpr2, hfill, Sem.run_pure]
            · cases hc
          · cases hc
    · rename_i n e hu
      cases hz : zero? P t with
      | none => rw [hz] at hc; cases hc
      | some z =>
        cases hs : size? P e with
        | none => simp [hz, hs] at hc
        | some s =>
          simp only [hz, hs, Option.bind_some] at hc
          split at hc
          · rename_i z'
            cases hc
            have hp := h.pure1 (by simp) (by simp) (by simp) (by simp)
            obtain ⟨cz, hcz, hrz⟩ := zero?_run hz w
            have hsz := size?_run hs w
            obtain ⟨cells, hfill, hrel⟩ := fin (place := fun i => some (i * s, s)) (hrz m) (by simp) (fun i p q hi hq' => by
              rw [List.getElem?_map, hi] at hq'; cases hq'; rfl) hp rfl
            refine .of ⟨.agg cells, ?_, hrel⟩
            simp only [Instr.build, Sem.run_bind, hcz, Result.andThen_ok, run_underlying hu, hsz, hfill, Sem.run_pure]
          · cases hc
    · cases hc
  | call c =>
    simp only [compOp, compCall] at hc
    split at hc
    · cases hc; cases hq
    · cases hc; cases hq
    · cases hc
    · rename_i b hcal
      have hexec : ∀ (s : Sem Value), (builtin b c.argTypes ty (c.args.map fun | .const _ => true | _ => false) (c.args.map ρ)) = (do pure (.value (← s))) →
          execOp ρ ⟨dst, .call c, ty, pos, after, guard⟩ = (do pure (.value (← s))) := by
        intro s hs
        simp only [execOp, resolve, hcal, invoke, pure_bind]
        exact hs
      split at hc
      · rename_i t hat
        have hlen : ∀ (kd : Nat) (d : TypeDesc), P.underlying t = some d → ((kd = 0 ∧ d = .string) ∨ (kd = 1 ∧ ∃ e, d = .slice e) ∨ (kd = 2 ∧ ∃ k e, d = .map k e)) → op = .len kd → os = c.args.toList → (∃ x, c.args.toList = [x]) →
            Yv P m w (execOp ρ ⟨dst, .call c, ty, pos, after, guard⟩) v := by
          intro kd d hu hkd ho hos hx
          subst ho hos
          obtain ⟨x, hx⟩ := hx
          obtain ⟨a, rfl, ha⟩ := one hx
          rw [hexec _ rfl]
          have hargs : c.args.map ρ = #[ρ x] := by rw [← Array.toList_inj]; simp [hx]
          rw [hargs]
          have hl : ∀ (y : Value), (Builtin.len_ c.argTypes ty #[y]).run P w = (Builtin.len_ #[t] ty #[y]).run P w := by
            intro y; simp [Builtin.len_, hat]
          refine .of ?_
          rw [hl]
          rcases h with hp | hp
          · exact snd_len hu hkd ha hp
          · split at hp
            · rename_i e1 e2; cases e1
            · rename_i e1 e2
              cases e1; cases e2
              obtain ⟨es, hm, rfl⟩ := hp
              obtain ⟨_, k, e, rfl⟩ : 2 = 2 ∧ ∃ k e, d = .map k e := by rcases hkd with ⟨h, _⟩ | ⟨h, _⟩ | h <;> first | exact h | cases h
              exact snd_lenm hsat hu ha hm
            · rename_i e1 e2; cases e1
            · rename_i e1 e2; cases e1
            · exact hp.elim
        split at hc
        · rename_i hu hx; cases hc; exact hlen 0 _ hu (.inl ⟨rfl, rfl⟩) rfl rfl ⟨_, hx⟩
        · rename_i hu hx; cases hc; exact hlen 1 _ hu (.inr (.inl ⟨rfl, _, rfl⟩)) rfl rfl ⟨_, hx⟩
        · rename_i hu hx; cases hc; exact hlen 2 _ hu (.inr (.inr ⟨rfl, _, _, rfl⟩)) rfl rfl ⟨_, hx⟩
        · cases hc
      · split at hc
        · cases hc
        · cases hc
          have hp := h.pure1 (by simp) (by simp) (by simp) (by simp)
          rw [hexec _ rfl]
          refine .of ?_
          cases xs with
          | nil => simp [pureF] at hp
          | cons a as =>
            obtain ⟨y, ys, e, ha, has⟩ := hr.uncons
            have he : (c.args.map ρ).toList = y :: ys := by simpa using e
            simp only [Builtin.min_, he]
            exact snd_min ha has (by simpa [pureF] using hp)
      · split at hc
        · cases hc
        · cases hc
          have hp := h.pure1 (by simp) (by simp) (by simp) (by simp)
          rw [hexec _ rfl]
          refine .of ?_
          cases xs with
          | nil => simp [pureF] at hp
          | cons a as =>
            obtain ⟨y, ys, e, ha, has⟩ := hr.uncons
            have he : (c.args.map ρ).toList = y :: ys := by simpa using e
            simp only [Builtin.max_, he]
            exact snd_max ha has (by simpa [pureF] using hp)
      · exfalso
        repeat' split at hc
        all_goals first | (cases hc; cases hq; done) | (cases hc; done)
      · exfalso
        split at hc
        · cases hz : (zero? P _) with
          | none => rw [hz] at hc; cases hc
          | some z =>
            rw [hz] at hc
            simp only [Option.bind_some] at hc
            cases hs : (size? P _) with
            | none => rw [hs] at hc; cases hc
            | some s =>
              rw [hs] at hc
              simp only [Option.bind_some] at hc
              split at hc
              · cases hc; cases hq
              · cases hc
        · cases hc
      · exfalso
        split at hc
        · cases hs : (size? P _) with
          | none => rw [hs] at hc; cases hc
          | some s =>
            rw [hs] at hc
            simp only [Option.bind_some] at hc
            split at hc
            · cases hc; cases hq
            · cases hc
        · cases hc
      · cases hc
  | alloc t =>
    simp only [compOp] at hc
    cases hz : zero? P t with
    | none => rw [hz] at hc; cases hc
    | some z =>
      rw [hz] at hc; simp only [Option.bind_some] at hc
      cases hb : isBld z.cells <;> simp only [hb, Bool.false_eq_true, if_false, if_true] at hc <;> split at hc <;> first | (cases hc; cases hq; done) | (cases hc; done)
  | box t x => simp only [compOp, Option.some.injEq, Prod.mk.injEq] at hc; obtain ⟨rfl, rfl⟩ := hc; cases hq
  | buildSlice t n parts =>
    simp only [compOp] at hc
    split at hc
    · rename_i e hu
      cases hz : zero? P e with
      | none => simp [hz] at hc
      | some z =>
        cases hs : size? P e with
        | none => simp [hz, hs] at hc
        | some s => simp only [hz, hs, Option.bind_some] at hc; split at hc <;> first | (cases hc; cases hq; done) | (cases hc; done)
    · cases hc
  | store t a v =>
    simp only [compOp] at hc
    cases hs : size? P t with
    | none => simp [hs] at hc
    | some s => simp only [hs, Option.map_some, Option.some.injEq, Prod.mk.injEq] at hc; obtain ⟨rfl, rfl⟩ := hc; cases hq
  | makeMap t r => cases r <;> simp [compOp] at hc; obtain ⟨rfl, rfl⟩ := hc; cases hq
  | makeSlice t l c =>
    simp only [compOp] at hc
    split at hc
    · rename_i e hu
      cases hz : zero? P e with
      | none => simp [hz] at hc
      | some z =>
        cases hs : size? P e with
        | none => simp [hz, hs] at hc
        | some s =>
          cases hb : bytes? P e with
          | none => simp [hz, hs, hb] at hc
          | some b => simp only [hz, hs, hb, Option.bind_some] at hc; split at hc <;> first | (cases hc; cases hq; done) | (cases hc; done)
    · cases hc
  | mapUpdate t a b c =>
    simp only [compOp] at hc
    split at hc
    · rename_i kt _ hu
      cases hk : kindT P kt with
      | none => simp [hk] at hc
      | some kd => simp only [hk, Option.map_some, Option.some.injEq, Prod.mk.injEq] at hc; obtain ⟨rfl, rfl⟩ := hc; cases hq
    · cases hc
  | range t x => simp only [compOp] at hc; split at hc <;> first | (cases hc; cases hq; done) | (cases hc; done)
  | next it b => cases b <;> simp [compOp] at hc; obtain ⟨rfl, rfl⟩ := hc; cases hq
  | _ => simp [compOp] at hc

end
end Go.AL

/- The abstract layer, part 9: how the heap turns; stores, new blocks. -/
namespace Go.AL
open Go.RowKit

section
variable {G : Nat → Option (List AV)} {B : Nat} {w0 w w' : World} {m m' : Im} {H H' : Heap} {P : Program}

theorem Sat.turn (hsat : Sat G B w0 m H w) (hb : Below B w w') (hm : m.le m') (id : Nat) (hblk : ∀ k, k ≠ id → k < w.heap.size → w'.heap[k]? = w.heap[k]?) (hB : B ≤ id) (hid : id < w'.heap.size)
    (hcn : ∀ b o, b ≠ id → m'.cell b o = m.cell b o) (hc : ∀ o v, m'.cell id o = some v → w'.cell? ⟨id, o, none⟩ = some v)
    (hsn : ∀ b, b ≠ id → m'.size b = m.size b) (hs : ∀ n, m'.size id = some n → ∃ cs e fr, w'.heap[id]? = some (.cells cs e fr) ∧ cs.size = n)
    (hH : ∀ j o, (j, o) ∈ H' → (j = id ∧ o.ok m' w' id) ∨ (j ≠ id ∧ (j, o) ∈ H)) (hnd : (H'.map Prod.fst).Nodup) : Sat G B w0 m' H' w' := by
  refine ⟨hsat.below.trans hb, Nat.le_trans hsat.base hb.size, fun b o v h => ?_, fun b n h => ?_, hnd, fun j o h => ?_, fun g cs h => ⟨(hsat.glob g cs h).1, (hsat.glob g cs h).2.mono hm⟩⟩
  · by_cases hbi : b = id
    · subst hbi; exact hc o v h
    · rw [hcn b o hbi] at h
      have h2 := hsat.cell b o v h
      have hlt := World.block_lt_of_cell? _ _ h2
      rw [World.cell?_of_block (w := w) (a := ⟨b, o, none⟩) (hblk b hbi hlt)]
      exact h2
  · by_cases hbi : b = id
    · subst hbi; exact hs n h
    · rw [hsn b hbi] at h
      obtain ⟨cs, e, fr, h1, h2⟩ := hsat.size b n h
      exact ⟨cs, e, fr, by rw [hblk b hbi (Array.getElem?_eq_some_iff.1 h1).1]; exact h1, h2⟩
  · rcases hH j o h with ⟨rfl, hok⟩ | ⟨hne, hin⟩
    · exact ⟨hB, hid, hok⟩
    · obtain ⟨h1, h2, h3⟩ := hsat.obj j o hin
      exact ⟨h1, Nat.lt_of_lt_of_le h2 hb.size, AObj.ok_of_block hm (hblk j hne h2) (fun x => hcn j x hne) h3⟩

theorem Rpl.mem {p q : Nat × AObj} (h : Rpl H p q H') (hn : (H.map Prod.fst).Nodup) : ∀ x ∈ H', x = q ∨ (x ∈ H ∧ x.1 ≠ p.1) := by
  induction h with
  | here p q T =>
    intro x hx
    rcases List.mem_cons.1 hx with rfl | hx
    · exact .inl rfl
    · refine .inr ⟨List.mem_cons_of_mem _ hx, fun e => ?_⟩
      simp only [List.map_cons, List.nodup_cons] at hn
      exact hn.1 (by rw [← e]; exact List.mem_map.2 ⟨x, hx, rfl⟩)
  | there y p q T T' h ih =>
    intro x hx
    simp only [List.map_cons, List.nodup_cons] at hn
    rcases List.mem_cons.1 hx with rfl | hx
    · refine .inr ⟨List.mem_cons_self, fun e => ?_⟩
      have : p ∈ T := by clear ih hx hn e; induction h with | here => exact List.mem_cons_self | there _ _ _ _ _ _ ih => exact List.mem_cons_of_mem _ ih
      exact hn.1 (by rw [e]; exact List.mem_map.2 ⟨p, this, rfl⟩)
    · rcases ih hn.2 x hx with h1 | ⟨h1, h2⟩
      · exact .inl h1
      · exact .inr ⟨List.mem_cons_of_mem _ h1, h2⟩

theorem Rpl.src {p q : Nat × AObj} (h : Rpl H p q H') : p ∈ H := by
  induction h with
  | here => exact List.mem_cons_self
  | there _ _ _ _ _ _ ih => exact List.mem_cons_of_mem _ ih

theorem Rpl.keys {p q : Nat × AObj} (h : Rpl H p q H') : ∃ l r, H.keys = l ++ p.1 :: r ∧ H'.keys = l ++ q.1 :: r := by
  induction h with
  | here p q T => exact ⟨[], T.keys, rfl, rfl⟩
  | there x p q T T' _ ih => obtain ⟨l, r, h1, h2⟩ := ih; exact ⟨x.1 :: l, r, by simp [Heap.keys] at h1 ⊢; exact h1, by simp [Heap.keys] at h2 ⊢; exact h2⟩

theorem Rpl.nodup {p q : Nat × AObj} (h : Rpl H p q H') (hn : (H.map Prod.fst).Nodup) (hq : q.1 = p.1 ∨ q.1 ∉ H.keys) : (H'.map Prod.fst).Nodup := by
  obtain ⟨l, r, h1, h2⟩ := h.keys
  have hn' : H.keys.Nodup := hn
  show H'.keys.Nodup
  rw [h1] at hn' hq
  rw [h2]
  rcases hq with hq | hq
  · rw [hq]; exact hn'
  · simp only [List.nodup_append, List.nodup_cons, List.mem_append, List.mem_cons, not_or] at hn' hq ⊢
    obtain ⟨a1, ⟨a2, a3⟩, a4⟩ := hn'
    refine ⟨a1, ⟨hq.2.2, a3⟩, fun x hx y hy => ?_⟩
    rcases hy with rfl | hy
    · intro e; subst e; exact hq.1 hx
    · exact a4 x hx y (.inr hy)

/-- Storing a run of cells into a block of one's own. -/
theorem run_storeAll {id : Nat} {e : TypeId} {fr : Nat × Nat} : ∀ (l : List Value) (off i : Nat) (cs : Array Value) (w : World), w.heap[id]? = some (.cells cs e fr) →
    (∀ o, off + i ≤ o → o < cs.size → w.frozen? ⟨id, o, none⟩ = false) → off + i + l.length ≤ cs.size → (∀ u ∈ l, u.oneCell' = true) →
    ∃ w' cs', (storeCells ⟨id, off, none⟩ l i).run P w = .ok () w' ∧ w'.heap[id]? = some (.cells cs' e fr) ∧ cs'.size = cs.size ∧
      (∀ j, cs'[j]? = if off + i ≤ j ∧ j < off + i + l.length then l[j - (off + i)]? else cs[j]?) ∧ (∀ k, k ≠ id → w'.heap[k]? = w.heap[k]?) ∧
      w'.os = w.os ∧ w'.tape = w.tape ∧ w'.output = w.output ∧ w'.heap.size = w.heap.size
  | [], off, i, cs, w, hb, _, _, _ => by
    refine ⟨w, cs, by simp [storeCells], hb, rfl, fun j => ?_, fun _ _ => rfl, rfl, rfl, rfl, rfl⟩
    rw [if_neg (by simp)]
  | u :: l, off, i, cs, w, hb, hf, hle, h1 => by
    simp only [List.length_cons] at hle
    have hc : w.cell? ⟨id, off + i, none⟩ = some cs[off + i] := by simp [World.cell?, hb, Array.getElem?_eq_getElem (show off + i < cs.size by omega)]
    have hfz := hf (off + i) (Nat.le_refl _) (by omega)
    have hb2 : (w.setCell ⟨id, off + i, none⟩ u).heap[id]? = some (.cells (cs.setIfInBounds (off + i) u) e fr) := by
      simp [World.setCell, Array.getElem?_modify, hb]
    obtain ⟨w', cs', r1, r2, r3, r4, r5, r6, r7, r8, r9⟩ := run_storeAll l off (i + 1) (cs.setIfInBounds (off + i) u) (w.setCell ⟨id, off + i, none⟩ u) hb2
      (fun o h1 h2 => by rw [World.frozen?_setCell]; exact hf o (by omega) (by simpa using h2)) (by simp; omega) (fun v hv => h1 v (List.mem_cons_of_mem _ hv))
    refine ⟨w', cs', ?_, r2, by simpa using r3, fun j => ?_, fun k hk => ?_, r6, r7, r8, by simpa using r9⟩
    · simp only [storeCells, Sem.run_bind]
      rw [addr_add _ _ rfl, run_store P w _ _ _ (h1 u List.mem_cons_self)]
      simp only [hc, hfz, Bool.false_eq_true, if_false, Result.andThen_ok]
      exact r1
    · rw [r4 j]
      simp only [List.length_cons]
      by_cases e1 : off + (i + 1) ≤ j ∧ j < off + (i + 1) + l.length
      · rw [if_pos e1, if_pos (by omega), show j - (off + i) = (j - (off + (i + 1))) + 1 by omega]; simp
      · rw [if_neg e1]
        by_cases e2 : j = off + i
        · subst e2; rw [if_pos (by omega)]; simp [show off + i < cs.size by omega]
        · rw [if_neg (by omega), Array.getElem?_setIfInBounds_ne (by omega)]
    · rw [r5 k hk]
      simp only [World.setCell, Array.getElem?_modify]
      rw [if_neg (by simpa using Ne.symm hk)]

theorem below_of {id : Nat} (hB : B ≤ id) (h1 : ∀ k, k ≠ id → w'.heap[k]? = w.heap[k]?) (h2 : w'.os = w.os) (h3 : w'.tape = w.tape) (h4 : w'.output = w.output) (h5 : w'.heap.size = w.heap.size) : Below B w w' :=
  ⟨h2, h3, h4, by omega, fun k hk => h1 k (by omega)⟩

/-- Cells of an object turned: the object behind it. -/
theorem Sat.store (hsat : Sat G B w0 m H w) {id off : Nat} {vs xs : List AV} {l : List Value} (hr : Rpl H (id, .cells vs) (id, .cells (splice vs off xs)) H') (hx : RelL m xs l) (h1 : ∀ u ∈ l, u.oneCell' = true)
    (hle : off + xs.length ≤ vs.length) : ∃ w', (storeCells ⟨id, off, none⟩ l).run P w = .ok () w' ∧ Sat G B w0 m H' w' := by
  obtain ⟨hB, hid, cs, e, fr, hb, hlen, hfr, hno, hcell⟩ := hsat.obj _ _ hr.src
  obtain ⟨w', cs', r1, r2, r3, r4, r5, r6, r7, r8, r9⟩ := run_storeAll (P := P) l off 0 cs w hb (fun o _ ho => nofr hb hfr o ho) (by rw [← hx.1]; omega) h1
  refine ⟨w', r1, hsat.turn (below_of hB r5 r6 r7 r8 r9) (.refl m) id (fun k hk _ => r5 k hk) hB (by omega) (fun _ _ _ => rfl) (fun o v h => by rw [hno o] at h; cases h) (fun _ _ => rfl) (fun n h => ?_) (fun j o h => ?_) (hr.nodup hsat.nodup (.inl rfl))⟩
  · obtain ⟨cs0, e0, fr0, g1, g2⟩ := hsat.size id n h
    rw [hb] at g1; cases g1
    exact ⟨cs', e, fr, r2, by omega⟩
  · rcases hr.mem hsat.nodup _ h with h | ⟨h1, h2⟩
    · cases h
      refine .inl ⟨rfl, cs', e, fr, r2, by rw [splice_length _ _ _ hle]; omega, by rw [r3]; exact hfr, hno, fun i x hi => ?_⟩
      have hi' := (List.getElem?_eq_some_iff.1 hi).1
      rw [splice_length _ _ _ hle] at hi'
      rw [splice_get _ _ _ hle, if_pos hi'] at hi
      rw [r4 i]
      simp only [Nat.add_zero]
      rw [← hx.1]
      split at hi
      · rename_i hc
        rw [if_pos hc]
        obtain ⟨y, hy, hyr⟩ := hx.get _ hi
        exact ⟨y, hy, hyr, by have := List.mem_of_getElem? hy; simp_all⟩
      · rename_i hc
        rw [if_neg hc]
        exact hcell i x hi
    · exact .inr ⟨h2, h1⟩

def Im.addSize (m : Im) (id n : Nat) : Im := { m with size := fun b => if b = id then some n else m.size b }
def Im.addCells (m : Im) (id : Nat) (f : Nat → Option Value) : Im := { m with cell := fun b o => if b = id then (match f o with | some v => some v | none => m.cell b o) else m.cell b o }

theorem Sat.size_lt (hsat : Sat G B w0 m H w) {b n : Nat} (h : m.size b = some n) : b < w.heap.size := by
  obtain ⟨_, _, _, h1, _⟩ := hsat.size b n h
  exact (Array.getElem?_eq_some_iff.1 h1).1
theorem Sat.cell_lt (hsat : Sat G B w0 m H w) {b o : Nat} {v : Value} (h : m.cell b o = some v) : b < w.heap.size := World.block_lt_of_cell? _ _ (hsat.cell b o v h)
theorem Sat.key_lt (hsat : Sat G B w0 m H w) {b : Nat} (h : b ∈ H.keys) : b < w.heap.size := by
  obtain ⟨⟨j, o⟩, h1, rfl⟩ := List.mem_map.1 h
  exact (hsat.obj j o h1).2.1
theorem Sat.fresh (hsat : Sat G B w0 m H w) : w.heap.size ∉ H.keys := fun h => Nat.lt_irrefl _ (hsat.key_lt h)

theorem le_addSize (hsat : Sat G B w0 m H w) (n : Nat) : m.le (m.addSize w.heap.size n) :=
  ⟨fun _ _ _ h => h, fun b k h => by simp only [Im.addSize]; rw [if_neg (by have := hsat.size_lt h; omega)]; exact h⟩

theorem heap_alloc_ne (w : World) (o : Obj) (k : Nat) (h : k ≠ w.heap.size) : (w.alloc o).heap[k]? = w.heap[k]? := by
  show (w.heap.push o)[k]? = _
  rw [Array.getElem?_push, if_neg (by omega)]

/-- A new block of cells of one's own. -/
theorem Sat.newCells (hsat : Sat G B w0 m H w) {vs : List AV} {cs : Array Value} (e : TypeId) (hl : vs.length ≤ cs.size) (hr : ∀ (i : Nat) (x : AV), vs[i]? = some x → ∃ c : Value, cs[i]? = some c ∧ Rel m x c ∧ c.oneCell' = true) :
    Sat G B w0 (m.addSize w.heap.size cs.size) ((w.heap.size, .cells vs) :: H) (w.alloc (.cells cs e)) := by
  have hle := le_addSize hsat cs.size
  refine hsat.turn ((Below.refl B w).alloc hsat.base _) hle w.heap.size (fun k hk _ => heap_alloc_ne _ _ _ hk) hsat.base (by simp) (fun _ _ _ => rfl) (fun o v h => ?_) (fun b hb => by simp [Im.addSize, hb]) (fun n h => ?_) (fun j o h => ?_) ?_
  · exact absurd (hsat.cell_lt (show m.cell _ o = some v from h)) (Nat.lt_irrefl _)
  · simp only [Im.addSize, if_true, Option.some.injEq] at h
    exact ⟨cs, e, (0, 0), heap_alloc_new w _, h⟩
  · rcases List.mem_cons.1 h with h | h
    · cases h
      refine .inl ⟨rfl, cs, e, (0, 0), heap_alloc_new w _, hl, .inl rfl, fun o => ?_, fun i x hi => ?_⟩
      · cases hc : (m.addSize w.heap.size cs.size).cell w.heap.size o with
        | none => rfl
        | some v => exact absurd (hsat.cell_lt (show m.cell _ o = some v from hc)) (Nat.lt_irrefl _)
      · obtain ⟨c, h1, h2, h3⟩ := hr i x hi; exact ⟨c, h1, h2.mono hle, h3⟩
    · exact .inr ⟨fun e => hsat.fresh (by rw [← e]; exact List.mem_map.2 ⟨_, h, rfl⟩), h⟩
  · simp only [List.map_cons, List.nodup_cons]; exact ⟨hsat.fresh, hsat.nodup⟩

theorem flat_get {sz : Nat} : ∀ {ys : List AV}, AllSz sz ys → ∀ (i j : Nat) (x y : AV), ys[i]? = some x → x.cells[j]? = some y → (flat ys)[i * sz + j]? = some y
  | [], _, i, j, x, y, h, _ => by simp at h
  | a :: ys, hs, i, j, x, y, h, hj => by
    have ha : a.cells.length = sz := hs a List.mem_cons_self
    simp only [flat, List.flatMap_cons]
    cases i with
    | zero =>
      simp at h; subst h
      rw [List.getElem?_append_left (by have := (List.getElem?_eq_some_iff.1 hj).1; omega)]
      simpa using hj
    | succ i =>
      have := flat_get (fun x hx => hs x (List.mem_cons_of_mem _ hx)) i j x y (by simpa using h) hj
      rw [List.getElem?_append_right (by rw [ha, Nat.add_mul]; omega), ha]
      rw [show (i + 1) * sz + j - sz = i * sz + j by rw [Nat.add_mul]; omega]
      exact this

theorem flat_length {sz : Nat} : ∀ {ys : List AV}, AllSz sz ys → (flat ys).length = ys.length * sz
  | [], _ => by simp [flat]
  | a :: ys, hs => by
    have ha : a.cells.length = sz := hs a List.mem_cons_self
    have := flat_length (fun x hx => hs x (List.mem_cons_of_mem _ hx) : AllSz sz ys)
    simp only [flat, List.flatMap_cons, List.length_append, List.length_cons] at this ⊢
    rw [ha, this, Nat.add_mul]; omega

/-- Elements that lie one after another in unturning memory. -/
theorem rel_sl {ys : List AV} {t : Tok} {id off sz cap : Nat} {g : Nat → Value} (ht : t ≠ .nil) (hs : AllSz sz ys) (hlc : ys.length ≤ cap) (hcm : cap ≤ maxLen)
    (hc : ∀ i, i < ys.length * sz → m.cell id (off + i) = some (g i)) (h1 : ∀ i, i < ys.length * sz → (g i).oneCell' = true) (hr : ∀ (i : Nat) (x : AV), (flat ys)[i]? = some x → Rel m x (g i))
    (hk : ∀ b e s, t = .at b e s → id = b ∧ off + ys.length * s = e ∧ s = sz ∧ ∃ n, m.size b = some n ∧ off + cap * s ≤ n) :
    Rel m (.sl ys t) (.slice (some ⟨id, off, none⟩) ys.length cap) := by
  have hb : ∀ i j, i < ys.length → j < sz → i * sz + j < ys.length * sz := by
    intro i j hi hj
    have : (i + 1) * sz ≤ ys.length * sz := Nat.mul_le_mul_right _ hi
    rw [Nat.add_mul] at this; omega
  refine .sl ys t _ _ cap sz (fun i j => g (i * sz + j)) ht rfl hlc hcm (fun _ => rfl) (fun i x hi => hs x (List.mem_of_getElem? hi)) (fun i j hi hj => ?_) (fun i j hi hj => h1 _ (hb i j hi hj)) (fun i x j y hi hj => hr _ _ (flat_get hs i j x y hi hj)) (fun b e s h => ?_)
  · rw [Nat.add_assoc]; exact hc _ (hb i j hi hj)
  · obtain ⟨h1, h2, h3, n, h4, h5⟩ := hk b e s h
    exact .inr ⟨h1, rfl, h2, fun _ => h3.symm, n, h4, h5⟩

/-- A new block whose first cells never turn again, the rest of it spare. -/
theorem Sat.newRow (hsat : Sat G B w0 m H w) {n : Nat} {cs : Array Value} (e : TypeId) (hle : n ≤ cs.size) :
    ∃ m', m.le m' ∧ Sat G B w0 m' ((w.heap.size, .spare n) :: H) (w.alloc (.cells cs e)) ∧ (∀ i, i < n → m'.cell w.heap.size i = cs[i]?) ∧ m'.size w.heap.size = some cs.size := by
  have hle1 := le_addSize hsat cs.size
  refine ⟨(m.addSize w.heap.size cs.size).addCells w.heap.size (fun o => if o < n then cs[o]? else none), ?_, ?_, ?_, ?_⟩
  · refine hle1.trans ⟨fun b o v h => ?_, fun b n h => h⟩
    simp only [Im.addCells]
    rw [if_neg (by have := hsat.cell_lt (show m.cell b o = some v from h); omega)]; exact h
  · refine hsat.turn ((Below.refl B w).alloc hsat.base _) ?_ w.heap.size (fun k hk _ => heap_alloc_ne _ _ _ hk) hsat.base (by simp) (fun b o hb => by simp [Im.addCells, hb]; rfl) (fun o v h => ?_) (fun b hb => by simp [Im.addCells, Im.addSize, hb]) (fun k h => ?_) (fun j o h => ?_) ?_
    · refine hle1.trans ⟨fun b o v h => ?_, fun b n h => h⟩
      simp only [Im.addCells]
      rw [if_neg (by have := hsat.cell_lt (show m.cell b o = some v from h); omega)]; exact h
    · simp only [Im.addCells, if_true] at h
      split at h
      · rename_i u hu
        cases h
        split at hu
        · rw [World.cell?_alloc_new]; exact hu
        · cases hu
      · exact absurd (hsat.cell_lt (show m.cell _ o = some v from h)) (Nat.lt_irrefl _)
    · simp only [Im.addCells, Im.addSize, if_true, Option.some.injEq] at h
      exact ⟨cs, e, (0, 0), heap_alloc_new w _, h⟩
    · rcases List.mem_cons.1 h with h | h
      · cases h
        refine .inl ⟨rfl, cs, e, (0, 0), heap_alloc_new w _, .inl rfl, fun o ho => ?_⟩
        simp only [Im.addCells, if_true]
        rw [if_neg (by omega)]
        cases hc : (m.addSize w.heap.size cs.size).cell w.heap.size o with
        | none => rfl
        | some v => exact absurd (hsat.cell_lt (show m.cell _ o = some v from hc)) (Nat.lt_irrefl _)
      · exact .inr ⟨fun e => hsat.fresh (by rw [← e]; exact List.mem_map.2 ⟨_, h, rfl⟩), h⟩
    · simp only [List.map_cons, List.nodup_cons]; exact ⟨hsat.fresh, hsat.nodup⟩
  · intro i hi
    simp only [Im.addCells, if_true, hi]
    have : i < cs.size := by omega
    rw [Array.getElem?_eq_getElem this]
  · simp [Im.addCells, Im.addSize]

/-- What an operation does in the model that writes or makes memory. -/
def Ef (G : Nat → Option (List AV)) (B : Nat) (w0 : World) (P : Program) (m : Im) (w : World) (s : Sem Next) (K : AV → Heap → Prop) : Prop :=
  ∃ n w' m' v cv H', s.run P w = .ok n w' ∧ (n = .value cv ∨ (n = .skip ∧ cv = undef)) ∧ m.le m' ∧ Sat G B w0 m' H' w' ∧ Rel m' v cv ∧ K v H'

theorem Ef.value {s : Sem Value} {K : AV → Heap → Prop} (h : ∃ w' m' v cv H', s.run P w = .ok cv w' ∧ m.le m' ∧ Sat G B w0 m' H' w' ∧ Rel m' v cv ∧ K v H') : Ef G B w0 P m w (do pure (.value (← s))) K := by
  obtain ⟨w', m', v, cv, H', h1, h2, h3, h4, h5⟩ := h
  exact ⟨.value cv, w', m', v, cv, H', by simp [h1], .inl rfl, h2, h3, h4, h5⟩

theorem Ef.skip {s : Sem Unit} {K : AV → Heap → Prop} (h : ∃ w' m' H', s.run P w = .ok () w' ∧ m.le m' ∧ Sat G B w0 m' H' w' ∧ K .undef H') : Ef G B w0 P m w (do s; pure .skip) K := by
  obtain ⟨w', m', H', h1, h2, h3, h5⟩ := h
  exact ⟨.skip, w', m', .undef, undef, H', by simp [h1], .inr ⟨rfl, rfl⟩, h2, h3, .tup [] #[] rfl (fun i x y h => by simp at h), h5⟩

theorem RelL.of_cells {v : AV} {c : Value} (h : Rel m v c) (h0 : 0 < v.cells.length) : RelL m v.cells c.cells.toList ∧ (∀ u ∈ c.cells.toList, u.oneCell' = true) := by
  obtain ⟨h1, h2, h3⟩ := h.cells_of h0
  refine ⟨⟨by simpa using h1, fun i x y hx hy => h2 i x y hx (by simpa using hy)⟩, fun u hu => ?_⟩
  obtain ⟨i, hi⟩ := List.mem_iff_getElem?.1 hu
  exact h3 i u (by simpa using hi)

theorem ef_st (hsat : Sat G B w0 m H w) {t : TypeId} {sz : Nat} {p x : AV} {c d : Value} {K : AV → Heap → Prop} (hs : size? P t = some sz) (hp : Rel m p c) (hx : Rel m x d) (h : ef (.st sz) [p, x] H K) :
    ∃ w' m' H', (Instr.storeAt t c d).run P w = .ok () w' ∧ m.le m' ∧ Sat G B w0 m' H' w' ∧ K .undef H' := by
  obtain ⟨id, off, vs, H', rfl, h0, hl, hle, hr, hK⟩ := h
  have hz := size?_run hs
  obtain ⟨hxl, h1⟩ := RelL.of_cells hx (by omega)
  cases hp
  obtain ⟨w', r1, r2⟩ := hsat.store (P := P) hr hxl h1 (by omega)
  have hcs : d.cells.size = sz := by have := hxl.1; simp at this; omega
  exact ⟨w', m, H', by simp [Instr.storeAt, Instr.sureAddr, storeVar, hz, hcs, r1], .refl m, r2, hK⟩

theorem ef_box (hsat : Sat G B w0 m H w) {t : TypeId} {x : AV} {d : Value} {K : AV → Heap → Prop} (hx : Rel m x d) (h : ef .box [x] H K) :
    ∃ w' m' v cv H', (Instr.box t d).run P w = .ok cv w' ∧ m.le m' ∧ Sat G B w0 m' H' w' ∧ Rel m' v cv ∧ K v H' := by
  obtain ⟨h0, hK⟩ := h
  obtain ⟨h1, h2, h3⟩ := hx.cells_of h0
  have hn := hsat.newCells (vs := x.cells) (cs := d.cells) t (by omega) (fun i x hi => by
    have hlt : i < d.cells.size := by rw [← h1]; exact (List.getElem?_eq_some_iff.1 hi).1
    exact ⟨d.cells[i], Array.getElem?_eq_getElem hlt, h2 i x _ hi (Array.getElem?_eq_getElem hlt), h3 i _ (Array.getElem?_eq_getElem hlt)⟩)
  exact ⟨_, _, _, .pointer (some ⟨w.heap.size, 0, none⟩), _, by simp [Instr.box, newVar, Go.newRow], le_addSize hsat _, hn, .ptr _ _, hK _ hsat.fresh⟩

theorem ef_alloc (hsat : Sat G B w0 m H w) {t : TypeId} {z : AV} {K : AV → Heap → Prop} (hz : zero? P t = some z) (h0 : 0 < z.cells.length) (h : ef (.alloc z.cells) [] H K) :
    ∃ w' m' v cv H', (Instr.alloc t true (.tuple #[])).run P w = .ok cv w' ∧ m.le m' ∧ Sat G B w0 m' H' w' ∧ Rel m' v cv ∧ K v H' := by
  obtain ⟨cz, hcz, hrz⟩ := zero?_run hz w
  obtain ⟨h1, h2, h3⟩ := (hrz m).cells_of h0
  have hn := hsat.newCells (vs := z.cells) (cs := cz.cells) t (by omega) (fun i x hi => by
    have hlt : i < cz.cells.size := by rw [← h1]; exact (List.getElem?_eq_some_iff.1 hi).1
    exact ⟨cz.cells[i], Array.getElem?_eq_getElem hlt, h2 i x _ hi (Array.getElem?_eq_getElem hlt), h3 i _ (Array.getElem?_eq_getElem hlt)⟩)
  exact ⟨_, _, _, .pointer (some ⟨w.heap.size, 0, none⟩), _, by simp [Instr.alloc, newVar, Go.newRow, hcz], le_addSize hsat _, hn, .ptr _ _, h _ hsat.fresh⟩

end
end Go.AL
