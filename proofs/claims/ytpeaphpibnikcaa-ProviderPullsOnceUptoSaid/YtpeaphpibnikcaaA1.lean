/- The abstract layer, part 1: abstract values, their relation to the model's values, the abstract heap, and when it stands for a world. -/
import Derived.WalkKit
import Derived.Orders
import Derived.LaidEql
namespace Go.AL
open Go.RowKit

/-- What is known of a slice's spare place: nil; nothing; it begins at cell e of block b, elements of sz cells. -/
inductive Tok where
  | nil | no | at (b e sz : Nat)
  deriving DecidableEq

/-- Abstract values. A slice is the list of its elements. -/
inductive AV where
  | any
  | bool (b : Bool)
  | int (k : IntKind) (n : Int)
  | str (s : List UInt8)
  | nilp
  | ptr (id off : Nat)
  | iptr (cs : List AV)
  | sl (xs : List AV) (t : Tok)
  | msl (id off len sz : Nat)
  | nilm
  | map (id : Nat)
  | fn (f : Fn) (first captured : List AV)
  | nilf
  | iface (t : TypeId) (v : AV)
  | nili
  | agg (cs : List AV)
  | tup (vs : List AV)
  deriving Inhabited

def AV.cells : AV → List AV
  | .agg cs => cs
  | .any => []
  | .tup _ => []
  | v => [v]

def AV.undef : AV := .tup []

/-- The memory that never turns again, and the sizes of blocks. -/
structure Im where
  cell : Nat → Nat → Option Value
  size : Nat → Option Nat

structure Im.le (m m' : Im) : Prop where
  cell : ∀ b o v, m.cell b o = some v → m'.cell b o = some v
  size : ∀ b n, m.size b = some n → m'.size b = some n

theorem Im.le.refl (m : Im) : m.le m := ⟨fun _ _ _ h => h, fun _ _ h => h⟩
theorem Im.le.trans {a b c : Im} (h : a.le b) (k : b.le c) : a.le c := ⟨fun _ _ _ h' => k.cell _ _ _ (h.cell _ _ _ h'), fun _ _ h' => k.size _ _ (h.size _ _ h')⟩

inductive Rel (m : Im) : AV → Value → Prop
  | any (v : Value) : Rel m .any v
  | bool (b : Bool) : Rel m (.bool b) (.bool b)
  | int (k : IntKind) (n : Int) : Rel m (.int k n) (.int k n)
  | str (s : ByteArray) : Rel m (.str s.data.toList) (.string s)
  | nilp : Rel m .nilp (.pointer none)
  | ptr (id off : Nat) : Rel m (.ptr id off) (.pointer (some ⟨id, off, none⟩))
  | iptr (cs : List AV) (a : Addr) (f : Nat → Value) (hs : cs ≠ [] → a.spot = none)
      (hc : ∀ i : Nat, i < cs.length → m.cell a.block (a.off + i) = some (f i))
      (h1 : ∀ i : Nat, i < cs.length → (f i).oneCell' = true)
      (hr : ∀ (i : Nat) (x : AV), cs[i]? = some x → Rel m x (f i)) : Rel m (.iptr cs) (.pointer (some a))
  | slnil : Rel m (.sl [] .nil) (.slice none 0 0)
  | sl (xs : List AV) (t : Tok) (a : Addr) (len cap sz : Nat) (f : Nat → Nat → Value) (ht : t ≠ .nil) (hl : len = xs.length) (hlc : len ≤ cap) (hcm : cap ≤ maxLen)
      (hs : xs ≠ [] → a.spot = none)
      (hz : ∀ (i : Nat) (x : AV), xs[i]? = some x → x.cells.length = sz)
      (hc : ∀ i j : Nat, i < xs.length → j < sz → m.cell a.block (a.off + i * sz + j) = some (f i j))
      (h1 : ∀ i j : Nat, i < xs.length → j < sz → (f i j).oneCell' = true)
      (hr : ∀ (i : Nat) (x : AV) (j : Nat) (y : AV), xs[i]? = some x → x.cells[j]? = some y → Rel m y (f i j))
      (hk : ∀ b e s, t = .at b e s → cap = len ∨ (a.block = b ∧ a.spot = none ∧ a.off + len * s = e ∧ (xs ≠ [] → sz = s) ∧ ∃ n, m.size b = some n ∧ a.off + cap * s ≤ n)) :
      Rel m (.sl xs t) (.slice (some a) len cap)
  | msl (id off len cap sz n : Nat) (hlc : len ≤ cap) (hcm : cap ≤ maxLen) (hn : m.size id = some n) (hcap : off + cap * sz ≤ n) :
      Rel m (.msl id off len sz) (.slice (some ⟨id, off, none⟩) len cap)
  | msl0 (id off sz : Nat) (a : Addr) : Rel m (.msl id off 0 sz) (.slice (some a) 0 0)
  | nilm : Rel m .nilm (.map none)
  | map (id : Nat) : Rel m (.map id) (.map (some id))
  | fn (f : Fn) (fs cs : List AV) (fa ca : Array Value) (hf : fs.length = fa.size) (hc : cs.length = ca.size)
      (hfr : ∀ (i : Nat) (x : AV) (y : Value), fs[i]? = some x → fa[i]? = some y → Rel m x y) (hcr : ∀ (i : Nat) (x : AV) (y : Value), cs[i]? = some x → ca[i]? = some y → Rel m x y) :
      Rel m (.fn f fs cs) (.func f fa ca)
  | nilf : Rel m .nilf .nilFunc
  | iface (t : TypeId) (v : AV) (cv : Value) (h : Rel m v cv) (hn : v ≠ .any) : Rel m (.iface t v) (.iface t cv)
  | nili : Rel m .nili .nilIface
  | agg (cs : List AV) (ca : Array Value) (hl : cs.length = ca.size) (h1 : ∀ (i : Nat) (y : Value), ca[i]? = some y → y.oneCell' = true)
      (hr : ∀ (i : Nat) (x : AV) (y : Value), cs[i]? = some x → ca[i]? = some y → Rel m x y) : Rel m (.agg cs) (.agg ca)
  | tup (vs : List AV) (va : Array Value) (hl : vs.length = va.size)
      (hr : ∀ (i : Nat) (x : AV) (y : Value), vs[i]? = some x → va[i]? = some y → Rel m x y) : Rel m (.tup vs) (.tuple va)

theorem Rel.mono {m m' : Im} (hm : m.le m') {v : AV} {c : Value} (h : Rel m v c) : Rel m' v c := by
  induction h with
  | any v => exact .any v
  | bool b => exact .bool b
  | int k n => exact .int k n
  | str s => exact .str s
  | nilp => exact .nilp
  | ptr id off => exact .ptr id off
  | iptr cs a f hs hc h1 _ ih => exact .iptr cs a f hs (fun i hi => hm.cell _ _ _ (hc i hi)) h1 ih
  | slnil => exact .slnil
  | sl xs t a len cap sz f ht hl hlc hcm hs hz hc h1 _ hk ih =>
    exact .sl xs t a len cap sz f ht hl hlc hcm hs hz (fun i j hi hj => hm.cell _ _ _ (hc i j hi hj)) h1 ih
      (fun b e s h => (hk b e s h).imp id fun ⟨h1, h2, h3, h5, n, h4, h6⟩ => ⟨h1, h2, h3, h5, n, hm.size _ _ h4, h6⟩)
  | msl id off len cap sz n hlc hcm hn hcap => exact .msl id off len cap sz n hlc hcm (hm.size _ _ hn) hcap
  | msl0 id off sz a => exact .msl0 id off sz a
  | nilm => exact .nilm
  | map id => exact .map id
  | fn f fs cs fa ca hf hc _ _ ihf ihc => exact .fn f fs cs fa ca hf hc ihf ihc
  | nilf => exact .nilf
  | iface t v cv _ hn ih => exact .iface t v cv ih hn
  | nili => exact .nili
  | agg cs ca hl h1 _ ih => exact .agg cs ca hl h1 ih
  | tup vs va hl _ ih => exact .tup vs va hl ih

/-- Two lists, value by value. -/
def RelL (m : Im) (xs : List AV) (ys : List Value) : Prop := xs.length = ys.length ∧ ∀ (i : Nat) (x : AV) (y : Value), xs[i]? = some x → ys[i]? = some y → Rel m x y

theorem RelL.mono {m m' : Im} (hm : m.le m') {xs : List AV} {ys : List Value} (h : RelL m xs ys) : RelL m' xs ys := ⟨h.1, fun i x y h1 h2 => (h.2 i x y h1 h2).mono hm⟩
theorem RelL.nil (m : Im) : RelL m [] [] := ⟨rfl, fun i x y h => by simp at h⟩
theorem RelL.cons {m : Im} {x : AV} {y : Value} {xs : List AV} {ys : List Value} (h : Rel m x y) (hs : RelL m xs ys) : RelL m (x :: xs) (y :: ys) := by
  refine ⟨by simp [hs.1], fun i a b h1 h2 => ?_⟩
  cases i with
  | zero => simp at h1 h2; subst h1 h2; exact h
  | succ i => simp at h1 h2; exact hs.2 i a b h1 h2
theorem RelL.uncons {m : Im} {x : AV} {xs : List AV} {ys : List Value} (h : RelL m (x :: xs) ys) : ∃ y ys', ys = y :: ys' ∧ Rel m x y ∧ RelL m xs ys' := by
  cases ys with
  | nil => have := h.1; simp at this
  | cons y ys => exact ⟨y, ys, rfl, h.2 0 x y rfl rfl, by have := h.1; simpa using this, fun i a b h1 h2 => h.2 (i + 1) a b (by simpa using h1) (by simpa using h2)⟩
theorem RelL.unnil {m : Im} {ys : List Value} (h : RelL m [] ys) : ys = [] := by cases ys with | nil => rfl | cons _ _ => have := h.1; simp at this
theorem RelL.append {m : Im} {xs xs' : List AV} {ys ys' : List Value} (h : RelL m xs ys) (h' : RelL m xs' ys') : RelL m (xs ++ xs') (ys ++ ys') := by
  induction xs generalizing ys with
  | nil => rw [h.unnil]; exact h'
  | cons x xs ih =>
    obtain ⟨y, ys, rfl, hx, hs⟩ := h.uncons
    exact (ih hs).cons hx
theorem RelL.get {m : Im} {xs : List AV} {ys : List Value} (h : RelL m xs ys) (i : Nat) {x : AV} (hx : xs[i]? = some x) : ∃ y, ys[i]? = some y ∧ Rel m x y := by
  have hi : i < ys.length := by rw [← h.1]; exact (List.getElem?_eq_some_iff.1 hx).1
  exact ⟨ys[i], List.getElem?_eq_getElem hi, h.2 i x _ hx (List.getElem?_eq_getElem hi)⟩

/-- An abstract object. -/
inductive AObj where
  | cells (vs : List AV)
  | spare (e : Nat)
  | map (es : List (AV × AV))
  | iter (s : List UInt8) (pos : Nat)

abbrev Heap := List (Nat × AObj)

def AObj.ok (m : Im) (w : World) (id : Nat) : AObj → Prop
  | .cells vs => ∃ cs e fr, w.heap[id]? = some (.cells cs e fr) ∧ vs.length ≤ cs.size ∧ (fr.1 = fr.2 ∨ cs.size ≤ fr.1) ∧
      (∀ o, m.cell id o = none) ∧ (∀ (i : Nat) (x : AV), vs[i]? = some x → ∃ c : Value, cs[i]? = some c ∧ Rel m x c ∧ c.oneCell' = true)
  | .spare e => ∃ cs el fr, w.heap[id]? = some (.cells cs el fr) ∧ (fr.1 = fr.2 ∨ cs.size ≤ fr.1) ∧ (∀ o, e ≤ o → m.cell id o = none)
  | .map es => ∃ ents clock, w.heap[id]? = some (.map ents clock) ∧ es.length = ents.size ∧ (∀ (i : Nat) (k v : AV) (x : MapEntry), es[i]? = some (k, v) → ents[i]? = some x → Rel m k x.key ∧ Rel m v x.val)
  | .iter s pos => ∃ b : ByteArray, b.data.toList = s ∧ w.heap[id]? = some (.stringIter b pos)

structure Sat (G : Nat → Option (List AV)) (B : Nat) (w0 : World) (m : Im) (H : Heap) (w : World) : Prop where
  below : Below B w0 w
  base : B ≤ w.heap.size
  cell : ∀ b o v, m.cell b o = some v → w.cell? ⟨b, o, none⟩ = some v
  size : ∀ b n, m.size b = some n → ∃ cs e fr, w.heap[b]? = some (.cells cs e fr) ∧ cs.size = n
  nodup : (H.map Prod.fst).Nodup
  obj : ∀ id o, (id, o) ∈ H → B ≤ id ∧ id < w.heap.size ∧ o.ok m w id
  glob : ∀ g cs, G g = some cs → Rel m (.iptr cs) (.pointer (some ⟨g, 0, none⟩))

variable {G : Nat → Option (List AV)} {B : Nat} {w0 w w' : World} {m m' : Im} {H H' : Heap}

/-- A draw turns nothing. -/
theorem Sat.drew (h : Sat G B w0 m H w) : Sat G B w0 m H w.drew :=
  ⟨h.below.drew, h.base, h.cell, h.size, h.nodup, h.obj, h.glob⟩

/-- Only membership counts. -/
theorem Sat.perm (h : Sat G B w0 m H w) (hp : H.Perm H') : Sat G B w0 m H' w :=
  ⟨h.below, h.base, h.cell, h.size, (hp.map _).nodup_iff.1 h.nodup, fun id o hm => h.obj id o (hp.mem_iff.2 hm), h.glob⟩

/-- What is not wanted any more is let go. -/
theorem Sat.drop (h : Sat G B w0 m H w) (hs : H'.Sublist H) : Sat G B w0 m H' w :=
  ⟨h.below, h.base, h.cell, h.size, (hs.map _).nodup h.nodup, fun id o hm => h.obj id o (hs.subset hm), h.glob⟩

/-- No more than there is, in any order. -/
def Hle (H0 H : Heap) : Prop := ∃ L : Heap, L.Sublist H ∧ L.Perm H0
theorem Hle.refl (H : Heap) : Hle H H := ⟨H, List.Sublist.refl _, .refl _⟩
theorem Hle.of_sub {H0 H : Heap} (h : H0.Sublist H) : Hle H0 H := ⟨H0, h, .refl _⟩
theorem Hle.of_perm {H0 H : Heap} (h : H.Perm H0) : Hle H0 H := ⟨H, List.Sublist.refl _, h⟩
theorem Hle.right (A H : Heap) : Hle H (A ++ H) := .of_sub (List.sublist_append_right A H)
theorem Hle.tail (x : Nat × AObj) (H : Heap) : Hle H (x :: H) := .of_sub (List.sublist_cons_self x H)
theorem Sat.weak (h : Sat G B w0 m H w) (hs : Hle H' H) : Sat G B w0 m H' w := by
  obtain ⟨L, h1, h2⟩ := hs
  exact (h.drop h1).perm h2

theorem Sat.uniq (h : Sat G B w0 m H w) {id : Nat} {o o' : AObj} (h1 : (id, o) ∈ H) (h2 : (id, o') ∈ H) : o = o' := by
  have hn := h.nodup
  clear h
  induction H with
  | nil => simp at h1
  | cons p H ih =>
    simp only [List.map_cons, List.nodup_cons] at hn
    rcases List.mem_cons.1 h1 with e1 | e1 <;> rcases List.mem_cons.1 h2 with e2 | e2
    · rw [← e1] at e2; exact (Prod.mk.injEq .. ▸ e2).2.symm
    · exfalso; apply hn.1; rw [← e1]; exact List.mem_map.2 ⟨_, e2, rfl⟩
    · exfalso; apply hn.1; rw [← e2]; exact List.mem_map.2 ⟨_, e1, rfl⟩
    · exact ih e1 e2 hn.2

theorem nofr {w : World} {id : Nat} {cs : Array Value} {e : TypeId} {fr : Nat × Nat} (hb : w.heap[id]? = some (.cells cs e fr)) (h : fr.1 = fr.2 ∨ cs.size ≤ fr.1) (o : Nat) (ho : o < cs.size) : w.frozen? ⟨id, o, none⟩ = false := by
  simp only [World.frozen?, hb, Bool.and_eq_false_iff, decide_eq_false_iff_not]
  rcases h with h | h
  · by_cases h2 : fr.1 ≤ o
    · exact .inr (by omega)
    · exact .inl h2
  · exact .inl (by omega)

/-- An object is as it was where its block is as it was. -/
theorem AObj.ok_of_block {o : AObj} {id : Nat} (hm : m.le m') (hb : w'.heap[id]? = w.heap[id]?) (hfresh : ∀ x, m'.cell id x = m.cell id x) (h : o.ok m w id) : o.ok m' w' id := by
  cases o with
  | cells vs =>
    obtain ⟨cs, e, fr, h1, h2, h3, h4, h5⟩ := h
    refine ⟨cs, e, fr, by rw [hb]; exact h1, h2, h3, fun o => by rw [hfresh]; exact h4 o, fun i x hi => ?_⟩
    obtain ⟨c, hc, hr, h1⟩ := h5 i x hi
    exact ⟨c, hc, hr.mono hm, h1⟩
  | spare e =>
    obtain ⟨cs, el, fr, h1, h2, h3⟩ := h
    exact ⟨cs, el, fr, by rw [hb]; exact h1, h2, fun o h => by rw [hfresh]; exact h3 o h⟩
  | map es =>
    obtain ⟨ents, clock, h1, h2, h3⟩ := h
    exact ⟨ents, clock, by rw [hb]; exact h1, h2, fun i k v x hi hx => ⟨(h3 i k v x hi hx).1.mono hm, (h3 i k v x hi hx).2.mono hm⟩⟩
  | iter s pos =>
    obtain ⟨b, h1, h2⟩ := h
    exact ⟨b, h1, by rw [hb]; exact h2⟩

end Go.AL
