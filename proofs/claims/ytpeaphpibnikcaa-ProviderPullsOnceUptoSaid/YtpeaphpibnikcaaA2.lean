/- The abstract layer, part 2: abstract operations, what they do to abstract values and heaps, and how the model's operations are turned into them. -/
import Derived.Test.YtpeaphpibnikcaaA1
import GoSem.Core.Utf8
namespace Go.AL
open Go.RowKit

inductive AOp where
  | mv | pick | nilck
  | faddr (off : Nat) | iaddr (sz : Nat) | aaddr (sz n : Nat)
  | ld (agg : Bool) (sz : Nat) | st (sz : Nat)
  | box | alloc (z : List AV)
  | build (z : List AV) (pl : List (Nat × Nat))
  | bslice (sz n : Nat) (z : List AV) (pl : List (Nat × Nat))
  | fld (agg : Bool) (off sz : Nat) | ixs | ixa (agg : Bool) (sz n : Nat)
  | bin (op : BinOp) | eqg (neg : Bool) (kd : Nat) | eqs (neg : Bool) (ks : List Nat)
  | un (op : UnOp)
  | cvi (k : IntKind) | cvs | cvb | cvr | cvc | sb | cvm
  | mkif (t : TypeId) | mkfn (f : Fn) (n : Nat) | mkmap | mksl (sz bytes : Nat) (z : List AV)
  | slc (sz : Nat) (lo hi : Bool)
  | lkp (kd : Nat) (z : AV) (ok : Bool) | mup (kd : Nat)
  | rngs | nxts
  | tas (t : Option TypeId) (z : AV) (ok : Bool)
  | ext (i : Nat)
  | len (kd : Nat) | min | max
  | app (sz bytes : Nat) | cpy (sz : Nat)
  | call (f : Nat) | callv

/-- Does an operation leave memory alone? -/
def AOp.quiet : AOp → Bool
  | .st _ | .box | .alloc _ | .bslice _ _ _ _ | .sb | .cvm | .mkmap | .mksl _ _ _ | .mup _ | .rngs | .nxts | .app _ _ | .cpy _ | .call _ | .callv => false
  | _ => true

/-- The scalar equality, as far as it is wanted. -/
def AV.same : AV → AV → Option Bool
  | .bool a, .bool b => some (decide (a = b))
  | .int k a, .int k' b => if k = k' then some (decide (a = b)) else none
  | .str a, .str b => some (decide (a = b))
  | .nilp, .nilp => some true
  | .nilp, .ptr _ _ => some false | .ptr _ _, .nilp => some false
  | .nilp, .iptr _ => some false | .iptr _, .nilp => some false
  | .sl _ t, .sl [] .nil => some (decide (t = .nil))
  | .sl [] .nil, .sl _ t => some (decide (t = .nil))
  | .msl _ _ _ _, .sl [] .nil => some false
  | .nilm, .nilm => some true | .map _, .nilm => some false | .nilm, .map _ => some false
  | .nilf, .nilf => some true | .fn _ _ _, .nilf => some false | .nilf, .fn _ _ _ => some false
  | .nili, .iface _ _ => some false | .iface _ _, .nili => some false
  | _, _ => none

/-- Which comparison a value takes part in. -/
def AV.eqK : AV → Nat
  | .bool _ => 0
  | .nilp | .ptr _ _ | .iptr _ => 1
  | .sl _ _ | .msl _ _ _ _ => 2
  | .nilm | .map _ => 3
  | .fn _ _ _ | .nilf => 4
  | .iface _ _ | .nili => 5
  | .int _ _ | .str _ => 6
  | _ => 7

def sameL : List AV → List AV → Option Bool
  | [], [] => some true
  | a :: as, b :: bs => match a.same b with
    | some true => sameL as bs
    | some false => some false
    | none => none
  | _, _ => none

def AV.kindN : AV → Nat
  | .bool _ => 0 | .int _ _ => 1 | .str _ => 2 | _ => 3

def AV.scal : AV → Bool
  | .bool _ | .int _ _ | .str _ => true
  | _ => false

def splice (vs : List AV) (off : Nat) (xs : List AV) : List AV := vs.take off ++ xs ++ vs.drop (off + xs.length)

def fillL : List AV → List (Nat × Nat) → List AV → Option (List AV)
  | z, [], [] => some z
  | z, (o, s) :: pl, x :: xs => if x.cells.length = s ∧ 0 < s ∧ o + s ≤ z.length then fillL (splice z o x.cells) pl xs else none
  | _, _, _ => none

def intB (op : BinOp) (k : IntKind) (x y : Int) : Int :=
  let a := BitVec.ofInt k.bits x
  let b := BitVec.ofInt k.bits y
  match op with
  | .and => k.wrap (a &&& b).toNat
  | .or => k.wrap (a ||| b).toNat
  | .xor => k.wrap (a ^^^ b).toNat
  | _ => k.wrap (a &&& ~~~b).toNat

def binF (op : BinOp) : AV → AV → Option AV
  | .int k a, .int k' b =>
    match op with
    | .shl => if b < 0 then none else some (.int k (k.wrap (a * 2 ^ (Nat.min b.toNat k.bits))))
    | .shr => if b < 0 then none else some (.int k (a.fdiv (2 ^ (Nat.min b.toNat k.bits))))
    | op => if k = k' then (match op with
      | .add => some (.int k (k.wrap (a + b)))
      | .sub => some (.int k (k.wrap (a - b)))
      | .mul => some (.int k (k.wrap (a * b)))
      | .quo => if b = 0 then none else some (.int k (k.wrap (a.tdiv b)))
      | .rem => if b = 0 then none else some (.int k (a.tmod b))
      | .lss => some (.bool (decide (a < b)))
      | .leq => some (.bool (decide (a ≤ b)))
      | .gtr => some (.bool (decide (a > b)))
      | .geq => some (.bool (decide (a ≥ b)))
      | .and | .or | .xor | .andNot => some (.int k (intB op k a b))
      | _ => none) else none
  | .str a, .str b =>
    match op with
    | .add => if a.length + b.length ≤ maxLen then some (.str (a ++ b)) else none
    | .lss => some (.bool (Op.bytesLess a b))
    | .leq => some (.bool (Op.bytesLess a b || decide (a = b)))
    | .gtr => some (.bool (!(Op.bytesLess a b || decide (a = b))))
    | .geq => some (.bool (!Op.bytesLess a b))
    | _ => none
  | _, _ => none

def unF (op : UnOp) : AV → Option AV
  | .bool b => match op with | .not => some (.bool (!b)) | _ => none
  | .int k n => match op with
    | .neg => some (.int k (k.wrap (0 - n)))
    | .xor => some (.int k (intB .xor k (if k.signed then -1 else k.max) n))
    | _ => none
  | _ => none

def byteAV (b : UInt8) : AV := .int .u8 (b.toNat : Int)
def bytesAV (l : List UInt8) : List AV := l.map byteAV

/-- A list of byte values as bytes. -/
def bytesOf : List AV → Option (List UInt8)
  | [] => some []
  | .int .u8 n :: r => (bytesOf r).map (UInt8.ofNat n.toNat :: ·)
  | _ => none

def runesOf : List AV → Option (List Int)
  | [] => some []
  | .int .i32 n :: r => (runesOf r).map (n :: ·)
  | _ => none

def encL (l : List Int) : List UInt8 := l.flatMap fun r => (Utf8.encode r).data.toList

/-- The two bounds of a slice expression, out of those that are written. -/
def boundsF (lo hi : Bool) (len : Nat) : List AV → Option (Nat × Nat)
  | [.int _ l, .int _ h] => if lo ∧ hi ∧ 0 ≤ l ∧ l ≤ h ∧ h ≤ len then some (l.toNat, h.toNat) else none
  | [.int _ x] => if lo ∧ ¬ hi then (if 0 ≤ x ∧ x ≤ len then some (x.toNat, len) else none)
    else if hi ∧ ¬ lo then (if 0 ≤ x ∧ x ≤ len then some (0, x.toNat) else none) else none
  | [] => if lo ∨ hi then none else some (0, len)
  | _ => none

def minF : AV → List AV → Option AV
  | x, [] => some x
  | .int k a, .int _ b :: r => minF (.int k (if b < a then b else a)) r
  | _, _ => none
def maxF : AV → List AV → Option AV
  | x, [] => some x
  | .int k a, .int _ b :: r => maxF (.int k (if b > a then b else a)) r
  | _, _ => none

def lookA (k : AV) : List (AV × AV) → Option (Option AV)
  | [] => some none
  | (k', v) :: es => match k.same k' with
    | some true => some (some v)
    | some false => lookA k es
    | none => none

def updA (k v : AV) : List (AV × AV) → Option (List (AV × AV))
  | [] => some [(k, v)]
  | (k', v') :: es => match k.same k' with
    | some true => some ((k, v) :: es)
    | some false => (updA k v es).map ((k', v') :: ·)
    | none => none

def foundA (z : AV) (ok : Bool) (r : Option AV) : AV :=
  match r with
  | some v => if ok then .tup [v, .bool true] else v
  | none => if ok then .tup [z, .bool false] else z

def AllSz (sz : Nat) (xs : List AV) : Prop := ∀ x ∈ xs, x.cells.length = sz
instance (sz : Nat) (xs : List AV) : Decidable (AllSz sz xs) := inferInstanceAs (Decidable (∀ x ∈ xs, x.cells.length = sz))

/-- What an operation yields that looks at its operands alone. -/
def pureF : AOp → List AV → Option AV
  | .mv, [x] => some x
  | .pick, [.bool b, x, y] => some (if b then x else y)
  | .nilck, [x] => match x with
    | .ptr _ _ => some x | .iptr _ => some x | .fn (.func _) _ _ => some x | _ => none
  | .faddr o, [x] => match x with
    | .ptr id off => some (.ptr id (off + o)) | .iptr cs => some (.iptr (cs.drop o)) | _ => none
  | .iaddr sz, [x, .int _ i] => match x with
    | .sl xs _ => match xs[i.toNat]? with
      | some y => if 0 ≤ i ∧ y.cells.length = sz then some (.iptr y.cells) else none
      | none => none
    | .msl id off len s => if s = sz ∧ 0 ≤ i ∧ i < len then some (.ptr id (off + i.toNat * sz)) else none
    | _ => none
  | .aaddr sz n, [x, .int _ i] => if 0 ≤ i ∧ i < n then (match x with
    | .ptr id off => some (.ptr id (off + i.toNat * sz)) | .iptr cs => some (.iptr (cs.drop (i.toNat * sz))) | _ => none) else none
  | .ld agg sz, [.iptr cs] => if agg then (if sz ≤ cs.length then some (.agg (cs.take sz)) else none) else cs[0]?
  | .build z pl, xs => (fillL z pl xs).map .agg
  | .fld agg off sz, [.agg cs] => if agg then some (.agg ((cs.drop off).take sz)) else cs[off]?
  | .ixs, [.str s, .int _ i] => if 0 ≤ i then (s[i.toNat]?).map byteAV else none
  | .ixa agg sz n, [.agg cs, .int _ i] => if 0 ≤ i ∧ i < n then (if agg then some (.agg ((cs.drop (i.toNat * sz)).take sz)) else cs[i.toNat * sz]?) else none
  | .bin op, [x, y] => binF op x y
  | .eqg neg kd, [x, y] => if x.eqK = kd then (x.same y).map fun b => .bool (neg != b) else none
  | .eqs neg ks, [.agg xs, .agg ys] => if xs.map AV.kindN = ks ∧ ys.map AV.kindN = ks then (sameL xs ys).map fun b => .bool (neg != b) else none
  | .un op, [x] => unF op x
  | .cvi k, [.int _ n] => some (.int k (k.wrap n))
  | .cvs, [.str s] => some (.str s)
  | .cvb, [.sl xs _] => (bytesOf xs).map .str
  | .cvr, [.sl xs _] => (runesOf xs).map fun l => .str (encL l)
  | .cvc, [.int _ n] => some (.str (Utf8.encode n).data.toList)
  | .mkif t, [x] => match x with | .any => none | x => some (.iface t x)
  | .mkfn f n, xs => if n ≤ xs.length then some (.fn f (xs.take n) (xs.drop n)) else none
  | .slc sz lo hi, x :: bs => match x with
    | .str s => if sz = 0 then (boundsF lo hi s.length bs).map fun (l, h) => .str ((s.take h).drop l) else none
    | .sl xs t => if 0 < sz ∧ AllSz sz xs then (boundsF lo hi xs.length bs).map fun (l, h) => .sl ((xs.take h).drop l) (if h = xs.length then t else .no) else none
    | .msl id off len s => if 0 < sz ∧ s = sz then (boundsF lo hi len bs).map fun (l, h) => .msl id (off + l * sz) (h - l) sz else none
    | _ => none
  | .tas t z ok, [x] => match t, x with
    | some t, .iface u v => if u = t then some (if ok then .tup [v, .bool true] else v) else if ok then some (.tup [z, .bool false]) else none
    | some _, .nili => if ok then some (.tup [z, .bool false]) else none
    | none, .iface u v => some (if ok then .tup [.iface u v, .bool true] else .iface u v)
    | none, .nili => if ok then some (.tup [z, .bool false]) else none
    | _, _ => none
  | .ext i, [.tup vs] => vs[i]?
  | .len kd, [x] => match kd, x with
    | 0, .str s => some (.int .i64 s.length) | 1, .sl xs _ => some (.int .i64 xs.length) | 1, .msl _ _ n _ => some (.int .i64 n) | 2, .nilm => some (.int .i64 0) | _, _ => none
  | .min, x :: xs => minF x xs
  | .max, x :: xs => maxF x xs
  | .lkp kd z ok, [.nilm, k] => if k.kindN = kd ∧ kd ≤ 2 then some (foundA z ok none) else none
  | _, _ => none

/-- What an operation yields that writes nothing. -/
def Rd (op : AOp) (xs : List AV) (H : Heap) (v : AV) : Prop :=
  pureF op xs = some v ∨
  match op, xs with
  | .ld agg sz, [.ptr id off] => ∃ vs, (id, AObj.cells vs) ∈ H ∧ (if agg then off + sz ≤ vs.length ∧ v = .agg ((vs.drop off).take sz) else vs[off]? = some v)
  | .len 2, [.map id] => ∃ es, (id, AObj.map es) ∈ H ∧ v = .int .i64 es.length
  | .lkp kd z ok, [.map id, k] => ∃ es r, (id, AObj.map es) ∈ H ∧ k.kindN = kd ∧ kd ≤ 2 ∧ lookA k es = some r ∧ v = foundA z ok r
  | .cvb, [.msl id off n s] => s = 1 ∧ ∃ vs bs, (id, AObj.cells vs) ∈ H ∧ off + n ≤ vs.length ∧ bytesOf ((vs.drop off).take n) = some bs ∧ v = .str bs
  | _, _ => False

/-- One entry of the heap turned into another, in its place. -/
inductive Rpl : Heap → Nat × AObj → Nat × AObj → Heap → Prop
  | here (p q : Nat × AObj) (T : Heap) : Rpl (p :: T) p q (q :: T)
  | there (x p q : Nat × AObj) (T T' : Heap) : Rpl T p q T' → Rpl (x :: T) p q (x :: T')

def Heap.keys (H : Heap) : List Nat := H.map Prod.fst

def flat (xs : List AV) : List AV := xs.flatMap AV.cells

/-- What is handed to append or copy: n elements, as cells. -/
def Src (sz : Nat) (x : AV) (H : Heap) (ys : List AV) : Prop :=
  AllSz sz ys ∧
  match x with
  | .sl xs _ => ys = xs
  | .str s => sz = 1 ∧ ys = bytesAV s
  | .msl id off n s => s = sz ∧ ys.length = n ∧ ∃ vs, (id, AObj.cells vs) ∈ H ∧ off + n * sz ≤ vs.length ∧ flat ys = (vs.drop off).take (n * sz)
  | _ => False

/-- What an operation that writes or makes memory does. -/
def ef (op : AOp) (xs : List AV) (H : Heap) (K : AV → Heap → Prop) : Prop :=
  match op, xs with
  | .st sz, [p, x] => ∃ id off vs H', p = .ptr id off ∧ 0 < sz ∧ x.cells.length = sz ∧ off + sz ≤ vs.length ∧
      Rpl H (id, .cells vs) (id, .cells (splice vs off x.cells)) H' ∧ K .undef H'
  | .box, [x] => 0 < x.cells.length ∧ ∀ id, id ∉ H.keys → K (.ptr id 0) ((id, .cells x.cells) :: H)
  | .alloc z, [] => ∀ id, id ∉ H.keys → K (.ptr id 0) ((id, .cells z) :: H)
  | .bslice sz n z pl, xs => ∃ cs, fillL ((List.replicate n z).flatten) pl xs = some cs ∧
      ((∀ id, id ∉ H.keys → K (.msl id 0 n sz) ((id, .cells cs) :: H)) ∨
       (∃ ys, AllSz sz ys ∧ ys.length = n ∧ flat ys = cs ∧ ∀ id, id ∉ H.keys → K (.sl ys (.at id (n * sz) sz)) ((id, .spare (n * sz)) :: H)))
  | .sb, [.str s] => s.length ≤ maxLen ∧
      ((∀ id, id ∉ H.keys → K (.msl id 0 s.length 1) ((id, .cells (bytesAV s)) :: H)) ∨
       (∀ id, id ∉ H.keys → K (.sl (bytesAV s) (.at id s.length 1)) ((id, .spare s.length) :: H)))
  | .cvm, [.msl id 0 n s] => s = 1 ∧ 0 < n ∧ ∃ vs, (id, AObj.cells vs) ∈ H ∧ n = vs.length ∧ (K (.msl id 0 n 1) H ∨ (AllSz 1 vs ∧ flat vs = vs ∧ ∃ H', Rpl H (id, .cells vs) (id, .spare n) H' ∧ K (.sl vs (.at id n 1)) H'))
  | .mksl sz bytes z, [.int _ n, .int _ c] => 0 ≤ n ∧ n ≤ c ∧ c ≤ maxLen ∧ bytes * c ≤ 281474976710656 ∧
      ∀ id, id ∉ H.keys → K (.msl id 0 n.toNat sz) ((id, .cells ((List.replicate n.toNat z).flatten)) :: H)
  | .mkmap, [] => ∀ id, id ∉ H.keys → K (.map id) ((id, .map []) :: H)
  | .mup kd, [.map id, k, v] => ∃ es es' H', k.kindN = kd ∧ kd ≤ 2 ∧ v ≠ .any ∧ updA k v es = some es' ∧ Rpl H (id, .map es) (id, .map es') H' ∧ K .undef H'
  | .rngs, [.str s] => ∀ id, id ∉ H.keys → K (.ptr id 0) ((id, .iter s 0) :: H)
  | .nxts, [.ptr id 0] => ∃ s pos, (pos < s.length → ∃ H', Rpl H (id, .iter s pos) (id, .iter s (pos + (Utf8.decode ⟨s.toArray⟩ pos).2)) H' ∧
        K (.tup [.bool true, .int .i64 pos, .int .i32 (Utf8.decode ⟨s.toArray⟩ pos).1]) H') ∧
      (s.length ≤ pos → (id, AObj.iter s pos) ∈ H ∧ K (.tup [.bool false]) H) ∧ (id, AObj.iter s pos) ∈ H
  | .app sz bytes, [s, x] => ∃ ys, Src sz x H ys ∧ 0 < sz ∧ (match s with
      | .sl xs t => AllSz sz xs ∧ xs.length + ys.length ≤ maxLen ∧ (xs.length + ys.length) * bytes ≤ 140737488355328 ∧ (match t with
        | .nil => (ys = [] → K (.sl [] .nil) H) ∧ (ys ≠ [] → ∀ id e, id ∉ H.keys → K (.sl ys (.at id e sz)) ((id, .spare e) :: H))
        | .at b e s' => s' = sz ∧ (b, AObj.spare e) ∈ H ∧ ∀ id e' H', (id = b ∨ id ∉ H.keys) → Rpl H (b, .spare e) (id, .spare e') H' → K (.sl (xs ++ ys) (.at id e' sz)) H'
        | .no => False)
      | .msl b 0 n s' => s' = sz ∧ n + ys.length ≤ maxLen ∧ (n + ys.length) * bytes ≤ 140737488355328 ∧ ∃ vs, vs.length = n * sz ∧ (b, AObj.cells vs) ∈ H ∧
          ∀ id H', (id = b ∨ id ∉ H.keys) → Rpl H (b, .cells vs) (id, .cells (vs ++ flat ys)) H' → K (.msl id 0 (n + ys.length) sz) H'
      | _ => False)
  | .cpy sz, [d, x] => ∃ ys, Src sz x H ys ∧ (match d with
      | .msl id off n s => s = sz ∧ ∃ vs H', off + n * sz ≤ vs.length ∧ Rpl H (id, .cells vs) (id, .cells (splice vs off (flat (ys.take n)))) H' ∧ K (.int .i64 (Nat.min ys.length n : Nat)) H'
      | .sl [] _ => K (.int .i64 0) H
      | _ => False)
  | _, _ => False

end Go.AL
