/- The abstract layer, part 3: how the model's operations are turned into abstract ones, and facts on the model's memory operations under the relation. -/
import Derived.Test.YtpeaphpibnikcaaA2
namespace Go.AL
open Go.RowKit

def scalAV : Value → Option AV
  | .bool b => some (.bool b)
  | .int k n => some (.int k n)
  | .string s => some (.str s.data.toList)
  | .pointer none => some .nilp
  | .slice none 0 0 => some (.sl [] .nil)
  | .map none => some .nilm
  | .nilFunc => some .nilf
  | .nilIface => some .nili
  | _ => none

def toAV : Value → Option AV
  | .agg cs => (cs.toList.mapM scalAV).map .agg
  | .tuple vs => if vs.toList.isEmpty then some (.tup []) else none
  | v => scalAV v

/-- An operand, abstractly. -/
def opAV (G : Nat → Option (List AV)) (σ : List AV) : Operand → AV
  | .tmp t => σ.getD t .any
  | .const v => (toAV v).getD .any
  | .global g => match G g with | some cs => .iptr cs | none => .any
  | .func f => .fn (.func f) [] []

def isAgg? (P : Program) (t : TypeId) : Option Bool :=
  match P.underlying t with
  | some (.struct _) | some (.array _ _) => some true
  | some _ => some false
  | none => none
def size? (P : Program) (t : TypeId) : Option Nat := (P.info? t).map (·.size)
def bytes? (P : Program) (t : TypeId) : Option Nat := (P.info? t).map (·.bytes)
def zero? (P : Program) (t : TypeId) : Option AV := ((P.info? t).bind (·.zero)).bind toAV

def scalT (P : Program) (t : TypeId) : Bool :=
  match P.underlying t with
  | some .bool | some (.int _) | some .string => true
  | _ => false

def kindT (P : Program) (t : TypeId) : Option Nat :=
  match P.underlying t with
  | some .bool => some 0 | some (.int _) => some 1 | some .string => some 2
  | _ => none

def eqKind : TypeDesc → Option Nat
  | .bool => some 0 | .pointer _ => some 1 | .slice _ => some 2 | .map _ _ => some 3 | .func _ _ _ => some 4 | .interface _ => some 5
  | .int _ | .string => some 6
  | _ => none

def compCall (P : Program) (c : Call) : Option (AOp × List Operand) :=
  match c.callee with
  | .value (.func f) => some (.call f, c.args.toList)
  | .value x => some (.callv, x :: c.args.toList)
  | .invoke _ _ => none
  | .builtin b =>
    let xs := c.args.toList
    match b, c.argTypes[0]? with
    | .len, some t => match P.underlying t, xs with
      | some .string, [_] => some (.len 0, xs)
      | some (.slice _), [_] => some (.len 1, xs)
      | some (.map _ _), [_] => some (.len 2, xs)
      | _, _ => none
    | .min, _ => if xs.isEmpty then none else some (.min, xs)
    | .max, _ => if xs.isEmpty then none else some (.max, xs)
    | .append, some t => match P.underlying t, c.argTypes[1]?, xs with
      | some (.slice e), some t2, [_, _] => match P.underlying t2, size? P e, bytes? P e, zero? P e with
        | some (.slice _), some s, some b, some z => if z.cells.length = s then some (.app s b, xs) else none
        | some .string, some s, some b, some z => if z.cells.length = s then some (.app s b, xs) else none
        | _, _, _, _ => none
      | _, _, _ => none
    | .copy, some t => match P.underlying t, xs with
      | some (.slice e), [_, _] => (size? P e).bind fun s => if 0 < s then some (.cpy s, xs) else none
      | _, _ => none
    | _, _ => none

def compOp (P : Program) : Op → Option (AOp × List Operand)
  | .move x | .assign x => some (.mv, [x])
  | .pick c a b => some (.pick, [c, a, b])
  | .nilCheck x => some (.nilck, [x])
  | .alloc t => (zero? P t).bind fun z => if 0 < z.cells.length then some (.alloc z.cells, []) else none
  | .box _ x => some (.box, [x])
  | .build t parts => match P.underlying t with
    | some (.struct fs) => (zero? P t).bind fun z =>
        (parts.toList.mapM fun (p : Nat × Operand) => (fs[p.1]?).bind fun f => (size? P f.type).map fun s => (f.offset, s)).bind fun pl =>
        match z with
        | .agg z => if fs.toList.all (fun (f : Field) => (size? P f.type).isSome) then some (.build z pl, parts.toList.map (·.2)) else none
        | _ => none
    | some (.array _ e) => (zero? P t).bind fun z => (size? P e).bind fun s =>
        match z with
        | .agg z => some (.build z (parts.toList.map fun p => (p.1 * s, s)), parts.toList.map (·.2))
        | _ => none
    | _ => none
  | .buildSlice t n parts => match P.underlying t with
    | some (.slice e) => (zero? P e).bind fun z => (size? P e).bind fun s => if z.cells.length = s ∧ 0 < s ∧ n * s ≤ 65536 then
        some (.bslice s n z.cells (parts.toList.map fun p => (p.1 * s, s)), parts.toList.map (·.2)) else none
    | _ => none
  | .load t a => (isAgg? P t).bind fun g => (size? P t).map fun s => (.ld g s, [a])
  | .store t a v => (size? P t).map fun s => (.st s, [a, v])
  | .binOp op t x y _ => match op with
    | .eql | .neq => match P.underlying t with
      | some (.struct fs) => (fs.toList.mapM (fun (f : Field) => kindT P f.type)).bind fun ks =>
          if fs.toList.all (fun f => f.name != "_" && (size? P f.type == some 1)) && fs.toList.map (·.offset) == List.range fs.size
            && !P.stoodInHeld t && !P.eqGuardType P.depth t then some (.eqs (op == .neq) ks, [x, y]) else none
      | some d => (eqKind d).map fun kd => (.eqg (op == .neq) kd, [x, y])
      | none => none
    | op => some (.bin op, [x, y])
  | .unOp op _ x => some (.un op, [x])
  | .convert s d x => match P.underlying s, P.underlying d with
    | some (.int _), some (.int k) => some (.cvi k, [x])
    | some .string, some .string => some (.cvs, [x])
    | some (.int _), some .string => some (.cvc, [x])
    | some (.slice e), some .string => match P.underlying e with
      | some (.int .u8) => some (.cvb, [x])
      | some (.int .i32) => some (.cvr, [x])
      | _ => none
    | some .string, some (.slice e) => match P.underlying e with
      | some (.int .u8) => some (.sb, [x])
      | _ => none
    | some (.slice _), some (.slice e) => match P.underlying e with
      | some (.int .u8) => if s == d then some (.cvm, [x]) else none
      | _ => none
    | _, _ => none
  | .makeInterface t x => match P.underlying t with
    | some (.interface _) | none => none
    | some _ => some (.mkif t, [x])
  | .makeFunc fn first captured => some (.mkfn fn first.size, first.toList ++ captured.toList)
  | .makeMap _ none => some (.mkmap, [])
  | .makeSlice t l c => match P.underlying t with
    | some (.slice e) => (zero? P e).bind fun z => (size? P e).bind fun s => (bytes? P e).bind fun b => if z.cells.length = s ∧ 0 < s then some (.mksl s b z.cells, [l, c]) else none
    | _ => none
  | .slice t x lo hi none => match P.underlying t with
    | some .string => some (.slc 0 lo.isSome hi.isSome, x :: (lo.toList ++ hi.toList))
    | some (.slice e) => (size? P e).bind fun s => if 0 < s then some (.slc s lo.isSome hi.isSome, x :: (lo.toList ++ hi.toList)) else none
    | _ => none
  | .fieldAddr t x i => match P.underlying t with
    | some (.struct fs) => (fs[i]?).bind fun f => (size? P f.type).bind fun s => if 0 < s then some (.faddr f.offset, [x]) else none
    | _ => none
  | .field t x i => match P.underlying t with
    | some (.struct fs) => (fs[i]?).bind fun f => (isAgg? P f.type).bind fun g => (size? P f.type).map fun s => (.fld g f.offset s, [x])
    | _ => none
  | .indexAddr t x i => match P.underlying t with
    | some (.slice e) => (size? P e).bind fun s => if 0 < s then some (.iaddr s, [x, i]) else none
    | some (.array n e) => (size? P e).bind fun s => if 0 < s then some (.aaddr s n, [x, i]) else none
    | _ => none
  | .index t x i => match P.underlying t with
    | some .string => some (.ixs, [x, i])
    | some (.array n e) => (isAgg? P e).bind fun g => (size? P e).map fun s => (.ixa g s n, [x, i])
    | _ => none
  | .lookup t x i ok => match P.underlying t with
    | some (.map k e) => (kindT P k).bind fun kd => (zero? P e).map fun z => (.lkp kd z ok, [x, i])
    | _ => none
  | .mapUpdate t m k v => match P.underlying t with
    | some (.map kt _) => (kindT P kt).map fun kd => (.mup kd, [m, k, v])
    | _ => none
  | .range t x => match P.underlying t with
    | some .string => some (.rngs, [x])
    | _ => none
  | .next it true => some (.nxts, [it])
  | .typeAssert x _ t ok => match P.underlying t with
    | some (.interface _) => none
    | some _ => if ok then (zero? P t).map fun z => (.tas (some t) z ok, [x]) else some (.tas (some t) .nili ok, [x])
    | none => none
  | .extract x i => some (.ext i, [x])
  | .call c => compCall P c
  | _ => none

section facts
variable {G : Nat → Option (List AV)} {B : Nat} {w0 w w' : World} {m m' : Im} {H H' : Heap} {P : Program}

theorem oneCell_int (k : IntKind) (n : Int) : (Value.int k n).oneCell' = true := rfl

/-- A value that stands for one cell. -/
theorem Rel.cells_of {v : AV} {c : Value} (h : Rel m v c) (hz : 0 < v.cells.length) : v.cells.length = c.cells.size ∧
    (∀ (i : Nat) (x : AV) (y : Value), v.cells[i]? = some x → c.cells[i]? = some y → Rel m x y) ∧ (∀ (i : Nat) (y : Value), c.cells[i]? = some y → y.oneCell' = true) := by
  have one : ∀ {v : AV} {c : Value}, Rel m v c → v.cells = [v] → c.cells = #[c] → c.oneCell' = true → v.cells.length = c.cells.size ∧
    (∀ (i : Nat) (x : AV) (y : Value), v.cells[i]? = some x → c.cells[i]? = some y → Rel m x y) ∧ (∀ (i : Nat) (y : Value), c.cells[i]? = some y → y.oneCell' = true) := by
    intro v c h h1 h2 h3
    rw [h1, h2]
    refine ⟨rfl, fun i x y hx hy => ?_, fun i y hy => ?_⟩
    · cases i <;> simp at hx hy; subst hx hy; exact h
    · cases i <;> simp at hy; subst hy; exact h3
  cases h with
  | any v => simp [AV.cells] at hz
  | tup vs va hl hr => simp [AV.cells] at hz
  | agg cs ca hl h1 hr => exact ⟨hl, hr, h1⟩
  | bool b => exact one (.bool b) rfl rfl rfl
  | int k n => exact one (.int k n) rfl rfl rfl
  | str s => exact one (.str s) rfl rfl rfl
  | nilp => exact one .nilp rfl rfl rfl
  | ptr id off => exact one (.ptr id off) rfl rfl rfl
  | iptr cs a f hs hc h1 hr => exact one (.iptr cs a f hs hc h1 hr) rfl rfl rfl
  | slnil => exact one .slnil rfl rfl rfl
  | sl xs t a len cap sz f ht hl hlc hcm hs hz' hc h1 hr hk => exact one (.sl xs t a len cap sz f ht hl hlc hcm hs hz' hc h1 hr hk) rfl rfl rfl
  | msl id off len cap sz n hlc hcm hn hcap => exact one (.msl id off len cap sz n hlc hcm hn hcap) rfl rfl rfl
  | msl0 id off sz a => exact one (.msl0 id off sz a) rfl rfl rfl
  | nilm => exact one .nilm rfl rfl rfl
  | map id => exact one (.map id) rfl rfl rfl
  | fn f fs cs fa ca hf hc hfr hcr => exact one (.fn f fs cs fa ca hf hc hfr hcr) rfl rfl rfl
  | nilf => exact one .nilf rfl rfl rfl
  | iface t v cv h hn => exact one (.iface t v cv h hn) rfl rfl rfl
  | nili => exact one .nili rfl rfl rfl

theorem Rel.one_of {v : AV} {c : Value} (h : Rel m v c) (hv : v.cells = [v]) (hna : ∀ cs, v ≠ .agg cs) : c.oneCell' = true := by
  cases h <;> first | rfl | (simp [AV.cells] at hv; done) | (exact absurd rfl (hna _))

theorem scalAV_rel {v : Value} {a : AV} (h : scalAV v = some a) : Rel m a v ∧ v.oneCell' = true := by
  unfold scalAV at h
  split at h <;> first | (cases h; exact ⟨by constructor, rfl⟩) | cases h

theorem mapM_scal : ∀ {l : List Value} {as : List AV}, l.mapM scalAV = some as → as.length = l.length ∧ ∀ (i : Nat) (x : AV) (y : Value), as[i]? = some x → l[i]? = some y → Rel m x y ∧ y.oneCell' = true
  | [], as, h => by simp at h; subst h; simp
  | v :: l, as, h => by
    rw [List.mapM_cons] at h
    cases hv : scalAV v with
    | none => rw [hv] at h; simp at h
    | some a =>
      rw [hv] at h
      cases hl : l.mapM scalAV with
      | none => rw [hl] at h; simp at h
      | some as' =>
        rw [hl] at h; simp at h; subst h
        obtain ⟨h1, h2⟩ := mapM_scal hl
        refine ⟨by simp [h1], fun i x y hx hy => ?_⟩
        cases i with
        | zero => simp at hx hy; subst hx hy; exact scalAV_rel hv
        | succ i => simp at hx hy; exact h2 i x y hx hy

theorem toAV_rel {v : Value} {a : AV} (h : toAV v = some a) : Rel m a v := by
  unfold toAV at h
  split at h
  · rename_i cs
    cases hl : cs.toList.mapM scalAV with
    | none => rw [hl] at h; simp at h
    | some as =>
      rw [hl] at h; simp at h; subst h
      obtain ⟨h1, h2⟩ := mapM_scal (m := m) hl
      refine .agg as cs (by simpa using h1) (fun i y hy => ?_) (fun i x y hx hy => (h2 i x y hx (by simpa using hy)).1)
      have hi : i < as.length := by rw [h1]; simpa using (Array.getElem?_eq_some_iff.1 hy).1
      exact (h2 i as[i] y (List.getElem?_eq_getElem hi) (by simpa using hy)).2
  · rename_i vs
    split at h
    · rename_i he
      cases h
      have : vs = #[] := by cases vs; simpa using he
      subst this
      exact .tup [] #[] rfl (fun i x y h => by simp at h)
    · cases h
  · exact (scalAV_rel h).1

theorem opAV_rel (hs : Sat G B w0 m H w) {σ : List AV} {a : Act} (hσ : RelL m σ a.tmps.toList) (x : Operand) : Rel m (opAV G σ x) (a.eval x) := by
  cases x with
  | tmp t =>
    simp only [opAV, Act.eval]
    rw [List.getD_eq_getElem?_getD, Array.getD_eq_getD_getElem?]
    cases h : σ[t]? with
    | none => exact .any _
    | some y =>
      obtain ⟨c, hc, hr⟩ := hσ.get t h
      have : a.tmps[t]? = some c := by simpa using hc
      rw [this]; exact hr
  | const v =>
    simp only [opAV, Act.eval]
    cases h : toAV v with
    | none => exact .any _
    | some y => exact toAV_rel h
  | global g =>
    simp only [opAV, Act.eval]
    cases h : G g with
    | none => exact .any _
    | some cs => exact hs.glob g cs h
  | func f => exact .fn (.func f) [] [] #[] #[] rfl rfl (fun i x y h => by simp at h) (fun i x y h => by simp at h)

/-- Loading cells that are known. -/
theorem run_loadCells_known (n : Nat) : ∀ (a : Addr) (f : Nat → Value) (w : World) (i : Nat) (acc : Array Value), (∀ j, j < n → w.cell? (a.add (i + j)) = some (f (i + j))) →
    (loadCellsFrom a i n acc).run P w = .ok (acc ++ (Array.ofFn fun j : Fin n => f (i + j))) w := by
  induction n with
  | zero => intro a f w i acc _; simp [loadCellsFrom]
  | succ n ih =>
    intro a f w i acc h
    have h0 := h 0 (by omega)
    simp only [Nat.add_zero] at h0
    simp only [loadCellsFrom, Sem.run_bind, run_load, h0, Result.andThen_ok]
    rw [ih a f w (i + 1) (acc.push (f i)) (fun j hj => by have := h (j + 1) (by omega); rwa [show i + 1 + j = i + (j + 1) by omega])]
    congr 1
    rw [← Array.toList_inj]
    simp only [Array.toList_append, Array.toList_push, Array.toList_ofFn]
    rw [List.ofFn_succ, List.append_assoc, List.singleton_append]
    congr 3
    funext j
    simp only [Fin.val_succ]
    congr 1
    omega

theorem addr_add (a : Addr) (n : Nat) (hs : a.spot = none) : a.add n = ⟨a.block, a.off + n, none⟩ := by
  unfold Addr.add
  split
  · rename_i h; subst h; cases a; simp_all
  · cases a; simp_all

end facts
end Go.AL
