/- The abstract layer, part 24: the same rules, with what comes behind hidden from the computing until it is reached. -/
import Derived.Test.YtpeaphpibnikcaaA23
namespace Go.AL
open Go.RowKit

class Kv where
  ap : AV → Heap → Prop
class Ke where
  ap : Env → Heap → Prop
class Kx where
  ap : Exit → Env → Heap → Prop
class K1 where
  ap : AV → Prop
class Kl (α : Type) where
  ap : List α → Prop
class Km where
  ap : List (AV × AV) → Prop
class Ki where
  ap : List UInt8 → Nat → Prop
class Ko where
  ap : Option AV → Prop
class Kn where
  ap : Nat → Prop
class Knn where
  ap : Nat → Nat → Prop
class Kpe where
  ap : List Pend → Env → Heap → Prop
class Kh where
  ap : Heap → Prop
class Kp where
  p : Prop
  q : Prop
/-- What is known of the program's functions. -/
class Th where
  G : Nat → Option (List AV)
  P : Program
  T : List (Nat × (List AV → Heap → Kv → Prop))
class Tq where
  G : Nat → Option (List AV)
  P : Program
  T : List (Nat × (List AV → Heap → Kv → Prop))
class Fq where
  c : List AV → Heap → Kv → Prop

def plainT (T : List (Nat × (List AV → Heap → Kv → Prop))) : Tbl := T.map fun p => (p.1, fun xs H K => p.2 xs H ⟨K⟩)

def xE [t : Th] (op : AOp) (xs : List AV) (H : Heap) [K : Kv] : Prop := effS t.G t.P (plainT t.T) op xs H K.ap
def xO (o : Option AV) [K : K1] : Prop := optS o K.ap
def xC (o : Option AObj) [K : Kl AV] : Prop := cellsS o K.ap
def xSp (o : Option AObj) [K : Kn] : Prop := spareS o K.ap
def xM (o : Option AObj) [K : Km] : Prop := mapS o K.ap
def xI (o : Option AObj) [K : Ki] : Prop := iterS o K.ap
def xL (o : Option (Option AV)) [K : Ko] : Prop := lookS o K.ap
def xLs {α : Type} (o : Option (List α)) [K : Kl α] : Prop := listS o K.ap
def xFr (H : Heap) [K : Kn] : Prop := freshS H K.ap
def xOt (ks : List Nat) [K : Knn] : Prop := otherS ks K.ap
def xOm (ks : List Nat) [K : Kn] : Prop := otherM ks K.ap
def xSrc (sz : Nat) (x : AV) (H : Heap) [K : Kl AV] : Prop := srcS sz x H K.ap
def xB (lo hi : Bool) (n : Nat) (bs : List AV) [K : Knn] : Prop := boundsS lo hi n bs K.ap
def xG (σ : Env) (g : Option (Nat × Bool)) [K : Kp] : Prop := gate σ g K.p K.q
def xGV (v : AV) (w : Bool) [K : Kp] : Prop := gateV v w K.p K.q
def xIf (b : Bool) [K : Kp] : Prop := if b = true then K.p else K.q
def xCd (v : AV) [K : Kp] : Prop := condS v K.p K.q
def xR [t : Th] (l : List AOper) (σ : Env) (H : Heap) [K : Ke] : Prop := runS t.G t.P (plainT t.T) l σ H K.ap
def xRI [t : Th] (l : List Item) (σ : Env) (H : Heap) [K : Ke] : Prop := runIS t.G t.P (plainT t.T) l σ H K.ap
def xSq [t : Th] (l : List Item) (pend : List Pend) (σ : Env) (H : Heap) [K : Ke] : Prop := seqS t.G t.P (plainT t.T) l pend σ H K.ap
def xSqP [t : Th] (l : List Item) (pend : List Pend) (σ : Env) (H : Heap) [K : Kpe] : Prop := seqPS t.G t.P (plainT t.T) l pend σ H K.ap
def xQ [_t : Th] (op : AOp) (xs : List AV) (H : Heap) [K : K1] : Prop := quietS op xs H K.ap
def xOb [_t : Th] (ob : List Nat) (pend : List Pend) (H : Heap) [K : Kh] : Prop := oblS ob pend H (K.ap H)
def xAO [_t : Th] (ob : List Nat) (H : Heap) (pend : List Pend) : Prop := aoS ob H pend
def xD [t : Th] (c : ACode) (σ : Env) (H : Heap) [K : Kx] : Prop := denS t.G t.P (plainT t.T) c σ H K.ap
def xT (e : Exit) (σ : Env) (H : Heap) [N : Ke] [K : Kx] : Prop := thenE N.ap K.ap e σ H
def xBl (id : Nat) (e : Exit) (σ : Env) (H : Heap) [K : Kx] : Prop := blockE id K.ap e σ H
def xEn (e : Exit) (σ : Env) (H : Heap) [K : Ke] : Prop := endE K.ap e σ H
def xRes [_t : Th] (σ : Env) (H : Heap) (rs : List ARes) (acc : List AV) [K : Kv] : Prop := resS σ H K.ap rs acc
def xCall [t : Th] (f : Nat) (xs : List AV) (H : Heap) [K : Kv] : Prop := callS t.G t.P (plainT t.T) f xs H K.ap
def xTb [t : Tq] (f : Nat) (xs : List AV) (H : Heap) [K : Kv] : Prop := callS t.G t.P (plainT t.T) f xs H K.ap
def xAp [c : Fq] (xs : List AV) (H : Heap) [K : Kv] : Prop := c.c xs H K
/-- A call that the table does not tell. -/
def xA [t : Tq] (f : Nat) (xs : List AV) (H : Heap) [K : Kv] : Prop := ACalls t.G t.P f xs H K.ap
def xF [t : Th] (F : AFun) (xs : List AV) (H : Heap) [K : Kv] : Prop := denFS t.G t.P (plainT t.T) F xs H K.ap
/-- A test that stands: both ways. -/
def xW (c : Prop) [Decidable c] [K : Kp] : Prop := if c then K.p else K.q
/-- So many times the same cells: of a literal's slice. -/
def repF (n : Nat) (z : List AV) : List AV := (List.replicate n z).flatten
/-- One of two ways, to be chosen by hand. -/
def xSel [K : Kp] : Prop := K.p ∨ K.q

section
variable {t : Th} {H : Heap} {K : Kv}

theorem x_gnone (σ : Env) (K : Kp) : xG σ none = K.p := rfl
theorem x_gsome (σ : Env) (i : Nat) (w : Bool) (K : Kp) : xG σ (some (i, w)) = xGV (σ.get i) w := rfl
theorem x_gbool (b w : Bool) (K : Kp) : xGV (.bool b) w = xIf (b == w) := by
  show (if b = w then K.p else K.q) = (if (b == w) = true then K.p else K.q)
  by_cases h : b = w <;> simp [h]
theorem x_gtup (w : Bool) (K : Kp) : xGV (.tup []) w = K.q := rfl
theorem x_cond (b : Bool) (K : Kp) : xCd (.bool b) = xIf b := rfl
theorem x_if1 (K : Kp) : xIf true = K.p := rfl
theorem x_if0 (K : Kp) : xIf false = K.q := by simp [xIf]
theorem x_opt (v : AV) (K : K1) : xO (some v) = K.ap v := rfl
theorem x_cells (vs : List AV) (K : Kl AV) : xC (some (.cells vs)) = K.ap vs := rfl
theorem x_spare (e : Nat) (K : Kn) : xSp (some (.spare e)) = K.ap e := rfl
theorem x_map (es : List (AV × AV)) (K : Km) : xM (some (.map es)) = K.ap es := rfl
theorem x_iter (s : List UInt8) (p : Nat) (K : Ki) : xI (some (.iter s p)) = K.ap s p := rfl
theorem x_look (r : Option AV) (K : Ko) : xL (some r) = K.ap r := rfl
theorem x_list {α : Type} (r : List α) (K : Kl α) : xLs (some r) = K.ap r := rfl

theorem x_rnil (σ : Env) (K : Ke) : xR [] σ H = K.ap σ H := rfl
theorem x_rcons (d : Option Nat) (op : AOp) (as : List Operand) (g : Option (Nat × Bool)) (l : List AOper) (σ : Env) (K : Ke) :
    xR (⟨d, op, as, g⟩ :: l) σ H = xG σ g (K := ⟨xE op (as.map (opE t.G σ)) H (K := ⟨fun v H' => xR l (σ.put d v) H'⟩), xR l (σ.put d .undef) H⟩) := rfl
theorem x_inil (σ : Env) (K : Ke) : xRI [] σ H = K.ap σ H := rfl
theorem x_icons (i : Nat) (d : Option Nat) (op : AOp) (as : List Operand) (g : Option (Nat × Bool)) (ob : List Nat) (l : List Item) (σ : Env) (K : Ke) :
    xRI (⟨i, ⟨d, op, as, g⟩, ob⟩ :: l) σ H = xG σ g (K := ⟨xE op (as.map (opE t.G σ)) H (K := ⟨fun v H' => xRI l (σ.put d v) H'⟩), xRI l (σ.put d .undef) H⟩) := rfl

theorem x_skip (σ : Env) (Q : Kx) : xD .skip σ H = Q.ap .normal σ H := rfl
theorem x_run (ks : List Nat) (l : List AOper) (σ : Env) (Q : Kx) : xD (.run ks l) σ H = xR l σ H (K := ⟨fun σ' H' => Q.ap .normal (σ'.keep ks) H'⟩) := rfl
theorem x_sqn (pend : List Pend) (σ : Env) (K : Ke) : xSq [] pend σ H = K.ap σ H := rfl
theorem x_sqc (i : Nat) (d : Option Nat) (op : AOp) (as : List Operand) (g : Option (Nat × Bool)) (ob : List Nat) (l : List Item) (pend : List Pend) (σ : Env) (K : Ke) :
    xSq (⟨i, ⟨d, op, as, g⟩, ob⟩ :: l) pend σ H = xG σ g (K := ⟨xIf op.quiet (K := ⟨xQ op (as.map (opE t.G σ)) H (K := ⟨fun v => xSq l (⟨i, op, as.map (opE t.G σ), v⟩ :: pend) (σ.put d v) H⟩),
      xE op (as.map (opE t.G σ)) H (K := ⟨fun v H' => xOb ob pend H' (K := ⟨fun H' => xSq l pend (σ.put d v) H'⟩)⟩)⟩), xSq l pend (σ.put d .undef) H⟩) := rfl
theorem x_sqpn (pend : List Pend) (σ : Env) (K : Kpe) : xSqP [] pend σ H = K.ap pend σ H := rfl
theorem x_sqpc (i : Nat) (d : Option Nat) (op : AOp) (as : List Operand) (g : Option (Nat × Bool)) (ob : List Nat) (l : List Item) (pend : List Pend) (σ : Env) (K : Kpe) :
    xSqP (⟨i, ⟨d, op, as, g⟩, ob⟩ :: l) pend σ H = xG σ g (K := ⟨xIf op.quiet (K := ⟨xQ op (as.map (opE t.G σ)) H (K := ⟨fun v => xSqP l (⟨i, op, as.map (opE t.G σ), v⟩ :: pend) (σ.put d v) H⟩),
      xE op (as.map (opE t.G σ)) H (K := ⟨fun v H' => xOb ob pend H' (K := ⟨fun H' => xSqP l pend (σ.put d v) H'⟩)⟩)⟩), xSqP l pend (σ.put d .undef) H⟩) := rfl
theorem x_runF (ks : List Nat) (pre l1 l2 : List Item) (σ : Env) (Q : Kx) : xD (.runF ks pre l1 l2) σ H = xSqP pre [] σ H (K := ⟨fun pd s h => xSq l1 pd s h (K := ⟨fun σ' H' => Q.ap .normal (σ'.keep ks) H'⟩) ∧ xSq l2 pd s h (K := ⟨fun σ' H' => Q.ap .normal (σ'.keep ks) H'⟩)⟩) := rfl
theorem x_q {op : AOp} (hq : op.quiet = true) (xs : List AV) (K : K1) : xQ op xs H = xE op xs H (K := ⟨fun v _ => K.ap v⟩) := by
  cases op <;> first | rfl | cases hq
theorem x_ob (ob : List Nat) (pend : List Pend) (K : Kh) : xOb ob pend H = xIf ob.isEmpty (K := ⟨K.ap H, xAO ob H pend ∧ K.ap H⟩) := rfl
theorem x_aon (ob : List Nat) : xAO ob H [] = True := rfl
theorem x_aoc (ob : List Nat) (i : Nat) (op : AOp) (xs : List AV) (v : AV) (ps : List Pend) : xAO ob H (⟨i, op, xs, v⟩ :: ps) = (xIf (ob.contains i) (K := ⟨xQ op xs H (K := ⟨fun v' => v' = v⟩), True⟩) ∧ xAO ob H ps) := rfl
theorem q_mv  : AOp.quiet (.mv ) = true := rfl
theorem q_pick  : AOp.quiet (.pick ) = true := rfl
theorem q_nilck  : AOp.quiet (.nilck ) = true := rfl
theorem q_faddr (a : Nat) : AOp.quiet (.faddr a) = true := rfl
theorem q_iaddr (a : Nat) : AOp.quiet (.iaddr a) = true := rfl
theorem q_aaddr (a b : Nat) : AOp.quiet (.aaddr a b) = true := rfl
theorem q_ld (a : Bool) (b : Nat) : AOp.quiet (.ld a b) = true := rfl
theorem q_build (a : List AV) (b : List (Nat × Nat)) : AOp.quiet (.build a b) = true := rfl
theorem q_fld (a : Bool) (b c : Nat) : AOp.quiet (.fld a b c) = true := rfl
theorem q_ixs  : AOp.quiet (.ixs ) = true := rfl
theorem q_ixa (a : Bool) (b c : Nat) : AOp.quiet (.ixa a b c) = true := rfl
theorem q_bin (a : BinOp) : AOp.quiet (.bin a) = true := rfl
theorem q_eqg (a : Bool) (b : Nat) : AOp.quiet (.eqg a b) = true := rfl
theorem q_eqs (a : Bool) (b : List Nat) : AOp.quiet (.eqs a b) = true := rfl
theorem q_un (a : UnOp) : AOp.quiet (.un a) = true := rfl
theorem q_cvi (a : IntKind) : AOp.quiet (.cvi a) = true := rfl
theorem q_cvs  : AOp.quiet (.cvs ) = true := rfl
theorem q_cvb  : AOp.quiet (.cvb ) = true := rfl
theorem q_cvr  : AOp.quiet (.cvr ) = true := rfl
theorem q_cvc  : AOp.quiet (.cvc ) = true := rfl
theorem q_mkif (a : TypeId) : AOp.quiet (.mkif a) = true := rfl
theorem q_mkfn (a : Fn) (b : Nat) : AOp.quiet (.mkfn a b) = true := rfl
theorem q_slc (a : Nat) (b c : Bool) : AOp.quiet (.slc a b c) = true := rfl
theorem q_lkp (a : Nat) (b : AV) (c : Bool) : AOp.quiet (.lkp a b c) = true := rfl
theorem q_tas (a : Option TypeId) (b : AV) (c : Bool) : AOp.quiet (.tas a b c) = true := rfl
theorem q_ext (a : Nat) : AOp.quiet (.ext a) = true := rfl
theorem q_len (a : Nat) : AOp.quiet (.len a) = true := rfl
theorem q_min  : AOp.quiet (.min ) = true := rfl
theorem q_max  : AOp.quiet (.max ) = true := rfl
theorem q_st (a : Nat) : AOp.quiet (.st a) = false := rfl
theorem q_box  : AOp.quiet (.box ) = false := rfl
theorem q_alloc (a : List AV) : AOp.quiet (.alloc a) = false := rfl
theorem q_bslice (a b : Nat) (c : List AV) (d : List (Nat × Nat)) : AOp.quiet (.bslice a b c d) = false := rfl
theorem q_sb  : AOp.quiet (.sb ) = false := rfl
theorem q_cvm  : AOp.quiet (.cvm ) = false := rfl
theorem q_mkmap  : AOp.quiet (.mkmap ) = false := rfl
theorem q_mksl (a b : Nat) (c : List AV) : AOp.quiet (.mksl a b c) = false := rfl
theorem q_mup (a : Nat) : AOp.quiet (.mup a) = false := rfl
theorem q_rngs  : AOp.quiet (.rngs ) = false := rfl
theorem q_nxts  : AOp.quiet (.nxts ) = false := rfl
theorem q_app (a b : Nat) : AOp.quiet (.app a b) = false := rfl
theorem q_cpy (a : Nat) : AOp.quiet (.cpy a) = false := rfl
theorem q_call (a : Nat) : AOp.quiet (.call a) = false := rfl
theorem q_callv  : AOp.quiet (.callv ) = false := rfl
theorem x_runD (ks : List Nat) (l : List Item) (σ : Env) (Q : Kx) : xD (.runD ks l) σ H = xIf (noOb l) (K := ⟨xRI l σ H (K := ⟨fun σ' H' => Q.ap .normal (σ'.keep ks) H'⟩), xSq l [] σ H (K := ⟨fun σ' H' => Q.ap .normal (σ'.keep ks) H'⟩)⟩) := rfl
theorem x_seq (a b : ACode) (σ : Env) (Q : Kx) : xD (.seq a b) σ H = xD a σ H (K := ⟨fun e σ' H' => xT e σ' H' (N := ⟨fun σ2 H2 => xD b σ2 H2⟩)⟩) := rfl
theorem x_dcond (c : Operand) (a b : ACode) (σ : Env) (Q : Kx) : xD (.cond c a b) σ H = xCd (opE t.G σ c) (K := ⟨xD a σ H, xD b σ H⟩) := rfl
theorem x_block (id : Nat) (b : ACode) (σ : Env) (Q : Kx) : xD (.block id b) σ H = xD b σ H (K := ⟨fun e σ' H' => xBl id e σ' H'⟩) := rfl
theorem x_exit (id : Nat) (σ : Env) (Q : Kx) : xD (.exit id) σ H = Q.ap (.exit id) σ H := rfl
theorem x_ret (σ : Env) (Q : Kx) : xD .ret σ H = Q.ap .ret σ H := rfl
theorem x_tn (N : Ke) (Q : Kx) (σ : Env) : xT .normal σ H = N.ap σ H := rfl
theorem x_te (N : Ke) (Q : Kx) (id : Nat) (σ : Env) : xT (.exit id) σ H = Q.ap (.exit id) σ H := rfl
theorem x_tr (N : Ke) (Q : Kx) (σ : Env) : xT .ret σ H = Q.ap .ret σ H := rfl
theorem x_bn (id : Nat) (Q : Kx) (σ : Env) : xBl id .normal σ H = Q.ap .normal σ H := rfl
theorem x_be (id id' : Nat) (Q : Kx) (σ : Env) : xBl id (.exit id') σ H = xIf (id' == id) (K := ⟨Q.ap .normal σ H, Q.ap (.exit id') σ H⟩) := by
  show (if id' = id then _ else _) = (if (id' == id) = true then _ else _)
  by_cases h : id' = id <;> simp [h]
theorem x_br (id : Nat) (Q : Kx) (σ : Env) : xBl id .ret σ H = Q.ap .ret σ H := rfl
theorem x_en (K : Ke) (σ : Env) : xEn .normal σ H = K.ap σ H := rfl
theorem x_er (K : Ke) (σ : Env) : xEn .ret σ H = K.ap σ H := rfl
theorem x_slot (σ : Env) (s : Nat) (rs : List ARes) (acc : List AV) : xRes σ H (.slot s :: rs) acc = xRes σ H rs (σ.get s :: acc) := rfl
theorem x_cell (σ : Env) (s : Nat) (g : Bool) (sz : Nat) (rs : List ARes) (acc : List AV) : xRes σ H (.cell s (.ld g sz) :: rs) acc = xE (.ld g sz) [σ.get s] H (K := ⟨fun v _ => xRes σ H rs (v :: acc)⟩) := rfl
theorem x_res1 (σ : Env) (v : AV) : xRes σ H [] [v] = K.ap v H := rfl
theorem x_res0 (σ : Env) : xRes σ H [] [] = K.ap (.tup []) H := rfl
theorem x_res2 (σ : Env) (v w : AV) : xRes σ H [] [v, w] = K.ap (.tup [w, v]) H := rfl
theorem x_res3 (σ : Env) (v w x : AV) : xRes σ H [] [v, w, x] = K.ap (.tup [x, w, v]) H := rfl
theorem x_fun (n a : Nat) (rs : List ARes) (body : ACode) (args : List AV) : xF ⟨n, a, rs, body⟩ args H = (args.length ≤ n ∧ xD body (params args) H (K := ⟨fun e σ H' => xEn e σ H' (K := ⟨fun σ' H' => xRes σ' H' rs []⟩)⟩)) := rfl
theorem x_tb (f : Nat) (xs : List AV) : xCall f xs H = xTb (t := ⟨t.G, t.P, t.T⟩) f xs H := rfl
theorem x_tbcons (G : Nat → Option (List AV)) (P : Program) (g : Nat) (c : List AV → Heap → Kv → Prop) (T : List (Nat × (List AV → Heap → Kv → Prop))) (f : Nat) (xs : List AV) :
    xTb (t := ⟨G, P, (g, c) :: T⟩) f xs H = xIf (f == g) (K := ⟨xAp (c := ⟨c⟩) xs H, xTb (t := ⟨G, P, T⟩) f xs H⟩) := by
  show (if f = g then _ else _) = (if (f == g) = true then _ else _)
  by_cases h : f = g <;> simp [h] <;> rfl
theorem x_tbnil (G : Nat → Option (List AV)) (P : Program) (f : Nat) (xs : List AV) : xTb (t := ⟨G, P, []⟩) f xs H = xA (t := ⟨G, P, []⟩) f xs H := rfl
theorem x_ap (c : List AV → Heap → Kv → Prop) (xs : List AV) : xAp (c := ⟨c⟩) xs H = c xs H K := rfl
theorem allSz_nil (n : Nat) : AllSz n [] = True := by simp [AllSz]
theorem allSz_cons (n : Nat) (x : AV) (xs : List AV) : AllSz n (x :: xs) = (x.cells.length = n ∧ AllSz n xs) := by simp [AllSz]
theorem flat_nil : flat [] = [] := rfl
theorem flat_cons (x : AV) (xs : List AV) : flat (x :: xs) = x.cells ++ flat xs := rfl
theorem bytesAV_nil : bytesAV [] = [] := rfl
theorem bytesAV_cons (b : UInt8) (l : List UInt8) : bytesAV (b :: l) = byteAV b :: bytesAV l := rfl
theorem repF_zero (z : List AV) : repF 0 z = [] := rfl
theorem repF_succ (n : Nat) (z : List AV) : repF (n + 1) z = z ++ repF n z := rfl
theorem x_bslice1 (n : Nat) (z : List AV) (pl : List (Nat × Nat)) (xs : List AV) : xE (.bslice 1 n z pl) xs H (K := K) = xLs (fillL (repF n z) pl xs) (K := ⟨fun cs =>
    xIf (isU8 z && n != 0) (K := ⟨xFr H (K := ⟨fun id => K.ap (.msl id 0 n 1) ((id, .cells cs) :: H)⟩), xSel (K := ⟨xFr H (K := ⟨fun id => K.ap (.msl id 0 n 1) ((id, .cells cs) :: H)⟩),
      (AllSz 1 cs ∧ cs.length = n ∧ flat cs = cs) ∧ xFr H (K := ⟨fun id => K.ap (.sl cs (.at id n 1)) ((id, .spare n) :: H)⟩)⟩)⟩)⟩) := e_bslice1 _ _ _ _
theorem l_tkd {α : Type} (b : List α) (k : Nat) : List.take (b.length - k) (List.drop k b) = List.drop k b := by rw [List.take_of_length_le]; simp
theorem by_len (bs : List UInt8) : (bytesAV bs).length = bs.length := by simp [bytesAV]
theorem by_all (bs : List UInt8) : AllSz 1 (bytesAV bs) = True := by simp [AllSz, bytesAV, byteAV, AV.cells]
theorem by_take (n : Nat) (bs : List UInt8) : (bytesAV bs).take n = bytesAV (bs.take n) := by simp [bytesAV, List.map_take]
theorem by_drop (n : Nat) (bs : List UInt8) : (bytesAV bs).drop n = bytesAV (bs.drop n) := by simp [bytesAV, List.map_drop]
theorem by_flat (bs : List UInt8) : flat (bytesAV bs) = bytesAV bs := by
  induction bs with
  | nil => rfl
  | cons b bs ih => simp only [bytesAV, List.map_cons, flat, List.flatMap_cons] at ih ⊢; rw [ih]; rfl
theorem by_app (a b : List UInt8) : bytesAV a ++ bytesAV b = bytesAV (a ++ b) := by simp [bytesAV]
theorem by_rep (n : Nat) : (List.replicate n [AV.int .u8 0]).flatten = bytesAV (List.replicate n 0) := by
  induction n with
  | zero => rfl
  | succ n ih => rw [List.replicate_succ, List.flatten_cons, ih, List.replicate_succ]; rfl
theorem by_of (bs : List UInt8) : bytesOf (bytesAV bs) = some bs := by
  induction bs with
  | nil => rfl
  | cons b bs ih =>
    simp only [bytesAV, List.map_cons] at ih ⊢
    show (bytesOf (List.map byteAV bs)).map (UInt8.ofNat (Int.toNat b.toNat) :: ·) = _
    rw [ih]
    simp
theorem by_get (bs : List UInt8) (i : Nat) : (bytesAV bs)[i]? = (bs[i]?).map byteAV := by simp [bytesAV]
theorem look_ren (id j : Nat) (o : AObj) (H : Heap) : lookH j (renH id id o H) = if j = id then (lookH id H).map (fun _ => o) else lookH j H := by
  induction H with
  | nil => simp [lookH, renH]
  | cons p H ih =>
    obtain ⟨k, q⟩ := p
    simp only [renH, lookH]
    by_cases h : id = k
    · subst h
      by_cases h2 : j = id
      · subst h2; simp [lookH]
      · simp [lookH, h2]
    · rw [if_neg h, if_neg h]
      simp only [lookH, ih]
      by_cases h2 : j = id
      · subst h2; simp [h]
      · simp [h2]
theorem ren_ren (id : Nat) (o o' : AObj) (H : Heap) : renH id id o (renH id id o' H) = renH id id o H := by
  induction H with
  | nil => rfl
  | cons p H ih =>
    obtain ⟨k, q⟩ := p
    simp only [renH]
    by_cases h : id = k
    · subst h; simp [renH]
    · rw [if_neg h, if_neg h]; simp only [renH, ih, if_neg h]
theorem keys_ren (id : Nat) (o : AObj) (H : Heap) : List.map Prod.fst (renH id id o H) = List.map Prod.fst H := by
  induction H with
  | nil => rfl
  | cons p H ih =>
    obtain ⟨k, q⟩ := p
    simp only [renH]
    by_cases h : id = k
    · subst h; simp
    · rw [if_neg h]; simp [ih]
theorem w_i64 (n : Int) (h1 : -9223372036854775808 ≤ n) (h2 : n < 9223372036854775808) : IntKind.wrap .i64 n = n := by
  show (if (true && decide (n % (2 ^ 64 : Int) ≥ (2 ^ (64 - 1) : Int))) = true then n % (2 ^ 64 : Int) - (2 ^ 64 : Int) else n % (2 ^ 64 : Int)) = n
  by_cases h : n % (2 ^ 64 : Int) ≥ (2 ^ (64 - 1) : Int)
  · rw [if_pos (by rw [decide_eq_true h]; rfl)]; omega
  · rw [if_neg (by rw [decide_eq_false h]; simp)]; omega
theorem w_u64 (n : Int) (h1 : 0 ≤ n) (h2 : n < 18446744073709551616) : IntKind.wrap .u64 n = n := by
  simp only [IntKind.wrap, IntKind.bits, IntKind.signed, Bool.false_and, Bool.false_eq_true, if_false]; omega
theorem w_u8 (n : Int) (h1 : 0 ≤ n) (h2 : n < 256) : IntKind.wrap .u8 n = n := by
  simp only [IntKind.wrap, IntKind.bits, IntKind.signed, Bool.false_and, Bool.false_eq_true, if_false]; omega
theorem w_i32 (n : Int) (h1 : -2147483648 ≤ n) (h2 : n < 2147483648) : IntKind.wrap .i32 n = n := by
  show (if (true && decide (n % (2 ^ 32 : Int) ≥ (2 ^ (32 - 1) : Int))) = true then n % (2 ^ 32 : Int) - (2 ^ 32 : Int) else n % (2 ^ 32 : Int)) = n
  by_cases h : n % (2 ^ 32 : Int) ≥ (2 ^ (32 - 1) : Int)
  · rw [if_pos (by rw [decide_eq_true h]; rfl)]; omega
  · rw [if_neg (by rw [decide_eq_false h]; simp)]; omega
theorem w_u32 (n : Int) (h1 : 0 ≤ n) (h2 : n < 4294967296) : IntKind.wrap .u32 n = n := by
  simp only [IntKind.wrap, IntKind.bits, IntKind.signed, Bool.false_and, Bool.false_eq_true, if_false]; omega
theorem maxLen_eq : maxLen = 9223372036854775807 := rfl

theorem x_call (f : Nat) (xs : List AV) : xE (.call f) xs H (K := K) = xCall f xs H (K := K) := rfl
theorem x_callv (f : Nat) (a b ys : List AV) : xE .callv (.fn (.func f) a b :: ys) H (K := K) = xCall f (a ++ ys ++ b) H (K := K) := rfl
theorem x_mv (x : AV) : xE .mv [x] H (K := K) = K.ap x H := e_mv _
theorem x_pick (b : Bool) (x y : AV) : xE .pick [.bool b, x, y] H (K := K) = K.ap (if b = true then x else y) H := e_pick _ _ _
theorem x_nilck1 (a b : Nat) : xE .nilck [.ptr a b] H (K := K) = K.ap (.ptr a b) H := e_nilck1 _ _
theorem x_nilck2 (cs : List AV) : xE .nilck [.iptr cs] H (K := K) = K.ap (.iptr cs) H := e_nilck2 _
theorem x_nilck3 (f : Nat) (a b : List AV) : xE .nilck [.fn (.func f) a b] H (K := K) = K.ap (.fn (.func f) a b) H := e_nilck3 _ _ _
theorem x_faddr1 (o a b : Nat) : xE (.faddr o) [.ptr a b] H (K := K) = K.ap (.ptr a (b + o)) H := e_faddr1 _ _ _
theorem x_faddr2 (o : Nat) (cs : List AV) : xE (.faddr o) [.iptr cs] H (K := K) = K.ap (.iptr (cs.drop o)) H := e_faddr2 _ _
theorem x_iaddr1 (sz : Nat) (xs : List AV) (t : Tok) (k : IntKind) (i : Int) : xE (.iaddr sz) [.sl xs t, .int k i] H (K := K) = (0 ≤ i ∧ ∃ y, xs[i.toNat]? = some y ∧ y.cells.length = sz ∧ K.ap (.iptr y.cells) H) := e_iaddr1 _ _ _ _ _
theorem x_iaddr2 (sz a b n s : Nat) (k : IntKind) (i : Int) : xE (.iaddr sz) [.msl a b n s, .int k i] H (K := K) = ((s = sz ∧ 0 ≤ i ∧ i < n) ∧ K.ap (.ptr a (b + i.toNat * sz)) H) := e_iaddr2 _ _ _ _ _ _ _
theorem x_aaddr1 (sz n a b : Nat) (k : IntKind) (i : Int) : xE (.aaddr sz n) [.ptr a b, .int k i] H (K := K) = ((0 ≤ i ∧ i < n) ∧ K.ap (.ptr a (b + i.toNat * sz)) H) := e_aaddr1 _ _ _ _ _ _
theorem x_aaddr2 (sz n : Nat) (cs : List AV) (k : IntKind) (i : Int) : xE (.aaddr sz n) [.iptr cs, .int k i] H (K := K) = ((0 ≤ i ∧ i < n) ∧ K.ap (.iptr (cs.drop (i.toNat * sz))) H) := e_aaddr2 _ _ _ _ _
theorem x_ldi1 (sz : Nat) (cs : List AV) : xE (.ld false sz) [.iptr cs] H (K := K) = xO cs[0]? (K := ⟨fun v => K.ap v H⟩) := e_ldi1 _ _
theorem x_ldi2 (sz : Nat) (cs : List AV) : xE (.ld true sz) [.iptr cs] H (K := K) = (sz ≤ cs.length ∧ K.ap (.agg (cs.take sz)) H) := e_ldi2 _ _
theorem x_ldp1 (sz id off : Nat) : xE (.ld false sz) [.ptr id off] H (K := K) = xC (lookH id H) (K := ⟨fun vs => xO vs[off]? (K := ⟨fun v => K.ap v H⟩)⟩) := e_ldp1 _ _ _
theorem x_ldp2 (sz id off : Nat) : xE (.ld true sz) [.ptr id off] H (K := K) = xC (lookH id H) (K := ⟨fun vs => off + sz ≤ vs.length ∧ K.ap (.agg ((vs.drop off).take sz)) H⟩) := e_ldp2 _ _ _
theorem x_build (z : List AV) (pl : List (Nat × Nat)) (xs : List AV) : xE (.build z pl) xs H (K := K) = xLs (fillL z pl xs) (K := ⟨fun cs => K.ap (.agg cs) H⟩) := e_build _ _ _
theorem x_fld1 (off sz : Nat) (cs : List AV) : xE (.fld false off sz) [.agg cs] H (K := K) = xO cs[off]? (K := ⟨fun v => K.ap v H⟩) := e_fld1 _ _ _
theorem x_fld2 (off sz : Nat) (cs : List AV) : xE (.fld true off sz) [.agg cs] H (K := K) = K.ap (.agg ((cs.drop off).take sz)) H := e_fld2 _ _ _
theorem x_ixs (s : List UInt8) (k : IntKind) (i : Int) : xE .ixs [.str s, .int k i] H (K := K) = (0 ≤ i ∧ ∃ b, s[i.toNat]? = some b ∧ K.ap (byteAV b) H) := e_ixs _ _ _
theorem x_ixa1 (sz n : Nat) (cs : List AV) (k : IntKind) (i : Int) : xE (.ixa false sz n) [.agg cs, .int k i] H (K := K) = ((0 ≤ i ∧ i < n) ∧ xO cs[i.toNat * sz]? (K := ⟨fun v => K.ap v H⟩)) := e_ixa1 _ _ _ _ _
theorem x_add (k : IntKind) (a b : Int) : xE (.bin .add) [.int k a, .int k b] H (K := K) = K.ap (.int k (k.wrap (a + b))) H := e_add _ _ _
theorem x_sub (k : IntKind) (a b : Int) : xE (.bin .sub) [.int k a, .int k b] H (K := K) = K.ap (.int k (k.wrap (a - b))) H := e_sub _ _ _
theorem x_mul (k : IntKind) (a b : Int) : xE (.bin .mul) [.int k a, .int k b] H (K := K) = K.ap (.int k (k.wrap (a * b))) H := e_mul _ _ _
theorem x_quo (k : IntKind) (a b : Int) : xE (.bin .quo) [.int k a, .int k b] H (K := K) = (b ≠ 0 ∧ K.ap (.int k (k.wrap (a.tdiv b))) H) := e_quo _ _ _
theorem x_rem (k : IntKind) (a b : Int) : xE (.bin .rem) [.int k a, .int k b] H (K := K) = (b ≠ 0 ∧ K.ap (.int k (a.tmod b)) H) := e_rem _ _ _
theorem x_lss (k : IntKind) (a b : Int) : xE (.bin .lss) [.int k a, .int k b] H (K := K) = K.ap (.bool (decide (a < b))) H := e_lss _ _ _
theorem x_leq (k : IntKind) (a b : Int) : xE (.bin .leq) [.int k a, .int k b] H (K := K) = K.ap (.bool (decide (a ≤ b))) H := e_leq _ _ _
theorem x_gtr (k : IntKind) (a b : Int) : xE (.bin .gtr) [.int k a, .int k b] H (K := K) = K.ap (.bool (decide (b < a))) H := e_gtr _ _ _
theorem x_geq (k : IntKind) (a b : Int) : xE (.bin .geq) [.int k a, .int k b] H (K := K) = K.ap (.bool (decide (b ≤ a))) H := e_geq _ _ _
theorem x_and (k : IntKind) (a b : Int) : xE (.bin .and) [.int k a, .int k b] H (K := K) = K.ap (.int k (intB .and k a b)) H := e_and _ _ _
theorem x_or (k : IntKind) (a b : Int) : xE (.bin .or) [.int k a, .int k b] H (K := K) = K.ap (.int k (intB .or k a b)) H := e_or _ _ _
theorem x_xor (k : IntKind) (a b : Int) : xE (.bin .xor) [.int k a, .int k b] H (K := K) = K.ap (.int k (intB .xor k a b)) H := e_xor _ _ _
theorem x_shl (k k' : IntKind) (a b : Int) : xE (.bin .shl) [.int k a, .int k' b] H (K := K) = (¬ b < 0 ∧ K.ap (.int k (k.wrap (a * 2 ^ (Nat.min b.toNat k.bits)))) H) := e_shl _ _ _ _
theorem x_shr (k k' : IntKind) (a b : Int) : xE (.bin .shr) [.int k a, .int k' b] H (K := K) = (¬ b < 0 ∧ K.ap (.int k (a.fdiv (2 ^ (Nat.min b.toNat k.bits)))) H) := e_shr _ _ _ _
theorem x_cat (a b : List UInt8) : xE (.bin .add) [.str a, .str b] H (K := K) = (a.length + b.length ≤ maxLen ∧ K.ap (.str (a ++ b)) H) := e_cat _ _
theorem x_eqb (neg : Bool) (a b : Bool) : xE (.eqg neg 0) [.bool a, .bool b] H (K := K) = K.ap (.bool (neg != decide (a = b))) H := e_eqb _ _ _
theorem x_eqi (neg : Bool) (k : IntKind) (a b : Int) : xE (.eqg neg 6) [.int k a, .int k b] H (K := K) = K.ap (.bool (neg != decide (a = b))) H := e_eqi _ _ _ _
theorem x_eqt (neg : Bool) (a b : List UInt8) : xE (.eqg neg 6) [.str a, .str b] H (K := K) = K.ap (.bool (neg != decide (a = b))) H := e_eqt _ _ _
theorem x_eqp0 (neg : Bool) : xE (.eqg neg 1) [.nilp, .nilp] H (K := K) = K.ap (.bool (neg != true)) H := e_eqp0 _
theorem x_eqp1 (neg : Bool) (a b : Nat) : xE (.eqg neg 1) [.ptr a b, .nilp] H (K := K) = K.ap (.bool (neg != false)) H := e_eqp1 _ _ _
theorem x_eqp2 (neg : Bool) (cs : List AV) : xE (.eqg neg 1) [.iptr cs, .nilp] H (K := K) = K.ap (.bool (neg != false)) H := e_eqp2 _ _
theorem x_eqs1 (neg : Bool) (xs : List AV) (t : Tok) : xE (.eqg neg 2) [.sl xs t, .sl [] .nil] H (K := K) = K.ap (.bool (neg != decide (t = .nil))) H := e_eqs1 _ _ _
theorem x_eqs2 (neg : Bool) (a b c d : Nat) : xE (.eqg neg 2) [.msl a b c d, .sl [] .nil] H (K := K) = K.ap (.bool (neg != false)) H := e_eqs2 _ _ _ _ _
theorem x_eqm0 (neg : Bool) : xE (.eqg neg 3) [.nilm, .nilm] H (K := K) = K.ap (.bool (neg != true)) H := e_eqm0 _
theorem x_eqm1 (neg : Bool) (a : Nat) : xE (.eqg neg 3) [.map a, .nilm] H (K := K) = K.ap (.bool (neg != false)) H := e_eqm1 _ _
theorem x_eqf0 (neg : Bool) : xE (.eqg neg 4) [.nilf, .nilf] H (K := K) = K.ap (.bool (neg != true)) H := e_eqf0 _
theorem x_eqf1 (neg : Bool) (f : Fn) (a b : List AV) : xE (.eqg neg 4) [.fn f a b, .nilf] H (K := K) = K.ap (.bool (neg != false)) H := e_eqf1 _ _ _ _
theorem x_eqn1 (neg : Bool) (t : TypeId) (v : AV) : xE (.eqg neg 5) [.iface t v, .nili] H (K := K) = K.ap (.bool (neg != false)) H := e_eqn1 _ _ _
theorem x_not (b : Bool) : xE (.un .not) [.bool b] H (K := K) = K.ap (.bool (!b)) H := e_not _
theorem x_neg (k : IntKind) (n : Int) : xE (.un .neg) [.int k n] H (K := K) = K.ap (.int k (k.wrap (0 - n))) H := e_neg _ _
theorem x_compl (k : IntKind) (n : Int) : xE (.un .xor) [.int k n] H (K := K) = K.ap (.int k (intB .xor k (if k.signed then -1 else k.max) n)) H := e_compl _ _
theorem x_cvi (k k' : IntKind) (n : Int) : xE (.cvi k) [.int k' n] H (K := K) = K.ap (.int k (k.wrap n)) H := e_cvi _ _ _
theorem x_cvs (s : List UInt8) : xE .cvs [.str s] H (K := K) = K.ap (.str s) H := e_cvs _
theorem x_cvb1 (xs : List AV) (t : Tok) : xE .cvb [.sl xs t] H (K := K) = xLs (bytesOf xs) (K := ⟨fun b => K.ap (.str b) H⟩) := e_cvb1 _ _
theorem x_cvb2 (id off n s : Nat) : xE .cvb [.msl id off n s] H (K := K) = (s = 1 ∧ xC (lookH id H) (K := ⟨fun vs => off + n ≤ vs.length ∧ xLs (bytesOf ((vs.drop off).take n)) (K := ⟨fun b => K.ap (.str b) H⟩)⟩)) := e_cvb2 _ _ _ _
theorem x_cvc (k : IntKind) (n : Int) : xE .cvc [.int k n] H (K := K) = K.ap (.str (Utf8.encode n).data.toList) H := e_cvc _ _
theorem x_slcs (lo hi : Bool) (s : List UInt8) (bs : List AV) : xE (.slc 0 lo hi) (.str s :: bs) H (K := K) = xB lo hi s.length bs (K := ⟨fun l h => K.ap (.str ((s.take h).drop l)) H⟩) := e_slcs _ _ _ _
theorem x_slcl (sz : Nat) (lo hi : Bool) (xs : List AV) (t : Tok) (bs : List AV) : xE (.slc sz lo hi) (.sl xs t :: bs) H (K := K) = ((0 < sz ∧ AllSz sz xs) ∧ xB lo hi xs.length bs (K := ⟨fun l h => K.ap (.sl ((xs.take h).drop l) (if h = xs.length then t else .no)) H⟩)) := e_slcl _ _ _ _ _ _
theorem x_slcm (sz : Nat) (lo hi : Bool) (id off n s : Nat) (bs : List AV) : xE (.slc sz lo hi) (.msl id off n s :: bs) H (K := K) = ((0 < sz ∧ s = sz) ∧ xB lo hi n bs (K := ⟨fun l h => K.ap (.msl id (off + l * sz) (h - l) sz) H⟩)) := e_slcm _ _ _ _ _ _ _ _
theorem xb_two {K : Knn} (k k' : IntKind) (l h : Int) (n : Nat) : xB true true n [.int k l, .int k' h] (K := K) = ((0 ≤ l ∧ l ≤ h ∧ h ≤ n) ∧ K.ap l.toNat h.toNat) := b_two _ _ _ _ _ K.ap
theorem xb_lo {K : Knn} (k : IntKind) (l : Int) (n : Nat) : xB true false n [.int k l] (K := K) = ((0 ≤ l ∧ l ≤ n) ∧ K.ap l.toNat n) := b_lo _ _ _ K.ap
theorem xb_hi {K : Knn} (k : IntKind) (h : Int) (n : Nat) : xB false true n [.int k h] (K := K) = ((0 ≤ h ∧ h ≤ n) ∧ K.ap 0 h.toNat) := b_hi _ _ _ K.ap
theorem xb_no {K : Knn} (n : Nat) : xB false false n [] (K := K) = K.ap 0 n := b_no _ K.ap
theorem x_mkif (t : TypeId) (x : AV) (h : x ≠ .any) : xE (.mkif t) [x] H (K := K) = K.ap (.iface t x) H := e_mkif _ _ h
theorem x_mkfn (f : Fn) (n : Nat) (xs : List AV) : xE (.mkfn f n) xs H (K := K) = (n ≤ xs.length ∧ K.ap (.fn f (xs.take n) (xs.drop n)) H) := e_mkfn _ _ _
theorem x_ext (i : Nat) (vs : List AV) : xE (.ext i) [.tup vs] H (K := K) = xO vs[i]? (K := ⟨fun v => K.ap v H⟩) := e_ext _ _
theorem x_lens (s : List UInt8) : xE (.len 0) [.str s] H (K := K) = K.ap (.int .i64 s.length) H := e_lens _
theorem x_lenl (xs : List AV) (t : Tok) : xE (.len 1) [.sl xs t] H (K := K) = K.ap (.int .i64 xs.length) H := e_lenl _ _
theorem x_lenm (a b n s : Nat) : xE (.len 1) [.msl a b n s] H (K := K) = K.ap (.int .i64 n) H := e_lenm _ _ _ _
theorem x_len0  : xE (.len 2) [.nilm] H (K := K) = K.ap (.int .i64 0) H := e_len0 
theorem x_lenp (id : Nat) : xE (.len 2) [.map id] H (K := K) = xM (lookH id H) (K := ⟨fun es => K.ap (.int .i64 es.length) H⟩) := e_lenp _
theorem x_min (k k' : IntKind) (a b : Int) : xE .min [.int k a, .int k' b] H (K := K) = K.ap (.int k (if b < a then b else a)) H := e_min _ _ _ _
theorem x_max (k k' : IntKind) (a b : Int) : xE .max [.int k a, .int k' b] H (K := K) = K.ap (.int k (if b > a then b else a)) H := e_max _ _ _ _
theorem x_tas1 (t u : TypeId) (z v : AV) : xE (.tas (some t) z true) [.iface u v] H (K := K) = if u = t then K.ap (.tup [v, .bool true]) H else K.ap (.tup [z, .bool false]) H := e_tas1 _ _ _ _
theorem x_tas2 (t : TypeId) (z : AV) : xE (.tas (some t) z true) [.nili] H (K := K) = K.ap (.tup [z, .bool false]) H := e_tas2 _ _
theorem x_tas3 (t : TypeId) (z v : AV) : xE (.tas (some t) z false) [.iface t v] H (K := K) = K.ap v H := e_tas3 _ _ _
theorem x_lkp0 (kd : Nat) (z : AV) (ok : Bool) (k : AV) : xE (.lkp kd z ok) [.nilm, k] H (K := K) = ((k.kindN = kd ∧ kd ≤ 2) ∧ K.ap (foundA z ok none) H) := e_lkp0 _ _ _ _
theorem x_lkp1 (kd : Nat) (z : AV) (ok : Bool) (id : Nat) (k : AV) : xE (.lkp kd z ok) [.map id, k] H (K := K) = xM (lookH id H) (K := ⟨fun es => k.kindN = kd ∧ kd ≤ 2 ∧ xL (lookA k es) (K := ⟨fun r => K.ap (foundA z ok r) H⟩)⟩) := e_lkp1 _ _ _ _ _
theorem x_st (sz id off : Nat) (x : AV) : xE (.st sz) [.ptr id off, x] H (K := K) = xC (lookH id H) (K := ⟨fun vs => (0 < sz ∧ x.cells.length = sz ∧ off + sz ≤ vs.length) ∧ K.ap .undef (setH id (.cells (splice vs off x.cells)) H)⟩) := e_st _ _ _ _
theorem x_box (x : AV) : xE .box [x] H (K := K) = (0 < x.cells.length ∧ xFr H (K := ⟨fun id => K.ap (.ptr id 0) ((id, .cells x.cells) :: H)⟩)) := e_box _
theorem x_alloc (z : List AV) : xE (.alloc z) [] H (K := K) = xFr H (K := ⟨fun id => K.ap (.ptr id 0) ((id, .cells z) :: H)⟩) := e_alloc _
theorem x_sb (s : List UInt8) : xE .sb [.str s] H (K := K) = (s.length ≤ maxLen ∧ xFr H (K := ⟨fun id => K.ap (.msl id 0 s.length 1) ((id, .cells (bytesAV s)) :: H)⟩)) := e_sb _
theorem x_cvm (id n s : Nat) : xE .cvm [.msl id 0 n s] H (K := K) = ((s = 1 ∧ 0 < n) ∧ xC (lookH id H) (K := ⟨fun vs => (n = vs.length ∧ AllSz 1 vs ∧ flat vs = vs) ∧ K.ap (.sl vs (.at id n 1)) (setH id (.spare n) H)⟩)) := e_cvm _ _ _
theorem x_mksl (sz bytes : Nat) (z : List AV) (k k' : IntKind) (n c : Int) : xE (.mksl sz bytes z) [.int k n, .int k' c] H (K := K) = ((0 ≤ n ∧ n ≤ c ∧ c ≤ maxLen ∧ bytes * c ≤ 281474976710656) ∧ xFr H (K := ⟨fun id => K.ap (.msl id 0 n.toNat sz) ((id, .cells ((List.replicate n.toNat z).flatten)) :: H)⟩)) := e_mksl _ _ _ _ _ _ _
theorem x_mkmap  : xE .mkmap [] H (K := K) = xFr H (K := ⟨fun id => K.ap (.map id) ((id, .map []) :: H)⟩) := e_mkmap 
theorem x_mup (kd id : Nat) (k v : AV) : xE (.mup kd) [.map id, k, v] H (K := K) = xM (lookH id H) (K := ⟨fun es => (k.kindN = kd ∧ kd ≤ 2 ∧ v ≠ .any) ∧ xLs (updA k v es) (K := ⟨fun es' => K.ap .undef (setH id (.map es') H)⟩)⟩) := e_mup _ _ _ _
theorem x_rngs (s : List UInt8) : xE .rngs [.str s] H (K := K) = xFr H (K := ⟨fun id => K.ap (.ptr id 0) ((id, .iter s 0) :: H)⟩) := e_rngs _
theorem x_nxts (id : Nat) : xE .nxts [.ptr id 0] H (K := K) = xI (lookH id H) (K := ⟨fun s pos => if pos < s.length then K.ap (.tup [.bool true, .int .i64 pos, .int .i32 (Utf8.decode ⟨s.toArray⟩ pos).1]) (setH id (.iter s (pos + (Utf8.decode ⟨s.toArray⟩ pos).2)) H) else K.ap (.tup [.bool false]) H⟩) := e_nxts _
theorem x_appnil (sz bytes : Nat) (x : AV) : xE (.app sz bytes) [.sl [] .nil, x] H (K := K) = (0 < sz ∧ xSrc sz x H (K := ⟨fun ys => (ys.length ≤ maxLen ∧ ys.length * bytes ≤ 140737488355328) ∧ (ys = [] → K.ap (.sl [] .nil) H) ∧ (ys ≠ [] → ∀ id e, id ∉ H.keys → K.ap (.sl ys (.at id e sz)) ((id, .spare e) :: H))⟩)) := e_appnil _ _ _
theorem x_appat (sz bytes : Nat) (xs : List AV) (b e s : Nat) (x : AV) : xE (.app sz bytes) [.sl xs (.at b e s), x] H (K := K) = (0 < sz ∧ xSrc sz x H (K := ⟨fun ys => (AllSz sz xs ∧ xs.length + ys.length ≤ maxLen ∧ (xs.length + ys.length) * bytes ≤ 140737488355328) ∧ s = sz ∧ xSp (lookH b H) (K := ⟨fun e0 => (e0 = e ∧ b ∉ othK b H) ∧ xOt (othK b H) (K := ⟨fun id e' => K.ap (.sl (xs ++ ys) (.at id e' sz)) (renH b id (.spare e') H)⟩)⟩)⟩)) := e_appat _ _ _ _ _ _ _
theorem x_appm (sz bytes : Nat) (b n s : Nat) (x : AV) : xE (.app sz bytes) [.msl b 0 n s, x] H (K := K) = (0 < sz ∧ xSrc sz x H (K := ⟨fun ys => (s = sz ∧ n + ys.length ≤ maxLen ∧ (n + ys.length) * bytes ≤ 140737488355328) ∧ xC (lookH b H) (K := ⟨fun vs => (vs.length = n * sz ∧ b ∉ othK b H) ∧ xOm (othK b H) (K := ⟨fun id => K.ap (.msl id 0 (n + ys.length) sz) (renH b id (.cells (vs ++ flat ys)) H)⟩)⟩)⟩)) := e_appm _ _ _ _ _ _
theorem x_cpym (sz : Nat) (id off n s : Nat) (x : AV) : xE (.cpy sz) [.msl id off n s, x] H (K := K) = xSrc sz x H (K := ⟨fun ys => s = sz ∧ xC (lookH id H) (K := ⟨fun vs => off + n * sz ≤ vs.length ∧ K.ap (.int .i64 (Nat.min ys.length n : Nat)) (setH id (.cells (splice vs off (flat (ys.take n)))) H)⟩)⟩) := e_cpym _ _ _ _ _ _
theorem x_cpy0 (sz : Nat) (t : Tok) (x : AV) : xE (.cpy sz) [.sl [] t, x] H (K := K) = xSrc sz x H (K := ⟨fun _ => K.ap (.int .i64 0) H⟩) := e_cpy0 _ _ _
theorem xsrc_sl {K : Kl AV} (sz : Nat) (xs : List AV) (t : Tok) : xSrc sz (.sl xs t) H (K := K) = (AllSz sz xs ∧ K.ap xs) := src_sl _ _ _ K.ap
theorem xsrc_str {K : Kl AV} (s : List UInt8) : xSrc 1 (.str s) H (K := K) = K.ap (bytesAV s) := src_str _ K.ap
theorem xsrc_msl1 {K : Kl AV} (id off n s : Nat) : xSrc 1 (.msl id off n s) H (K := K) = (s = 1 ∧ xC (lookH id H) (K := ⟨fun vs => (off + n ≤ vs.length ∧ AllSz 1 ((vs.drop off).take n) ∧ flat ((vs.drop off).take n) = (vs.drop off).take n) ∧ K.ap ((vs.drop off).take n)⟩)) := src_msl1 _ _ _ _ K.ap

/- Steps by hand: where the computing stands still. -/
theorem i_new {H : Heap} {K : Kn} (h : ∀ id, id ∉ Heap.keys H → K.ap id) : xFr H := h
theorem i_if {b : Bool} {K : Kp} (h1 : b = true → K.p) (h2 : b = false → K.q) : xIf b := by
  cases b with
  | true => exact h1 rfl
  | false => rw [x_if0]; exact h2 rfl
theorem i_msl {K : Kp} (h : K.p) : xSel := .inl h
theorem i_sl {K : Kp} (h : K.q) : xSel := .inr h
theorem i_other {ks : List Nat} {K : Knn} (h : ∀ id e, id ∉ ks → K.ap id e) : xOt ks := h
theorem i_otherM {ks : List Nat} {K : Kn} (h : ∀ id, id ∉ ks → K.ap id) : xOm ks := h
theorem i_loop {t : Th} {ks : List Nat} {b : ACode} {σ : Env} {H : Heap} {Q : Kx} (I : Env → Heap → Prop) (μ : Env → Heap → Nat) (h0 : ∃ H0, Hle H0 H ∧ I (σ.keep ks) H0)
    (h1 : ∀ σ1 H1, I σ1 H1 → xD b σ1 H1 (K := ⟨fun e σ2 H2 => xT e σ2 H2 (N := ⟨fun σ3 H3 => ∃ H0, Hle H0 H3 ∧ I (σ3.keep ks) H0 ∧ μ (σ3.keep ks) H0 < μ σ1 H1⟩)⟩)) : xD (.loop ks b) σ H := ⟨I, μ, h0, h1⟩
end

/- The same rules, in bundles. -/
theorem sB0 : type_of% @x_gnone ∧ type_of% @x_gsome ∧ type_of% @x_gbool ∧ type_of% @x_gtup ∧ type_of% @x_cond ∧ type_of% @x_if1 ∧ type_of% @x_if0 ∧ type_of% @x_opt ∧ type_of% @x_cells ∧ type_of% @x_spare ∧ type_of% @x_map ∧ type_of% @x_iter ∧ type_of% @x_look ∧ type_of% @x_list ∧ type_of% @x_rnil ∧ type_of% @x_rcons := ⟨@x_gnone, @x_gsome, @x_gbool, @x_gtup, @x_cond, @x_if1, @x_if0, @x_opt, @x_cells, @x_spare, @x_map, @x_iter, @x_look, @x_list, @x_rnil, @x_rcons⟩
theorem sB1 : type_of% @x_inil ∧ type_of% @x_icons ∧ type_of% @x_skip ∧ type_of% @x_run ∧ type_of% @x_sqn ∧ type_of% @x_sqc ∧ type_of% @x_sqpn ∧ type_of% @x_sqpc ∧ type_of% @x_runF ∧ type_of% @x_q ∧ type_of% @x_ob ∧ type_of% @x_aon ∧ type_of% @x_aoc ∧ type_of% @q_mv ∧ type_of% @q_pick ∧ type_of% @q_nilck := ⟨@x_inil, @x_icons, @x_skip, @x_run, @x_sqn, @x_sqc, @x_sqpn, @x_sqpc, @x_runF, @x_q, @x_ob, @x_aon, @x_aoc, @q_mv, @q_pick, @q_nilck⟩
theorem sB2 : type_of% @q_faddr ∧ type_of% @q_iaddr ∧ type_of% @q_aaddr ∧ type_of% @q_ld ∧ type_of% @q_build ∧ type_of% @q_fld ∧ type_of% @q_ixs ∧ type_of% @q_ixa ∧ type_of% @q_bin ∧ type_of% @q_eqg ∧ type_of% @q_eqs ∧ type_of% @q_un ∧ type_of% @q_cvi ∧ type_of% @q_cvs ∧ type_of% @q_cvb ∧ type_of% @q_cvr := ⟨@q_faddr, @q_iaddr, @q_aaddr, @q_ld, @q_build, @q_fld, @q_ixs, @q_ixa, @q_bin, @q_eqg, @q_eqs, @q_un, @q_cvi, @q_cvs, @q_cvb, @q_cvr⟩
theorem sB3 : type_of% @q_cvc ∧ type_of% @q_mkif ∧ type_of% @q_mkfn ∧ type_of% @q_slc ∧ type_of% @q_lkp ∧ type_of% @q_tas ∧ type_of% @q_ext ∧ type_of% @q_len ∧ type_of% @q_min ∧ type_of% @q_max ∧ type_of% @q_st ∧ type_of% @q_box ∧ type_of% @q_alloc ∧ type_of% @q_bslice ∧ type_of% @q_sb ∧ type_of% @q_cvm := ⟨@q_cvc, @q_mkif, @q_mkfn, @q_slc, @q_lkp, @q_tas, @q_ext, @q_len, @q_min, @q_max, @q_st, @q_box, @q_alloc, @q_bslice, @q_sb, @q_cvm⟩
theorem sB4 : type_of% @q_mkmap ∧ type_of% @q_mksl ∧ type_of% @q_mup ∧ type_of% @q_rngs ∧ type_of% @q_nxts ∧ type_of% @q_app ∧ type_of% @q_cpy ∧ type_of% @q_call ∧ type_of% @q_callv ∧ type_of% @x_runD ∧ type_of% @x_seq ∧ type_of% @x_dcond ∧ type_of% @x_block ∧ type_of% @x_exit ∧ type_of% @x_ret ∧ type_of% @x_tn := ⟨@q_mkmap, @q_mksl, @q_mup, @q_rngs, @q_nxts, @q_app, @q_cpy, @q_call, @q_callv, @x_runD, @x_seq, @x_dcond, @x_block, @x_exit, @x_ret, @x_tn⟩
theorem sB5 : type_of% @x_te ∧ type_of% @x_tr ∧ type_of% @x_bn ∧ type_of% @x_be ∧ type_of% @x_br ∧ type_of% @x_en ∧ type_of% @x_er ∧ type_of% @x_slot ∧ type_of% @x_cell ∧ type_of% @x_res1 ∧ type_of% @x_res0 ∧ type_of% @x_res2 ∧ type_of% @x_res3 ∧ type_of% @x_fun ∧ type_of% @x_tb ∧ type_of% @x_tbcons := ⟨@x_te, @x_tr, @x_bn, @x_be, @x_br, @x_en, @x_er, @x_slot, @x_cell, @x_res1, @x_res0, @x_res2, @x_res3, @x_fun, @x_tb, @x_tbcons⟩
theorem sB6 : type_of% @x_tbnil ∧ type_of% @x_ap ∧ type_of% @allSz_nil ∧ type_of% @allSz_cons ∧ type_of% @flat_nil ∧ type_of% @flat_cons ∧ type_of% @bytesAV_nil ∧ type_of% @bytesAV_cons ∧ type_of% @repF_zero ∧ type_of% @repF_succ ∧ type_of% @x_bslice1 ∧ type_of% @l_tkd ∧ type_of% @by_len ∧ type_of% @by_all ∧ type_of% @by_take ∧ type_of% @by_drop := ⟨@x_tbnil, @x_ap, @allSz_nil, @allSz_cons, @flat_nil, @flat_cons, @bytesAV_nil, @bytesAV_cons, @repF_zero, @repF_succ, @x_bslice1, @l_tkd, @by_len, @by_all, @by_take, @by_drop⟩
theorem sB7 : type_of% @by_flat ∧ type_of% @by_app ∧ type_of% @by_rep ∧ type_of% @by_of ∧ type_of% @by_get ∧ type_of% @look_ren ∧ type_of% @ren_ren ∧ type_of% @keys_ren ∧ type_of% @w_i64 ∧ type_of% @w_u64 ∧ type_of% @w_u8 ∧ type_of% @w_i32 ∧ type_of% @w_u32 ∧ type_of% @maxLen_eq ∧ type_of% @x_call ∧ type_of% @x_callv := ⟨@by_flat, @by_app, @by_rep, @by_of, @by_get, @look_ren, @ren_ren, @keys_ren, @w_i64, @w_u64, @w_u8, @w_i32, @w_u32, @maxLen_eq, @x_call, @x_callv⟩
theorem sB8 : type_of% @x_mv ∧ type_of% @x_pick ∧ type_of% @x_nilck1 ∧ type_of% @x_nilck2 ∧ type_of% @x_nilck3 ∧ type_of% @x_faddr1 ∧ type_of% @x_faddr2 ∧ type_of% @x_iaddr1 ∧ type_of% @x_iaddr2 ∧ type_of% @x_aaddr1 ∧ type_of% @x_aaddr2 ∧ type_of% @x_ldi1 ∧ type_of% @x_ldi2 ∧ type_of% @x_ldp1 ∧ type_of% @x_ldp2 ∧ type_of% @x_build := ⟨@x_mv, @x_pick, @x_nilck1, @x_nilck2, @x_nilck3, @x_faddr1, @x_faddr2, @x_iaddr1, @x_iaddr2, @x_aaddr1, @x_aaddr2, @x_ldi1, @x_ldi2, @x_ldp1, @x_ldp2, @x_build⟩
theorem sB9 : type_of% @x_fld1 ∧ type_of% @x_fld2 ∧ type_of% @x_ixs ∧ type_of% @x_ixa1 ∧ type_of% @x_add ∧ type_of% @x_sub ∧ type_of% @x_mul ∧ type_of% @x_quo ∧ type_of% @x_rem ∧ type_of% @x_lss ∧ type_of% @x_leq ∧ type_of% @x_gtr ∧ type_of% @x_geq ∧ type_of% @x_and ∧ type_of% @x_or ∧ type_of% @x_xor := ⟨@x_fld1, @x_fld2, @x_ixs, @x_ixa1, @x_add, @x_sub, @x_mul, @x_quo, @x_rem, @x_lss, @x_leq, @x_gtr, @x_geq, @x_and, @x_or, @x_xor⟩
theorem sB10 : type_of% @x_shl ∧ type_of% @x_shr ∧ type_of% @x_cat ∧ type_of% @x_eqb ∧ type_of% @x_eqi ∧ type_of% @x_eqt ∧ type_of% @x_eqp0 ∧ type_of% @x_eqp1 ∧ type_of% @x_eqp2 ∧ type_of% @x_eqs1 ∧ type_of% @x_eqs2 ∧ type_of% @x_eqm0 ∧ type_of% @x_eqm1 ∧ type_of% @x_eqf0 ∧ type_of% @x_eqf1 ∧ type_of% @x_eqn1 := ⟨@x_shl, @x_shr, @x_cat, @x_eqb, @x_eqi, @x_eqt, @x_eqp0, @x_eqp1, @x_eqp2, @x_eqs1, @x_eqs2, @x_eqm0, @x_eqm1, @x_eqf0, @x_eqf1, @x_eqn1⟩
theorem sB11 : type_of% @x_not ∧ type_of% @x_neg ∧ type_of% @x_compl ∧ type_of% @x_cvi ∧ type_of% @x_cvs ∧ type_of% @x_cvb1 ∧ type_of% @x_cvb2 ∧ type_of% @x_cvc ∧ type_of% @x_slcs ∧ type_of% @x_slcl ∧ type_of% @x_slcm ∧ type_of% @xb_two ∧ type_of% @xb_lo ∧ type_of% @xb_hi ∧ type_of% @xb_no ∧ type_of% @x_mkif := ⟨@x_not, @x_neg, @x_compl, @x_cvi, @x_cvs, @x_cvb1, @x_cvb2, @x_cvc, @x_slcs, @x_slcl, @x_slcm, @xb_two, @xb_lo, @xb_hi, @xb_no, @x_mkif⟩
theorem sB12 : type_of% @x_mkfn ∧ type_of% @x_ext ∧ type_of% @x_lens ∧ type_of% @x_lenl ∧ type_of% @x_lenm ∧ type_of% @x_len0 ∧ type_of% @x_lenp ∧ type_of% @x_min ∧ type_of% @x_max ∧ type_of% @x_tas1 ∧ type_of% @x_tas2 ∧ type_of% @x_tas3 ∧ type_of% @x_lkp0 ∧ type_of% @x_lkp1 ∧ type_of% @x_st ∧ type_of% @x_box := ⟨@x_mkfn, @x_ext, @x_lens, @x_lenl, @x_lenm, @x_len0, @x_lenp, @x_min, @x_max, @x_tas1, @x_tas2, @x_tas3, @x_lkp0, @x_lkp1, @x_st, @x_box⟩
theorem sB13 : type_of% @x_alloc ∧ type_of% @x_sb ∧ type_of% @x_cvm ∧ type_of% @x_mksl ∧ type_of% @x_mkmap ∧ type_of% @x_mup ∧ type_of% @x_rngs ∧ type_of% @x_nxts ∧ type_of% @x_appm ∧ type_of% @x_cpym ∧ type_of% @x_cpy0 ∧ type_of% @xsrc_sl ∧ type_of% @xsrc_str ∧ type_of% @xsrc_msl1 ∧ type_of% @opE_tmp ∧ type_of% @opE_int := ⟨@x_alloc, @x_sb, @x_cvm, @x_mksl, @x_mkmap, @x_mup, @x_rngs, @x_nxts, @x_appm, @x_cpym, @x_cpy0, @xsrc_sl, @xsrc_str, @xsrc_msl1, @opE_tmp, @opE_int⟩
theorem sB14 : type_of% @opE_bool ∧ type_of% @opE_str ∧ type_of% @opE_nilp ∧ type_of% @opE_nils ∧ type_of% @opE_nilm ∧ type_of% @opE_nili ∧ type_of% @opE_nilf ∧ type_of% @opE_func ∧ type_of% @put_some ∧ type_of% @put_none ∧ type_of% @get_cons ∧ type_of% @get_nil ∧ type_of% @keep_nil ∧ type_of% @keep_cons ∧ type_of% @params_go_nil ∧ type_of% @params_go_cons := ⟨@opE_bool, @opE_str, @opE_nilp, @opE_nils, @opE_nilm, @opE_nili, @opE_nilf, @opE_func, @put_some, @put_none, @get_cons, @get_nil, @keep_nil, @keep_cons, @params_go_nil, @params_go_cons⟩
theorem sB15 : type_of% @params_eq ∧ type_of% @List.map_cons.{0,0} ∧ type_of% @List.map_nil.{0,0} ∧ type_of% @List.length_cons.{0} ∧ type_of% @List.length_nil.{0} ∧ type_of% @List.all_cons.{0} ∧ type_of% @List.all_nil.{0} ∧ type_of% @List.isEmpty_nil.{0} ∧ type_of% @List.isEmpty_cons.{0} ∧ type_of% @List.contains_cons.{0} ∧ type_of% @List.contains_nil.{0} ∧ type_of% @Bool.or_false ∧ type_of% @Bool.false_or ∧ type_of% @Bool.or_true ∧ type_of% @Bool.true_or ∧ type_of% @Bool.and_self := ⟨@params_eq, @List.map_cons.{0,0}, @List.map_nil.{0,0}, @List.length_cons.{0}, @List.length_nil.{0}, @List.all_cons.{0}, @List.all_nil.{0}, @List.isEmpty_nil.{0}, @List.isEmpty_cons.{0}, @List.contains_cons.{0}, @List.contains_nil.{0}, @Bool.or_false, @Bool.false_or, @Bool.or_true, @Bool.true_or, @Bool.and_self⟩
theorem sB16 : type_of% @Bool.and_true ∧ type_of% @Bool.true_and ∧ type_of% @Bool.and_false ∧ type_of% @Bool.false_and ∧ type_of% @Bool.false_eq_true ∧ type_of% @decide_true ∧ type_of% @decide_false ∧ type_of% @Bool.not_eq_true ∧ type_of% @Bool.true_eq_false ∧ type_of% @Bool.true_beq ∧ type_of% @Bool.false_beq ∧ type_of% @BEq.rfl.{0} ∧ type_of% @beq_self_eq_true.{0} ∧ type_of% @bne_self_eq_false.{0} ∧ type_of% @Nat.zero_add ∧ type_of% @Nat.add_zero := ⟨@Bool.and_true, @Bool.true_and, @Bool.and_false, @Bool.false_and, @Bool.false_eq_true, @decide_true, @decide_false, @Bool.not_eq_true, @Bool.true_eq_false, @Bool.true_beq, @Bool.false_beq, @BEq.rfl.{0}, @beq_self_eq_true.{0}, @bne_self_eq_false.{0}, @Nat.zero_add, @Nat.add_zero⟩
theorem sB17 : type_of% @Nat.mul_one ∧ type_of% @Nat.mul_zero ∧ type_of% @Nat.sub_zero ∧ type_of% @Nat.zero_le ∧ type_of% @Int.toNat_natCast ∧ type_of% @Bool.bne_false ∧ type_of% @Bool.false_bne ∧ type_of% @Bool.bne_true ∧ type_of% @Bool.true_bne ∧ type_of% @Bool.not_true ∧ type_of% @Bool.not_false ∧ type_of% @Bool.not_not ∧ type_of% @Option.some.injEq.{0} ∧ type_of% @Option.map_some.{0,0} ∧ type_of% @List.cons.injEq.{0} ∧ type_of% @List.take_succ_cons.{0} := ⟨@Nat.mul_one, @Nat.mul_zero, @Nat.sub_zero, @Nat.zero_le, @Int.toNat_natCast, @Bool.bne_false, @Bool.false_bne, @Bool.bne_true, @Bool.true_bne, @Bool.not_true, @Bool.not_false, @Bool.not_not, @Option.some.injEq.{0}, @Option.map_some.{0,0}, @List.cons.injEq.{0}, @List.take_succ_cons.{0}⟩
theorem sB18 : type_of% @List.take_zero.{0} ∧ type_of% @List.drop_succ_cons.{0} ∧ type_of% @List.drop_zero.{0} ∧ type_of% @List.take_nil.{0} ∧ type_of% @List.drop_nil.{0} ∧ type_of% @List.cons_append.{0} ∧ type_of% @List.nil_append.{0} ∧ type_of% @List.append_nil.{0} ∧ type_of% @List.getElem?_cons_zero.{0} ∧ type_of% @List.getElem?_cons_succ.{0} ∧ type_of% @List.getElem?_nil.{0} ∧ type_of% @List.mem_cons.{0} ∧ type_of% @List.not_mem_nil.{0} ∧ type_of% @Int.cast_ofNat_Int ∧ type_of% @Int.natCast_zero ∧ type_of% @Int.natCast_one := ⟨@List.take_zero.{0}, @List.drop_succ_cons.{0}, @List.drop_zero.{0}, @List.take_nil.{0}, @List.drop_nil.{0}, @List.cons_append.{0}, @List.nil_append.{0}, @List.append_nil.{0}, @List.getElem?_cons_zero.{0}, @List.getElem?_cons_succ.{0}, @List.getElem?_nil.{0}, @List.mem_cons.{0}, @List.not_mem_nil.{0}, @Int.cast_ofNat_Int, @Int.natCast_zero, @Int.natCast_one⟩
theorem sB19 : type_of% @List.getElem?_map.{0,0} ∧ type_of% @List.append_assoc.{0} ∧ type_of% @Nat.min_def ∧ type_of% @Bool.decide_eq_true ∧ type_of% @List.length_take.{0} ∧ type_of% @List.take_length.{0} ∧ type_of% @List.drop_drop.{0} ∧ type_of% @List.length_drop.{0} ∧ type_of% @List.length_append.{0} ∧ type_of% @List.length_replicate.{0} ∧ type_of% @Int.zero_add ∧ type_of% @Int.add_zero ∧ type_of% @Int.sub_zero ∧ type_of% @Int.toNat_zero ∧ type_of% @Int.zero_tmod ∧ type_of% @Nat.le_refl := ⟨@List.getElem?_map.{0,0}, @List.append_assoc.{0}, @Nat.min_def, @Bool.decide_eq_true, @List.length_take.{0}, @List.take_length.{0}, @List.drop_drop.{0}, @List.length_drop.{0}, @List.length_append.{0}, @List.length_replicate.{0}, @Int.zero_add, @Int.add_zero, @Int.sub_zero, @Int.toNat_zero, @Int.zero_tmod, @Nat.le_refl⟩
theorem sB20 : type_of% @Int.le_refl := @Int.le_refl
end Go.AL
