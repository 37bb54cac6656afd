/- The abstract layer, part 23: the rules of the computing, one for each operation and shape of its operands. -/
import Derived.Test.YtpeaphpibnikcaaA22
namespace Go.AL
open Go.RowKit

def gateV (v : AV) (w : Bool) (p q : Prop) : Prop := match v with
  | .bool b => if b = w then p else q
  | .tup [] => q
  | _ => False

def cellsS (o : Option AObj) (K : List AV → Prop) : Prop := match o with | some (.cells vs) => K vs | _ => False
def spareS (o : Option AObj) (K : Nat → Prop) : Prop := match o with | some (.spare e) => K e | _ => False
def mapS (o : Option AObj) (K : List (AV × AV) → Prop) : Prop := match o with | some (.map es) => K es | _ => False
def iterS (o : Option AObj) (K : List UInt8 → Nat → Prop) : Prop := match o with | some (.iter s p) => K s p | _ => False
def lookS (o : Option (Option AV)) (K : Option AV → Prop) : Prop := match o with | some r => K r | none => False
def listS {α : Type} (o : Option (List α)) (K : List α → Prop) : Prop := match o with | some r => K r | none => False
/-- Each way of a test is computed with what it knows. -/
@[congr] theorem iteP_congr {b c : Prop} {s : Decidable b} [Decidable c] {x y u v : Prop} (h1 : b = c) (h2 : c → x = u) (h3 : ¬ c → y = v) : @ite Prop b s x y = ite c u v := by
  subst h1
  by_cases h : b
  · rw [if_pos h, if_pos h, h2 h]
  · rw [if_neg h, if_neg h, h3 h]

/-- For every new number. -/
def freshS (H : Heap) (K : Nat → Prop) : Prop := ∀ id, id ∉ H.keys → K id
def otherS (ks : List Nat) (K : Nat → Nat → Prop) : Prop := ∀ id e, id ∉ ks → K id e
def otherM (ks : List Nat) (K : Nat → Prop) : Prop := ∀ id, id ∉ ks → K id

section
variable {G : Nat → Option (List AV)} {P : Program} {T : Tbl} {H H' : Heap} {K : AV → Heap → Prop}

@[congr] theorem gateV_congr {v v' : AV} {w : Bool} {p q : Prop} (h : v = v') : gateV v w p q = gateV v' w p q := by rw [h]
@[congr] theorem cellsS_congr {o o' : Option AObj} {K : List AV → Prop} (h : o = o') : cellsS o K = cellsS o' K := by rw [h]
@[congr] theorem spareS_congr {o o' : Option AObj} {K : Nat → Prop} (h : o = o') : spareS o K = spareS o' K := by rw [h]
@[congr] theorem mapS_congr {o o' : Option AObj} {K : List (AV × AV) → Prop} (h : o = o') : mapS o K = mapS o' K := by rw [h]
@[congr] theorem iterS_congr {o o' : Option AObj} {K : List UInt8 → Nat → Prop} (h : o = o') : iterS o K = iterS o' K := by rw [h]
@[congr] theorem lookS_congr {o o' : Option (Option AV)} {K : Option AV → Prop} (h : o = o') : lookS o K = lookS o' K := by rw [h]
@[congr] theorem listS_congr {α : Type} {o o' : Option (List α)} {K : List α → Prop} (h : o = o') : listS o K = listS o' K := by rw [h]
@[congr] theorem freshS_congr {K : Nat → Prop} (h : H = H') : freshS H K = freshS H' K := by rw [h]
@[congr] theorem otherS_congr {ks ks' : List Nat} {K : Nat → Nat → Prop} (h : ks = ks') : otherS ks K = otherS ks' K := by rw [h]
@[congr] theorem otherM_congr {ks ks' : List Nat} {K : Nat → Prop} (h : ks = ks') : otherM ks K = otherM ks' K := by rw [h]

theorem gate_none (σ : Env) (p q : Prop) : gate σ none p q = p := rfl
theorem gate_some (σ : Env) (t : Nat) (w : Bool) (p q : Prop) : gate σ (some (t, w)) p q = gateV (σ.get t) w p q := rfl
theorem gateV_bool (b w : Bool) (p q : Prop) : gateV (.bool b) w p q = if b = w then p else q := rfl
theorem gateV_tup (w : Bool) (p q : Prop) : gateV (.tup []) w p q = q := rfl
theorem condS_bool (b : Bool) (p q : Prop) : condS (.bool b) p q = if b = true then p else q := rfl
theorem cellsS_some (vs : List AV) (K : List AV → Prop) : cellsS (some (.cells vs)) K = K vs := rfl
theorem spareS_some (e : Nat) (K : Nat → Prop) : spareS (some (.spare e)) K = K e := rfl
theorem mapS_some (es : List (AV × AV)) (K : List (AV × AV) → Prop) : mapS (some (.map es)) K = K es := rfl
theorem iterS_some (s : List UInt8) (p : Nat) (K : List UInt8 → Nat → Prop) : iterS (some (.iter s p)) K = K s p := rfl
theorem lookS_some (r : Option AV) (K : Option AV → Prop) : lookS (some r) K = K r := rfl
theorem listS_some {α : Type} (r : List α) (K : List α → Prop) : listS (some r) K = K r := rfl

theorem run_nil (σ : Env) (K : Env → Heap → Prop) : runS G P T [] σ H K = K σ H := rfl
theorem run_cons (d : Option Nat) (op : AOp) (as : List Operand) (g : Option (Nat × Bool)) (l : List AOper) (σ : Env) (K : Env → Heap → Prop) :
    runS G P T (⟨d, op, as, g⟩ :: l) σ H K = gate σ g (effS G P T op (as.map (opE G σ)) H fun v H' => runS G P T l (σ.put d v) H' K) (runS G P T l (σ.put d .undef) H K) := rfl
theorem runI_nil (σ : Env) (K : Env → Heap → Prop) : runIS G P T [] σ H K = K σ H := rfl
theorem runI_cons (i : Nat) (d : Option Nat) (op : AOp) (as : List Operand) (g : Option (Nat × Bool)) (ob : List Nat) (l : List Item) (σ : Env) (K : Env → Heap → Prop) :
    runIS G P T (⟨i, ⟨d, op, as, g⟩, ob⟩ :: l) σ H K = gate σ g (effS G P T op (as.map (opE G σ)) H fun v H' => runIS G P T l (σ.put d v) H' K) (runIS G P T l (σ.put d .undef) H K) := rfl

theorem den_skip (σ : Env) (Q : Exit → Env → Heap → Prop) : denS G P T .skip σ H Q = Q .normal σ H := rfl
theorem den_run (ks : List Nat) (l : List AOper) (σ : Env) (Q : Exit → Env → Heap → Prop) : denS G P T (.run ks l) σ H Q = runS G P T l σ H fun σ' H' => Q .normal (σ'.keep ks) H' := rfl
theorem den_runD (ks : List Nat) (l : List Item) (σ : Env) (Q : Exit → Env → Heap → Prop) : denS G P T (.runD ks l) σ H Q = if noOb l = true then runIS G P T l σ H fun σ' H' => Q .normal (σ'.keep ks) H' else seqS G P T l [] σ H fun σ' H' => Q .normal (σ'.keep ks) H' := rfl
theorem den_seq (a b : ACode) (σ : Env) (Q : Exit → Env → Heap → Prop) : denS G P T (.seq a b) σ H Q = denS G P T a σ H (thenE (fun σ' H' => denS G P T b σ' H' Q) Q) := rfl
theorem den_cond (c : Operand) (a b : ACode) (σ : Env) (Q : Exit → Env → Heap → Prop) : denS G P T (.cond c a b) σ H Q = condS (opE G σ c) (denS G P T a σ H Q) (denS G P T b σ H Q) := rfl
theorem den_block (id : Nat) (b : ACode) (σ : Env) (Q : Exit → Env → Heap → Prop) : denS G P T (.block id b) σ H Q = denS G P T b σ H (blockE id Q) := rfl
theorem den_exit (id : Nat) (σ : Env) (Q : Exit → Env → Heap → Prop) : denS G P T (.exit id) σ H Q = Q (.exit id) σ H := rfl
theorem den_ret (σ : Env) (Q : Exit → Env → Heap → Prop) : denS G P T .ret σ H Q = Q .ret σ H := rfl
theorem then_normal (n : Env → Heap → Prop) (Q : Exit → Env → Heap → Prop) (σ : Env) : thenE n Q .normal σ H = n σ H := rfl
theorem then_exit (n : Env → Heap → Prop) (Q : Exit → Env → Heap → Prop) (id : Nat) (σ : Env) : thenE n Q (.exit id) σ H = Q (.exit id) σ H := rfl
theorem then_ret (n : Env → Heap → Prop) (Q : Exit → Env → Heap → Prop) (σ : Env) : thenE n Q .ret σ H = Q .ret σ H := rfl
theorem block_normal (id : Nat) (Q : Exit → Env → Heap → Prop) (σ : Env) : blockE id Q .normal σ H = Q .normal σ H := rfl
theorem block_exit (id id' : Nat) (Q : Exit → Env → Heap → Prop) (σ : Env) : blockE id Q (.exit id') σ H = if id' = id then Q .normal σ H else Q (.exit id') σ H := rfl
theorem block_ret (id : Nat) (Q : Exit → Env → Heap → Prop) (σ : Env) : blockE id Q .ret σ H = Q .ret σ H := rfl
theorem end_normal (K : Env → Heap → Prop) (σ : Env) : endE K .normal σ H = K σ H := rfl
theorem end_ret (K : Env → Heap → Prop) (σ : Env) : endE K .ret σ H = K σ H := rfl
theorem res_slot (σ : Env) (t : Nat) (rs : List ARes) (acc : List AV) : resS σ H K (.slot t :: rs) acc = resS σ H K rs (σ.get t :: acc) := rfl
theorem res_one (σ : Env) (v : AV) : resS σ H K [] [v] = K v H := rfl
theorem res_none (σ : Env) : resS σ H K [] [] = K (.tup []) H := rfl
theorem res_two (σ : Env) (v w : AV) : resS σ H K [] [v, w] = K (.tup [w, v]) H := rfl
theorem res_three (σ : Env) (v w x : AV) : resS σ H K [] [v, w, x] = K (.tup [x, w, v]) H := rfl
theorem denFS_mk (n a : Nat) (rs : List ARes) (body : ACode) (args : List AV) : denFS G P T ⟨n, a, rs, body⟩ args H K = (args.length ≤ n ∧ denS G P T body (params args) H (endE fun σ' H' => resS σ' H' K rs [])) := rfl

theorem opE_tmp (σ : Env) (t : Nat) : opE G σ (.tmp t) = σ.get t := rfl
theorem opE_int (σ : Env) (k : IntKind) (n : Int) : opE G σ (.const (.int k n)) = .int k n := rfl
theorem opE_bool (σ : Env) (b : Bool) : opE G σ (.const (.bool b)) = .bool b := rfl
theorem opE_str (σ : Env) (s : ByteArray) : opE G σ (.const (.string s)) = .str s.data.toList := rfl
theorem opE_nilp (σ : Env) : opE G σ (.const (.pointer none)) = .nilp := rfl
theorem opE_nils (σ : Env) : opE G σ (.const (.slice none 0 0)) = .sl [] .nil := rfl
theorem opE_nilm (σ : Env) : opE G σ (.const (.map none)) = .nilm := rfl
theorem opE_nili (σ : Env) : opE G σ (.const .nilIface) = .nili := rfl
theorem opE_nilf (σ : Env) : opE G σ (.const .nilFunc) = .nilf := rfl
theorem opE_func (σ : Env) (f : Nat) : opE G σ (.func f) = .fn (.func f) [] [] := rfl

theorem put_some (σ : Env) (t : Nat) (v : AV) : σ.put (some t) v = (t, v) :: σ := rfl
theorem put_none (σ : Env) (v : AV) : σ.put none v = σ := rfl
theorem get_cons (t s : Nat) (v : AV) (σ : Env) : Env.get ((t, v) :: σ) s = if s = t then v else Env.get σ s := rfl
theorem get_nil (s : Nat) : Env.get [] s = .any := rfl
theorem keep_nil (σ : Env) : σ.keep [] = [] := rfl
theorem keep_cons (σ : Env) (t : Nat) (ts : List Nat) : σ.keep (t :: ts) = (t, σ.get t) :: σ.keep ts := rfl
theorem params_go_nil (i : Nat) : params.go i [] = [] := rfl
theorem params_go_cons (i : Nat) (x : AV) (xs : List AV) : params.go i (x :: xs) = (i, x) :: params.go (i + 1) xs := rfl
theorem params_eq (xs : List AV) : params xs = params.go 0 xs := rfl

theorem e_call (f : Nat) (xs : List AV) : effS G P T (.call f) xs H K = callS G P T f xs H K := rfl
theorem e_callv (f : Nat) (a b ys : List AV) : effS G P T .callv (.fn (.func f) a b :: ys) H K = callS G P T f (a ++ ys ++ b) H K := rfl
theorem e_mv (x : AV) : effS G P T .mv [x] H K = K x H := rfl
theorem e_pick (b : Bool) (x y : AV) : effS G P T .pick [.bool b, x, y] H K = K (if b = true then x else y) H := rfl
theorem e_nilck1 (a b : Nat) : effS G P T .nilck [.ptr a b] H K = K (.ptr a b) H := rfl
theorem e_nilck2 (cs : List AV) : effS G P T .nilck [.iptr cs] H K = K (.iptr cs) H := rfl
theorem e_nilck3 (f : Nat) (a b : List AV) : effS G P T .nilck [.fn (.func f) a b] H K = K (.fn (.func f) a b) H := rfl
theorem e_faddr1 (o a b : Nat) : effS G P T (.faddr o) [.ptr a b] H K = K (.ptr a (b + o)) H := rfl
theorem e_faddr2 (o : Nat) (cs : List AV) : effS G P T (.faddr o) [.iptr cs] H K = K (.iptr (cs.drop o)) H := rfl
theorem e_iaddr1 (sz : Nat) (xs : List AV) (t : Tok) (k : IntKind) (i : Int) : effS G P T (.iaddr sz) [.sl xs t, .int k i] H K = (0 ≤ i ∧ ∃ y, xs[i.toNat]? = some y ∧ y.cells.length = sz ∧ K (.iptr y.cells) H) := by
  show optS (match xs[i.toNat]? with | some y => if 0 ≤ i ∧ y.cells.length = sz then some (.iptr y.cells) else none | none => none) _ = _
  cases xs[i.toNat]? with
  | none => simp [optS]
  | some y => by_cases h1 : 0 ≤ i <;> by_cases h2 : y.cells.length = sz <;> simp [optS, h1, h2]
theorem e_iaddr2 (sz a b n s : Nat) (k : IntKind) (i : Int) : effS G P T (.iaddr sz) [.msl a b n s, .int k i] H K = ((s = sz ∧ 0 ≤ i ∧ i < n) ∧ K (.ptr a (b + i.toNat * sz)) H) := optS_ite _ _ _
theorem e_aaddr1 (sz n a b : Nat) (k : IntKind) (i : Int) : effS G P T (.aaddr sz n) [.ptr a b, .int k i] H K = ((0 ≤ i ∧ i < n) ∧ K (.ptr a (b + i.toNat * sz)) H) := optS_ite _ _ _
theorem e_aaddr2 (sz n : Nat) (cs : List AV) (k : IntKind) (i : Int) : effS G P T (.aaddr sz n) [.iptr cs, .int k i] H K = ((0 ≤ i ∧ i < n) ∧ K (.iptr (cs.drop (i.toNat * sz))) H) := optS_ite _ _ _
theorem e_ldi1 (sz : Nat) (cs : List AV) : effS G P T (.ld false sz) [.iptr cs] H K = optS cs[0]? fun v => K v H := rfl
theorem e_ldi2 (sz : Nat) (cs : List AV) : effS G P T (.ld true sz) [.iptr cs] H K = (sz ≤ cs.length ∧ K (.agg (cs.take sz)) H) := optS_ite _ _ _
theorem e_ldp1 (sz id off : Nat) : effS G P T (.ld false sz) [.ptr id off] H K = cellsS (lookH id H) fun vs => optS vs[off]? fun v => K v H := by
  show (match lookH id H with | some (.cells vs) => _ | _ => False) = _
  cases lookH id H with
  | none => rfl
  | some o => cases o <;> rfl
theorem e_ldp2 (sz id off : Nat) : effS G P T (.ld true sz) [.ptr id off] H K = cellsS (lookH id H) fun vs => off + sz ≤ vs.length ∧ K (.agg ((vs.drop off).take sz)) H := by
  show (match lookH id H with | some (.cells vs) => _ | _ => False) = _
  cases lookH id H with
  | none => rfl
  | some o => cases o <;> rfl
theorem e_build (z : List AV) (pl : List (Nat × Nat)) (xs : List AV) : effS G P T (.build z pl) xs H K = listS (fillL z pl xs) fun cs => K (.agg cs) H := by
  show quietS (.build z pl) xs H _ = _
  have : quietS (.build z pl) xs H (fun v => K v H) = optS ((fillL z pl xs).map .agg) fun v => K v H := by cases xs <;> rfl
  rw [this]; cases fillL z pl xs <;> rfl
theorem e_fld1 (off sz : Nat) (cs : List AV) : effS G P T (.fld false off sz) [.agg cs] H K = optS cs[off]? fun v => K v H := rfl
theorem e_fld2 (off sz : Nat) (cs : List AV) : effS G P T (.fld true off sz) [.agg cs] H K = K (.agg ((cs.drop off).take sz)) H := rfl
theorem e_ixs (s : List UInt8) (k : IntKind) (i : Int) : effS G P T .ixs [.str s, .int k i] H K = (0 ≤ i ∧ ∃ b, s[i.toNat]? = some b ∧ K (byteAV b) H) := by
  show optS (if 0 ≤ i then (s[i.toNat]?).map byteAV else none) _ = _
  by_cases h : 0 ≤ i
  · rw [if_pos h, optS_map]; simp [h]
  · rw [if_neg h]; simp [h, optS]
theorem e_ixa1 (sz n : Nat) (cs : List AV) (k : IntKind) (i : Int) : effS G P T (.ixa false sz n) [.agg cs, .int k i] H K = ((0 ≤ i ∧ i < n) ∧ optS cs[i.toNat * sz]? fun v => K v H) := by
  show optS (if 0 ≤ i ∧ i < n then _ else none) _ = _
  by_cases h : 0 ≤ i ∧ i < n
  · rw [if_pos h]; simp [h]
  · rw [if_neg h]; simp [h, optS]

theorem e_add (k : IntKind) (a b : Int) : effS G P T (.bin .add) [.int k a, .int k b] H K = K (.int k (k.wrap (a + b))) H := by simp [effS, AOp.quiet, quietS, pureF, binF, optS]
theorem e_sub (k : IntKind) (a b : Int) : effS G P T (.bin .sub) [.int k a, .int k b] H K = K (.int k (k.wrap (a - b))) H := by simp [effS, AOp.quiet, quietS, pureF, binF, optS]
theorem e_mul (k : IntKind) (a b : Int) : effS G P T (.bin .mul) [.int k a, .int k b] H K = K (.int k (k.wrap (a * b))) H := by simp [effS, AOp.quiet, quietS, pureF, binF, optS]
theorem e_quo (k : IntKind) (a b : Int) : effS G P T (.bin .quo) [.int k a, .int k b] H K = (b ≠ 0 ∧ K (.int k (k.wrap (a.tdiv b))) H) := by by_cases h : b = 0 <;> simp [effS, AOp.quiet, quietS, pureF, binF, optS, h]
theorem e_rem (k : IntKind) (a b : Int) : effS G P T (.bin .rem) [.int k a, .int k b] H K = (b ≠ 0 ∧ K (.int k (a.tmod b)) H) := by by_cases h : b = 0 <;> simp [effS, AOp.quiet, quietS, pureF, binF, optS, h]
theorem e_lss (k : IntKind) (a b : Int) : effS G P T (.bin .lss) [.int k a, .int k b] H K = K (.bool (decide (a < b))) H := by simp [effS, AOp.quiet, quietS, pureF, binF, optS]
theorem e_leq (k : IntKind) (a b : Int) : effS G P T (.bin .leq) [.int k a, .int k b] H K = K (.bool (decide (a ≤ b))) H := by simp [effS, AOp.quiet, quietS, pureF, binF, optS]
theorem e_gtr (k : IntKind) (a b : Int) : effS G P T (.bin .gtr) [.int k a, .int k b] H K = K (.bool (decide (b < a))) H := by simp [effS, AOp.quiet, quietS, pureF, binF, optS]
theorem e_geq (k : IntKind) (a b : Int) : effS G P T (.bin .geq) [.int k a, .int k b] H K = K (.bool (decide (b ≤ a))) H := by simp [effS, AOp.quiet, quietS, pureF, binF, optS]
theorem e_and (k : IntKind) (a b : Int) : effS G P T (.bin .and) [.int k a, .int k b] H K = K (.int k (intB .and k a b)) H := by simp [effS, AOp.quiet, quietS, pureF, binF, optS]
theorem e_or (k : IntKind) (a b : Int) : effS G P T (.bin .or) [.int k a, .int k b] H K = K (.int k (intB .or k a b)) H := by simp [effS, AOp.quiet, quietS, pureF, binF, optS]
theorem e_xor (k : IntKind) (a b : Int) : effS G P T (.bin .xor) [.int k a, .int k b] H K = K (.int k (intB .xor k a b)) H := by simp [effS, AOp.quiet, quietS, pureF, binF, optS]
theorem e_shl (k k' : IntKind) (a b : Int) : effS G P T (.bin .shl) [.int k a, .int k' b] H K = (¬ b < 0 ∧ K (.int k (k.wrap (a * 2 ^ (Nat.min b.toNat k.bits)))) H) := by by_cases h : b < 0 <;> simp [effS, AOp.quiet, quietS, pureF, binF, optS, h]
theorem e_shr (k k' : IntKind) (a b : Int) : effS G P T (.bin .shr) [.int k a, .int k' b] H K = (¬ b < 0 ∧ K (.int k (a.fdiv (2 ^ (Nat.min b.toNat k.bits)))) H) := by by_cases h : b < 0 <;> simp [effS, AOp.quiet, quietS, pureF, binF, optS, h]
theorem e_cat (a b : List UInt8) : effS G P T (.bin .add) [.str a, .str b] H K = (a.length + b.length ≤ maxLen ∧ K (.str (a ++ b)) H) := by by_cases h : a.length + b.length ≤ maxLen <;> simp [effS, AOp.quiet, quietS, pureF, binF, optS, h]
theorem e_eqb (neg : Bool) (a b : Bool) : effS G P T (.eqg neg 0) [.bool a, .bool b] H K = K (.bool (neg != decide (a = b))) H := rfl
theorem e_eqi (neg : Bool) (k : IntKind) (a b : Int) : effS G P T (.eqg neg 6) [.int k a, .int k b] H K = K (.bool (neg != decide (a = b))) H := by simp [effS, AOp.quiet, quietS, pureF, AV.eqK, AV.same, optS]
theorem e_eqt (neg : Bool) (a b : List UInt8) : effS G P T (.eqg neg 6) [.str a, .str b] H K = K (.bool (neg != decide (a = b))) H := rfl
theorem e_eqp0 (neg : Bool) : effS G P T (.eqg neg 1) [.nilp, .nilp] H K = K (.bool (neg != true)) H := rfl
theorem e_eqp1 (neg : Bool) (a b : Nat) : effS G P T (.eqg neg 1) [.ptr a b, .nilp] H K = K (.bool (neg != false)) H := rfl
theorem e_eqp2 (neg : Bool) (cs : List AV) : effS G P T (.eqg neg 1) [.iptr cs, .nilp] H K = K (.bool (neg != false)) H := rfl
theorem e_eqs1 (neg : Bool) (xs : List AV) (t : Tok) : effS G P T (.eqg neg 2) [.sl xs t, .sl [] .nil] H K = K (.bool (neg != decide (t = .nil))) H := rfl
theorem e_eqs2 (neg : Bool) (a b c d : Nat) : effS G P T (.eqg neg 2) [.msl a b c d, .sl [] .nil] H K = K (.bool (neg != false)) H := rfl
theorem e_eqm0 (neg : Bool) : effS G P T (.eqg neg 3) [.nilm, .nilm] H K = K (.bool (neg != true)) H := rfl
theorem e_eqm1 (neg : Bool) (a : Nat) : effS G P T (.eqg neg 3) [.map a, .nilm] H K = K (.bool (neg != false)) H := rfl
theorem e_eqf0 (neg : Bool) : effS G P T (.eqg neg 4) [.nilf, .nilf] H K = K (.bool (neg != true)) H := rfl
theorem e_eqf1 (neg : Bool) (f : Fn) (a b : List AV) : effS G P T (.eqg neg 4) [.fn f a b, .nilf] H K = K (.bool (neg != false)) H := rfl
theorem e_eqn1 (neg : Bool) (t : TypeId) (v : AV) : effS G P T (.eqg neg 5) [.iface t v, .nili] H K = K (.bool (neg != false)) H := rfl
theorem e_not (b : Bool) : effS G P T (.un .not) [.bool b] H K = K (.bool (!b)) H := rfl
theorem e_neg (k : IntKind) (n : Int) : effS G P T (.un .neg) [.int k n] H K = K (.int k (k.wrap (0 - n))) H := rfl
theorem e_compl (k : IntKind) (n : Int) : effS G P T (.un .xor) [.int k n] H K = K (.int k (intB .xor k (if k.signed then -1 else k.max) n)) H := rfl
theorem e_cvi (k k' : IntKind) (n : Int) : effS G P T (.cvi k) [.int k' n] H K = K (.int k (k.wrap n)) H := rfl
theorem e_cvs (s : List UInt8) : effS G P T .cvs [.str s] H K = K (.str s) H := rfl
theorem e_cvb1 (xs : List AV) (t : Tok) : effS G P T .cvb [.sl xs t] H K = listS (bytesOf xs) fun b => K (.str b) H := by
  show optS ((bytesOf xs).map .str) _ = _
  cases bytesOf xs <;> rfl
theorem e_cvb2 (id off n s : Nat) : effS G P T .cvb [.msl id off n s] H K = (s = 1 ∧ cellsS (lookH id H) fun vs => off + n ≤ vs.length ∧ listS (bytesOf ((vs.drop off).take n)) fun b => K (.str b) H) := by
  show (s = 1 ∧ match lookH id H with | some (.cells vs) => _ | _ => False) = _
  cases lookH id H with
  | none => rfl
  | some o =>
    cases o with
    | cells vs => simp only [cellsS, listS]; cases bytesOf (List.take n (List.drop off vs)) <;> rfl
    | _ => rfl
theorem e_cvc (k : IntKind) (n : Int) : effS G P T .cvc [.int k n] H K = K (.str (Utf8.encode n).data.toList) H := rfl
theorem e_slc0 (lo hi : Bool) (s : List UInt8) (bs : List AV) (l h : Nat) (hb : boundsF lo hi s.length bs = some (l, h)) : effS G P T (.slc 0 lo hi) (.str s :: bs) H K = K (.str ((s.take h).drop l)) H := by
  show optS ((if 0 = 0 then (boundsF lo hi s.length bs).map _ else none)) _ = _
  rw [if_pos rfl, hb]; rfl
def boundsS (lo hi : Bool) (len : Nat) (bs : List AV) (K : Nat → Nat → Prop) : Prop := match boundsF lo hi len bs with | some (l, h) => K l h | none => False
theorem e_slcs (lo hi : Bool) (s : List UInt8) (bs : List AV) : effS G P T (.slc 0 lo hi) (.str s :: bs) H K = boundsS lo hi s.length bs fun l h => K (.str ((s.take h).drop l)) H := by
  show optS ((if 0 = 0 then (boundsF lo hi s.length bs).map _ else none)) _ = _
  rw [if_pos rfl, boundsS]; cases boundsF lo hi s.length bs <;> rfl
theorem e_slcl (sz : Nat) (lo hi : Bool) (xs : List AV) (t : Tok) (bs : List AV) : effS G P T (.slc sz lo hi) (.sl xs t :: bs) H K = ((0 < sz ∧ AllSz sz xs) ∧ boundsS lo hi xs.length bs fun l h => K (.sl ((xs.take h).drop l) (if h = xs.length then t else .no)) H) := by
  show optS ((if 0 < sz ∧ AllSz sz xs then (boundsF lo hi xs.length bs).map _ else none)) _ = _
  by_cases h : 0 < sz ∧ AllSz sz xs
  · rw [if_pos h, boundsS]
    cases boundsF lo hi xs.length bs with
    | none => simp [optS]
    | some p => simp [optS, h]
  · rw [if_neg h]; simp [optS, h]
theorem e_slcm (sz : Nat) (lo hi : Bool) (id off n s : Nat) (bs : List AV) : effS G P T (.slc sz lo hi) (.msl id off n s :: bs) H K = ((0 < sz ∧ s = sz) ∧ boundsS lo hi n bs fun l h => K (.msl id (off + l * sz) (h - l) sz) H) := by
  show optS ((if 0 < sz ∧ s = sz then (boundsF lo hi n bs).map _ else none)) _ = _
  by_cases h : 0 < sz ∧ s = sz
  · rw [if_pos h, boundsS]
    cases boundsF lo hi n bs with
    | none => simp [optS]
    | some p => simp [optS, h]
  · rw [if_neg h]; simp [optS, h]
@[congr] theorem boundsS_congr {lo hi : Bool} {n n' : Nat} {bs bs' : List AV} {K : Nat → Nat → Prop} (h1 : n = n') (h2 : bs = bs') : boundsS lo hi n bs K = boundsS lo hi n' bs' K := by rw [h1, h2]
theorem b_two (k k' : IntKind) (l h : Int) (n : Nat) (K : Nat → Nat → Prop) : boundsS true true n [.int k l, .int k' h] K = ((0 ≤ l ∧ l ≤ h ∧ h ≤ n) ∧ K l.toNat h.toNat) := by
  simp only [boundsS, boundsF, true_and]
  by_cases c : 0 ≤ l ∧ l ≤ h ∧ h ≤ n
  · rw [if_pos c]; simp [c]
  · rw [if_neg c]; simp [c]
theorem b_lo (k : IntKind) (l : Int) (n : Nat) (K : Nat → Nat → Prop) : boundsS true false n [.int k l] K = ((0 ≤ l ∧ l ≤ n) ∧ K l.toNat n) := by
  simp only [boundsS, boundsF]
  by_cases c : 0 ≤ l ∧ l ≤ n
  · simp [c]
  · simp [c]
theorem b_hi (k : IntKind) (h : Int) (n : Nat) (K : Nat → Nat → Prop) : boundsS false true n [.int k h] K = ((0 ≤ h ∧ h ≤ n) ∧ K 0 h.toNat) := by
  simp only [boundsS, boundsF]
  by_cases c : 0 ≤ h ∧ h ≤ n
  · simp [c]
  · simp [c]
theorem b_no (n : Nat) (K : Nat → Nat → Prop) : boundsS false false n [] K = K 0 n := by simp [boundsS, boundsF]
theorem e_mkif (t : TypeId) (x : AV) (h : x ≠ .any) : effS G P T (.mkif t) [x] H K = K (.iface t x) H := by
  cases x <;> first | rfl | exact absurd rfl h
theorem e_mkfn (f : Fn) (n : Nat) (xs : List AV) : effS G P T (.mkfn f n) xs H K = (n ≤ xs.length ∧ K (.fn f (xs.take n) (xs.drop n)) H) := by
  have : effS G P T (.mkfn f n) xs H K = optS (if n ≤ xs.length then some (.fn f (xs.take n) (xs.drop n)) else none) fun v => K v H := by cases xs <;> rfl
  rw [this, optS_ite]
theorem e_ext (i : Nat) (vs : List AV) : effS G P T (.ext i) [.tup vs] H K = optS vs[i]? fun v => K v H := rfl
theorem e_lens (s : List UInt8) : effS G P T (.len 0) [.str s] H K = K (.int .i64 s.length) H := rfl
theorem e_lenl (xs : List AV) (t : Tok) : effS G P T (.len 1) [.sl xs t] H K = K (.int .i64 xs.length) H := rfl
theorem e_lenm (a b n s : Nat) : effS G P T (.len 1) [.msl a b n s] H K = K (.int .i64 n) H := rfl
theorem e_len0 : effS G P T (.len 2) [.nilm] H K = K (.int .i64 0) H := rfl
theorem e_lenp (id : Nat) : effS G P T (.len 2) [.map id] H K = mapS (lookH id H) fun es => K (.int .i64 es.length) H := by
  show (match lookH id H with | some (.map es) => _ | _ => False) = _
  cases lookH id H with
  | none => rfl
  | some o => cases o <;> rfl
theorem e_min (k k' : IntKind) (a b : Int) : effS G P T .min [.int k a, .int k' b] H K = K (.int k (if b < a then b else a)) H := rfl
theorem e_max (k k' : IntKind) (a b : Int) : effS G P T .max [.int k a, .int k' b] H K = K (.int k (if b > a then b else a)) H := rfl
theorem e_tas1 (t u : TypeId) (z v : AV) : effS G P T (.tas (some t) z true) [.iface u v] H K = if u = t then K (.tup [v, .bool true]) H else K (.tup [z, .bool false]) H := by
  by_cases h : u = t <;> simp [effS, AOp.quiet, quietS, pureF, optS, h]
theorem e_tas2 (t : TypeId) (z : AV) : effS G P T (.tas (some t) z true) [.nili] H K = K (.tup [z, .bool false]) H := rfl
theorem e_tas3 (t : TypeId) (z v : AV) : effS G P T (.tas (some t) z false) [.iface t v] H K = K v H := by simp [effS, AOp.quiet, quietS, pureF, optS]
theorem e_lkp0 (kd : Nat) (z : AV) (ok : Bool) (k : AV) : effS G P T (.lkp kd z ok) [.nilm, k] H K = ((k.kindN = kd ∧ kd ≤ 2) ∧ K (foundA z ok none) H) := optS_ite _ _ _
theorem e_lkp1 (kd : Nat) (z : AV) (ok : Bool) (id : Nat) (k : AV) : effS G P T (.lkp kd z ok) [.map id, k] H K = mapS (lookH id H) fun es => k.kindN = kd ∧ kd ≤ 2 ∧ lookS (lookA k es) fun r => K (foundA z ok r) H := by
  show (match lookH id H with | some (.map es) => _ | _ => False) = _
  cases lookH id H with
  | none => rfl
  | some o =>
    cases o with
    | map es => simp only [mapS, lookS]; cases lookA k es <;> rfl
    | _ => rfl

theorem e_st (sz id off : Nat) (x : AV) : effS G P T (.st sz) [.ptr id off, x] H K = cellsS (lookH id H) fun vs => (0 < sz ∧ x.cells.length = sz ∧ off + sz ≤ vs.length) ∧ K .undef (setH id (.cells (splice vs off x.cells)) H) := by
  show (match lookH id H with | some (.cells vs) => _ | _ => False) = _
  cases lookH id H with
  | none => rfl
  | some o =>
    cases o with
    | cells vs => simp only [cellsS, and_assoc]
    | _ => rfl
theorem e_box (x : AV) : effS G P T .box [x] H K = (0 < x.cells.length ∧ freshS H fun id => K (.ptr id 0) ((id, .cells x.cells) :: H)) := rfl
theorem e_alloc (z : List AV) : effS G P T (.alloc z) [] H K = freshS H fun id => K (.ptr id 0) ((id, .cells z) :: H) := rfl
theorem e_bslice1 (n : Nat) (z : List AV) (pl : List (Nat × Nat)) (xs : List AV) : effS G P T (.bslice 1 n z pl) xs H K = listS (fillL ((List.replicate n z).flatten) pl xs) fun cs =>
    if (isU8 z && n != 0) = true then (freshS H fun id => K (.msl id 0 n 1) ((id, .cells cs) :: H)) else ((freshS H fun id => K (.msl id 0 n 1) ((id, .cells cs) :: H)) ∨ ((AllSz 1 cs ∧ cs.length = n ∧ flat cs = cs) ∧ freshS H fun id => K (.sl cs (.at id n 1)) ((id, .spare n) :: H))) := by
  have : effS G P T (.bslice 1 n z pl) xs H K = loudS (.bslice 1 n z pl) xs H K := rfl
  rw [this]
  have : loudS (.bslice 1 n z pl) xs H K = match fillL ((List.replicate n z).flatten) pl xs with
    | some cs => if 1 = 1 then (if isU8 z && n != 0 then (∀ id, id ∉ H.keys → K (.msl id 0 n 1) ((id, .cells cs) :: H))
          else (∀ id, id ∉ H.keys → K (.msl id 0 n 1) ((id, .cells cs) :: H)) ∨ ((AllSz 1 cs ∧ cs.length = n ∧ flat cs = cs) ∧ ∀ id, id ∉ H.keys → K (.sl cs (.at id n 1)) ((id, .spare n) :: H)))
        else (∀ id, id ∉ H.keys → K (.msl id 0 n 1) ((id, .cells cs) :: H)) ∨
         (∃ ys, AllSz 1 ys ∧ ys.length = n ∧ flat ys = cs ∧ ∀ id, id ∉ H.keys → K (.sl ys (.at id (n * 1) 1)) ((id, .spare (n * 1)) :: H))
    | none => False := by cases xs <;> rfl
  rw [this]
  cases fillL ((List.replicate n z).flatten) pl xs with
  | none => rfl
  | some cs => simp only [if_true, listS, freshS]
theorem e_sb (s : List UInt8) : effS G P T .sb [.str s] H K = (s.length ≤ maxLen ∧ freshS H fun id => K (.msl id 0 s.length 1) ((id, .cells (bytesAV s)) :: H)) := rfl
theorem e_cvm (id n s : Nat) : effS G P T .cvm [.msl id 0 n s] H K = ((s = 1 ∧ 0 < n) ∧ cellsS (lookH id H) fun vs => (n = vs.length ∧ AllSz 1 vs ∧ flat vs = vs) ∧ K (.sl vs (.at id n 1)) (setH id (.spare n) H)) := by
  show (s = 1 ∧ 0 < n ∧ match lookH id H with | some (.cells vs) => _ | _ => False) = _
  cases lookH id H with
  | none => simp [cellsS]
  | some o =>
    cases o with
    | cells vs => simp only [cellsS, and_assoc]
    | _ => simp [cellsS]
theorem e_mksl (sz bytes : Nat) (z : List AV) (k k' : IntKind) (n c : Int) : effS G P T (.mksl sz bytes z) [.int k n, .int k' c] H K = ((0 ≤ n ∧ n ≤ c ∧ c ≤ maxLen ∧ bytes * c ≤ 281474976710656) ∧ freshS H fun id => K (.msl id 0 n.toNat sz) ((id, .cells ((List.replicate n.toNat z).flatten)) :: H)) := by
  show (0 ≤ n ∧ n ≤ c ∧ c ≤ maxLen ∧ bytes * c ≤ 281474976710656 ∧ _) = _
  simp only [and_assoc, freshS]
theorem e_mkmap : effS G P T .mkmap [] H K = freshS H fun id => K (.map id) ((id, .map []) :: H) := rfl
theorem e_mup (kd id : Nat) (k v : AV) : effS G P T (.mup kd) [.map id, k, v] H K = mapS (lookH id H) fun es => (k.kindN = kd ∧ kd ≤ 2 ∧ v ≠ .any) ∧ listS (updA k v es) fun es' => K .undef (setH id (.map es') H) := by
  show (match lookH id H with | some (.map es) => _ | _ => False) = _
  cases lookH id H with
  | none => rfl
  | some o =>
    cases o with
    | map es => simp only [mapS, and_assoc, listS]; cases updA k v es <;> rfl
    | _ => rfl
theorem e_rngs (s : List UInt8) : effS G P T .rngs [.str s] H K = freshS H fun id => K (.ptr id 0) ((id, .iter s 0) :: H) := rfl
theorem e_nxts (id : Nat) : effS G P T .nxts [.ptr id 0] H K = iterS (lookH id H) fun s pos => if pos < s.length then K (.tup [.bool true, .int .i64 pos, .int .i32 (Utf8.decode ⟨s.toArray⟩ pos).1]) (setH id (.iter s (pos + (Utf8.decode ⟨s.toArray⟩ pos).2)) H) else K (.tup [.bool false]) H := by
  show (match lookH id H with | some (.iter s pos) => _ | _ => False) = _
  cases lookH id H with
  | none => rfl
  | some o => cases o <;> rfl
theorem e_appnil (sz bytes : Nat) (x : AV) : effS G P T (.app sz bytes) [.sl [] .nil, x] H K = (0 < sz ∧ srcS sz x H fun ys => (ys.length ≤ maxLen ∧ ys.length * bytes ≤ 140737488355328) ∧ (ys = [] → K (.sl [] .nil) H) ∧ (ys ≠ [] → ∀ id e, id ∉ H.keys → K (.sl ys (.at id e sz)) ((id, .spare e) :: H))) := by
  show (0 < sz ∧ srcS sz x H fun ys => AllSz sz [] ∧ [].length + ys.length ≤ maxLen ∧ _ ∧ _) = _
  congr 2
  funext ys
  simp [AllSz, and_assoc]
theorem e_appat (sz bytes : Nat) (xs : List AV) (b e s : Nat) (x : AV) : effS G P T (.app sz bytes) [.sl xs (.at b e s), x] H K = (0 < sz ∧ srcS sz x H fun ys => (AllSz sz xs ∧ xs.length + ys.length ≤ maxLen ∧ (xs.length + ys.length) * bytes ≤ 140737488355328) ∧ s = sz ∧ spareS (lookH b H) fun e0 => (e0 = e ∧ b ∉ othK b H) ∧ otherS (othK b H) fun id e' => K (.sl (xs ++ ys) (.at id e' sz)) (renH b id (.spare e') H)) := by
  show (0 < sz ∧ srcS sz x H fun ys => AllSz sz xs ∧ xs.length + ys.length ≤ maxLen ∧ _ ∧ s = sz ∧ match lookH b H with | some (.spare e0) => _ | _ => False) = _
  congr 2
  funext ys
  cases lookH b H with
  | none => simp [spareS]
  | some o =>
    cases o with
    | spare e0 => simp only [spareS, and_assoc, otherS]
    | _ => simp [spareS]
theorem e_appm (sz bytes : Nat) (b n s : Nat) (x : AV) : effS G P T (.app sz bytes) [.msl b 0 n s, x] H K = (0 < sz ∧ srcS sz x H fun ys => (s = sz ∧ n + ys.length ≤ maxLen ∧ (n + ys.length) * bytes ≤ 140737488355328) ∧ cellsS (lookH b H) fun vs => (vs.length = n * sz ∧ b ∉ othK b H) ∧ otherM (othK b H) fun id => K (.msl id 0 (n + ys.length) sz) (renH b id (.cells (vs ++ flat ys)) H)) := by
  show (0 < sz ∧ srcS sz x H fun ys => s = sz ∧ n + ys.length ≤ maxLen ∧ _ ∧ match lookH b H with | some (.cells vs) => _ | _ => False) = _
  congr 2
  funext ys
  cases lookH b H with
  | none => simp [cellsS]
  | some o =>
    cases o with
    | cells vs => simp only [cellsS, and_assoc, otherM]
    | _ => simp [cellsS]
theorem e_cpym (sz : Nat) (id off n s : Nat) (x : AV) : effS G P T (.cpy sz) [.msl id off n s, x] H K = srcS sz x H fun ys => s = sz ∧ cellsS (lookH id H) fun vs => off + n * sz ≤ vs.length ∧ K (.int .i64 (Nat.min ys.length n : Nat)) (setH id (.cells (splice vs off (flat (ys.take n)))) H) := by
  show (srcS sz x H fun ys => s = sz ∧ match lookH id H with | some (.cells vs) => _ | _ => False) = _
  congr 1
theorem e_cpy0 (sz : Nat) (t : Tok) (x : AV) : effS G P T (.cpy sz) [.sl [] t, x] H K = srcS sz x H fun _ => K (.int .i64 0) H := rfl
theorem src_sl (sz : Nat) (xs : List AV) (t : Tok) (K : List AV → Prop) : srcS sz (.sl xs t) H K = (AllSz sz xs ∧ K xs) := rfl
theorem src_str (s : List UInt8) (K : List AV → Prop) : srcS 1 (.str s) H K = K (bytesAV s) := by simp [srcS]
theorem src_msl1 (id off n s : Nat) (K : List AV → Prop) : srcS 1 (.msl id off n s) H K = (s = 1 ∧ cellsS (lookH id H) fun vs => (off + n ≤ vs.length ∧ AllSz 1 ((vs.drop off).take n) ∧ flat ((vs.drop off).take n) = (vs.drop off).take n) ∧ K ((vs.drop off).take n)) := by
  show (s = 1 ∧ match lookH id H with | some (.cells vs) => _ | _ => False) = _
  cases lookH id H with
  | none => rfl
  | some o =>
    cases o with
    | cells vs => simp only [cellsS, Nat.mul_one, if_true, and_assoc]
    | _ => rfl

theorem call_nil (f : Nat) (xs : List AV) : callS G P [] f xs H K = ACalls G P f xs H K := rfl
theorem call_cons (g : Nat) (c : List AV → Heap → (AV → Heap → Prop) → Prop) (T : Tbl) (f : Nat) (xs : List AV) : callS G P ((g, c) :: T) f xs H K = if f = g then c xs H K else callS G P T f xs H K := rfl
end
end Go.AL
