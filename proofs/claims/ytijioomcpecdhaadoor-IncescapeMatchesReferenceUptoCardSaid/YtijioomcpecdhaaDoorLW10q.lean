/- IncescapeMatchesReference, walked. -/
import Derived.Test.YtijioomcpecdhaaDoorS25q
import Derived.Test.YtijioomcpecdhaaDoorFL10
set_option linter.unusedSimpArgs false
set_option linter.unusedVariables false
set_option maxRecDepth 100000
set_option maxHeartbeats 4000000
namespace Go.AL.Fun
open Go Go.AL

structure Act where
  kind : Int
  b : List UInt8
  tok : Tok
  n : Int
def actAV (a : Act) : AV := .agg [.int .i64 a.kind, .sl (bytesAV a.b) a.tok, .int .i64 a.n]
def actsAV (l : List Act) : List AV := l.map actAV
def actSum (l : List Act) : Nat := (l.map fun a => a.b.length).sum
theorem acts_get (l : List Act) (i : Nat) : (actsAV l)[i]? = (l[i]?).map actAV := by simp [actsAV]
theorem acts_len (l : List Act) : (actsAV l).length = l.length := by simp [actsAV]
theorem act_take {l : List Act} {i : Nat} {x : Act} (h : l[i]? = some x) : actSum (l.take (i + 1)) = actSum (l.take i) + x.b.length := by
  rw [List.take_add_one, h]; simp [actSum]
theorem act_le (l : List Act) (i : Nat) : actSum (l.take i) ≤ actSum l := by
  have : actSum l = actSum (l.take i) + actSum (l.drop i) := by
    conv => lhs; rw [← List.take_append_drop i l]
    simp only [actSum, List.map_append, List.sum_append]
  omega

def c32 (xs : List AV) (H : Heap) (K : Kv) : Prop := ∃ l t, xs = [.sl (actsAV l) t] ∧ l.length ≤ 1099511627776 ∧ actSum l ≤ 1099511627776 ∧ K.ap (.bool (decide (50 < l.length ∨ 1000 < actSum l))) H
theorem c32_of (P : Program) {G : Nat → Option (List AV)} {xs : List AV} {H : Heap} {K : Kv} (h : c32 xs H K) : @xF ⟨G, P, []⟩ f32 xs H ⟨fun v H' => ∃ H0, Hle H0 H' ∧ K.ap v H0⟩ := by
  obtain ⟨l, t, rfl, h2, h3, hK⟩ := h
  simp (implicitDefEqProofs := false) only [sB, simprocAttr, f32, acts_len]
  refine i_loopJ (fun σ H1 => H1 = H ∧ ∃ i, i ≤ l.length ∧ σ = [(0, .sl (actsAV l) t), (3, .int .i64 (actSum (l.take i))), (6, .sl (actsAV l) t), (7, .int .i64 l.length), (8, .int .i64 i)])
    (fun σ _ => match σ.get 8 with | .int _ n => l.length - n.toNat | _ => 0)
    (fun e σ H1 => e = .exit 0 ∧ H1 = H ∧ σ.get 0 = .sl (actsAV l) t ∧ σ.get 3 = .int .i64 (actSum l)) ⟨H, .refl _, rfl, 0, Nat.zero_le _, rfl⟩ ?_ ?_
  · rintro e σ H1 ⟨rfl, rfl, q0, q3⟩
    by_cases c1 : (50 : Int) < l.length
    · simp (implicitDefEqProofs := false) only [sB, simprocAttr, q0, q3, acts_len, c1]
      rw [decide_eq_true (by omega)] at hK
      exact ⟨_, .refl _, hK⟩
    · simp (implicitDefEqProofs := false) only [sB, simprocAttr, q0, q3, acts_len, c1]
      rw [show decide (50 < l.length ∨ 1000 < actSum l) = decide ((1000 : Int) < (actSum l : Nat)) by rw [decide_eq_decide]; omega] at hK
      exact ⟨_, .refl _, hK⟩
  · rintro Q hQ σ H1 ⟨rfl, i, hi, rfl⟩
    simp (implicitDefEqProofs := false) only [sB, simprocAttr]
    refine i_if (fun c => ?_) (fun c => ?_)
    · have c' : i < l.length := by simpa using c
      have hx : l[i]? = some l[i] := List.getElem?_eq_getElem c'
      have e1 := act_take hx
      have e2 := act_le l (i + 1)
      have e3 := w_i64 ((actSum (l.take i) : Int) + l[i].b.length) (by omega) (by omega)
      have e4 := w_i64 ((i : Int) + 1) (by omega) (by omega)
      simp (implicitDefEqProofs := false) only [sB, simprocAttr, acts_get, hx, actAV]
      refine ⟨by omega, i_new fun id hid => ?_⟩
      simp (implicitDefEqProofs := false) only [sB, simprocAttr, e3, e4]
      refine ⟨H1, .tail _ _, ⟨rfl, i + 1, by omega, ?_, by simp⟩, by omega⟩
      rw [e1]; simp
    · have : i = l.length := by have : ¬ (i : Int) < l.length := by simpa using c
                                omega
      subst this
      simp (implicitDefEqProofs := false) only [sB, simprocAttr]
      exact hQ _ _ _ ⟨rfl, rfl, rfl, by simp (implicitDefEqProofs := false) only [sB, simprocAttr]⟩
structure KOk (P : Program) : Prop where
  i : IOk P
  h32 : OkAt P 32 f32
  h33 : OkAt P 33 f33
  h34 : OkAt P 34 f34
  h35 : OkAt P 35 f35
  h36 : OkAt P 36 f36
  h37 : OkAt P 37 f37
  h68 : OkAt P 68 f68
  h91 : OkAt P 91 f91
theorem e32 {P : Program} (h : KOk P) (xs : List AV) (H : Heap) (K : AV → Heap → Prop) (c : c32 xs H ⟨K⟩) : ACalls Gu P 32 xs H K := okC h.i.e.hm .nilX h.h32 _ _ _ (c32_of P (K := ⟨K⟩) c)
theorem e91 {P : Program} (h : KOk P) (xs : List AV) (H : Heap) (K : AV → Heap → Prop) (c : c91 xs H ⟨K⟩) : ACalls Gu P 91 xs H K := okC h.i.e.hm (.consX (e57 Gu5 h.i.e) (.consX (e84 Gu5 h.i.e) .nilX)) h.h91 _ _ _ (c91_of P (K := ⟨K⟩) c)
theorem e68 {P : Program} (h : KOk P) (xs : List AV) (H : Heap) (K : AV → Heap → Prop) (c : c68 xs H ⟨K⟩) : ACalls Gu P 68 xs H K := okC h.i.e.hm (.consX (e20 Gu5 h.i.e) (.consX (e91 h) .nilX)) h.h68 _ _ _ (c68_of P (K := ⟨K⟩) c)
theorem e36 {P : Program} (h : KOk P) (xs : List AV) (H : Heap) (K : AV → Heap → Prop) (c : c36 xs H ⟨K⟩) : ACalls Gu P 36 xs H K := okF h.i.e.hm (.consX (e68 h) .nilX) h.h36 _ _ _ (c36_of P (K := ⟨K⟩) c)
theorem e37 {P : Program} (h : KOk P) (xs : List AV) (H : Heap) (K : AV → Heap → Prop) (c : c37 xs H ⟨K⟩) : ACalls Gu P 37 xs H K := okF h.i.e.hm (.consX (e36 h) .nilX) h.h37 _ _ _ (c37_of P (K := ⟨K⟩) c)
theorem e33 {P : Program} (h : KOk P) (xs : List AV) (H : Heap) (K : AV → Heap → Prop) (c : c33 xs H ⟨K⟩) : ACalls Gu P 33 xs H K := okF h.i.e.hm .nilX h.h33 _ _ _ (c33_of P (K := ⟨K⟩) c)
theorem e35 {P : Program} (h : KOk P) (xs : List AV) (H : Heap) (K : AV → Heap → Prop) (c : c35 xs H ⟨K⟩) : ACalls Gu P 35 xs H K := okF h.i.e.hm .nilX h.h35 _ _ _ (c35_of P (K := ⟨K⟩) c)
theorem e34 {P : Program} (h : KOk P) (xs : List AV) (H : Heap) (K : AV → Heap → Prop) (c : c34 xs H ⟨K⟩) : ACalls Gu P 34 xs H K := okC h.i.e.hm (.consX (e36 h) (.consX (e68 h) .nilX)) h.h34 _ _ _ (c34_of P (K := ⟨K⟩) c)
@[reducible] def t10 : XT := [(25, c25), (26, c26), (27, c27), (28, c28), (29, c29), (30, c30), (31, c31), (32, c32), (33, c33), (34, c34), (35, c35), (36, c36), (37, c37)]
theorem t10_ok {P : Program} (h : KOk P) : TOk Gu P (plainT t10) := .consX (e25 h.i) (.consX (e26 h.i) (.consX (e27 h.i) (.consX (e28 h.i) (.consX (e29 h.i) (.consX (e30 h.i) (.consX (e31 h.i) (.consX (e32 h) (.consX (e33 h) (.consX (e34 h) (.consX (e35 h) (.consX (e36 h) (.consX (e37 h) .nilX))))))))))))
theorem EX.lookR {p : Nat} {s : ES} {H R : Heap} (h : EX p s H R) {id : Nat} {o : AObj} (hl : lookH id R = some o) : lookH id H = some o := by
  obtain ⟨hn, t1, t2, g, hp⟩ := h
  exact look_app (A := (p, eC s.h s.e s.out s.cl t1 t2) :: tokH t2) hp hn id o hl
theorem EX.split {p q : Nat} {s : ES} {H X G : Heap} {o : AObj} (h : EX p s H (X ++ (q, o) :: G)) : ∃ rest, H.Perm ((q, o) :: rest) ∧ ∀ o' H' Y, H'.Perm (Y ++ ((q, o') :: rest)) → H'.keys.Nodup → EX p s H' (Y ++ (X ++ (q, o') :: G)) := by
  obtain ⟨hn, t1, t2, g, hp⟩ := h
  refine ⟨(p, eC s.h s.e s.out s.cl t1 t2) :: (tokH t2 ++ (X ++ G)), hp.trans ?_, fun o' H' Y hq hnn => ⟨hnn, t1, t2, g, hq.trans ?_⟩⟩
  · have h1 : (tokH t2 ++ (X ++ (q, o) :: G)).Perm ((q, o) :: (tokH t2 ++ (X ++ G))) := by
      rw [← List.append_assoc, ← List.append_assoc]; exact List.perm_middle
    exact (h1.cons _).trans (.swap _ _ _)
  · have h1 : (tokH t2 ++ (Y ++ (X ++ (q, o') :: G))).Perm (Y ++ ((q, o') :: (tokH t2 ++ (X ++ G)))) := by
      refine (List.perm_append_comm_assoc _ _ _).trans (.append_left _ ?_)
      rw [← List.append_assoc, ← List.append_assoc]; exact List.perm_middle
    refine ((List.Perm.append_left Y (.swap _ _ _)).trans ?_)
    exact List.perm_middle.trans (h1.symm.cons _)
theorem EX.dropR {p : Nat} {s : ES} {H R R' : Heap} (h : EX p s H R) (hs : R'.Sublist R) : ∃ H0, Hle H0 H ∧ EX p s H0 R' := by
  obtain ⟨hn, t1, t2, g, hp⟩ := h
  have hsub : ((p, eC s.h s.e s.out s.cl t1 t2) :: (tokH t2 ++ R')).Sublist ((p, eC s.h s.e s.out s.cl t1 t2) :: (tokH t2 ++ R)) := .cons_cons _ (.append (.refl _) hs)
  exact ⟨_, hle_sub hp hsub, (hsub.map Prod.fst).nodup ((hp.map Prod.fst).nodup_iff.1 hn), t1, t2, g, .refl _⟩
/-- The two escapers side by side. -/
def Sd (p q : Nat) (k : Int) (S : List UInt8) (d : Nat) (cl : Bool) (H G : Heap) : Prop := d ≤ (outF k S cl).length ∧ EX p ⟨if cl then [] else (wrP S).2, k, (outF k S cl).drop d, cl⟩ H ((q, mC k S d cl) :: G)
theorem law10 (P : Program) (e : Int) (h0 : 0 ≤ e) (h1 : e ≤ 255) (l : List Act) (tl : Tok) (hl : l.length ≤ 1048576) (hs : actSum l ≤ 1048576) (hnn : ∀ a ∈ l, -9223372036854775808 ≤ a.n ∧ a.n < 9223372036854775808) (K : Kv) (hK : ∀ H, K.ap (.bool true) H) : @xF ⟨Gu, P, t10⟩ f10 [.int .u8 e, .sl (actsAV l) tl] [] K := by
  have hn : (Heap.keys []).Nodup := List.nodup_nil
  have alive : ∀ (H : Heap) (K' : Kv), H.keys.Nodup → K'.ap (.bool true) H → c26 [] H K' := fun H K' h k => ⟨rfl, h, k⟩
  simp (implicitDefEqProofs := false) only [sB, simprocAttr, f10]
  refine .inl ⟨_, rfl, ?_⟩
  simp (implicitDefEqProofs := false) only [sB, simprocAttr]
  refine .inl ⟨rfl, ?_⟩
  simp (implicitDefEqProofs := false) only [sB, simprocAttr]
  refine .inl ⟨rfl, ?_⟩
  simp (implicitDefEqProofs := false) only [sB, simprocAttr]
  refine .inl ⟨_, rfl, ?_⟩
  simp (implicitDefEqProofs := false) only [sB, simprocAttr]
  refine .inl ⟨rfl, ?_⟩
  simp (implicitDefEqProofs := false) only [sB, simprocAttr]
  refine ⟨l, tl, rfl, by omega, by omega, ?_⟩
  by_cases big : 50 < l.length ∨ 1000 < actSum l
  · rw [decide_eq_true big]
    simp (implicitDefEqProofs := false) only [sB, simprocAttr]
    refine alive _ _ hn ?_
    simp (implicitDefEqProofs := false) only [sB, simprocAttr]
    exact hK _
  rw [decide_eq_false big]
  have hm := mod5 h0
  have he : e.toNat % 5 < 5 := Nat.mod_lt _ (by decide)
  have w0 := w_i64 e (by omega) (by omega)
  have w1 := w_i64 ((e.toNat % 5 : Nat) : Int) (by omega) (by omega)
  have e0 : (0 : Int) ≤ ((e.toNat % 5 : Nat) : Int) := by omega
  have e4 : ((e.toNat % 5 : Nat) : Int) ≤ 4 := by omega
  simp (implicitDefEqProofs := false) only [sB, simprocAttr, w0, hm, w1]
  generalize ((e.toNat % 5 : Nat) : Int) = k at *
  refine x_c25 hn (fun h => by omega) fun _ _ p H1 hE => ?_
  simp (implicitDefEqProofs := false) only [sB, simprocAttr]
  refine i_new fun q hq => ?_
  simp (implicitDefEqProofs := false) only [sB, simprocAttr, acts_len]
  refine i_loopJ (fun σ H1 => ∃ (S : List UInt8) (d : Nat) (cl : Bool) (i : Nat), Sd p q k S d cl H1 [] ∧ i ≤ l.length ∧ S.length ≤ actSum (l.take i) ∧
        σ = [(7, .ptr p 0), (9, .ptr q 0), (55, .sl (actsAV l) tl), (56, .int .i64 l.length), (57, .int .i64 i)])
    (fun σ _ => match σ.get 57 with | .int _ n => l.length - n.toNat | _ => 0)
    (fun ex σ H1 => ex = .exit 0 ∧ H1.keys.Nodup)
    ⟨_, .refl _, [], 0, false, 0, ⟨by omega, hE.push (o := mC k [] 0 false) hq⟩, by omega, by simp, rfl⟩ ?_ ?_
  · rintro ex σ H2 ⟨rfl, hn2⟩
    simp (implicitDefEqProofs := false) only [sB, simprocAttr]
    refine alive _ _ hn2 ?_
    simp (implicitDefEqProofs := false) only [sB, simprocAttr]
    exact hK _
  · rintro Q hQ σ H2 ⟨S, d, cl, i, ⟨hd, hE2⟩, hi, hS, rfl⟩
    by_cases c : i < l.length
    · have ci : (i : Int) < (l.length : Int) := by omega
      have hx : l[i]? = some l[i] := List.getElem?_eq_getElem c
      have a1 := act_take hx
      have a2 := act_le l (i + 1)
      have r9 := w_i64 ((i : Int) + 1) (by omega) (by omega)
      obtain ⟨b1, b2⟩ := hnn l[i] (List.getElem_mem c)
      generalize l[i] = a at *
      obtain ⟨kd, b, tb, n⟩ := a
      simp only at a1 b1 b2
      have hol := outF_len k S cl
      simp (implicitDefEqProofs := false) only [sB, simprocAttr, ci, acts_get, hx, Option.map_some, actAV]
      refine ⟨by omega, i_new fun id hid => ?_⟩
      have hE3 := hE2.push (o := .cells [.int .i64 kd, .sl (bytesAV b) tb, .int .i64 n]) hid
      have hli := hE3.lookR (id := id) (by simp [lookH]; rfl)
      have hSb : S.length + b.length ≤ 1000 := by omega
      have hw3 := wr_held S
      by_cases k0 : kd = 0
      · subst k0
        cases cl with
        | true =>
          have hE4 : EX p ⟨[], k, (outF k S true).drop d, true⟩ _ ([(id, .cells [.int .i64 0, .sl (bytesAV b) tb, .int .i64 n])] ++ (q, mC k S d true) :: []) := hE3
          obtain ⟨rest, hp4, back⟩ := hE4.split
          simp (implicitDefEqProofs := false) only [sB, simprocAttr]
          refine .inr ⟨p, _, _, b, _, rfl, hE4, .sl b _, fun _ => ?_, fun h => (by cases h)⟩
          simp (implicitDefEqProofs := false) only [sB, simprocAttr]
          refine ⟨q, k, S, b, d, true, tb, _, rfl, hp4, hE4.1, by omega, fun _ => ?_, fun h => (by cases h)⟩
          simp (implicitDefEqProofs := false) only [sB, simprocAttr]
          obtain ⟨rest9, hp9, _⟩ := hE4.split
          have hq9 := look_head hp9 hE4.1
          have hdl : (((outF k S true).drop d).length : Int) = (((outF k S true).length - d : Nat) : Int) := by rw [List.length_drop]
          refine x_c27 hE4 ?_
          simp (implicitDefEqProofs := false) only [sB, simprocAttr, hdl]
          refine ⟨q, k, S, d, true, rfl, hq9, hE4.1, by omega, e0, e4, hd, ?_⟩
          simp (implicitDefEqProofs := false) only [sB, simprocAttr, hdl]
          refine x_c28 hE4 ?_
          obtain ⟨bb, hbb⟩ : ∃ bb, (true && decide ((outF k S true).drop d = [])) = bb := ⟨_, rfl⟩
          rw [hbb]
          simp (implicitDefEqProofs := false) only [sB, simprocAttr]
          refine ⟨q, k, S, d, true, rfl, hq9, hE4.1, by omega, e0, e4, hd, ?_⟩
          rw [hbb]
          obtain ⟨H0, hl0, hE0⟩ := hE4.dropR (R' := [(q, mC k S d true)]) (List.sublist_cons_self _ _)
          cases bb <;>
            (simp (implicitDefEqProofs := false) only [sB, simprocAttr, r9]
             exact ⟨H0, hl0, ⟨S, d, true, i + 1, ⟨hd, hE0⟩, by omega, by omega, by simp⟩, by omega⟩)
        | false =>
          have hE4 : EX p ⟨(wrP S).2, k, (outF k S false).drop d, false⟩ _ ([(id, .cells [.int .i64 0, .sl (bytesAV b) tb, .int .i64 n])] ++ (q, mC k S d false) :: []) := hE3
          simp (implicitDefEqProofs := false) only [sB, simprocAttr]
          refine .inr ⟨p, _, _, b, _, rfl, hE4, .sl b _, fun h => (by cases h), fun _ => ⟨by show (wrP S).2.length + _ ≤ _; omega, by show ((outF k S false).drop d).length ≤ _; rw [List.length_drop]; omega, e0, e4, fun H4 hE5 => ?_⟩⟩
          have hst : outF k (S ++ b) false = outF k S false ++ (wrP ((wrP S).2 ++ b)).1.flatMap (runeP k) := by
            unfold outF; rw [if_neg (by decide), if_neg (by decide), (wr_app b _ S (Nat.le_refl _)).1, List.flatMap_append]
          have hd5 : d ≤ (outF k (S ++ b) false).length := by rw [hst, List.length_append]; omega
          have hE6 : EX p ⟨(wrP (S ++ b)).2, k, (outF k (S ++ b) false).drop d, false⟩ H4 ([(id, .cells [.int .i64 0, .sl (bytesAV b) tb, .int .i64 n])] ++ (q, mC k S d false) :: []) := by
            rw [hst, List.drop_append_of_le_length hd, (wr_app b _ S (Nat.le_refl _)).2]; exact hE5
          have hSl : (S ++ b).length = S.length + b.length := List.length_append
          obtain ⟨rest, hp4, back⟩ := hE6.split
          have hli2 := hE6.lookR (id := id) (by simp [lookH]; rfl)
          simp (implicitDefEqProofs := false) only [sB, simprocAttr, hli2]
          refine ⟨q, k, S, b, d, false, tb, _, rfl, hp4, hE6.1, by omega, fun h => (by cases h), fun _ H5 hp5 n5 => ?_⟩
          have hE7 := back _ _ [] hp5 n5
          have ho2 := outF_len k (S ++ b) false
          generalize S ++ b = S2 at *
          simp only [List.nil_append] at hE7
          simp (implicitDefEqProofs := false) only [sB, simprocAttr]
          obtain ⟨rest9, hp9, _⟩ := hE7.split
          have hq9 := look_head hp9 hE7.1
          have hdl : (((outF k S2 false).drop d).length : Int) = (((outF k S2 false).length - d : Nat) : Int) := by rw [List.length_drop]
          refine x_c27 hE7 ?_
          simp (implicitDefEqProofs := false) only [sB, simprocAttr, hdl]
          refine ⟨q, k, S2, d, false, rfl, hq9, hE7.1, by omega, e0, e4, hd5, ?_⟩
          simp (implicitDefEqProofs := false) only [sB, simprocAttr, hdl]
          refine x_c28 hE7 ?_
          obtain ⟨bb, hbb⟩ : ∃ bb, (false && decide ((outF k S2 false).drop d = [])) = bb := ⟨_, rfl⟩
          rw [hbb]
          simp (implicitDefEqProofs := false) only [sB, simprocAttr]
          refine ⟨q, k, S2, d, false, rfl, hq9, hE7.1, by omega, e0, e4, hd5, ?_⟩
          rw [hbb]
          obtain ⟨H0, hl0, hE0⟩ := hE7.dropR (R' := [(q, mC k S2 d false)]) (List.sublist_cons_self _ _)
          cases bb <;>
            (simp (implicitDefEqProofs := false) only [sB, simprocAttr, r9]
             exact ⟨H0, hl0, ⟨S2, d, false, i + 1, ⟨hd5, hE0⟩, by omega, by omega, by simp⟩, by omega⟩)
      by_cases k1 : kd = 1
      · subst k1
        have hE4 : EX p ⟨if cl then [] else (wrP S).2, k, (outF k S cl).drop d, cl⟩ _ ([(id, .cells [.int .i64 1, .sl (bytesAV b) tb, .int .i64 n])] ++ (q, mC k S d cl) :: []) := hE3
        simp (implicitDefEqProofs := false) only [sB, simprocAttr]
        refine .inr ⟨p, _, n, _, rfl, hE4, by show ((outF k S cl).drop d).length ≤ _; rw [List.length_drop]; omega, fun t4 H4 hE5 => ?_⟩
        simp only [List.length_drop] at hE5
        obtain ⟨m, hm9⟩ : ∃ m, m = min n.toNat ((outF k S cl).length - d) := ⟨_, rfl⟩
        rw [← hm9] at hE5
        rw [show List.take (min n.toNat ((outF k S cl).drop d).length) ((outF k S cl).drop d) = ((outF k S cl).drop d).take m from by rw [List.length_drop, ← hm9]]
        obtain ⟨rest, hp4, back⟩ := hE5.split
        have hli2 := hE5.lookR (id := id) (by simp [lookH]; rfl)
        simp (implicitDefEqProofs := false) only [sB, simprocAttr, by_of, hli2]
        refine ⟨q, k, n, S, d, cl, _, rfl, hp4, hE5.1, by omega, e0, e4, hd, fun m2 w H5 hm2 hp5 n5 => ?_⟩
        obtain rfl : m2 = m := hm2.trans hm9.symm
        have hE7 := back _ _ [_] hp5 n5
        have hlw := look_head hp5 n5
        have hd5 : d + m2 ≤ (outF k S cl).length := by omega
        have y1 : (((outF k S cl).drop d).take m2).length = m2 := by rw [List.length_take, List.length_drop]; omega
        have y2 : List.take m2 (bytesAV (((outF k S cl).drop d).take m2)) = bytesAV (((outF k S cl).drop d).take m2) := by rw [by_take, List.take_take, Nat.min_self]
        rw [List.drop_drop] at hE7
        have hE7 : EX p _ H5 ([(w, _), (id, _)] ++ (q, mC k S (d + m2) cl) :: []) := hE7
        simp (implicitDefEqProofs := false) only [sB, simprocAttr, hlw, y1, y2, by_len, by_of]
        generalize d + m2 = d2 at *
        obtain ⟨rest9, hp9, _⟩ := hE7.split
        have hq9 := look_head hp9 hE7.1
        have hdl : (((outF k S cl).drop d2).length : Int) = (((outF k S cl).length - d2 : Nat) : Int) := by rw [List.length_drop]
        refine x_c27 hE7 ?_
        simp (implicitDefEqProofs := false) only [sB, simprocAttr, hdl]
        refine ⟨q, k, S, d2, cl, rfl, hq9, hE7.1, by omega, e0, e4, hd5, ?_⟩
        simp (implicitDefEqProofs := false) only [sB, simprocAttr, hdl]
        refine x_c28 hE7 ?_
        obtain ⟨bb, hbb⟩ : ∃ bb, (cl && decide ((outF k S cl).drop d2 = [])) = bb := ⟨_, rfl⟩
        rw [hbb]
        simp (implicitDefEqProofs := false) only [sB, simprocAttr]
        refine ⟨q, k, S, d2, cl, rfl, hq9, hE7.1, by omega, e0, e4, hd5, ?_⟩
        rw [hbb]
        obtain ⟨H0, hl0, hE0⟩ := hE7.dropR (R' := [(q, mC k S d2 cl)]) (.cons _ (List.sublist_cons_self _ _))
        cases bb <;>
          (simp (implicitDefEqProofs := false) only [sB, simprocAttr, r9]
           exact ⟨H0, hl0, ⟨S, d2, cl, i + 1, ⟨hd5, hE0⟩, by omega, by omega, by simp⟩, by omega⟩)
      · cases cl with
        | true =>
          have hE4 : EX p ⟨[], k, (outF k S true).drop d, true⟩ _ ([(id, .cells [.int .i64 kd, .sl (bytesAV b) tb, .int .i64 n])] ++ (q, mC k S d true) :: []) := hE3
          obtain ⟨rest, hp4, back⟩ := hE4.split
          simp (implicitDefEqProofs := false) only [sB, simprocAttr, k0, k1]
          refine .inr ⟨p, _, _, rfl, hE4, fun _ => ?_, fun h => (by cases h)⟩
          simp (implicitDefEqProofs := false) only [sB, simprocAttr]
          refine ⟨q, k, S, d, true, _, rfl, hp4, hE4.1, fun _ => ?_, fun h => (by cases h)⟩
          simp (implicitDefEqProofs := false) only [sB, simprocAttr]
          obtain ⟨rest9, hp9, _⟩ := hE4.split
          have hq9 := look_head hp9 hE4.1
          have hdl : (((outF k S true).drop d).length : Int) = (((outF k S true).length - d : Nat) : Int) := by rw [List.length_drop]
          refine x_c27 hE4 ?_
          simp (implicitDefEqProofs := false) only [sB, simprocAttr, hdl]
          refine ⟨q, k, S, d, true, rfl, hq9, hE4.1, by omega, e0, e4, hd, ?_⟩
          simp (implicitDefEqProofs := false) only [sB, simprocAttr, hdl]
          refine x_c28 hE4 ?_
          obtain ⟨bb, hbb⟩ : ∃ bb, (true && decide ((outF k S true).drop d = [])) = bb := ⟨_, rfl⟩
          rw [hbb]
          simp (implicitDefEqProofs := false) only [sB, simprocAttr]
          refine ⟨q, k, S, d, true, rfl, hq9, hE4.1, by omega, e0, e4, hd, ?_⟩
          rw [hbb]
          obtain ⟨H0, hl0, hE0⟩ := hE4.dropR (R' := [(q, mC k S d true)]) (List.sublist_cons_self _ _)
          cases bb <;>
            (simp (implicitDefEqProofs := false) only [sB, simprocAttr, r9]
             exact ⟨H0, hl0, ⟨S, d, true, i + 1, ⟨hd, hE0⟩, by omega, by omega, by simp⟩, by omega⟩)
        | false =>
          have hE4 : EX p ⟨(wrP S).2, k, (outF k S false).drop d, false⟩ _ ([(id, .cells [.int .i64 kd, .sl (bytesAV b) tb, .int .i64 n])] ++ (q, mC k S d false) :: []) := hE3
          simp (implicitDefEqProofs := false) only [sB, simprocAttr, k0, k1]
          refine .inr ⟨p, _, _, rfl, hE4, fun h => (by cases h), fun _ => ⟨by show (wrP S).2.length ≤ _; omega, by show ((outF k S false).drop d).length ≤ _; rw [List.length_drop]; omega, e0, e4, fun H4 hE5 => ?_⟩⟩
          have hst : outF k S true = outF k S false ++ (decP (wrP S).2).flatMap (runeP k) := by
            unfold outF; rw [if_pos rfl, if_neg (by decide)]; unfold escP; rw [wr_end S, List.flatMap_append]
          have hd5 : d ≤ (outF k S true).length := by rw [hst, List.length_append]; omega
          have hE6 : EX p ⟨[], k, (outF k S true).drop d, true⟩ H4 ([(id, .cells [.int .i64 kd, .sl (bytesAV b) tb, .int .i64 n])] ++ (q, mC k S d false) :: []) := by
            rw [hst, List.drop_append_of_le_length hd]; exact hE5
          obtain ⟨rest, hp4, back⟩ := hE6.split
          simp (implicitDefEqProofs := false) only [sB, simprocAttr]
          refine ⟨q, k, S, d, false, _, rfl, hp4, hE6.1, fun h => (by cases h), fun _ H5 hp5 n5 => ?_⟩
          have hE7 := back _ _ [] hp5 n5
          have ho2 := outF_len k S true
          simp only [List.nil_append] at hE7
          simp (implicitDefEqProofs := false) only [sB, simprocAttr]
          obtain ⟨rest9, hp9, _⟩ := hE7.split
          have hq9 := look_head hp9 hE7.1
          have hdl : (((outF k S true).drop d).length : Int) = (((outF k S true).length - d : Nat) : Int) := by rw [List.length_drop]
          refine x_c27 hE7 ?_
          simp (implicitDefEqProofs := false) only [sB, simprocAttr, hdl]
          refine ⟨q, k, S, d, true, rfl, hq9, hE7.1, by omega, e0, e4, hd5, ?_⟩
          simp (implicitDefEqProofs := false) only [sB, simprocAttr, hdl]
          refine x_c28 hE7 ?_
          obtain ⟨bb, hbb⟩ : ∃ bb, (true && decide ((outF k S true).drop d = [])) = bb := ⟨_, rfl⟩
          rw [hbb]
          simp (implicitDefEqProofs := false) only [sB, simprocAttr]
          refine ⟨q, k, S, d, true, rfl, hq9, hE7.1, by omega, e0, e4, hd5, ?_⟩
          rw [hbb]
          obtain ⟨H0, hl0, hE0⟩ := hE7.dropR (R' := [(q, mC k S d true)]) (List.sublist_cons_self _ _)
          cases bb <;>
            (simp (implicitDefEqProofs := false) only [sB, simprocAttr, r9]
             exact ⟨H0, hl0, ⟨S, d, true, i + 1, ⟨hd5, hE0⟩, by omega, by omega, by simp⟩, by omega⟩)
    · have ci : ¬ (i : Int) < (l.length : Int) := by omega
      simp (implicitDefEqProofs := false) only [sB, simprocAttr, ci]
      exact hQ _ _ _ ⟨rfl, hE2.1⟩
end Go.AL.Fun
