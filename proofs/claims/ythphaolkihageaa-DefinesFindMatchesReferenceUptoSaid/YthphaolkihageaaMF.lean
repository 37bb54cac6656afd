/- Definitions of a template: Check, walked. -/
import Derived.Test.YthphaolkihageaaMD
set_option linter.unusedSimpArgs false
set_option linter.unusedVariables false
set_option maxRecDepth 100000
set_option maxHeartbeats 4000000
namespace Go.AL.Fun
open Go Go.AL

/-- A set of names. -/
def setM (ns : List (List UInt8)) : List (AV × AV) := ns.map fun s => (.str s, .bool true)
theorem set_look (k : List UInt8) (ns : List (List UInt8)) : lookA (.str k) (setM ns) = some (if k ∈ ns then some (.bool true) else none) := by
  induction ns with
  | nil => rfl
  | cons s ns ih =>
    simp only [setM, List.map_cons, lookA, AV.same]
    by_cases c : k = s
    · simp [c]
    · simp only [c, decide_false]
      unfold setM at ih
      rw [ih]
      simp [c]
theorem set_upd {k : List UInt8} {ns : List (List UInt8)} (h : k ∉ ns) : updA (.str k) (.bool true) (setM ns) = some (setM (ns ++ [k])) := by
  induction ns with
  | nil => rfl
  | cons s ns ih =>
    have c : ¬ k = s := fun e => h (e ▸ List.mem_cons_self)
    have h2 : k ∉ ns := fun e => h (List.mem_cons_of_mem _ e)
    simp only [setM, List.map_cons, updA, AV.same, c, decide_false, List.cons_append]
    have := ih h2
    unfold setM at this
    rw [this]; rfl
theorem set_len (ns : List (List UInt8)) : (setM ns).length = ns.length := by simp [setM]
/-- The memory of a check. -/
structure CkH (mb ab eb id : Nat) (ns : List (List UInt8)) (H : Heap) : Prop where
  m : lookH mb H = some (.cells [.map id])
  i : lookH id H = some (.map (setM ns))
  a : lookH ab H = some (.cells [.int .i64 0])
  e : lookH eb H = some (.cells [.int .i64 0])
  ne : ¬ ab = eb
def outC (ab eb : Nat) (p : Int) (H : Heap) : Heap := setH eb (.cells [.int .i64 11]) (setH ab (.cells [.int .i64 p]) H)
theorem CkH.cons {mb ab eb id : Nat} {ns : List (List UInt8)} {H : Heap} (h : CkH mb ab eb id ns H) {z : Nat} (o : AObj) (hz : z ∉ H.keys) : CkH mb ab eb id ns ((z, o) :: H) := by
  have e1 := key_ne h.m hz
  have e2 := key_ne h.i hz
  have e3 := key_ne h.a hz
  have e4 := key_ne h.e hz
  exact ⟨by simp only [lookH, e1, if_false]; exact h.m, by simp only [lookH, e2, if_false]; exact h.i, by simp only [lookH, e3, if_false]; exact h.a, by simp only [lookH, e4, if_false]; exact h.e, h.ne⟩
theorem outC_cons {mb ab eb id : Nat} {ns : List (List UInt8)} {H : Heap} (h : CkH mb ab eb id ns H) {z : Nat} (o : AObj) (hz : z ∉ H.keys) (p : Int) : outC ab eb p ((z, o) :: H) = (z, o) :: outC ab eb p H := by
  have e3 := key_ne h.a hz
  have e4 := key_ne h.e hz
  simp only [outC, setH, renH, e3, e4, if_false]
def c24 (xs : List AV) (H : Heap) (K : Kv) : Prop := ∃ (n : Nd) (mb ab eb id : Nat) (ns : List (List UInt8)), xs = [.agg n.cs, .ptr mb 0, .ptr ab 0, .ptr eb 0] ∧ CkH mb ab eb id ns H ∧ (n.n ∈ ns → K.ap (.bool true) H) ∧ (n.n ∉ ns → K.ap (.bool false) (outC ab eb n.p H))
theorem c24_of (P : Program) {xs : List AV} {H : Heap} {K : Kv} (h : c24 xs H K) : @xF (t0 P) f24 xs H ⟨fun v H' => ∃ H0, Hle H0 H' ∧ K.ap v H0⟩ := by
  obtain ⟨⟨k, p, s, q, hp, he, b, e⟩, mb, ab, eb, id, ns, rfl, ck, h1, h2⟩ := h
  simp only [Nd.cs, Nd.n, Nd.p] at h1 h2 ⊢
  simp (implicitDefEqProofs := false) only [sB, simprocAttr, f24]
  refine i_new fun z hz => ?_
  have e1 := key_ne ck.m hz
  have e2 := key_ne ck.i hz
  have e3 := key_ne ck.a hz
  have e4 := key_ne ck.e hz
  have e5 := ck.ne
  have e6 : ¬ eb = ab := fun h => e5 h.symm
  by_cases c : s ∈ ns
  · simp (implicitDefEqProofs := false) only [sB, simprocAttr, e1, e2, e3, e4, ck.m, ck.i, ck.a, ck.e, set_look, c]
    exact ⟨_, .tail _ _, h1 c⟩
  · have h := h2 c
    simp (implicitDefEqProofs := false) only [sB, simprocAttr, e1, e2, e3, e4, ck.m, ck.i, ck.a, ck.e, set_look, c, e6, e5]
    exact ⟨_, .tail _ _, h⟩
theorem bad_app (ns : List (List UInt8)) (a b : List Nd) : badC ns (a ++ b) = (badC ns a).or (badC ns b) := by unfold badC; rw [List.find?_append]
theorem bad_one (ns : List (List UInt8)) (n : Nd) : (n.n ∈ ns → badC ns [n] = none) ∧ (n.n ∉ ns → badC ns [n] = some n) := ⟨fun h => by simp [badC, h], fun h => by simp [badC, h]⟩
theorem bad_or {ns : List (List UInt8)} {a b : List Nd} (h : badC ns a = none) : badC ns (a ++ b) = badC ns b := by rw [bad_app, h]; rfl
theorem bad_some {ns : List (List UInt8)} {a b : List Nd} {n : Nd} (h : badC ns a = some n) : badC ns (a ++ b) = some n := by rw [bad_app, h]; rfl
/-- The calls, checked. -/
def d21 (N : Nat) (xs : List AV) (H : Heap) (K : Kv) : Prop := ∃ (l : List Nd) (t : Tok) (mb ab eb id : Nat) (ns : List (List UInt8)), xs = [.sl (Nd.avs l) t, .fn (.func 24) [] [.ptr mb 0, .ptr ab 0, .ptr eb 0]] ∧ Nd.cnts l < N ∧ Nd.cnts l ≤ 1000000 ∧ CkH mb ab eb id ns H ∧
  (badC ns (callsR l) = none → K.ap (.bool true) H) ∧ ∀ n, badC ns (callsR l) = some n → K.ap (.bool false) (outC ab eb n.p H)
theorem x_d21 {N : Nat} {l : List Nd} {t : Tok} {mb ab eb id : Nat} {ns : List (List UInt8)} {H : Heap} {K : Kv} (h1 : Nd.cnts l < N) (h2 : Nd.cnts l ≤ 1000000) (ck : CkH mb ab eb id ns H) (k1 : badC ns (callsR l) = none → K.ap (.bool true) H) (k2 : ∀ n, badC ns (callsR l) = some n → K.ap (.bool false) (outC ab eb n.p H)) :
    d21 N [.sl (Nd.avs l) t, .fn (.func 24) [] [.ptr mb 0, .ptr ab 0, .ptr eb 0]] H K := ⟨l, t, mb, ab, eb, id, ns, rfl, h1, h2, ck, k1, k2⟩
theorem d21_of (P : Program) {N : Nat} {xs : List AV} {H : Heap} {K : Kv} (h : d21 (N + 1) xs H K) : @xF ⟨fun _ => none, P, [(24, c24), (21, d21 N)]⟩ f21 xs H ⟨fun v H' => ∃ H0, Hle H0 H' ∧ K.ap v H0⟩ := by
  obtain ⟨l, t, mb, ab, eb, id, ns, rfl, hN, hl, ck, h1, h2⟩ := h
  have ll := cnts_len l
  simp (implicitDefEqProofs := false) only [sB, simprocAttr, f21, nds_len]
  refine i_loopJ (fun σ H1 => ∃ (i : Nat), H1 = H ∧ i ≤ l.length ∧ badC ns (callsR (l.take i)) = none ∧ σ = [(1, .fn (.func 24) [] [.ptr mb 0, .ptr ab 0, .ptr eb 0]), (7, .sl (Nd.avs l) t), (8, .int .i64 l.length), (9, .int .i64 i)])
    (fun σ _ => match σ.get 9 with | .int _ n => l.length - n.toNat | _ => 0)
    (fun e σ H1 => (e = .exit 0 ∧ H1 = H ∧ badC ns (callsR l) = none) ∨ (e = .ret ∧ σ.get 4 = .bool false ∧ ∃ n, badC ns (callsR l) = some n ∧ Hle (outC ab eb n.p H) H1))
    ⟨_, .refl _, 0, rfl, by omega, rfl, rfl⟩ ?_ ?_
  · rintro e σ H1 (⟨rfl, rfl, hb⟩ | ⟨rfl, q4, n, hb, hle⟩)
    · simp (implicitDefEqProofs := false) only [sB, simprocAttr]
      exact ⟨_, .refl _, h1 hb⟩
    · simp (implicitDefEqProofs := false) only [sB, simprocAttr, q4]
      exact ⟨_, hle, h2 n hb⟩
  · rintro Q hQ σ H1 ⟨i, rfl, hi, hb, rfl⟩
    by_cases c : i < l.length
    · have c' : (i : Int) < (l.length : Int) := by omega
      have i0 : (0 : Int) ≤ (i : Int) := by omega
      have r9 := w_i64 ((i : Int) + 1) (by omega) (by omega)
      have hx : (Nd.avs l)[i]? = some (.agg (l[i]).cs) := by rw [nds_get, List.getElem?_eq_getElem c]; rfl
      have hs : l = l.take i ++ ([l[i]] ++ l.drop (i + 1)) := by rw [← List.append_assoc, ← take_one c, List.take_append_drop]
      have n3 := cnts_get c
      have nt := take_one c
      have all : ∀ n, badC ns (callsN l[i]) = some n → badC ns (callsR l) = some n := fun n hn => by
        rw [hs, calls_app, calls_app, calls_one, bad_or hb, bad_some hn]
      have nxt : badC ns (callsN l[i]) = none → badC ns (callsR (l.take (i + 1))) = none := fun hn => by
        rw [nt, calls_app, calls_one, bad_or hb, hn]
      clear hs nt
      generalize l[i] = d at hx n3 all nxt
      obtain ⟨k, p, s, q, hp', he, b, e⟩ := d
      rw [callsN] at all nxt
      simp only [Nd.cnt] at n3
      have hx' := hx
      simp only [Nd.cs] at hx
      have rest : ∀ {a : List Nd}, badC ns a = none → (∀ n, badC ns (a ++ (callsR b ++ callsR e)) = some n → badC ns (callsR l) = some n) → (badC ns (a ++ (callsR b ++ callsR e)) = none → badC ns (callsR (l.take (i + 1))) = none) →
          (∀ n, badC ns (callsR b) = some n → badC ns (callsR l) = some n) ∧ (badC ns (callsR b) = none → (∀ n, badC ns (callsR e) = some n → badC ns (callsR l) = some n) ∧ (badC ns (callsR e) = none → badC ns (callsR (l.take (i + 1))) = none)) := by
        intro a ha h1 h2
        rw [bad_or ha] at h1 h2
        exact ⟨fun n hn => h1 n (bad_some hn), fun hn => by rw [bad_or hn] at h1 h2; exact ⟨h1, h2⟩⟩
      simp (implicitDefEqProofs := false) only [sB, simprocAttr, c', i0, hx]
      refine i_new fun z hz => ?_
      by_cases c1 : k = 4
      · rw [if_pos c1] at all nxt
        simp (implicitDefEqProofs := false) only [sB, simprocAttr, c1]
        refine ⟨Nd.mk k p s q hp' he b e, mb, ab, eb, id, ns, by rw [Nd.cs, c1], ck.cons _ hz, fun hm => ?_, fun hm => ?_⟩
        · have ha : badC ns [Nd.mk k p s q hp' he b e] = none := (bad_one _ _).1 hm
          obtain ⟨r1, r2⟩ := rest ha all nxt
          simp (implicitDefEqProofs := false) only [sB, simprocAttr]
          refine x_d21 (by omega) (by omega) (ck.cons _ hz) (fun hb2 => ?_) (fun n hn => ?_)
          · obtain ⟨r3, r4⟩ := r2 hb2
            simp (implicitDefEqProofs := false) only [sB, simprocAttr]
            refine x_d21 (by omega) (by omega) (ck.cons _ hz) (fun hb3 => ?_) (fun n hn => ?_)
            · simp (implicitDefEqProofs := false) only [sB, simprocAttr, r9]
              exact ⟨_, .tail _ _, ⟨i + 1, rfl, by omega, r4 hb3, by simp⟩, by omega⟩
            · simp (implicitDefEqProofs := false) only [sB, simprocAttr]
              exact hQ _ _ _ (.inr ⟨rfl, rfl, n, r3 n hn, by rw [outC_cons ck _ hz]; exact .tail _ _⟩)
          · simp (implicitDefEqProofs := false) only [sB, simprocAttr]
            exact hQ _ _ _ (.inr ⟨rfl, rfl, n, r1 n hn, by rw [outC_cons ck _ hz]; exact .tail _ _⟩)
        · have ha : badC ns [Nd.mk k p s q hp' he b e] = some (Nd.mk k p s q hp' he b e) := (bad_one _ _).2 hm
          simp (implicitDefEqProofs := false) only [sB, simprocAttr]
          exact hQ _ _ _ (.inr ⟨rfl, rfl, _, all _ (bad_some ha), by rw [outC_cons ck _ hz]; exact .tail _ _⟩)
      · rw [if_neg c1] at all nxt
        obtain ⟨r1, r2⟩ := rest (a := []) rfl all nxt
        simp (implicitDefEqProofs := false) only [sB, simprocAttr, c1]
        refine x_d21 (by omega) (by omega) (ck.cons _ hz) (fun hb2 => ?_) (fun n hn => ?_)
        · obtain ⟨r3, r4⟩ := r2 hb2
          simp (implicitDefEqProofs := false) only [sB, simprocAttr]
          refine x_d21 (by omega) (by omega) (ck.cons _ hz) (fun hb3 => ?_) (fun n hn => ?_)
          · simp (implicitDefEqProofs := false) only [sB, simprocAttr, r9]
            exact ⟨_, .tail _ _, ⟨i + 1, rfl, by omega, r4 hb3, by simp⟩, by omega⟩
          · simp (implicitDefEqProofs := false) only [sB, simprocAttr]
            exact hQ _ _ _ (.inr ⟨rfl, rfl, n, r3 n hn, by rw [outC_cons ck _ hz]; exact .tail _ _⟩)
        · simp (implicitDefEqProofs := false) only [sB, simprocAttr]
          exact hQ _ _ _ (.inr ⟨rfl, rfl, n, r1 n hn, by rw [outC_cons ck _ hz]; exact .tail _ _⟩)
    · have c' : ¬ (i : Int) < (l.length : Int) := by omega
      have e : l.take i = l := List.take_of_length_le (by omega)
      rw [e] at hb
      simp (implicitDefEqProofs := false) only [sB, simprocAttr, c']
      exact hQ _ _ _ (.inl ⟨rfl, rfl, hb⟩)
theorem checkG_step (n : Nd) (l : List Nd) (ns : List (List UInt8)) : (n.k ≠ 6 → checkG (n :: l) ns = checkG l ns) ∧ (n.k = 6 → n.n ∈ ns → checkG (n :: l) ns = (ns, n.p, 12)) ∧ (n.k = 6 → n.n ∉ ns → ns.length = 64 → checkG (n :: l) ns = (ns, n.p, 14)) ∧ (n.k = 6 → n.n ∉ ns → ns.length ≠ 64 → checkG (n :: l) ns = checkG l (ns ++ [n.n])) := by
  refine ⟨fun h => ?_, fun h h2 => ?_, fun h h2 h3 => ?_, fun h h2 h3 => ?_⟩ <;> rw [checkG] <;> simp_all
/-- Check. -/
def c13 (xs : List AV) (H : Heap) (K : Kv) : Prop := ∃ (l : List Nd) (t : Tok), xs = [.sl (Nd.avs l) t] ∧ H.keys.Nodup ∧ Nd.cnts l ≤ 1000000 ∧ K.ap (.tup [.int .i64 (checkR l).1, .int .i64 (checkR l).2]) H
theorem x_c13 {l : List Nd} {t : Tok} {H : Heap} {K : Kv} (hn : H.keys.Nodup) (h1 : Nd.cnts l ≤ 1000000) (k : K.ap (.tup [.int .i64 (checkR l).1, .int .i64 (checkR l).2]) H) : c13 [.sl (Nd.avs l) t] H K := ⟨l, t, rfl, hn, h1, k⟩
theorem c13_of (P : Program) {xs : List AV} {H : Heap} {K : Kv} (h : c13 xs H K) : @xF ⟨fun _ => none, P, [(21, d21 1000001)]⟩ f13 xs H ⟨fun v H' => ∃ H0, Hle H0 H' ∧ K.ap v H0⟩ := by
  obtain ⟨l, t, rfl, hn, hl, h⟩ := h
  have ll := cnts_len l
  simp (implicitDefEqProofs := false) only [sB, simprocAttr, f13]
  refine i_new fun m0 hm0 => ?_
  simp (implicitDefEqProofs := false) only [sB, simprocAttr]
  refine i_new fun mb hmb => ?_
  have e1 : ¬ m0 = mb := fun e => by subst e; simp [Heap.keys] at hmb
  have e2 : ¬ mb = m0 := fun e => e1 e.symm
  simp (implicitDefEqProofs := false) only [sB, simprocAttr, e1, e2, nds_len]
  refine i_loopJ (fun σ H1 => ∃ (i : Nat) (ns : List (List UInt8)), H1 = (mb, .cells [.map m0]) :: (m0, .map (setM ns)) :: H ∧ i ≤ l.length ∧ ns.length ≤ 64 ∧ checkG l [] = checkG (l.drop i) ns ∧ σ = [(0, .sl (Nd.avs l) t), (4, .ptr mb 0), (10, .sl (Nd.avs l) t), (11, .int .i64 l.length), (12, .int .i64 i)])
    (fun σ _ => match σ.get 12 with | .int _ n => l.length - n.toNat | _ => 0)
    (fun e σ H1 => (e = .exit 0 ∧ ∃ ns, H1 = (mb, .cells [.map m0]) :: (m0, .map (setM ns)) :: H ∧ checkG l [] = (ns, 0, 0) ∧ σ.get 0 = .sl (Nd.avs l) t ∧ σ.get 4 = .ptr mb 0) ∨
      (e = .ret ∧ Hle H H1 ∧ ∃ ns a er, checkG l [] = (ns, a, er) ∧ er ≠ 0 ∧ σ.get 2 = .int .i64 a ∧ σ.get 3 = .int .i64 er))
    ⟨_, .refl _, 0, [], rfl, by omega, by decide, rfl, rfl⟩ ?_ ?_
  · rintro e σ H1 (⟨rfl, ns, rfl, hg, q0, q4⟩ | ⟨rfl, hle, ns, a, er, hg, he, q2, q3⟩)
    · simp (implicitDefEqProofs := false) only [sB, simprocAttr, q0, q4]
      refine i_new fun ab hab => ?_
      have hab1 : ¬ ab = mb ∧ ¬ ab = m0 := by simp [Heap.keys] at hab; exact ⟨hab.1, hab.2.1⟩
      simp (implicitDefEqProofs := false) only [sB, simprocAttr, hab1.1, hab1.2]
      refine i_new fun eb heb => ?_
      have heb1 : ¬ eb = ab ∧ ¬ eb = mb ∧ ¬ eb = m0 := by simp [Heap.keys] at heb; exact ⟨heb.1, heb.2.1, heb.2.2.1⟩
      have f1 : ¬ ab = eb := fun e => heb1.1 e.symm
      have f2 : ¬ mb = eb := fun e => heb1.2.1 e.symm
      have f3 : ¬ mb = ab := fun e => hab1.1 e.symm
      have f4 : ¬ m0 = eb := fun e => heb1.2.2 e.symm
      have f5 : ¬ m0 = ab := fun e => hab1.2 e.symm
      simp (implicitDefEqProofs := false) only [sB, simprocAttr, hab1.1, hab1.2, heb1.1, heb1.2.1, heb1.2.2, f1, q0, q4]
      have ck : CkH mb ab eb m0 ns ((eb, .cells [.int .i64 0]) :: (ab, .cells [.int .i64 0]) :: (mb, .cells [.map m0]) :: (m0, .map (setM ns)) :: H) :=
        ⟨by simp [lookH, f2, f3], by simp [lookH, f4, f5, e1], by simp [lookH, f1], by simp [lookH], f1⟩
      have le4 : ∀ (a b c d : Nat × AObj), Hle H (a :: b :: c :: d :: H) := fun a b c d => .of_sub (.cons _ (.cons _ (.cons _ (.cons _ (.refl _)))))
      have cr : checkR l = (match badC ns (callsR l) with | none => (0, 0) | some n => (n.p, 11)) := by unfold checkR; rw [hg]; rfl
      refine x_d21 (N := 1000001) (l := l) (by omega) (by omega) ck (fun hb => ?_) (fun n hb => ?_)
      · rw [cr, hb] at h
        simp (implicitDefEqProofs := false) only [sB, simprocAttr, f1]
        exact ⟨_, le4 _ _ _ _, h⟩
      · rw [cr, hb] at h
        simp (implicitDefEqProofs := false) only [sB, simprocAttr, outC, f1, heb1.1]
        exact ⟨_, le4 _ _ _ _, h⟩
    · have cr : checkR l = (a, er) := by unfold checkR; rw [hg]; exact if_pos he
      rw [cr] at h
      simp (implicitDefEqProofs := false) only [sB, simprocAttr, q2, q3]
      exact ⟨_, hle, h⟩
  · rintro Q hQ σ H1 ⟨i, ns, rfl, hi, h64, hg, rfl⟩
    by_cases c : i < l.length
    · have c' : (i : Int) < (l.length : Int) := by omega
      have i0 : (0 : Int) ≤ (i : Int) := by omega
      have r9 := w_i64 ((i : Int) + 1) (by omega) (by omega)
      have hx : (Nd.avs l)[i]? = some (.agg (l[i]).cs) := by rw [nds_get, List.getElem?_eq_getElem c]; rfl
      rw [List.drop_eq_getElem_cons c] at hg
      obtain ⟨g1, g2, g3, g4⟩ := checkG_step l[i] (l.drop (i + 1)) ns
      rw [← hg] at g1 g2 g3 g4
      generalize l[i] = d at hx g1 g2 g3 g4
      obtain ⟨k, p, s, q, hp', he, b, e⟩ := d
      simp only [Nd.k, Nd.n, Nd.p] at g1 g2 g3 g4
      simp only [Nd.cs] at hx
      have le3 : ∀ (a b c : Nat × AObj), Hle H (a :: b :: c :: H) := fun a b c => .of_sub (.cons _ (.cons _ (.cons _ (.refl _))))
      simp (implicitDefEqProofs := false) only [sB, simprocAttr, c', i0, hx]
      refine i_new fun z hz => ?_
      have hz1 : ¬ z = mb ∧ ¬ z = m0 := by simp [Heap.keys] at hz; exact ⟨hz.1, hz.2.1⟩
      have f1 : ¬ mb = z := fun e => hz1.1 e.symm
      have f2 : ¬ m0 = z := fun e => hz1.2 e.symm
      by_cases c1 : k = 6
      · by_cases c2 : s ∈ ns
        · have hg := g2 c1 c2
          simp (implicitDefEqProofs := false) only [sB, simprocAttr, c1, hz1.1, hz1.2, f1, f2, e1, e2, set_look, c2]
          exact hQ _ _ _ (.inr ⟨rfl, le3 _ _ _, _, _, _, hg, by decide, rfl, rfl⟩)
        · by_cases c3 : ns.length = 64
          · have hg := g3 c1 c2 c3
            have c4 : (ns.length : Int) = 64 := by omega
            simp (implicitDefEqProofs := false) only [sB, simprocAttr, c1, hz1.1, hz1.2, f1, f2, e1, e2, set_look, c2, set_len, c4]
            exact hQ _ _ _ (.inr ⟨rfl, le3 _ _ _, _, _, _, hg, by decide, rfl, rfl⟩)
          · have hg := g4 c1 c2 c3
            have c4 : ¬ (ns.length : Int) = 64 := by omega
            simp (implicitDefEqProofs := false) only [sB, simprocAttr, c1, hz1.1, hz1.2, f1, f2, e1, e2, set_look, c2, set_len, c4, set_upd, r9]
            exact ⟨_, .tail _ _, ⟨i + 1, ns ++ [s], rfl, by omega, by simp only [List.length_append, List.length_cons, List.length_nil]; omega, hg, by simp⟩, by omega⟩
      · have hg := g1 c1
        simp (implicitDefEqProofs := false) only [sB, simprocAttr, c1, r9]
        exact ⟨_, .tail _ _, ⟨i + 1, ns, rfl, by omega, h64, hg, by simp⟩, by omega⟩
    · have c' : ¬ (i : Int) < (l.length : Int) := by omega
      rw [List.drop_of_length_le (by omega), checkG] at hg
      simp (implicitDefEqProofs := false) only [sB, simprocAttr, c']
      exact hQ _ _ _ (.inl ⟨rfl, ns, rfl, hg, rfl, rfl⟩)
end Go.AL.Fun
