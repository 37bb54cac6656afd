/- IncescapeSplitIrrelevant, walked. -/
import Derived.Test.YtijioomcpecdhaaDoorS20
import Derived.Test.YtijioomcpecdhaaDoorFL13
set_option linter.unusedSimpArgs false
set_option linter.unusedVariables false
set_option maxRecDepth 100000
set_option maxHeartbeats 4000000
namespace Go.AL.Fun
open Go Go.AL
@[reducible] def t13 : XT := [(18, c18), (25, c25), (26, c26), (27, c27), (28, c28), (29, c29), (30, c30), (31, c31)]
theorem t13_ok {P : Program} (h : IOk P) : TOk Gu P (plainT t13) := .consX (e18 Gu5 h.e) (.consX (e25 h) (.consX (e26 h) (.consX (e27 h) (.consX (e28 h) (.consX (e29 h) (.consX (e30 h) (.consX (e31 h) .nilX)))))))
theorem EX.lookR {p : Nat} {s : ES} {H R : Heap} (h : EX p s H R) {id : Nat} {o : AObj} (hl : lookH id R = some o) : lookH id H = some o := by
  obtain ⟨hn, t1, t2, g, hp⟩ := h
  exact look_app (A := (p, eC s.h s.e s.out s.cl t1 t2) :: tokH t2) hp hn id o hl
theorem EX.weak {p : Nat} {s : ES} {H R H' : Heap} (h : EX p s H R) (hp : H'.Perm H) : EX p s H' R := by
  obtain ⟨hn, t1, t2, g, hq⟩ := h
  exact ⟨(hp.map Prod.fst).nodup_iff.2 hn, t1, t2, g, hp.trans hq⟩
theorem EX.permR {p : Nat} {s : ES} {H R R' : Heap} (h : EX p s H R) (hr : R.Perm R') : EX p s H R' := by
  obtain ⟨hn, t1, t2, g, hq⟩ := h
  exact ⟨hn, t1, t2, g, hq.trans (.cons _ (.append_left _ hr))⟩
theorem law13 (P : Program) (e : Int) (h0 : 0 ≤ e) (h1 : e ≤ 255) (s ps : List UInt8) (t : Tok) (K : Kv) (hK : ∀ H, K.ap (.bool true) H) : @xF ⟨Gu, P, t13⟩ f13 [.int .u8 e, .str s, .sl (bytesAV ps) t] [] K := by
  have hn : (Heap.keys []).Nodup := List.nodup_nil
  have alive : ∀ (H : Heap) (K' : Kv), H.keys.Nodup → K'.ap (.bool true) H → c26 [] H K' := fun H K' h k => ⟨rfl, h, k⟩
  by_cases cs : (1000 : Int) < (s.length : Int)
  · simp (implicitDefEqProofs := false) only [sB, simprocAttr, f13, cs]
    refine alive _ _ hn ?_
    simp (implicitDefEqProofs := false) only [sB, simprocAttr]
    exact hK _
  by_cases cz : ps.length = 0
  · have cz' : ((ps.length : Nat) : Int) = 0 := by omega
    simp (implicitDefEqProofs := false) only [sB, simprocAttr, f13, cs, by_len, cz']
    refine alive _ _ hn ?_
    simp (implicitDefEqProofs := false) only [sB, simprocAttr]
    exact hK _
  have cz' : ¬ ((ps.length : Nat) : Int) = 0 := by omega
  by_cases cp : (100 : Int) < (ps.length : Int)
  · simp (implicitDefEqProofs := false) only [sB, simprocAttr, f13, cs, by_len, cz', cp]
    refine alive _ _ hn ?_
    simp (implicitDefEqProofs := false) only [sB, simprocAttr]
    exact hK _
  have hm := mod5 h0
  have he : e.toNat % 5 < 5 := Nat.mod_lt _ (by decide)
  have w0 := w_i64 e (by omega) (by omega)
  have w1 := w_i64 ((e.toNat % 5 : Nat) : Int) (by omega) (by omega)
  have e0 : (0 : Int) ≤ ((e.toNat % 5 : Nat) : Int) := by omega
  have e4 : ((e.toNat % 5 : Nat) : Int) ≤ 4 := by omega
  simp (implicitDefEqProofs := false) only [sB, simprocAttr, f13, cs, by_len, cz', cp, w0, hm, w1]
  generalize ((e.toNat % 5 : Nat) : Int) = k at *
  refine x_c25 hn (fun h => by omega) fun _ _ p H1 hE => ?_
  simp (implicitDefEqProofs := false) only [sB, simprocAttr]
  refine x_c18 e0 e4 hE.1 (by omega) ?_
  simp (implicitDefEqProofs := false) only [sB, simprocAttr]
  refine ⟨by omega, i_new fun z hz => ?_⟩
  simp (implicitDefEqProofs := false) only [sB, simprocAttr]
  refine i_emp (List.nodup_cons.2 ⟨hz, hE.1⟩) fun g hg hg2 => ?_
  simp (implicitDefEqProofs := false) only [sB, simprocAttr]
  obtain ⟨fo, hfo⟩ : ∃ fo : List UInt8 → List UInt8, fo = fun S => (wrP S).1.flatMap (runeP k) := ⟨_, rfl⟩
  have hwant : escP k s = fo s ++ (decP (wrP s).2).flatMap (runeP k) := by rw [hfo]; unfold escP; rw [wr_end s, List.flatMap_append]
  have hfl : ∀ S, (fo S).length ≤ 12 * S.length := fun S => by
    rw [hfo]; have := runeF_len k (wrP S).1; have := wrP_len _ S (Nat.le_refl _); simp only; omega
  have hstep : ∀ S b, fo (S ++ b) = fo S ++ (wrP ((wrP S).2 ++ b)).1.flatMap (runeP k) := fun S b => by
    rw [hfo]; simp only; rw [(wr_app b _ S (Nat.le_refl _)).1, List.flatMap_append]
  generalize escP k s = want at *
  refine i_loopJ (fun σ H1 => ∃ (o i : Nat) (out gt : List UInt8) (tg : Tok), o ≤ s.length ∧ i ≤ o ∧ EX p ⟨(wrP (s.take o)).2, k, out, false⟩ H1 ((z, .cells (bytesAV s)) :: tokH tg) ∧ GT (bytesAV gt) tg ∧ gt ++ out = fo (s.take o) ∧
      σ = [(2, .sl (bytesAV ps) t), (8, .ptr p 0), (10, .str want), (12, .msl z o (s.length - o) 1), (13, .sl (bytesAV gt) tg), (14, .int .i64 i)])
    (fun σ _ => match σ.get 12 with | .msl _ _ n _ => n | _ => 0)
    (fun ex σ H1 => ex = .exit 0 ∧ ∃ (out gt : List UInt8) (tg : Tok), EX p ⟨(wrP s).2, k, out, false⟩ H1 ((z, .cells (bytesAV s)) :: tokH tg) ∧ GT (bytesAV gt) tg ∧ gt ++ out = fo s ∧ σ.get 8 = .ptr p 0 ∧ σ.get 10 = .str want ∧ σ.get 13 = .sl (bytesAV gt) tg)
    ⟨_, .refl _, 0, 0, [], [], .at g 0 1, by omega, by omega, ?_, rfl, ?_, rfl⟩ ?_ ?_
  · rw [List.take_zero, wrP_stop (.inl rfl)]
    have h1 := (hE.push (o := .cells (bytesAV s)) hz).push (o := .spare 0) hg
    exact h1.permR (List.Perm.swap _ _ _)
  · rw [List.take_zero, hfo]; simp only; rw [wrP_stop (.inl rfl)]; rfl
  · rintro ex σ H2 ⟨rfl, out, gt, tg, hE2, hg2, heq, h8, h10, h13⟩
    simp (implicitDefEqProofs := false) only [sB, simprocAttr, h8, h10, h13]
    have hlen := congrArg List.length heq
    have hfo1 := hfl s
    rw [List.length_append] at hlen
    have hw3 := wr_held s
    have hd9 : ((decP (wrP s).2).flatMap (runeP k)).length ≤ 9 * (wrP s).2.length := escP_9 k _ (wrP s).2 (Nat.le_refl _)
    refine .inr ⟨p, _, _, rfl, hE2, fun h => (by cases h), fun _ => ⟨by show (wrP s).2.length ≤ _; omega, by show out.length ≤ _; omega, e0, e4, fun H3 hE3 => ?_⟩⟩
    simp only at hE3
    generalize (decP (wrP s).2).flatMap (runeP k) = last at *
    simp (implicitDefEqProofs := false) only [sB, simprocAttr, h8]
    refine .inr ⟨p, _, _, rfl, hE3, fun _ => ?_, fun h => (by cases h)⟩
    simp (implicitDefEqProofs := false) only [sB, simprocAttr, h8]
    refine i_new fun w hw => ?_
    simp (implicitDefEqProofs := false) only [sB, simprocAttr]
    have hE4 := hE3.push (o := .spare 1) hw
    refine .inr ⟨p, _, _, [120], _, rfl, hE4, .sl [120] _, fun _ => ?_, fun h => (by cases h)⟩
    simp (implicitDefEqProofs := false) only [sB, simprocAttr, h8, h13]
    refine x_c27 hE4 ?_
    simp (implicitDefEqProofs := false) only [sB, simprocAttr]
    refine .inr ⟨p, _, _, _, rfl, hE4, by show (out ++ last).length ≤ _; rw [List.length_append]; omega, fun t4 H4 hE5 => ?_⟩
    have hmn : min ((((out ++ last).length : Nat) : Int)).toNat (out ++ last).length = (out ++ last).length := by omega
    have hmn2 : min ((((out.length + last.length : Nat)) : Int)).toNat (out ++ last).length = (out ++ last).length := by rw [List.length_append]; omega
    simp only [hmn, hmn2, List.drop_length] at hE5
    rw [show List.take (min ((((out.length + last.length : Nat)) : Int)).toNat (ES.mk [] k (out ++ last) true).out.length) (ES.mk [] k (out ++ last) true).out = out ++ last from by simp only; rw [hmn2, List.take_length]]
    obtain ⟨hn4, u1, u2, gg, hp4⟩ := hE5
    simp (implicitDefEqProofs := false) only [sB, simprocAttr]
    refine i_app (A := (p, eC [] k [] true u1 u2) :: (tokH u2 ++ [(w, .spare 1), (z, .cells (bytesAV s))])) (R := []) (tk := tg) (xs := bytesAV gt) (ys := bytesAV (out ++ last)) (hp4.trans (.of_eq (by simp))) hn4 hg2 (.inl ⟨_, rfl⟩) (allSz_bytes _) (allSz_bytes _) ?_ ?_ fun tg' H5 q1 q2 q3 => ?_
    · simp only [by_len, List.length_append, maxLen_eq]; omega
    · simp only [by_len, List.length_append]; omega
    rw [by_app] at q1 ⊢
    have hall : gt ++ (out ++ last) = want := by rw [hwant, ← heq, List.append_assoc]
    rw [hall]
    have hE6 : EX p ⟨[], k, [], true⟩ H5 ((w, .spare 1) :: (z, .cells (bytesAV s)) :: tokH tg') := ⟨q3, u1, u2, gg, q2.trans (.of_eq (by simp))⟩
    simp (implicitDefEqProofs := false) only [sB, simprocAttr, h8, h10]
    refine alive _ _ hE6.1 ?_
    simp (implicitDefEqProofs := false) only [sB, simprocAttr, h8, h10]
    refine x_c28 hE6 ?_
    simp (implicitDefEqProofs := false) only [sB, simprocAttr, h10, by_of]
    exact hK _
  · rintro Q hQ σ H2 ⟨o, i, out, gt, tg, ho, hi, hE2, hg2, heq, rfl⟩
    by_cases ci : o < s.length
    · have ci' : (0 : Int) < ((s.length - o : Nat) : Int) := by omega
      have hpl : 0 < ps.length := by omega
      have him : i % ps.length < ps.length := Nat.mod_lt _ hpl
      have tm : ((i : Nat) : Int).tmod (ps.length : Int) = ((i % ps.length : Nat) : Int) := by rw [Int.tmod_eq_emod_of_nonneg (by omega)]; omega
      have wm := w_i64 ((i % ps.length : Nat) : Int) (by omega) (by omega)
      have lm : ((i % ps.length : Nat) : Int) < (ps.length : Int) := by omega
      have lz : (0 : Int) ≤ ((i % ps.length : Nat) : Int) := by omega
      have hgi : ps[i % ps.length]? = some ps[i % ps.length] := List.getElem?_eq_getElem him
      generalize ps[i % ps.length] = b at *
      have b1 : byteAV b = .int .u8 (b.toNat : Nat) := rfl
      have hb := b.toNat_lt
      have wb := w_i64 ((b.toNat : Nat) : Int) (by omega) (by omega)
      have tb : ((b.toNat : Nat) : Int).tmod 5 = ((b.toNat % 5 : Nat) : Int) := by rw [Int.tmod_eq_emod_of_nonneg (by omega)]; omega
      have wb5 := w_i64 ((b.toNat % 5 : Nat) : Int) (by omega) (by omega)
      have wb6 := w_i64 (1 + ((b.toNat % 5 : Nat) : Int)) (by omega) (by omega)
      simp (implicitDefEqProofs := false) only [sB, simprocAttr, ci', by_len, cz', tm, wm, lm, lz, hgi, Option.map_some, b1, wb, tb, wb5, wb6]
      obtain ⟨N, hN⟩ : ∃ N : Nat, N = min (1 + b.toNat % 5) (s.length - o) := ⟨_, rfl⟩
      have hmin : (if (1 : Int) + ((b.toNat % 5 : Nat) : Int) < ((s.length - o : Nat) : Int) then 1 + ((b.toNat % 5 : Nat) : Int) else ((s.length - o : Nat) : Int)) = ((N : Nat) : Int) := by split <;> omega
      have hNp : 1 ≤ N := by omega
      have hNo : o + N ≤ s.length := by omega
      rw [hmin]
      have hbl : ((s.drop o).take N).length = N := by rw [List.length_take, List.length_drop]; omega
      have hbs : BSrc H2 (.msl z o N 1) ((s.drop o).take N) := by
        have := BSrc.msl z o (bytesAV s) ((s.drop o).take N) (hE2.lookR (by simp [lookH])) (by rw [hbl, by_len]; exact hNo) (by rw [hbl, by_drop, by_take])
        rwa [hbl] at this
      have hlen := congrArg List.length heq
      have hfo1 := hfl (s.take o)
      rw [List.length_take] at hfo1
      rw [List.length_append] at hlen
      have hw3 := wr_held (s.take o)
      have htake : s.take (o + N) = s.take o ++ (s.drop o).take N := List.take_add
      have hst := hstep (s.take o) ((s.drop o).take N)
      have hw2 := (wr_app ((s.drop o).take N) _ (s.take o) (Nat.le_refl _)).2
      rw [← htake] at hst hw2
      have hfo2 := hfl (s.take (o + N))
      have hlen2 := congrArg List.length hst
      rw [List.length_append] at hlen2
      rw [List.length_take] at hfo2
      refine ⟨⟨by omega, by omega⟩, .inr ⟨p, _, _, (s.drop o).take N, _, rfl, hE2, by rw [Int.toNat_natCast]; exact hbs, fun h => (by cases h), fun _ => ⟨by show (wrP (s.take o)).2.length + _ ≤ _; omega, by show out.length ≤ _; omega, e0, e4, fun H3 hE3 => ?_⟩⟩⟩
      rw [← hw2] at hE3
      simp only at hE3
      generalize (wrP ((wrP (s.take o)).2 ++ (s.drop o).take N)).1.flatMap (runeP k) = new at *
      simp (implicitDefEqProofs := false) only [sB, simprocAttr]
      refine x_c28 hE3 ?_
      have nz : (0 : Int) ≤ (N : Int) := by omega
      have nl : (N : Int) ≤ ((s.length - o : Nat) : Int) := by omega
      have td : ((b.toNat : Nat) : Int).tdiv 5 = ((b.toNat / 5 : Nat) : Int) := by rw [Int.tdiv_eq_ediv_of_nonneg (by omega)]; omega
      have wd := w_i64 ((b.toNat / 5 : Nat) : Int) (by omega) (by omega)
      have r9 := w_i64 ((i : Int) + 1) (by omega) (by omega)
      simp (implicitDefEqProofs := false) only [sB, simprocAttr, hmin, nz, nl, td, wd]
      refine .inr ⟨p, _, _, _, rfl, hE3, by show (out ++ new).length ≤ _; rw [List.length_append]; omega, fun t4 H4 hE4 => ?_⟩
      simp only [Int.toNat_natCast] at hE4
      obtain ⟨m, hm9⟩ : ∃ m, m = min (b.toNat / 5) (out ++ new).length := ⟨_, rfl⟩
      rw [← hm9] at hE4
      rw [Int.toNat_natCast]
      rw [← hm9]
      obtain ⟨hn4, u1, u2, gg, hp4⟩ := hE4
      simp (implicitDefEqProofs := false) only [sB, simprocAttr]
      refine i_app (A := (p, eC (wrP (s.take (o + N))).2 k ((out ++ new).drop m) false u1 u2) :: (tokH u2 ++ [(z, .cells (bytesAV s))])) (R := []) (tk := tg) (xs := bytesAV gt) (ys := bytesAV ((out ++ new).take m)) (hp4.trans (.of_eq (by simp))) hn4 hg2 (.inl ⟨_, rfl⟩) (allSz_bytes _) (allSz_bytes _) ?_ ?_ fun tg' H5 q1 q2 q3 => ?_
      · simp only [by_len, List.length_take, List.length_append, maxLen_eq]; omega
      · simp only [by_len, List.length_take, List.length_append]; omega
      rw [by_app] at q1 ⊢
      simp (implicitDefEqProofs := false) only [sB, simprocAttr, r9]
      refine ⟨_, .refl _, ⟨o + N, i + 1, (out ++ new).drop m, gt ++ (out ++ new).take m, tg', hNo, by omega, ⟨q3, u1, u2, gg, q2.trans (.of_eq (by simp))⟩, q1, by rw [List.append_assoc, List.take_append_drop, hst, ← heq, List.append_assoc], ?_⟩, ?_⟩
      · exact ⟨by rw [Nat.sub_sub], rfl, by simp⟩
      · omega
    · have ci' : ¬ (0 : Int) < ((s.length - o : Nat) : Int) := by omega
      obtain rfl : o = s.length := by omega
      rw [List.take_of_length_le (Nat.le_refl _)] at hE2 heq
      simp (implicitDefEqProofs := false) only [sB, simprocAttr, ci']
      exact hQ _ _ _ ⟨rfl, out, gt, tg, hE2, hg2, heq, rfl, rfl, rfl⟩
end Go.AL.Fun
