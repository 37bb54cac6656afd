/- The reference's lexer walked: paths, directives. -/
import Derived.Test.YthphaolkihageaaM2
set_option linter.unusedSimpArgs false
set_option linter.unusedVariables false
set_option maxRecDepth 100000
set_option maxHeartbeats 4000000
namespace Go.AL.Fun
open Go Go.AL

theorem y_c66 {s : List UInt8} (h : s.length ≤ 1099511627776) (H : Heap) (K : Kv) : c48 [.str s] H K = K.ap (.bool (nameB s)) H := by
  simp only [c48, List.cons.injEq, AV.str.injEq, and_true]
  exact propext ⟨fun ⟨x, e, _, k⟩ => e ▸ k, fun k => ⟨s, rfl, h, k⟩⟩
/-- What splitting a path answers. -/
def splitL (p : List UInt8) : List (List UInt8) := (splitR p).getD []
def splitE (p : List UInt8) : Int := if (splitR p).isSome = true then 0 else 11
theorem splitE0 (p : List UInt8) : decide (splitE p = 0) = (splitR p).isSome := by unfold splitE; cases (splitR p).isSome <;> rfl
def c49 (xs : List AV) (H : Heap) (K : Kv) : Prop := ∃ s, xs = [.str s] ∧ H.keys.Nodup ∧ s.length ≤ 1099511627776 ∧ K.ap (.tup [.sl (strsAV (splitL s)) (tokc (splitL s)), .int .i64 (splitE s)]) H
theorem x_c49 {s : List UInt8} {H : Heap} (hn : H.keys.Nodup) (h : s.length ≤ 1099511627776) (K : Kv) (k : K.ap (.tup [.sl (strsAV (splitL s)) (tokc (splitL s)), .int .i64 (splitE s)]) H) : c49 [.str s] H K := ⟨s, rfl, hn, h, k⟩
@[reducible] def t66 (P : Program) : Th := ⟨fun _ => none, P, [(48, c48)]⟩
theorem c49_of (P : Program) {xs : List AV} {H : Heap} {K : Kv} (h : c49 xs H K) : @xF (t66 P) f49 xs H ⟨fun v H' => ∃ H0, Hle H0 H' ∧ ∃ v', AVle v v' ∧ K.ap v' H0⟩ := by
  obtain ⟨s, rfl, hn, hs, h⟩ := h
  by_cases e0 : s = []
  · subst e0
    simp (implicitDefEqProofs := false) only [sB, simprocAttr, f49]
    exact ⟨H, .refl _, _, .refl _, h⟩
  simp (implicitDefEqProofs := false) only [sB, simprocAttr, f49, e0]
  have hsp : splitR s = splitG s [] [] := by unfold splitR; rw [if_neg e0]
  refine i_loopJ (fun σ H1 => ∃ (i fr : Nat) (ws : List (List UInt8)) (tk : Tok), H1.Perm (tokH tk ++ H) ∧ H1.keys.Nodup ∧ GC 1 (strsAV ws) tk ∧ ws.length ≤ i ∧ i ≤ s.length + 1 ∧ fr ≤ i ∧
      (i ≤ s.length → splitG (s.drop i) ((s.take i).drop fr) ws = splitR s) ∧ (s.length < i → some ws = splitR s) ∧ σ = [(0, .str s), (4, .sl (strsAV ws) tk), (5, .int .i64 fr), (6, .int .i64 i)])
    (fun σ _ => match σ.get 6 with | .int _ n => s.length + 1 - n.toNat | _ => 0)
    (fun e σ H1 => (e = .exit 0 ∧ ∃ tk ws, H1.Perm (tokH tk ++ H) ∧ GC 1 (strsAV ws) tk ∧ splitR s = some ws ∧ σ.get 4 = .sl (strsAV ws) tk) ∨ (e = .ret ∧ Hle H H1 ∧ σ.get 2 = .sl [] .nil ∧ σ.get 3 = .int .i64 11 ∧ splitR s = none))
    ⟨_, .refl _, 0, 0, [], .nil, .refl _, hn, rfl, by simp, by omega, by omega, fun _ => by rw [hsp]; simp, fun a => by omega, rfl⟩ ?_ ?_
  · rintro e σ H1 (⟨rfl, tk, ws, hp, hg, e1, q⟩ | ⟨rfl, hl, q2, q3, e1⟩)
    · simp (implicitDefEqProofs := false) only [sB, simprocAttr, q]
      refine ⟨H, hle_tok hp, _, AVle.tup (.cons (AVle.tok hg) (.refl _)), ?_⟩
      simp only [splitL, splitE, e1] at h
      rw [strs_tok]; exact h
    · simp (implicitDefEqProofs := false) only [sB, simprocAttr, q2, q3]
      refine ⟨H, hl, _, .refl _, ?_⟩
      simp only [splitL, splitE, e1] at h
      exact h
  · rintro Q hQ σ H1 ⟨i, fr, ws, tk, hp, hn1, hg, hl, hi, hf, hr1, hr2, rfl⟩
    simp (implicitDefEqProofs := false) only [sB, simprocAttr]
    refine i_if (fun d => ?_) (fun d => ?_)
    · have d' : i ≤ s.length := by simpa using d
      have r9 := w_i64 ((i : Int) + 1) (by omega) (by omega)
      have i0 : (0 : Int) ≤ (i : Int) := by omega
      have f0 : (0 : Int) ≤ (fr : Int) := by omega
      have f1 : (fr : Int) ≤ (i : Int) := by omega
      have i1 : (i : Int) ≤ (s.length : Int) := by omega
      have hr := hr1 d'
      have yn := fun (H' : Heap) (K' : Kv) => y_c66 (s := (s.take i).drop fr) (by simp; omega) H' K'
      by_cases e1 : i = s.length ∨ ∃ h : i < s.length, n8 s[i] = 46
      · have hnext : splitG (s.drop i) ((s.take i).drop fr) ws = if nameB ((s.take i).drop fr) = false ∨ ws.length = 8 then none else if i < s.length then splitG (s.drop (i + 1)) [] (ws ++ [(s.take i).drop fr]) else some (ws ++ [(s.take i).drop fr]) := by
          rcases e1 with e1 | ⟨h1, h2⟩
          · subst e1
            rw [List.drop_length, splitG, if_neg (Nat.lt_irrefl _)]
          · rw [List.drop_eq_getElem_cons h1, splitG, if_pos h2, if_pos h1]
        by_cases bad : nameB ((s.take i).drop fr) = false ∨ ws.length = 8
        · have hnone : splitR s = none := by rw [← hr, hnext, if_pos bad]
          have hl1 : Hle H H1 := hle_tok hp
          by_cases e2 : i = s.length
          · have e3 := eq_true (show (i : Int) = (s.length : Int) by omega)
            by_cases b1 : nameB ((s.take i).drop fr) = true
            · have b2 := eq_true (show (ws.length : Int) = 8 by rcases bad with b | b; (rw [b1] at b; cases b); omega)
              simp (implicitDefEqProofs := false) only [sB, simprocAttr, e3, i0, f0, f1, i1, yn, b1, strs_len, b2]
              exact hQ _ _ _ (.inr ⟨rfl, hl1, rfl, rfl, hnone⟩)
            · simp (implicitDefEqProofs := false) only [sB, simprocAttr, e3, i0, f0, f1, i1, yn, b1, strs_len]
              exact hQ _ _ _ (.inr ⟨rfl, hl1, rfl, rfl, hnone⟩)
          · have e3 := eq_false (show ¬ (i : Int) = (s.length : Int) by omega)
            have h1 : i < s.length := by omega
            have hx : s[i]? = some s[i] := List.getElem?_eq_getElem h1
            have h32 : n8 s[i] = 46 := by rcases e1 with e1 | ⟨_, h⟩; exact absurd e1 e2; exact h
            by_cases b1 : nameB ((s.take i).drop fr) = true
            · have b2 := eq_true (show (ws.length : Int) = 8 by rcases bad with b | b; (rw [b1] at b; cases b); omega)
              simp (implicitDefEqProofs := false) only [sB, simprocAttr, e3, i0, f0, f1, i1, yn, b1, strs_len, b2, hx, byteAV_n8, h32]
              exact hQ _ _ _ (.inr ⟨rfl, hl1, rfl, rfl, hnone⟩)
            · simp (implicitDefEqProofs := false) only [sB, simprocAttr, e3, i0, f0, f1, i1, yn, b1, strs_len, hx, byteAV_n8, h32]
              exact hQ _ _ _ (.inr ⟨rfl, hl1, rfl, rfl, hnone⟩)
        · rw [not_or] at bad
          have b1 : nameB ((s.take i).drop fr) = true := by simpa using bad.1
          have b2 := eq_false (show ¬ (ws.length : Int) = 8 by have := bad.2; omega)
          have fin : ((ws ++ [(s.take i).drop fr]).length ≤ i + 1) ∧ (i + 1 ≤ s.length → splitG (s.drop (i + 1)) ((s.take (i + 1)).drop (i + 1)) (ws ++ [(s.take i).drop fr]) = splitR s) ∧ (s.length < i + 1 → some (ws ++ [(s.take i).drop fr]) = splitR s) := by
            rw [hnext, if_neg (by rw [not_or]; exact bad)] at hr
            refine ⟨by simp; omega, fun a => ?_, fun a => ?_⟩
            · rw [if_pos (show i < s.length by omega)] at hr
              rw [(cut_nil a).2 (Nat.le_refl _), hr]
            · rw [if_neg (show ¬ i < s.length by omega)] at hr
              exact hr
          have app : ∀ (t : Th) (K' : Kv), (∀ tk' H', GC 1 (strsAV (ws ++ [(s.take i).drop fr])) tk' → Hle (tokH tk' ++ H) H' → (tokH tk' ++ H).keys.Nodup → K'.ap (.sl (strsAV (ws ++ [(s.take i).drop fr])) tk') H') →
              ∀ z, z ∉ H1.keys → xE (t := t) (.app 1 16) [.sl (strsAV ws) tk, .sl [.str ((s.take i).drop fr)] (.at z 1 1)] ((z, .spare 1) :: H1) (K := K') := by
            intro t K' hK z hz
            refine i_appC (by decide) (A := [(z, .spare 1)]) (R := H) (tk := tk) (xs := strsAV ws) (ys := strsAV [(s.take i).drop fr]) (hp.cons _) (List.nodup_cons.2 ⟨hz, hn1⟩) hg (src_sl_of _ _ (strs_all _)) (strs_all _) ?_ ?_ fun tk' H' g1 g2 g3 => ?_
            · simp only [strs_len, List.length_cons, List.length_nil, maxLen_eq]; omega
            · simp only [strs_len, List.length_cons, List.length_nil]; omega
            · have es : strsAV ws ++ strsAV [(s.take i).drop fr] = strsAV (ws ++ [(s.take i).drop fr]) := by simp [strsAV]
              rw [es] at g1 ⊢
              exact hK tk' H' g1 (hle_sub g2 (List.sublist_cons_self _ _)) (nodup_sub g2 (List.sublist_cons_self _ _) g3)
          by_cases e2 : i = s.length
          · have e3 := eq_true (show (i : Int) = (s.length : Int) by omega)
            simp (implicitDefEqProofs := false) only [sB, simprocAttr, e3, i0, f0, f1, i1, yn, b1, strs_len, b2]
            refine i_sl ⟨⟨strs_all [(s.take i).drop fr], rfl, rfl⟩, i_new fun z hz => ?_⟩
            simp (implicitDefEqProofs := false) only [sB, simprocAttr]
            refine app _ _ (fun tk' H' g1 g2 g3 => ?_) z hz
            simp (implicitDefEqProofs := false) only [sB, simprocAttr, r9]
            exact ⟨_, g2, ⟨i + 1, i + 1, _, tk', .refl _, g3, g1, fin.1, by omega, by omega, fin.2.1, fin.2.2, by simp⟩, by omega⟩
          · have e3 := eq_false (show ¬ (i : Int) = (s.length : Int) by omega)
            have h1 : i < s.length := by omega
            have hx : s[i]? = some s[i] := List.getElem?_eq_getElem h1
            have h32 : n8 s[i] = 46 := by rcases e1 with e1 | ⟨_, h⟩; exact absurd e1 e2; exact h
            simp (implicitDefEqProofs := false) only [sB, simprocAttr, e3, i0, f0, f1, i1, hx, byteAV_n8, h32, yn, b1, strs_len, b2]
            refine i_sl ⟨⟨strs_all [(s.take i).drop fr], rfl, rfl⟩, i_new fun z hz => ?_⟩
            simp (implicitDefEqProofs := false) only [sB, simprocAttr]
            refine app _ _ (fun tk' H' g1 g2 g3 => ?_) z hz
            simp (implicitDefEqProofs := false) only [sB, simprocAttr, r9]
            exact ⟨_, g2, ⟨i + 1, i + 1, _, tk', .refl _, g3, g1, fin.1, by omega, by omega, fin.2.1, fin.2.2, by simp⟩, by omega⟩
      · have h1 : i < s.length := by
          rcases Nat.lt_or_ge i s.length with h | h
          · exact h
          · exact absurd (.inl (by omega)) e1
        have e3 := eq_false (show ¬ (i : Int) = (s.length : Int) by omega)
        have hx : s[i]? = some s[i] := List.getElem?_eq_getElem h1
        have h32 : ¬ n8 s[i] = 46 := fun h => e1 (.inr ⟨h1, h⟩)
        simp (implicitDefEqProofs := false) only [sB, simprocAttr, e3, r9, i0, hx, byteAV_n8, h32]
        refine ⟨_, .refl _, ⟨i + 1, fr, ws, tk, hp, hn1, hg, by omega, by omega, by omega, fun _ => ?_, fun a => by omega, by simp⟩, by omega⟩
        rw [List.drop_eq_getElem_cons h1, splitG, if_neg h32] at hr
        rw [cut_snoc h1 hf]; exact hr
    · have d' : s.length < i := by have : ¬ (i : Int) ≤ s.length := by simpa using d
                                   omega
      simp (implicitDefEqProofs := false) only [sB, simprocAttr]
      exact hQ _ _ _ (.inl ⟨rfl, tk, ws, hp, hg, (hr2 d').symm, rfl⟩)

theorem strs_cons (a : List UInt8) (l : List (List UInt8)) : strsAV (a :: l) = .str a :: strsAV l := rfl
theorem strs_take (l : List (List UInt8)) : (strsAV l).take l.length = strsAV l := by rw [← strs_len l, List.take_length]
theorem strs_nil : strsAV [] = [] := rfl
def tkAV (t : Tk) : AV := .agg [.int .i64 t.kind, .int .i64 t.at_, .str t.s, .str t.path, .bool t.has]
def c33 (xs : List AV) (H : Heap) (K : Kv) : Prop := ∃ (ws : List (List UInt8)) (tok : Tok), xs = [.sl (strsAV ws) tok] ∧ H.keys.Nodup ∧ (∀ w ∈ ws, w ≠ [] ∧ w.length ≤ 1099511627776) ∧ K.ap (.tup [tkAV (formR ws).1, .bool (formR ws).2.1, .bool (formR ws).2.2]) H
theorem x_c33 {ws : List (List UInt8)} {tok : Tok} {H : Heap} (hn : H.keys.Nodup) (h : ∀ w ∈ ws, w ≠ [] ∧ w.length ≤ 1099511627776) (K : Kv) (k : K.ap (.tup [tkAV (formR ws).1, .bool (formR ws).2.1, .bool (formR ws).2.2]) H) : c33 [.sl (strsAV ws) tok] H K := ⟨ws, tok, rfl, hn, h, k⟩
@[reducible] def t61 (P : Program) : Th := ⟨fun _ => none, P, [(47, c47), (48, c48), (49, c49)]⟩
theorem c33_of (P : Program) {xs : List AV} {H : Heap} {K : Kv} (h : c33 xs H K) : @xF (t61 P) f33 xs H ⟨fun v H' => ∃ H0, Hle H0 H' ∧ K.ap v H0⟩ := by
  obtain ⟨ws, tok, rfl, hn, hw, h⟩ := h
  have hle2 : ∀ {x y : Nat × AObj}, Hle H (x :: y :: H) := fun {x y} => .of_sub (.cons _ (.cons _ (.refl _)))
  rcases ws with _ | ⟨w0, r⟩
  · simp (implicitDefEqProofs := false) only [sB, simprocAttr, f33, strsAV]
    refine i_new fun p hp => ?_
    simp (implicitDefEqProofs := false) only [sB, simprocAttr]
    refine i_new fun q hq => ?_
    have hpq : ¬ p = q := fun e => by subst e; simp [Heap.keys] at hq
    have hqp : ¬ q = p := fun e => hpq e.symm
    simp (implicitDefEqProofs := false) only [sB, simprocAttr, hpq, hqp]
    exact ⟨H, hle2, h⟩
  · have ⟨w0n, w0l⟩ := hw w0 List.mem_cons_self
    have wd : (1 : Int) ≤ (w0.length : Int) := by have := List.length_pos_iff.2 w0n; omega
    have wl1 : (w0.drop 1).length ≤ 1099511627776 := by rw [List.length_drop]; omega
    rcases r with _ | ⟨a, r⟩
    · simp (implicitDefEqProofs := false) only [sB, simprocAttr, f33, strs_cons, strs_nil, strs_len, y_c65 w0n, wd, splitE0]
      refine i_new fun p hp => ?_
      simp (implicitDefEqProofs := false) only [sB, simprocAttr]
      refine i_new fun q hq => ?_
      have hpq : ¬ p = q := fun e => by subst e; simp [Heap.keys] at hq
      have hqp : ¬ q = p := fun e => hpq e.symm
      have hn2 : (Heap.keys ((q, AObj.cells [.int .i64 0, .int .i64 0, .str [], .str [], .bool false]) :: (p, .cells [.int .i64 0, .int .i64 0, .str [], .str [], .bool false]) :: H)).Nodup := List.nodup_cons.2 ⟨hq, List.nodup_cons.2 ⟨hp, hn⟩⟩
      simp (implicitDefEqProofs := false) only [sB, simprocAttr, hpq, hqp, strs_cons, strs_nil, strs_len, y_c65 w0n, wd, splitE0]
      all_goals repeat' first
        | (refine ⟨H, hle2, ?_⟩; simpa [formR, kwd, formN, formQ, tkAV, *] using h; done)
        | (refine x_c49 (by exact hn2) wl1 _ ?_; simp (implicitDefEqProofs := false) only [sB, simprocAttr, hpq, hqp, strs_cons, strs_nil, strs_len, y_c65 w0n, wd, splitE0, *])
        | (refine i_if ?_ ?_ <;> intro hh <;> (try simp only [beq_true, beq_false, Bool.not_eq_true', Bool.not_eq_false', Bool.not_not, decide_eq_true_eq, decide_eq_false_iff_not, beq_iff_eq, bne_iff_ne, Bool.not_eq_true, Bool.not_eq_false, ne_eq, Bool.true_eq, Bool.false_eq] at hh) <;> (try exact absurd hh (by decide)) <;> (try simp (implicitDefEqProofs := false) only [sB, simprocAttr, hpq, hqp, strs_cons, strs_nil, strs_len, y_c65 w0n, wd, splitE0, *]))
    · have ⟨an, al⟩ := hw a (List.mem_cons_of_mem _ List.mem_cons_self)
      have ad : (1 : Int) ≤ (a.length : Int) := by have := List.length_pos_iff.2 an; omega
      have al1 : (a.drop 1).length ≤ 1099511627776 := by rw [List.length_drop]; omega
      rcases r with _ | ⟨b, r⟩
      · simp (implicitDefEqProofs := false) only [sB, simprocAttr, f33, strs_cons, strs_nil, strs_len, y_c65 w0n, y_c65 an, y_c66 al, wd, ad, splitE0]
        refine i_new fun p hp => ?_
        simp (implicitDefEqProofs := false) only [sB, simprocAttr]
        refine i_new fun q hq => ?_
        have hpq : ¬ p = q := fun e => by subst e; simp [Heap.keys] at hq
        have hqp : ¬ q = p := fun e => hpq e.symm
        have hn2 : (Heap.keys ((q, AObj.cells [.int .i64 0, .int .i64 0, .str [], .str [], .bool false]) :: (p, .cells [.int .i64 0, .int .i64 0, .str [], .str [], .bool false]) :: H)).Nodup := List.nodup_cons.2 ⟨hq, List.nodup_cons.2 ⟨hp, hn⟩⟩
        simp (implicitDefEqProofs := false) only [sB, simprocAttr, hpq, hqp, strs_cons, strs_nil, strs_len, y_c65 w0n, y_c65 an, y_c66 al, wd, ad, splitE0]
        all_goals repeat' first
          | (refine ⟨H, hle2, ?_⟩; simpa [formR, kwd, formN, formQ, tkAV, *] using h; done)
          | (refine x_c49 (by exact hn2) (by first | exact wl1 | exact al1) _ ?_; simp (implicitDefEqProofs := false) only [sB, simprocAttr, hpq, hqp, strs_cons, strs_nil, strs_len, y_c65 w0n, y_c65 an, y_c66 al, wd, ad, splitE0, *])
          | (refine i_if ?_ ?_ <;> intro hh <;> (try simp only [beq_true, beq_false, Bool.not_eq_true', Bool.not_eq_false', Bool.not_not, decide_eq_true_eq, decide_eq_false_iff_not, beq_iff_eq, bne_iff_ne, Bool.not_eq_true, Bool.not_eq_false, ne_eq, Bool.true_eq, Bool.false_eq] at hh) <;> (try exact absurd hh (by decide)) <;> (try simp (implicitDefEqProofs := false) only [sB, simprocAttr, hpq, hqp, strs_cons, strs_nil, strs_len, y_c65 w0n, y_c65 an, y_c66 al, wd, ad, splitE0, *]))
      · have ⟨bn, bl⟩ := hw b (List.mem_cons_of_mem _ (List.mem_cons_of_mem _ List.mem_cons_self))
        have bd : (1 : Int) ≤ (b.length : Int) := by have := List.length_pos_iff.2 bn; omega
        have bl1 : (b.drop 1).length ≤ 1099511627776 := by rw [List.length_drop]; omega
        rcases r with _ | ⟨c, r⟩
        · simp (implicitDefEqProofs := false) only [sB, simprocAttr, f33, strs_cons, strs_nil, strs_len, y_c65 w0n, y_c65 an, y_c65 bn, y_c66 al, wd, ad, bd, splitE0]
          refine i_new fun p hp => ?_
          simp (implicitDefEqProofs := false) only [sB, simprocAttr]
          refine i_new fun q hq => ?_
          have hpq : ¬ p = q := fun e => by subst e; simp [Heap.keys] at hq
          have hqp : ¬ q = p := fun e => hpq e.symm
          have hn2 : (Heap.keys ((q, AObj.cells [.int .i64 0, .int .i64 0, .str [], .str [], .bool false]) :: (p, .cells [.int .i64 0, .int .i64 0, .str [], .str [], .bool false]) :: H)).Nodup := List.nodup_cons.2 ⟨hq, List.nodup_cons.2 ⟨hp, hn⟩⟩
          simp (implicitDefEqProofs := false) only [sB, simprocAttr, hpq, hqp, strs_cons, strs_nil, strs_len, y_c65 w0n, y_c65 an, y_c65 bn, y_c66 al, wd, ad, bd, splitE0]
          all_goals repeat' first
            | (refine ⟨H, hle2, ?_⟩; simpa [formR, kwd, formN, formQ, tkAV, *] using h; done)
            | (refine x_c49 (by exact hn2) (by first | exact wl1 | exact al1 | exact bl1) _ ?_; simp (implicitDefEqProofs := false) only [sB, simprocAttr, hpq, hqp, strs_cons, strs_nil, strs_len, y_c65 w0n, y_c65 an, y_c65 bn, y_c66 al, wd, ad, bd, splitE0, *])
            | (refine i_if ?_ ?_ <;> intro hh <;> (try simp only [beq_true, beq_false, Bool.not_eq_true', Bool.not_eq_false', Bool.not_not, decide_eq_true_eq, decide_eq_false_iff_not, beq_iff_eq, bne_iff_ne, Bool.not_eq_true, Bool.not_eq_false, ne_eq, Bool.true_eq, Bool.false_eq] at hh) <;> (try exact absurd hh (by decide)) <;> (try simp (implicitDefEqProofs := false) only [sB, simprocAttr, hpq, hqp, strs_cons, strs_nil, strs_len, y_c65 w0n, y_c65 an, y_c65 bn, y_c66 al, wd, ad, bd, splitE0, *]))
        · have z1 : ¬ ((r.length + 1 : Nat) : Int) = 0 := by omega
          have z2 : ¬ ((r.length + 1 + 1 : Nat) : Int) = 0 := by omega
          have z3 : ¬ ((r.length + 1 + 1 + 1 : Nat) : Int) = 0 := by omega
          have z4 : ¬ ((r.length + 1 + 1 + 1 + 1 : Nat) : Int) = 0 := by omega
          have o1 : (1 : Int) ≤ ((r.length + 1 : Nat) : Int) := by omega
          have o2 : (1 : Int) ≤ ((r.length + 1 + 1 : Nat) : Int) := by omega
          have o3 : (1 : Int) ≤ ((r.length + 1 + 1 + 1 : Nat) : Int) := by omega
          have o4 : (1 : Int) ≤ ((r.length + 1 + 1 + 1 + 1 : Nat) : Int) := by omega
          have p1 : (0 : Int) < ((r.length + 1 : Nat) : Int) := by omega
          have p2 : (0 : Int) < ((r.length + 1 + 1 : Nat) : Int) := by omega
          have p3 : (0 : Int) < ((r.length + 1 + 1 + 1 : Nat) : Int) := by omega
          have p4 : (0 : Int) < ((r.length + 1 + 1 + 1 + 1 : Nat) : Int) := by omega
          simp (implicitDefEqProofs := false) only [sB, simprocAttr, f33, strs_cons, strs_nil, strs_len, strs_take, strs_all, z1, z2, z3, z4, o1, o2, o3, o4, p1, p2, p3, p4, y_c65 w0n, y_c65 an, y_c65 bn, y_c66 al, wd, ad, bd, splitE0]
          refine i_new fun p hp => ?_
          simp (implicitDefEqProofs := false) only [sB, simprocAttr]
          refine i_new fun q hq => ?_
          have hpq : ¬ p = q := fun e => by subst e; simp [Heap.keys] at hq
          have hqp : ¬ q = p := fun e => hpq e.symm
          have hn2 : (Heap.keys ((q, AObj.cells [.int .i64 0, .int .i64 0, .str [], .str [], .bool false]) :: (p, .cells [.int .i64 0, .int .i64 0, .str [], .str [], .bool false]) :: H)).Nodup := List.nodup_cons.2 ⟨hq, List.nodup_cons.2 ⟨hp, hn⟩⟩
          simp (implicitDefEqProofs := false) only [sB, simprocAttr, hpq, hqp, strs_cons, strs_nil, strs_len, strs_take, strs_all, z1, z2, z3, z4, o1, o2, o3, o4, p1, p2, p3, p4, y_c65 w0n, y_c65 an, y_c65 bn, y_c66 al, wd, ad, bd, splitE0]
          all_goals repeat' first
            | (refine ⟨H, hle2, ?_⟩; simpa [formR, kwd, formN, formQ, tkAV, *] using h; done)
            | (refine x_c49 (by exact hn2) (by first | exact wl1 | exact al1 | exact bl1) _ ?_; simp (implicitDefEqProofs := false) only [sB, simprocAttr, hpq, hqp, strs_cons, strs_nil, strs_len, strs_take, strs_all, z1, z2, z3, z4, o1, o2, o3, o4, p1, p2, p3, p4, y_c65 w0n, y_c65 an, y_c65 bn, y_c66 al, wd, ad, bd, splitE0, *])
            | (refine i_if ?_ ?_ <;> intro hh <;> (try simp only [beq_true, beq_false, Bool.not_eq_true', Bool.not_eq_false', Bool.not_not, decide_eq_true_eq, decide_eq_false_iff_not, beq_iff_eq, bne_iff_ne, Bool.not_eq_true, Bool.not_eq_false, ne_eq, Bool.true_eq, Bool.false_eq] at hh) <;> (try exact absurd hh (by decide)) <;> (try simp (implicitDefEqProofs := false) only [sB, simprocAttr, hpq, hqp, strs_cons, strs_nil, strs_len, strs_take, strs_all, z1, z2, z3, z4, o1, o2, o3, o4, p1, p2, p3, p4, y_c65 w0n, y_c65 an, y_c65 bn, y_c66 al, wd, ad, bd, splitE0, *]))
end Go.AL.Fun
