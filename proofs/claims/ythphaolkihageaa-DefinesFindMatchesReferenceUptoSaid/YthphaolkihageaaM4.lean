/- The reference's lexer walked: a source. -/
import Derived.Test.YthphaolkihageaaM3
set_option linter.unusedSimpArgs false
set_option linter.unusedVariables false
set_option maxRecDepth 100000
set_option maxHeartbeats 4000000
namespace Go.AL.Fun
open Go Go.AL

def tksAV (l : List Tk) : List AV := l.map tkAV
theorem tks_len (l : List Tk) : (tksAV l).length = l.length := by simp [tksAV]
theorem tks_get (l : List Tk) (i : Nat) : (tksAV l)[i]? = (l[i]?).map tkAV := by simp [tksAV]
theorem tks_one (x : Tk) : tksAV [x] = [tkAV x] := rfl
theorem tks_all (l : List Tk) : AllSz 5 (tksAV l) := by
  intro x hx; obtain ⟨s, _, rfl⟩ := List.mem_map.1 hx; rfl
theorem tks_tok (l : List Tk) : tokc (tksAV l) = tokc l := tokc_map _ _
def resL : Option (List Tk) × Int × Int → AV
  | (some ts, a, e) => .tup [.sl (tksAV ts) (tokc ts), .int .i64 a, .int .i64 e]
  | (none, a, e) => .tup [.sl [] .nil, .int .i64 a, .int .i64 e]
theorem app_tk {t : Th} {H H2 A : Heap} {K : Kv} {ts : List Tk} {tk : Tok} (x : Tk) (tok : Tok) (hp : H2.Perm (A ++ (tokH tk ++ H))) (hn : H2.keys.Nodup) (hg : GC 5 (tksAV ts) tk) (hl : ts.length ≤ 1099511627776)
    (hK : ∀ tk' H', GC 5 (tksAV (ts ++ [x])) tk' → Hle (tokH tk' ++ H) H' → (tokH tk' ++ H).keys.Nodup → K.ap (.sl (tksAV (ts ++ [x])) tk') H') : xE (t := t) (.app 5 56) [.sl (tksAV ts) tk, .sl [tkAV x] tok] H2 (K := K) := by
  refine i_appC (by decide) (A := A) (R := H) (tk := tk) (xs := tksAV ts) (ys := tksAV [x]) hp hn hg (src_sl_of _ _ (tks_all _)) (tks_all _) ?_ ?_ fun tk' H' g1 g2 g3 => ?_
  · simp only [tks_len, List.length_cons, List.length_nil, maxLen_eq]; omega
  · simp only [tks_len, List.length_cons, List.length_nil]; omega
  · have es : tksAV ts ++ tksAV [x] = tksAV (ts ++ [x]) := by simp [tksAV]
    rw [es] at g1 ⊢
    exact hK tk' H' g1 (hle_sub g2 (List.sublist_append_right _ _)) (nodup_sub g2 (List.sublist_append_right _ _) g3)
theorem x_c32i {s : List UInt8} {c z : Int} {fr : Nat} (hz : z = fr) (h1 : s.length ≤ 1099511627776) (h2 : fr ≤ s.length) (H : Heap) (K : Kv) (h : K.ap (.int .i64 (findR s c fr)) H) : c32 [.str s, .int .u8 c, .int .i64 z] H K := by
  subst hz; exact x_c32 h1 h2 H K h
def c25 (xs : List AV) (H : Heap) (K : Kv) : Prop := ∃ s, xs = [.str s] ∧ H.keys.Nodup ∧ s.length ≤ 1099511627776 ∧ K.ap (resL (lexR s)) H
theorem x_c25 {s : List UInt8} {H : Heap} (hn : H.keys.Nodup) (h : s.length ≤ 1099511627776) (K : Kv) (k : K.ap (resL (lexR s)) H) : c25 [.str s] H K := ⟨s, rfl, hn, h, k⟩
@[reducible] def t53 (P : Program) : Th := ⟨fun _ => none, P, [(32, c32), (33, c33), (34, c34)]⟩
theorem c25_of (P : Program) {xs : List AV} {H : Heap} {K : Kv} (h : c25 xs H K) : @xF (t53 P) f25 xs H ⟨fun v H' => ∃ H0, Hle H0 H' ∧ ∃ v', AVle v v' ∧ K.ap v' H0⟩ := by
  obtain ⟨s, rfl, hn, hs, h⟩ := h
  by_cases e0 : 65536 < s.length
  · have e1 : (65536 : Int) < (s.length : Int) := by omega
    simp (implicitDefEqProofs := false) only [sB, simprocAttr, f25, e1]
    refine ⟨H, .refl _, _, .refl _, ?_⟩
    have : lexR s = (none, 0, 6) := by unfold lexR; rw [if_pos e0]
    rw [this] at h; exact h
  have e1 : ¬ (65536 : Int) < (s.length : Int) := by omega
  have hR : lexR s = lexG s (s.length + 1) 0 [] := by unfold lexR; rw [if_neg e0]
  simp (implicitDefEqProofs := false) only [sB, simprocAttr, f25, e1]
  refine i_loopJ (fun σ H1 => ∃ (p f : Nat) (ts : List Tk) (tk : Tok), H1.Perm (tokH tk ++ H) ∧ H1.keys.Nodup ∧ GC 5 (tksAV ts) tk ∧ ts.length ≤ p ∧ p ≤ s.length ∧ s.length - p < f ∧ lexG s f p ts = lexR s ∧
      σ = [(0, .str s), (5, .sl (tksAV ts) tk), (6, .int .i64 p)])
    (fun σ _ => match σ.get 6 with | .int _ n => s.length - n.toNat | _ => 0)
    (fun e σ H1 => (e = .exit 0 ∧ ∃ ts tk, H1.Perm (tokH tk ++ H) ∧ GC 5 (tksAV ts) tk ∧ lexR s = (some ts, ((s.length : Nat) : Int), 0) ∧ σ.get 5 = .sl (tksAV ts) tk ∧ σ.get 0 = .str s) ∨
      (e = .ret ∧ Hle H H1 ∧ ∃ a er, lexR s = (none, a, er) ∧ σ.get 2 = .sl [] .nil ∧ σ.get 3 = .int .i64 a ∧ σ.get 4 = .int .i64 er))
    ⟨_, .refl _, 0, s.length + 1, [], .nil, .refl _, hn, rfl, by simp, by omega, by omega, hR.symm, rfl⟩ ?_ ?_
  · rintro e σ H1 (⟨rfl, ts, tk, hp, hg, e1, q5, q0⟩ | ⟨rfl, hl, a, er, e1, q2, q3, q4⟩)
    · simp (implicitDefEqProofs := false) only [sB, simprocAttr, q5, q0]
      refine ⟨H, hle_tok hp, _, AVle.tup (.cons (AVle.tok hg) (.refl _)), ?_⟩
      rw [e1] at h
      rw [tks_tok]; exact h
    · simp (implicitDefEqProofs := false) only [sB, simprocAttr, q2, q3, q4]
      refine ⟨H, hl, _, .refl _, ?_⟩
      rw [e1] at h; exact h
  · rintro Q hQ σ H1 ⟨p, f, ts, tk, hp, hn1, hg, hl, hi, hf, hr, rfl⟩
    have hl1 : Hle H H1 := hle_tok hp
    simp (implicitDefEqProofs := false) only [sB, simprocAttr]
    refine i_if (fun d => ?_) (fun d => ?_)
    · have d' : p < s.length := by simpa using d
      obtain ⟨f, rfl⟩ : ∃ f', f = f' + 1 := ⟨f - 1, by omega⟩
      rw [lexG, if_pos d'] at hr
      have p0 : (0 : Int) ≤ (p : Int) := by omega
      simp (implicitDefEqProofs := false) only [sB, simprocAttr]
      refine x_c32 (by omega) (by omega) _ _ ?_
      rcases findR_cases s 123 p hi with e1 | ⟨k, e1, k1, k2⟩
      · -- text up to the end
        have n1 : ¬ (-1 : Int) = (p : Int) := by omega
        have p1 : (p : Int) ≤ (s.length : Int) := by omega
        rw [e1, if_pos n1, if_pos (by decide), List.take_length] at hr
        simp (implicitDefEqProofs := false) only [sB, simprocAttr, e1, n1, p0, p1]
        refine i_bslN (by decide) (tksAV [⟨0, p, s.drop p, [], false⟩]) (by simp [tksAV, tkAV, flat, AV.cells, fillL, splice]) (tks_all _) rfl fun z hz => ?_
        simp (implicitDefEqProofs := false) only [sB, simprocAttr, tks_one]
        refine app_tk (A := [(z, .spare 5)]) ⟨0, p, s.drop p, [], false⟩ _ (hp.cons _) (List.nodup_cons.2 ⟨hz, hn1⟩) hg (by omega) fun tk' H' g1 g2 g3 => ?_
        simp (implicitDefEqProofs := false) only [sB, simprocAttr]
        exact ⟨_, g2, ⟨s.length, f, _, tk', .refl _, g3, g1, by simp; omega, by omega, by omega, hr, by simp⟩, by omega⟩
      · by_cases e2 : k = p
        · subst e2
          rw [e1, if_neg (by simp)] at hr
          have r2 := w_i64 ((k : Int) + 2) (by omega) (by omega)
          simp (implicitDefEqProofs := false) only [sB, simprocAttr, e1, r2]
          refine x_c32i (fr := k + 2) (by omega) (by omega) (by omega) _ _ ?_
          rcases findR_cases s 125 (k + 2) (by omega) with e3 | ⟨j, e3, j1, j2⟩
          · rw [e3, if_pos (by decide)] at hr
            simp (implicitDefEqProofs := false) only [sB, simprocAttr, e3]
            exact hQ _ _ _ (.inr ⟨rfl, hl1, _, _, hr.symm, rfl, rfl, rfl⟩)
          · have j3 : ¬ (j : Int) < 0 := by omega
            have j4 : (0 : Int) ≤ (k : Int) + 2 := by omega
            have j5 : (k : Int) + 2 ≤ (j : Int) := by omega
            have j6 : (j : Int) ≤ (s.length : Int) := by omega
            have j7 : ((k : Int) + 2).toNat = k + 2 := by omega
            have rj := w_i64 ((j : Int) + 2) (by omega) (by omega)
            rw [e3, if_neg j3] at hr
            simp only [Int.toNat_natCast] at hr
            simp (implicitDefEqProofs := false) only [sB, simprocAttr, e3, j3, j4, j5, j6, j7, r2]
            refine x_c34 hn1 (by simp; omega) _ ?_
            simp (implicitDefEqProofs := false) only [sB, simprocAttr]
            refine x_c33 hn1 (fun w hw => ?_) _ ?_
            · have := wordsG_ne _ _ w hw
              refine ⟨this.1, ?_⟩
              have := this.2
              simp at this; omega
            generalize formR (wordsG ((s.take j).drop (k + 2)) []) = r at hr ⊢
            obtain ⟨⟨tk0, ta0, ts0, tp0, th0⟩, kn, va⟩ := r
            simp (implicitDefEqProofs := false) only [sB, simprocAttr, tkAV]
            refine i_new fun q hq => ?_
            cases kn with
            | false =>
              simp (implicitDefEqProofs := false) only [sB, simprocAttr]
              exact hQ _ _ _ (.inr ⟨rfl, hl1.trans (.tail _ _), _, _, hr.symm, rfl, rfl, rfl⟩)
            | true =>
              cases va with
              | false =>
                simp (implicitDefEqProofs := false) only [sB, simprocAttr]
                exact hQ _ _ _ (.inr ⟨rfl, hl1.trans (.tail _ _), _, _, hr.symm, rfl, rfl, rfl⟩)
              | true =>
                simp (implicitDefEqProofs := false) only [sB, simprocAttr]
                refine i_bslN (by decide) (tksAV [⟨tk0, k, ts0, tp0, th0⟩]) (by simp [tksAV, tkAV, flat, AV.cells, fillL, splice]) (tks_all _) rfl fun z hz => ?_
                simp (implicitDefEqProofs := false) only [sB, simprocAttr, tks_one]
                refine app_tk (A := [(z, .spare 5), (q, _)]) ⟨tk0, k, ts0, tp0, th0⟩ _ ((hp.cons _).cons _) (List.nodup_cons.2 ⟨hz, List.nodup_cons.2 ⟨hq, hn1⟩⟩) hg (by omega) fun tk' H' g1 g2 g3 => ?_
                simp (implicitDefEqProofs := false) only [sB, simprocAttr, rj]
                exact ⟨_, g2, ⟨j + 2, f, _, tk', .refl _, g3, g1, by simp; omega, by omega, by omega, hr, by simp⟩, by omega⟩
        · have n1 : ¬ (k : Int) = (p : Int) := by omega
          have n2 : ¬ (k : Int) < 0 := by omega
          have p1 : (p : Int) ≤ (k : Int) := by omega
          have p2 : (k : Int) ≤ (s.length : Int) := by omega
          rw [e1, if_pos n1, if_neg n2] at hr
          simp only [Int.toNat_natCast] at hr
          simp (implicitDefEqProofs := false) only [sB, simprocAttr, e1, n1, n2, p0, p1, p2]
          refine i_bslN (by decide) (tksAV [⟨0, p, (s.take k).drop p, [], false⟩]) (by simp [tksAV, tkAV, flat, AV.cells, fillL, splice]) (tks_all _) rfl fun z hz => ?_
          simp (implicitDefEqProofs := false) only [sB, simprocAttr, tks_one]
          refine app_tk (A := [(z, .spare 5)]) ⟨0, p, (s.take k).drop p, [], false⟩ _ (hp.cons _) (List.nodup_cons.2 ⟨hz, hn1⟩) hg (by omega) fun tk' H' g1 g2 g3 => ?_
          simp (implicitDefEqProofs := false) only [sB, simprocAttr]
          exact ⟨_, g2, ⟨k, f, _, tk', .refl _, g3, g1, by simp; omega, by omega, by omega, hr, by simp⟩, by omega⟩
    · have d' : p = s.length := by have : ¬ (p : Int) < s.length := by simpa using d
                                   omega
      subst d'
      obtain ⟨f, rfl⟩ : ∃ f', f = f' + 1 := ⟨f - 1, by omega⟩
      rw [lexG, if_neg (Nat.lt_irrefl _)] at hr
      simp (implicitDefEqProofs := false) only [sB, simprocAttr]
      exact hQ _ _ _ (.inl ⟨rfl, ts, tk, hp, hg, hr.symm, rfl, rfl⟩)
end Go.AL.Fun
