/- The reference of chunked bodies, walked. -/
import Derived.Test.YtcaegdcldbggpaaDoorE17
import Derived.Test.YtcaegdcldbggpaaDoorE14
set_option linter.unusedSimpArgs false
set_option linter.unusedVariables false
set_option maxRecDepth 100000
set_option maxHeartbeats 4000000
namespace Go.AL.Fun
open Go Go.AL

def drAV (r : DR) (tp ts : Tok) : List AV := [.sl (bytesAV r.pay) tp, .sl (iAV r.sizes) ts, .bool r.whole, .bool r.comp, .bool r.valid]
def c22 (xs : List AV) (H : Heap) (K : Kv) : Prop := ∃ (b : List UInt8) (t : Tok), xs = [.sl (bytesAV b) t] ∧ b.length ≤ 1048576 ∧ H.keys.Nodup ∧ ∀ tp ts, K.ap (.agg (drAV (ofP b) tp ts)) H
theorem go_none {f : Nat} {b : List UInt8} {r r' : DR} (h : (ofStep b r) = (none, r')) : ofGo (f + 1) b r = r' := by rw [ofGo, h]
theorem go_some {f : Nat} {b b' : List UInt8} {r r' r'' : DR} (h : (ofStep b r) = (some (b', r'), r'')) : ofGo (f + 1) b r = ofGo f b' r' := by rw [ofGo, h]
theorem permR (x z : Nat × AObj) (A B H : Heap) : (x :: (A ++ (B ++ (z :: H)))).Perm (z :: ((x :: (A ++ B)) ++ H)) := by
  have e : x :: (A ++ (B ++ (z :: H))) = (x :: (A ++ B)) ++ z :: H := by simp [List.append_assoc]
  rw [e]
  exact List.perm_middle
theorem c22_of (P : Program) {G : Nat → Option (List AV)} {xs : List AV} {H : Heap} {K : Kv} (h : c22 xs H K) : @xF ⟨G, P, [(28, c28)]⟩ f22 xs H ⟨fun v H' => ∃ H0, Hle H0 H' ∧ K.ap v H0⟩ := by
  obtain ⟨b0, t0, rfl, hl0, hn, k⟩ := h
  simp (implicitDefEqProofs := false) only [sB, simprocAttr, f22]
  refine i_new fun rr hr => ?_
  simp (implicitDefEqProofs := false) only [sB, simprocAttr]
  refine i_new fun q hq => ?_
  have n1 := List.nodup_cons.2 ⟨hr, hn⟩
  have n2 := List.nodup_cons.2 ⟨hq, n1⟩
  simp (implicitDefEqProofs := false) only [sB, simprocAttr]
  refine i_loopJ (fun σ H1 => ∃ (f : Nat) (b : List UInt8) (r : DR) (t tp ts : Tok), ofGo f b r = ofP b0 ∧ b.length + 2 ≤ f ∧ b.length ≤ b0.length ∧ r.pay.length + r.sizes.length + b.length ≤ b0.length ∧ GT (bytesAV r.pay) tp ∧ GT (iAV r.sizes) ts ∧ H1.keys.Nodup ∧
      H1.Perm ((q, .cells (drAV r tp ts)) :: (tokH tp ++ (tokH ts ++ ((rr, .cells (drAV ⟨[], [], false, false, false⟩ .nil .nil)) :: H)))) ∧ σ = [(0, .sl (bytesAV b) t), (2, .ptr rr 0), (3, .ptr q 0)])
    (fun σ _ => match σ.get 0 with | .sl l _ => l.length | _ => 0)
    (fun e σ H1 => e = .ret ∧ ∃ (tp ts : Tok) (R : Heap), H1.keys.Nodup ∧ H1.Perm ((rr, .cells (drAV (ofP b0) tp ts)) :: (R ++ H)) ∧ σ.get 2 = .ptr rr 0)
    ⟨_, .refl _, _, b0, .new, t0, .nil, .nil, rfl, Nat.le_refl _, Nat.le_refl _, by simp [DR.new], rfl, rfl, n2, .refl _, rfl⟩ ?_ ?_
  · rintro e σ H1 ⟨rfl, tp, ts, R, hn1, hp, s2⟩
    have hlk := look_head hp hn1
    simp only [drAV] at hlk
    simp (implicitDefEqProofs := false) only [sB, simprocAttr, s2, hlk]
    exact ⟨H, hle_sub hp (.cons _ (List.sublist_append_right R H)), k tp ts⟩
  · rintro Q hQ σ H1 ⟨f, b, r, t, tp, ts, hgo, hf, hbl, hsum, g1, g2, hn1, hp, rfl⟩
    obtain ⟨f, rfl⟩ : ∃ f', f = f' + 1 := ⟨f - 1, by omega⟩
    simp only [drAV] at hp
    have hlk := look_head hp hn1
    -- the answer's cell
    have hlr : lookH rr H1 = some (.cells [.sl [] .nil, .sl [] .nil, .bool false, .bool false, .bool false]) := look_head (hp.trans (permR _ _ _ _ _)) hn1
    have hne : ¬ rr = q := by
      rintro rfl
      have := nodup_perm hp hn1
      simp [Heap.keys] at this
    have fin : ∀ (H2 : Heap) (X : AObj) (tp' ts' : Tok) (r' : DR) (A B : Heap) (σ' : Env), r' = ofP b0 → H2.keys.Nodup → H2.Perm ((q, X) :: (A ++ (B ++ ((rr, .cells (drAV ⟨[], [], false, false, false⟩ .nil .nil)) :: H)))) → σ'.get 2 = .ptr rr 0 → Q.ap .ret σ' (setH rr (.cells (drAV r' tp' ts')) H2) := by
      intro H2 X tp' ts' r' A B σ' hr' hn2 hp2 hs
      subst hr'
      have hp3 := hp2.trans (permR _ _ _ _ _)
      exact hQ _ _ _ ⟨rfl, tp', ts', (q, X) :: (A ++ B), set_nodup _ hn2, set_head _ hp3 hn2, hs⟩
    obtain ⟨pay, sizes, whole, comp, valid⟩ := r
    simp only at hlk hp g1 g2 hsum
    cases comp with
    | true =>
      have hs : ofStep b ⟨pay, sizes, whole, true, valid⟩ = (none, ⟨pay, sizes, whole, true, decide (b = [])⟩) := by rw [ofStep, if_pos rfl]
      rw [go_none hs] at hgo
      have h4 := set_head (.cells (drAV ⟨pay, sizes, whole, true, decide (b = [])⟩ tp ts)) hp hn1
      by_cases cb : b = []
      · subst cb
        simp (implicitDefEqProofs := false) only [sB, simprocAttr, hlk, hlr, hne]
        exact fin _ _ tp ts ⟨pay, sizes, whole, true, true⟩ _ _ _ hgo (set_nodup _ hn1) h4 rfl
      · have hb : ¬ (b.length : Int) = 0 := by have := List.length_pos_iff.2 cb; omega
        rw [decide_eq_false cb] at hgo h4
        simp (implicitDefEqProofs := false) only [sB, simprocAttr, hlk, by_len, hb, hlr, hne]
        exact fin _ _ tp ts ⟨pay, sizes, whole, true, false⟩ _ _ _ hgo (set_nodup _ hn1) h4 rfl
    | false =>
    by_cases cb : b = []
    · subst cb
      have hs : ofStep [] ⟨pay, sizes, whole, false, valid⟩ = (none, ⟨pay, sizes, true, false, valid⟩) := by rw [ofStep, if_neg (by simp), if_pos rfl]
      rw [go_none hs] at hgo
      have h4 := set_head (.cells (drAV ⟨pay, sizes, true, false, valid⟩ tp ts)) hp hn1
      simp (implicitDefEqProofs := false) only [sB, simprocAttr, hlk, hlr, hne]
      exact fin _ _ tp ts _ _ _ _ hgo (set_nodup _ hn1) h4 rfl
    have hb : ¬ (b.length : Int) = 0 := by have := List.length_pos_iff.2 cb; omega
    simp (implicitDefEqProofs := false) only [sB, simprocAttr, hlk, by_len, hb]
    refine ⟨b, t, rfl, by omega, ?_⟩
    rcases parse_cls b with p0 | p5 | p7
    · obtain ⟨n, kk, hpp⟩ : ∃ n k, parseP b = (n, k, 0) := ⟨_, _, by rw [← p0]⟩
      obtain ⟨hn65, hkk, rest, hrest⟩ := parse_canon hpp
      have hkb : kk ≤ b.length := by rw [hkk, hrest]; simp
      have k0 : (0 : Int) ≤ (kk : Int) := by omega
      have k1 : (kk : Int) ≤ (b.length : Int) := by omega
      rw [hpp]
      simp (implicitDefEqProofs := false) only [sB, simprocAttr, tup3, hlk, by_len, k0, k1]
      refine i_sl ⟨⟨iAV_sz [(n : Int)], rfl, rfl⟩, i_new fun y hy => ?_⟩
      simp (implicitDefEqProofs := false) only [sB, simprocAttr]
      refine i_app (A := (y, .spare 1) :: (q, .cells (drAV ⟨pay, sizes, whole, false, valid⟩ tp ts)) :: tokH tp) (R := (rr, .cells (drAV ⟨[], [], false, false, false⟩ .nil .nil)) :: H) (tk := ts) (xs := iAV sizes) (ys := iAV [(n : Int)]) (hp.cons _) (List.nodup_cons.2 ⟨hy, hn1⟩) g2 (.inl ⟨_, rfl⟩) (iAV_sz _) (iAV_sz _) ?_ ?_ fun ts' H2 q1 q2 q3 => ?_
      · simp only [iAV_len, List.length_singleton, maxLen_eq]; omega
      · simp only [iAV_len, List.length_singleton]; omega
      rw [iAV_app] at q1 ⊢
      simp only [drAV, List.cons_append] at q2
      have q4 := q2.trans (.swap _ _ _)
      have hlk2 := look_head q4 q3
      have h5 := set_head (.cells (drAV ⟨pay, sizes ++ [(n : Int)], whole, false, valid⟩ tp ts')) q4 q3
      have n5 := set_nodup (p := q) (.cells (drAV ⟨pay, sizes ++ [(n : Int)], whole, false, valid⟩ tp ts')) q3
      by_cases cm : b.length - kk < n
      · have cm' : ((b.length - kk : Nat) : Int) < (n : Int) := by omega
        simp (implicitDefEqProofs := false) only [sB, simprocAttr, hlk2, by_len, List.length_drop, cm']
        refine ⟨by omega, i_app (A := (q, .cells (drAV ⟨pay, sizes ++ [(n : Int)], whole, false, valid⟩ tp ts')) :: [(y, .spare 1)]) (R := tokH ts' ++ ((rr, .cells (drAV ⟨[], [], false, false, false⟩ .nil .nil)) :: H)) (tk := tp) (xs := bytesAV pay) (ys := bytesAV (b.drop kk)) h5 n5 g1 (.inl ⟨_, rfl⟩) (allSz_bytes _) (allSz_bytes _) ?_ ?_ fun tp' H3 u1 u2 u3 => ?_⟩
        · simp only [by_len, List.length_drop, List.length_take, maxLen_eq]; omega
        · simp only [by_len, List.length_drop, List.length_take]; omega
        rw [by_app] at u1 ⊢
        simp only [drAV, List.cons_append, List.nil_append] at u2
        have hlk3 := look_head u2 u3
        have hlr3 : lookH rr H3 = some (.cells [.sl [] .nil, .sl [] .nil, .bool false, .bool false, .bool false]) := look_head (u2.trans (permR _ _ ((y, AObj.spare 1) :: tokH tp') _ _)) u3
        have hs : ofStep b ⟨pay, sizes, whole, false, valid⟩ = (none, ⟨pay ++ (b.drop kk).take n, sizes ++ [(n : Int)], whole, false, valid⟩) := by
          rw [ofStep, if_neg (by simp), if_neg cb, hpp, if_neg (by simp), if_neg (by simp)]
          simp only
          rw [if_pos (.inl (by rw [List.length_drop]; omega))]
        rw [go_none hs, List.take_of_length_le (by rw [List.length_drop]; omega)] at hgo
        have z1 : (0 : Int) ≤ ((b.length - kk : Nat) : Int) := by omega
        have zz : ¬ (kk + (b.length - kk)) < b.length := by omega
        have ed : b.drop (kk + (b.length - kk)) = [] := List.drop_eq_nil_of_le (by omega)
        simp (implicitDefEqProofs := false) only [sB, simprocAttr, hlk3, hlr3, hne, by_len, List.length_drop, cm', z1, ed]
        exact fin _ _ tp' ts' ⟨pay ++ b.drop kk, sizes ++ [(n : Int)], whole, false, valid⟩ ((y, .spare 1) :: tokH tp') _ _ hgo (set_nodup _ u3) (set_head (.cells (drAV ⟨pay ++ b.drop kk, sizes ++ [(n : Int)], whole, false, valid⟩ tp' ts')) u2 u3) rfl
      · have cm' : ¬ ((b.length - kk : Nat) : Int) < (n : Int) := by omega
        simp (implicitDefEqProofs := false) only [sB, simprocAttr, hlk2, by_len, List.length_drop, cm']
        refine ⟨by omega, i_app (A := (q, .cells (drAV ⟨pay, sizes ++ [(n : Int)], whole, false, valid⟩ tp ts')) :: [(y, .spare 1)]) (R := tokH ts' ++ ((rr, .cells (drAV ⟨[], [], false, false, false⟩ .nil .nil)) :: H)) (tk := tp) (xs := bytesAV pay) (ys := bytesAV ((b.drop kk).take n)) h5 n5 g1 (.inl ⟨_, rfl⟩) (allSz_bytes _) (allSz_bytes _) ?_ ?_ fun tp' H3 u1 u2 u3 => ?_⟩
        · simp only [by_len, List.length_drop, List.length_take, maxLen_eq]; omega
        · simp only [by_len, List.length_drop, List.length_take]; omega
        rw [by_app] at u1 ⊢
        simp only [drAV, List.cons_append, List.nil_append] at u2
        have hlk3 := look_head u2 u3
        have hlr3 : lookH rr H3 = some (.cells [.sl [] .nil, .sl [] .nil, .bool false, .bool false, .bool false]) := look_head (u2.trans (permR _ _ ((y, AObj.spare 1) :: tokH tp') _ _)) u3
        have hdl : ((b.drop kk).drop n).length = b.length - kk - n := by rw [List.length_drop, List.length_drop]
        have hbase : ofStep b ⟨pay, sizes, whole, false, valid⟩ = if (b.drop kk).drop n = [] then (none, ⟨pay ++ (b.drop kk).take n, sizes ++ [(n : Int)], whole, false, valid⟩)
            else if ((b.drop kk).drop n).head? ≠ some 13 ∨ (1 < ((b.drop kk).drop n).length ∧ ((b.drop kk).drop n)[1]? ≠ some 10) then (none, ⟨pay ++ (b.drop kk).take n, sizes ++ [(n : Int)], whole, false, false⟩)
            else if ((b.drop kk).drop n).length = 1 then (none, ⟨pay ++ (b.drop kk).take n, sizes ++ [(n : Int)], whole, false, valid⟩)
            else (some (((b.drop kk).drop n).drop 2, ⟨pay ++ (b.drop kk).take n, sizes ++ [(n : Int)], decide (n = 0), decide (n = 0), valid⟩), ⟨pay ++ (b.drop kk).take n, sizes ++ [(n : Int)], whole, false, valid⟩) := by
          rw [ofStep, if_neg (by simp), if_neg cb, hpp, if_neg (by simp), if_neg (by simp)]
          simp only
          have hx : ¬ (b.drop kk).length < n := by rw [List.length_drop]; omega
          simp only [hx, false_or]
        have u4 := fun (w c v : Bool) => set_head (.cells (drAV ⟨pay ++ (b.drop kk).take n, sizes ++ [(n : Int)], w, c, v⟩ tp' ts')) u2 u3
        have u5 := fun (w c v : Bool) => set_nodup (p := q) (.cells (drAV ⟨pay ++ (b.drop kk).take n, sizes ++ [(n : Int)], w, c, v⟩ tp' ts')) u3
        have fin2 := fun (w c v : Bool) (σ' : Env) (hg : (⟨pay ++ (b.drop kk).take n, sizes ++ [(n : Int)], w, c, v⟩ : DR) = ofP b0) (hs : σ'.get 2 = .ptr rr 0) => fin _ _ tp' ts' _ ((y, .spare 1) :: tokH tp') _ σ' hg (u5 w c v) (u4 w c v) hs
        rcases hb2 : (b.drop kk).drop n with _ | ⟨c, b3⟩
        · rw [hb2, if_pos rfl] at hbase
          rw [hb2] at hdl
          simp only [List.length_nil] at hdl
          rw [go_none hbase] at hgo
          have z1 : (0 : Int) ≤ (n : Int) := by omega
          have z2 : (n : Int) ≤ ((b.length - kk : Nat) : Int) := by omega
          rw [List.drop_drop] at hb2
          have z3 : b.length - (kk + n) = 0 := by omega
          simp (implicitDefEqProofs := false) only [sB, simprocAttr, hlk3, hlr3, hne, by_len, List.length_drop, hb2, z1, z2, Int.lt_irrefl, z3]
          exact fin2 whole false valid _ hgo rfl
        · have z1 : (0 : Int) ≤ (n : Int) := by omega
          have z2 : (n : Int) ≤ ((b.length - kk : Nat) : Int) := by omega
          rw [hb2] at hbase hdl
          rw [if_neg (by simp)] at hbase
          rw [List.drop_drop] at hb2
          simp only [List.length_cons] at hdl
          have n13 : (n8 c = 13) = (c = 13) := n8_eq c 13
          by_cases cc : c = 13
          · subst cc
            rcases b3 with _ | ⟨c2, b4⟩
            · rw [if_neg (by simp), if_pos (show [(13 : UInt8)].length = 1 from rfl)] at hbase
              rw [go_none hbase] at hgo
              simp (implicitDefEqProofs := false) only [sB, simprocAttr, hlk3, hlr3, hne, by_len, List.length_drop, hb2, z1, z2, Int.lt_irrefl, byteAV_n8, show n8 13 = 13 from rfl]
              exact fin2 whole false valid _ hgo rfl
            · have e0 : ¬ ((b4.length + 1 + 1 : Nat) : Int) = 0 := by omega
              have e1 : (1 : Int) < ((b4.length + 1 + 1 : Nat) : Int) := by omega
              have e2 : ¬ ((b4.length + 1 + 1 : Nat) : Int) = 1 := by omega
              have e3 : (2 : Int) ≤ ((b4.length + 1 + 1 : Nat) : Int) := by omega
              have n10 : (n8 c2 = 10) = (c2 = 10) := n8_eq c2 10
              by_cases cc2 : c2 = 10
              · subst cc2
                rw [if_neg (by simp), if_neg (by simp)] at hbase
                rw [go_some hbase] at hgo
                simp (implicitDefEqProofs := false) only [sB, simprocAttr, hlk3, hlr3, hne, by_len, List.length_drop, hb2, z1, z2, Int.lt_irrefl, byteAV_n8, show n8 13 = 13 from rfl, show n8 10 = 10 from rfl, e0, e1, e2, e3]
                rw [show decide ((n : Int) = 0) = decide (n = 0) by simp]
                have sub : ((q, AObj.cells (drAV ⟨pay ++ (b.drop kk).take n, sizes ++ [(n : Int)], decide (n = 0), decide (n = 0), valid⟩ tp' ts')) :: (tokH tp' ++ (tokH ts' ++ ((rr, .cells (drAV ⟨[], [], false, false, false⟩ .nil .nil)) :: H)))).Sublist ((q, AObj.cells (drAV ⟨pay ++ (b.drop kk).take n, sizes ++ [(n : Int)], decide (n = 0), decide (n = 0), valid⟩ tp' ts')) :: (y, .spare 1) :: (tokH tp' ++ (tokH ts' ++ ((rr, .cells (drAV ⟨[], [], false, false, false⟩ .nil .nil)) :: H)))) := .cons_cons _ (.cons _ (.refl _))
                have hbl4 : b4.length + 2 + n + kk = b.length := by simp only [List.length_cons] at hdl; omega
                exact ⟨_, hle_sub (u4 (decide (n = 0)) (decide (n = 0)) valid) sub, ⟨f, b4, ⟨pay ++ (b.drop kk).take n, sizes ++ [(n : Int)], decide (n = 0), decide (n = 0), valid⟩, t, tp', ts', hgo, by omega, by omega, by simp only [List.length_append, List.length_take, List.length_drop, List.length_singleton]; omega, u1, q1, nodup_sub (u4 _ _ _) sub (u5 _ _ _), .refl _, rfl⟩, by omega⟩
              · rw [if_pos (.inr ⟨by simp, by simpa using cc2⟩)] at hbase
                rw [go_none hbase] at hgo
                simp (implicitDefEqProofs := false) only [sB, simprocAttr, hlk3, hlr3, hne, by_len, List.length_drop, hb2, z1, z2, Int.lt_irrefl, byteAV_n8, show n8 13 = 13 from rfl, n10, cc2, e0, e1, e2, e3]
                exact fin2 whole false false _ hgo rfl
          · rw [if_pos (.inl (by simpa using cc))] at hbase
            rw [go_none hbase] at hgo
            have e0 : ¬ ((b3.length + 1 : Nat) : Int) = 0 := by omega
            simp (implicitDefEqProofs := false) only [sB, simprocAttr, hlk3, hlr3, hne, by_len, List.length_drop, hb2, z1, z2, Int.lt_irrefl, byteAV_n8, n13, cc, e0]
            exact fin2 whole false false _ hgo rfl
    · have hs : ofStep b ⟨pay, sizes, whole, false, valid⟩ = (none, ⟨pay, sizes, whole, false, false⟩) := by rw [ofStep, if_neg (by simp), if_neg cb, p5, if_neg (by simp), if_pos (by simp)]
      rw [go_none hs] at hgo
      have h4 := set_head (.cells (drAV ⟨pay, sizes, whole, false, false⟩ tp ts)) hp hn1
      rw [p5]
      simp (implicitDefEqProofs := false) only [sB, simprocAttr, tup3, hlk, hlr, hne]
      exact fin _ _ tp ts _ _ _ _ hgo (set_nodup _ hn1) h4 rfl
    · have hs : ofStep b ⟨pay, sizes, whole, false, valid⟩ = (none, ⟨pay, sizes, whole, false, valid⟩) := by rw [ofStep, if_neg (by simp), if_neg cb, p7, if_pos rfl]
      rw [go_none hs] at hgo
      rw [p7]
      simp (implicitDefEqProofs := false) only [sB, simprocAttr, tup3, hlk, hlr, hne]
      exact fin _ _ tp ts ⟨pay, sizes, whole, false, valid⟩ _ _ _ hgo hn1 hp rfl
end Go.AL.Fun
