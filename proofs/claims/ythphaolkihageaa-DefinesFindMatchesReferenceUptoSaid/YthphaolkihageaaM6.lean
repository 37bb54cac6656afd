/- The reference's parser walked. -/
import Derived.Test.YthphaolkihageaaM5
set_option linter.unusedSimpArgs false
set_option linter.unusedVariables false
set_option maxRecDepth 100000
set_option maxHeartbeats 4000000
namespace Go.AL.Fun
open Go Go.AL

theorem nds_map (l : List Nd) : Nd.avs l = l.map fun n => AV.agg n.cs := by
  induction l with
  | nil => rfl
  | cons n l ih => simp only [Nd.avs, ih, List.map_cons]
theorem nds_len (l : List Nd) : (Nd.avs l).length = l.length := by simp [nds_map]
theorem nds_get (l : List Nd) (i : Nat) : (Nd.avs l)[i]? = (l[i]?).map fun n => AV.agg n.cs := by simp [nds_map]
theorem cs_len (n : Nd) : n.cs.length = 8 := by cases n; rfl
theorem nds_all (l : List Nd) : AllSz 8 (Nd.avs l) := by
  rw [nds_map]; intro x hx; obtain ⟨n, _, rfl⟩ := List.mem_map.1 hx; exact cs_len n
theorem nds_tok (l : List Nd) : tokc (Nd.avs l) = tokc l := by rw [nds_map, tokc_map]
theorem nds_one (x : Nd) : Nd.avs [x] = [.agg x.cs] := rfl
theorem app_nd {t : Th} {H H2 A : Heap} {K : Kv} {l : List Nd} {tk : Tok} (x : Nd) (tok : Tok) (hp : H2.Perm (A ++ (tokH tk ++ H))) (hn : H2.keys.Nodup) (hg : GC 8 (Nd.avs l) tk) (hl : l.length ≤ 1099511627776)
    (hK : ∀ tk' H', GC 8 (Nd.avs (l ++ [x])) tk' → Hle (tokH tk' ++ H) H' → (tokH tk' ++ H).keys.Nodup → K.ap (.sl (Nd.avs (l ++ [x])) tk') H') : xE (t := t) (.app 8 104) [.sl (Nd.avs l) tk, .sl [.agg x.cs] tok] H2 (K := K) := by
  rw [← nds_one]
  refine i_appC (by decide) (A := A) (R := H) (tk := tk) (xs := Nd.avs l) (ys := Nd.avs [x]) hp hn hg (src_sl_of _ _ (nds_all _)) (nds_all _) ?_ ?_ fun tk' H' g1 g2 g3 => ?_
  · simp only [nds_len, List.length_cons, List.length_nil, maxLen_eq]; omega
  · simp only [nds_len, List.length_cons, List.length_nil]; omega
  · have es : Nd.avs l ++ Nd.avs [x] = Nd.avs (l ++ [x]) := by simp [nds_map]
    rw [es] at g1 ⊢
    exact hK tk' H' g1 (hle_sub g2 (List.sublist_append_right _ _)) (nodup_sub g2 (List.sublist_append_right _ _) g3)

/-- The parser's cells. -/
def parO (ts : List Tk) (tok : Tok) (i n : Nat) : AObj := .cells [.sl (tksAV ts) tok, .int .i64 i, .int .i64 n]
def curI (pp : Nat) (H : Heap) : Nat := match lookH pp H with | some (.cells [_, .int _ i, _]) => i.toNat | _ => 0
theorem curI_of {pp : Nat} {H : Heap} {ts : List Tk} {tok : Tok} {i n : Nat} (h : lookH pp H = some (parO ts tok i n)) : curI pp H = i := by unfold curI; rw [h]; simp [parO]
theorem key_ne {pp q : Nat} {H : Heap} {o : AObj} (h : lookH pp H = some o) (hq : q ∉ Heap.keys H) : ¬ pp = q := by
  rintro rfl
  apply hq
  clear hq
  induction H with
  | nil => cases h
  | cons p H ih =>
    obtain ⟨j, x⟩ := p
    simp only [lookH] at h
    simp only [Heap.keys, List.map_cons, List.mem_cons]
    split at h
    · rename_i e; exact .inl e
    · exact .inr (ih h)
theorem look_set {pp : Nat} {o o0 : AObj} {H : Heap} (h : lookH pp H = some o0) : lookH pp (setH pp o H) = some o := by
  unfold setH; rw [look_ren, if_pos rfl, h]; rfl
theorem set_same {pp : Nat} {o : AObj} : ∀ {H : Heap}, lookH pp H = some o → setH pp o H = H
  | [], h => by cases h
  | (j, x) :: H, h => by
    simp only [lookH] at h
    unfold setH
    simp only [renH]
    split at h
    · rename_i e; subst e; cases h; rw [if_pos rfl]
    · rename_i e; rw [if_neg e]; congr 1; exact set_same h
theorem set_set (pp : Nat) (o o' : AObj) (H : Heap) : setH pp o (setH pp o' H) = setH pp o H := ren_ren pp o o' H
theorem look_tok {tk : Tok} {pp : Nat} {o o0 : AObj} {H H1 : Heap} (hp : H1.Perm (tokH tk ++ setH pp o H)) (hn : H1.keys.Nodup) (hl : lookH pp H = some o0) : lookH pp H1 = some o := by
  rw [lookH_iff hn]
  refine hp.mem_iff.2 (List.mem_append_right _ ?_)
  exact (lookH_iff (nodup_sub hp (List.sublist_append_right _ _) hn)).1 (look_set hl)
theorem set_tok {tk : Tok} {pp : Nat} {o o0 : AObj} {H H1 : Heap} (o' : AObj) (hp : H1.Perm (tokH tk ++ setH pp o H)) (hn : H1.keys.Nodup) (hl : lookH pp H = some o0) : (setH pp o' H1).Perm (tokH tk ++ setH pp o' H) := by
  refine (setH_perm hp hn).trans ?_
  have h1 : pp ∉ (tokH tk).keys := by
    intro hm
    have h2 := nodup_perm hp hn
    simp only [Heap.keys, List.map_append] at h2
    have h3 := (lookH_iff (nodup_sub hp (List.sublist_append_right _ _) hn)).1 (look_set (o := o) hl)
    exact (List.nodup_append.1 h2).2.2 pp hm pp (List.mem_map.2 ⟨_, h3, rfl⟩) rfl
  unfold setH
  rw [renH_app h1, ren_ren]

def resLs : PR (List Nd) → AV
  | (some l, a, e, _, _) => .tup [.sl (Nd.avs l) (tokc l), .int .i64 a, .int .i64 e]
  | (none, a, e, _, _) => .tup [.sl [] .nil, .int .i64 a, .int .i64 e]
def zeroN : List AV := [.int .i64 0, .int .i64 0, .str [], .str [], .bool false, .bool false, .sl [] .nil, .sl [] .nil]
def resNd : PR Nd → AV
  | (some x, a, e, _, _) => .tup [.agg x.cs, .int .i64 a, .int .i64 e]
  | (none, a, e, _, _) => .tup [.agg zeroN, .int .i64 a, .int .i64 e]
def allTk (ts : List Tk) : Prop := ∃ L, ∀ t ∈ ts, t.s.length ≤ L ∧ t.path.length ≤ L
theorem allTk_of : ∀ ts : List Tk, allTk ts
  | [] => ⟨0, by simp⟩
  | t :: ts => by
    obtain ⟨L, h⟩ := allTk_of ts
    refine ⟨L + t.s.length + t.path.length, fun x hx => ?_⟩
    rcases List.mem_cons.1 hx with rfl | hx
    · omega
    · have := h x hx; omega
def c26 (N : Nat) (xs : List AV) (H : Heap) (K : Kv) : Prop := ∃ (pp : Nat) (ts : List Tk) (tok : Tok) (i n : Nat) (o : Int) (els : Bool) (d : Int) (F : Nat),
  xs = [.ptr pp 0, .int .i64 o, .bool els, .int .i64 d] ∧ H.keys.Nodup ∧ lookH pp H = some (parO ts tok i n) ∧ i ≤ ts.length ∧ ts.length - i ≤ N ∧ 2 * (ts.length - i) + 2 ≤ F ∧ n ≤ 4096 ∧ ts.length ≤ 1099511627776 ∧ 0 ≤ d ∧ d ≤ 32 ∧
  K.ap (resLs (listR ts F o els d i n [])) (setH pp (parO ts tok (listR ts F o els d i n []).2.2.2.1 (listR ts F o els d i n []).2.2.2.2) H)
def c35 (N : Nat) (xs : List AV) (H : Heap) (K : Kv) : Prop := ∃ (pp : Nat) (ts : List Tk) (tok : Tok) (i n : Nat) (d : Int) (F : Nat) (t : Tk),
  xs = [.ptr pp 0, .int .i64 d] ∧ H.keys.Nodup ∧ lookH pp H = some (parO ts tok i n) ∧ ts[i]? = some t ∧ ts.length - i ≤ N ∧ 2 * (ts.length - i) + 1 ≤ F ∧ n ≤ 4096 ∧ ts.length ≤ 1099511627776 ∧ 0 ≤ d ∧ d ≤ 32 ∧
  K.ap (resNd (nodeR ts F d i n t)) (setH pp (parO ts tok (nodeR ts F d i n t).2.2.2.1 (nodeR ts F d i n t).2.2.2.2) H)
def c50 (xs : List AV) (H : Heap) (K : Kv) : Prop := ∃ k : Int, xs = [.int .i64 k] ∧ K.ap (.bool (blockB k)) H
theorem y_c68 (k : Int) (H : Heap) (K : Kv) : c50 [.int .i64 k] H K = K.ap (.bool (blockB k)) H := by
  simp only [c50, List.cons.injEq, AV.int.injEq, true_and, and_true]
  exact propext ⟨fun ⟨_, e, h⟩ => e ▸ h, fun h => ⟨_, rfl, h⟩⟩
theorem c50_of (P : Program) {xs : List AV} {H : Heap} {K : Kv} (h : c50 xs H K) : @xF (t0 P) f50 xs H K := by
  obtain ⟨k, rfl, h⟩ := h
  by_cases k2 : k = 2
  · subst k2; simp (implicitDefEqProofs := false) only [sB, simprocAttr, f50]; exact h
  · by_cases k3 : k = 3
    · subst k3; simp (implicitDefEqProofs := false) only [sB, simprocAttr, f50]; exact h
    · by_cases k6 : k = 6
      · subst k6; simp (implicitDefEqProofs := false) only [sB, simprocAttr, f50]; exact h
      · simp (implicitDefEqProofs := false) only [sB, simprocAttr, f50, k2, k3, k6]
        have : blockB k = false := by simp [blockB, k2, k3, k6]
        rw [this] at h; exact h

@[reducible] def t54 (N : Nat) (P : Program) : Th := ⟨fun _ => none, P, [(35, c35 N)]⟩
theorem c26_of (P : Program) {N : Nat} {xs : List AV} {H : Heap} {K : Kv} (h : c26 N xs H K) : @xF (t54 N P) f26 xs H ⟨fun v H' => ∃ H0, Hle H0 H' ∧ ∃ v', AVle v v' ∧ K.ap v' H0⟩ := by
  obtain ⟨pp, ts, tok, i0, n0, o, els, d, F0, rfl, hn, hl, hi, hN, hF, hn4, hts, hd0, hd, h⟩ := h
  obtain ⟨L, hL⟩ := allTk_of ts
  have facts := parse_facts ts L hL
  generalize hR : listR ts F0 o els d i0 n0 [] = R at h
  simp (implicitDefEqProofs := false) only [sB, simprocAttr, f26]
  refine i_loopJ (fun σ H1 => ∃ (i n F : Nat) (out : List Nd) (tk : Tok), H1.Perm (tokH tk ++ setH pp (parO ts tok i n) H) ∧ H1.keys.Nodup ∧ GC 8 (Nd.avs out) tk ∧ out.length ≤ i ∧ i0 ≤ i ∧ i ≤ ts.length ∧ n ≤ 4096 ∧ 2 * (ts.length - i) + 2 ≤ F ∧
      listR ts F o els d i n out = R ∧ σ = [(0, .ptr pp 0), (1, .int .i64 o), (2, .bool els), (3, .int .i64 d), (11, .sl (Nd.avs out) tk)])
    (fun σ H1 => ts.length - curI pp H1)
    (fun e σ H1 => ∃ i n : Nat, Hle (setH pp (parO ts tok i n) H) H1 ∧ ((e = .exit 0 ∧ ∃ out tk, R = (some out, 0, 0, i, n) ∧ GC 8 (Nd.avs out) tk ∧ σ.get 11 = .sl (Nd.avs out) tk) ∨
      (e = .ret ∧ ∃ out tk, R = (some out, 0, 0, i, n) ∧ GC 8 (Nd.avs out) tk ∧ σ.get 8 = .sl (Nd.avs out) tk ∧ σ.get 9 = .int .i64 0 ∧ σ.get 10 = .int .i64 0) ∨
      (e = .ret ∧ ∃ a er, R = (none, a, er, i, n) ∧ σ.get 8 = .sl [] .nil ∧ σ.get 9 = .int .i64 a ∧ σ.get 10 = .int .i64 er)))
    ⟨_, .refl _, i0, n0, F0, [], .nil, ?_, hn, rfl, by simp, Nat.le_refl _, hi, hn4, hF, hR, rfl⟩ ?_ ?_
  · rw [set_same hl]; exact .refl _
  · rintro e σ H1 ⟨i, n, hle, ⟨rfl, out, tk, rfl, hg, q11⟩ | ⟨rfl, out, tk, rfl, hg, q8, q9, q10⟩ | ⟨rfl, a, er, rfl, q8, q9, q10⟩⟩
    · simp (implicitDefEqProofs := false) only [sB, simprocAttr, q11]
      refine ⟨_, hle, _, AVle.tup (.cons (AVle.tok hg) (.refl _)), ?_⟩
      rw [nds_tok]; exact h
    · simp (implicitDefEqProofs := false) only [sB, simprocAttr, q8, q9, q10]
      refine ⟨_, hle, _, AVle.tup (.cons (AVle.tok hg) (.refl _)), ?_⟩
      rw [nds_tok]; exact h
    · simp (implicitDefEqProofs := false) only [sB, simprocAttr, q8, q9, q10]
      exact ⟨_, hle, _, .refl _, h⟩
  · rintro Q hQ σ H1 ⟨i, n, F, out, tk, hp, hn1, hg, ho, hi0, hi, hn4, hF, hr, rfl⟩
    have hlk : lookH pp H1 = some (.cells [.sl (tksAV ts) tok, .int .i64 i, .int .i64 n]) := look_tok hp hn1 hl
    have hle1 : Hle (setH pp (parO ts tok i n) H) H1 := hle_tok hp
    obtain ⟨F, rfl⟩ : ∃ f', F = f' + 1 := ⟨F - 1, by omega⟩
    rw [listR] at hr
    simp (implicitDefEqProofs := false) only [sB, simprocAttr, hlk, tks_len]
    refine i_if (fun c => ?_) (fun c => ?_)
    · have c' : i < ts.length := by simpa using c
      have ht : ts[i]? = some ts[i] := List.getElem?_eq_getElem c'
      have i0' : (0 : Int) ≤ (i : Int) := by omega
      rw [ht] at hr
      generalize hte : ts[i] = t at ht hr
      obtain ⟨k, a, s, px, hb⟩ := t
      simp only at hr
      simp (implicitDefEqProofs := false) only [sB, simprocAttr, hlk, tks_get, ht, Option.map_some, i0', tkAV]
      refine i_new fun q hq => ?_
      have hpq : ¬ pp = q := key_ne hlk hq
      have hqp : ¬ q = pp := fun e => hpq e.symm
      have hq' : q ∉ List.map Prod.fst H1 := hq
      have hleq : ∀ x : AObj, Hle (setH pp (parO ts tok i n) H) ((q, x) :: H1) := fun x => hle1.trans (.tail _ _)
      by_cases k7 : k = 7
      · rw [if_pos k7] at hr
        by_cases o2 : o = 2
        · cases els with
          | true =>
            rw [if_pos (.inr rfl)] at hr
            simp (implicitDefEqProofs := false) only [sB, simprocAttr, hlk, hpq, hqp, hq', tks_get, ht, Option.map_some, i0', tkAV, k7, o2]
            exact hQ _ _ _ ⟨i, n, hleq _, .inr (.inr ⟨rfl, a, 13, hr.symm, rfl, rfl, rfl⟩)⟩
          | false =>
            rw [if_neg (by simp [o2])] at hr
            simp (implicitDefEqProofs := false) only [sB, simprocAttr, hlk, hpq, hqp, hq', tks_get, ht, Option.map_some, i0', tkAV, k7, o2]
            exact hQ _ _ _ ⟨i, n, hleq _, .inr (.inl ⟨rfl, out, tk, hr.symm, hg, rfl, rfl, rfl⟩)⟩
        · rw [if_pos (.inl o2)] at hr
          simp (implicitDefEqProofs := false) only [sB, simprocAttr, hlk, hpq, hqp, hq', tks_get, ht, Option.map_some, i0', tkAV, k7, o2]
          exact hQ _ _ _ ⟨i, n, hleq _, .inr (.inr ⟨rfl, a, 13, hr.symm, rfl, rfl, rfl⟩)⟩
      · rw [if_neg k7] at hr
        by_cases k8 : k = 8
        · rw [if_pos k8] at hr
          by_cases o0 : o < 0
          · rw [if_pos o0] at hr
            simp (implicitDefEqProofs := false) only [sB, simprocAttr, hlk, hpq, hqp, hq', tks_get, ht, Option.map_some, i0', tkAV, k7, k8, o0]
            exact hQ _ _ _ ⟨i, n, hleq _, .inr (.inr ⟨rfl, a, 13, hr.symm, rfl, rfl, rfl⟩)⟩
          · rw [if_neg o0] at hr
            simp (implicitDefEqProofs := false) only [sB, simprocAttr, hlk, hpq, hqp, hq', tks_get, ht, Option.map_some, i0', tkAV, k7, k8, o0]
            exact hQ _ _ _ ⟨i, n, hleq _, .inr (.inl ⟨rfl, out, tk, hr.symm, hg, rfl, rfl, rfl⟩)⟩
        · rw [if_neg k8] at hr
          simp (implicitDefEqProofs := false) only [sB, simprocAttr, hlk, hpq, hqp, hq', tks_get, ht, Option.map_some, i0', tkAV, k7, k8]
          refine ⟨pp, ts, tok, i, n, d, F, ⟨k, a, s, px, hb⟩, rfl, List.nodup_cons.2 ⟨hq, hn1⟩, by simp only [lookH, hpq, if_false, hlk, parO], ht, by omega, by omega, hn4, hts, hd0, hd, ?_⟩
          have hk := (facts F).2 d i n ⟨k, a, s, px, hb⟩ ht (by omega) hn4
          revert hk hr
          generalize nodeR ts F d i n ⟨k, a, s, px, hb⟩ = r
          rcases r with ⟨_ | x, a', e', i', n'⟩
          · rintro hr ⟨g1, g2, g3, g4, g5⟩
            simp only at hr
            have hp2 := set_tok (parO ts tok i' n') hp hn1 hl
            have hle2 : Hle (setH pp (parO ts tok i' n') H) (setH pp (parO ts tok i' n') H1) := hle_tok hp2
            simp (implicitDefEqProofs := false) only [sB, simprocAttr, resNd, zeroN, hpq, hqp]
            refine i_new fun z hz => ?_
            simp (implicitDefEqProofs := false) only [sB, simprocAttr, g1]
            exact hQ _ _ _ ⟨i', n', hle2.trans (.of_sub (.cons _ (.cons _ (.refl _)))), .inr (.inr ⟨rfl, a', e', hr.symm, rfl, rfl, rfl⟩)⟩
          · rintro hr ⟨rfl, rfl, g3, g4, g5, g6, g7, g8⟩
            simp only at hr
            have hp2 := set_tok (parO ts tok i' n') hp hn1 hl
            have hn2 : (setH pp (parO ts tok i' n') H1).keys.Nodup := set_nodup _ hn1
            have hq2 : q ∉ (setH pp (parO ts tok i' n') H1).keys := by rw [keys_set]; exact hq
            obtain ⟨k2, a2, s2, px2, hp2', he2, b2, el2⟩ := x
            simp (implicitDefEqProofs := false) only [sB, simprocAttr, resNd, Nd.cs, hpq, hqp]
            refine i_new fun z hz => ?_
            simp (implicitDefEqProofs := false) only [sB, simprocAttr]
            refine i_bslN (by decide) (Nd.avs [.mk k2 a2 s2 px2 hp2' he2 b2 el2]) (by simp [Nd.avs, Nd.cs, flat, AV.cells, fillL, splice]) (nds_all _) rfl fun w hw => ?_
            simp (implicitDefEqProofs := false) only [sB, simprocAttr, nds_one]
            refine app_nd (A := [(w, .spare 8), (z, _), (q, _)]) (H := setH pp (parO ts tok i' n') H) (.mk k2 a2 s2 px2 hp2' he2 b2 el2) _ (((hp2.cons _).cons _).cons _) (List.nodup_cons.2 ⟨hw, List.nodup_cons.2 ⟨hz, List.nodup_cons.2 ⟨hq2, hn2⟩⟩⟩) hg (by omega) fun tk' H' q1 q2 q3 => ?_
            simp (implicitDefEqProofs := false) only [sB, simprocAttr]
            refine ⟨_, q2, ⟨i', n', F, _, tk', .refl _, q3, q1, by simp; omega, by omega, g4, g6, by omega, hr, by simp⟩, ?_⟩
            rw [curI_of (look_tok (.refl _) q3 hl), curI_of (look_tok hp hn1 hl)]
            omega
    · have c' : i = ts.length := by have : ¬ (i : Int) < ts.length := by simpa using c
                                    omega
      have ht : ts[i]? = none := List.getElem?_eq_none (by omega)
      rw [ht] at hr
      simp (implicitDefEqProofs := false) only [sB, simprocAttr]
      exact hQ _ _ _ ⟨i, n, hle1, .inl ⟨rfl, out, tk, hr.symm, hg, rfl⟩⟩
end Go.AL.Fun
