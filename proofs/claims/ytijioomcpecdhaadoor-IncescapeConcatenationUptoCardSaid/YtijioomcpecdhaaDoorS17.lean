/- The incremental escaper: its methods. -/
import Derived.Test.YtijioomcpecdhaaDoorS14
set_option linter.unusedSimpArgs false
set_option linter.unusedVariables false
set_option maxRecDepth 100000
set_option maxHeartbeats 4000000
namespace Go.AL.Fun
open Go Go.AL

/-- An escaper's cells. -/
def eC (h : List UInt8) (e : Int) (out : List UInt8) (cl : Bool) (t1 t2 : Tok) : AObj := .cells [.sl (bytesAV h) t1, .int .i64 e, .sl (bytesAV out) t2, .bool cl]
def c64 (xs : List AV) (H : Heap) (K : Kv) : Prop := ∃ (p : Nat) (h : List UInt8) (e : Int) (out : List UInt8) (cl : Bool) (t1 t2 : Tok) (R : Heap) (x : AV) (l : List Int), xs = [.ptr p 0, x] ∧ RSrc R x l ∧
  H.Perm ((p, eC h e out cl t1 t2) :: (tokH t2 ++ R)) ∧ H.keys.Nodup ∧ GT (bytesAV out) t2 ∧ out.length + 12 * l.length ≤ 1073741824 ∧ 0 ≤ e ∧ e ≤ 4 ∧ I32 l ∧
  ∀ t3 H', GT (bytesAV (out ++ l.flatMap (runeP e))) t3 → H'.Perm ((p, eC h e (out ++ l.flatMap (runeP e)) cl t1 t3) :: (tokH t3 ++ R)) → H'.keys.Nodup → K.ap (.int .i64 0) H'
theorem c64_of (P : Program) {G : Nat → Option (List AV)} {xs : List AV} {H : Heap} {K : Kv} (h : c64 xs H K) : @xF ⟨G, P, [(15, c15)]⟩ f64 xs H ⟨fun v H' => ∃ H0, Hle H0 H' ∧ K.ap v H0⟩ := by
  obtain ⟨p, h, e, out, cl, t1, t2, R, x, l, rfl, hx, hp, hn, hg, hl, e0, e4, hr, k⟩ := h
  simp (implicitDefEqProofs := false) only [sB, simprocAttr, f64]
  have hxH : RSrc H x l := by
    cases hx with
    | sl l t => exact .sl l t
    | msl id l hid => exact .msl id l (look_app (A := (p, eC h e out cl t1 t2) :: tokH t2) hp hn _ _ hid)
  refine rs_len hxH ?_
  simp (implicitDefEqProofs := false) only [sB, simprocAttr]
  refine i_loopJ (fun σ H1 => ∃ (i : Nat) (t3 : Tok), GT (bytesAV (out ++ (l.take i).flatMap (runeP e))) t3 ∧ H1.Perm ((p, eC h e (out ++ (l.take i).flatMap (runeP e)) cl t1 t3) :: (tokH t3 ++ R)) ∧ H1.keys.Nodup ∧ i ≤ l.length ∧ ((l.take i).flatMap (runeP e)).length ≤ 12 * i ∧ σ = [(0, .ptr p 0), (9, x), (10, .int .i64 l.length), (11, .int .i64 i)])
    (fun σ _ => match σ.get 11 with | .int _ n => l.length - n.toNat | _ => 0)
    (fun ex σ H1 => ex = .exit 0 ∧ ∃ t3, GT (bytesAV (out ++ l.flatMap (runeP e))) t3 ∧ H1.Perm ((p, eC h e (out ++ l.flatMap (runeP e)) cl t1 t3) :: (tokH t3 ++ R)) ∧ H1.keys.Nodup)
    ⟨_, .refl _, 0, t2, by simpa using hg, by simpa using hp, hn, by omega, by simp, rfl⟩ ?_ ?_
  · rintro ex σ H1 ⟨rfl, t3, g1, g2, g3⟩
    simp (implicitDefEqProofs := false) only [sB, simprocAttr]
    exact ⟨_, .refl _, k t3 _ g1 g2 g3⟩
  · rintro Q hQ σ H1 ⟨i, t3, g1, g2, g3, hi, hlen, rfl⟩
    by_cases ci : i < l.length
    · have ci' : (i : Int) < (l.length : Int) := by omega
      have i0 : (0 : Int) ≤ (i : Int) := by omega
      have hgi : l[i]? = some l[i] := List.getElem?_eq_getElem ci
      have r9 := w_i64 ((i : Int) + 1) (by omega) (by omega)
      have hE := hr l[i] (List.getElem_mem ci)
      have hE16 := (runeP_len e l[i]).2
      have htk : out ++ (l.take (i + 1)).flatMap (runeP e) = (out ++ (l.take i).flatMap (runeP e)) ++ runeP e l[i] := by
        rw [List.take_add_one, hgi, List.flatMap_append, List.append_assoc]; simp
      have hln2 : ((l.take (i + 1)).flatMap (runeP e)).length ≤ 12 * (i + 1) := by
        have := congrArg List.length htk
        simp only [List.length_append] at this; omega
      have hRl : ∀ id o, lookH id R = some o → lookH id H1 = some o := look_app (A := (p, eC h e (out ++ (l.take i).flatMap (runeP e)) cl t1 t3) :: tokH t3) g2 g3
      simp only [eC] at g2
      have hlk := look_head g2 g3
      cases hx with
      | sl l t =>
        simp (implicitDefEqProofs := false) only [sB, simprocAttr, ci', i0, i32_len, i32_get, hgi, Option.map_some, hlk]
        generalize l[i] = r at *
        refine ⟨e, r, rfl, hE.1, hE.2, g3, fun _ _ => ?_, fun h => by omega⟩
        simp (implicitDefEqProofs := false) only [sB, simprocAttr, hlk]
        refine i_app (A := [(p, eC h e (out ++ (l.take i).flatMap (runeP e)) cl t1 t3)]) (R := R) (tk := t3) (xs := bytesAV (out ++ (l.take i).flatMap (runeP e))) (ys := bytesAV (runeP e r)) g2 g3 g1 (.inr ⟨_, rfl, rfl⟩) (allSz_bytes _) (allSz_bytes _) ?_ ?_ fun t4 H2 q1 q2 q3 => ?_
        · simp only [by_len, List.length_append, maxLen_eq]; omega
        · simp only [by_len, List.length_append]; omega
        rw [by_app] at q1 ⊢
        simp only [eC, List.cons_append, List.nil_append] at q2
        have hlk2 := look_head q2 q3
        simp (implicitDefEqProofs := false) only [sB, simprocAttr, hlk2, r9]
        have h5 := set_head (eC h e (out ++ ((l.take i).flatMap (runeP e) ++ runeP e r)) cl t1 t4) q2 q3
        exact ⟨_, .refl _, ⟨i + 1, t4, by rw [htk]; exact q1, by rw [htk, List.append_assoc]; exact h5, set_nodup _ q3, by omega, hln2, by simp⟩, by omega⟩
      | msl id l hid =>
        simp (implicitDefEqProofs := false) only [sB, simprocAttr, ci', i0, i32_len, i32_get, hgi, Option.map_some, hlk, hRl _ _ hid]
        generalize l[i] = r at *
        refine ⟨e, r, rfl, hE.1, hE.2, g3, fun _ _ => ?_, fun h => by omega⟩
        simp (implicitDefEqProofs := false) only [sB, simprocAttr, hlk]
        refine i_app (A := [(p, eC h e (out ++ (l.take i).flatMap (runeP e)) cl t1 t3)]) (R := R) (tk := t3) (xs := bytesAV (out ++ (l.take i).flatMap (runeP e))) (ys := bytesAV (runeP e r)) g2 g3 g1 (.inr ⟨_, rfl, rfl⟩) (allSz_bytes _) (allSz_bytes _) ?_ ?_ fun t4 H2 q1 q2 q3 => ?_
        · simp only [by_len, List.length_append, maxLen_eq]; omega
        · simp only [by_len, List.length_append]; omega
        rw [by_app] at q1 ⊢
        simp only [eC, List.cons_append, List.nil_append] at q2
        have hlk2 := look_head q2 q3
        simp (implicitDefEqProofs := false) only [sB, simprocAttr, hlk2, r9]
        have h5 := set_head (eC h e (out ++ ((l.take i).flatMap (runeP e) ++ runeP e r)) cl t1 t4) q2 q3
        exact ⟨_, .refl _, ⟨i + 1, t4, by rw [htk]; exact q1, by rw [htk, List.append_assoc]; exact h5, set_nodup _ q3, by omega, hln2, by simp⟩, by omega⟩
    · have ci' : ¬ (i : Int) < (l.length : Int) := by omega
      simp (implicitDefEqProofs := false) only [sB, simprocAttr, ci']
      rw [List.take_of_length_le (by omega)] at g1 g2
      exact hQ _ _ _ ⟨rfl, t3, g1, g2, g3⟩

def c67 (xs : List AV) (H : Heap) (K : Kv) : Prop := ∃ (l : List UInt8) (t : Tok), xs = [.sl (bytesAV l) t] ∧ (t = .nil → l = []) ∧ l.length ≤ 1073741824 ∧ H.keys.Nodup ∧ ∀ t', K.ap (.sl (bytesAV l) t') H
theorem c67_of (P : Program) {G : Nat → Option (List AV)} {xs : List AV} {H : Heap} {K : Kv} (h : c67 xs H K) : @xF ⟨G, P, []⟩ f67 xs H ⟨fun v H' => ∃ H0, Hle H0 H' ∧ K.ap v H0⟩ := by
  obtain ⟨l, t, rfl, ht, hl, hn, k⟩ := h
  by_cases c : t = .nil
  · have := ht c; subst this; subst c
    simp (implicitDefEqProofs := false) only [sB, simprocAttr, f67]
    exact ⟨_, .refl _, k _⟩
  · simp (implicitDefEqProofs := false) only [sB, simprocAttr, f67, c]
    refine i_emp hn fun id hid hn2 => ?_
    simp (implicitDefEqProofs := false) only [sB, simprocAttr]
    refine i_app (A := []) (R := H) (tk := .at id 0 1) (xs := []) (ys := bytesAV l) (.refl _) hn2 rfl (.inl ⟨_, rfl⟩) (allSz_bytes _) (by rw [allSz_nil]; trivial) ?_ ?_ fun t' H' h1 h2 h3 => ?_
    · simp only [by_len, List.length_nil, maxLen_eq]; omega
    · simp only [by_len, List.length_nil]; omega
    · simp (implicitDefEqProofs := false) only [sB, simprocAttr]
      exact ⟨H, hle_sub h2 (List.sublist_append_right (tokH t') H), k _⟩
theorem GT.nil_of {xs : List AV} {t : Tok} (h : GT xs t) (e : t = .nil) : xs = [] := by subst e; exact h
theorem by_nil {l : List UInt8} (h : bytesAV l = []) : l = [] := List.map_eq_nil_iff.1 h
theorem GT.drop {l : List UInt8} {t : Tok} (k : Nat) (h : GT (bytesAV l) t) : GT (bytesAV (l.drop k)) t := by
  cases t with
  | nil => have := by_nil h; subst this; simp [GT, bytesAV]
  | no => exact h
  | «at» b e s => exact h
/-- An escaper in good order, beside R. -/
structure ES where
  h : List UInt8
  e : Int
  out : List UInt8
  cl : Bool
def EX (p : Nat) (s : ES) (H R : Heap) : Prop := H.keys.Nodup ∧ ∃ t1 t2, GT (bytesAV s.out) t2 ∧ H.Perm ((p, eC s.h s.e s.out s.cl t1 t2) :: (tokH t2 ++ R))
theorem EX.look {p : Nat} {s : ES} {H R : Heap} (h : EX p s H R) : ∃ t1 t2, GT (bytesAV s.out) t2 ∧ lookH p H = some (.cells [.sl (bytesAV s.h) t1, .int .i64 s.e, .sl (bytesAV s.out) t2, .bool s.cl]) := by
  obtain ⟨hn, t1, t2, g, hp⟩ := h
  exact ⟨t1, t2, g, look_head hp hn⟩
def c25 (xs : List AV) (H : Heap) (K : Kv) : Prop := ∃ e : Int, xs = [.int .i64 e] ∧ H.keys.Nodup ∧ ((e < 0 ∨ 5 ≤ e) → K.ap (.tup [.nilp, .int .i64 2]) H) ∧ (0 ≤ e → e < 5 → ∀ p H', EX p ⟨[], e, [], false⟩ H' H → K.ap (.tup [.ptr p 0, .int .i64 0]) H')
theorem c25_of (P : Program) {G : Nat → Option (List AV)} {xs : List AV} {H : Heap} {K : Kv} (h : c25 xs H K) : @xF ⟨G, P, []⟩ f25 xs H ⟨fun v H' => ∃ H0, Hle H0 H' ∧ K.ap v H0⟩ := by
  obtain ⟨e, rfl, hn, k1, k2⟩ := h
  by_cases c0 : e < 0
  · simp (implicitDefEqProofs := false) only [sB, simprocAttr, f25, c0]
    exact ⟨_, .refl _, k1 (.inl c0)⟩
  by_cases c5 : (5 : Int) ≤ e
  · simp (implicitDefEqProofs := false) only [sB, simprocAttr, f25, c0, c5]
    exact ⟨_, .refl _, k1 (.inr c5)⟩
  simp (implicitDefEqProofs := false) only [sB, simprocAttr, f25, c0, c5]
  refine i_new fun p hp => ?_
  simp (implicitDefEqProofs := false) only [sB, simprocAttr]
  exact ⟨_, .refl _, k2 (by omega) (by omega) p _ ⟨List.nodup_cons.2 ⟨hp, hn⟩, .nil, .nil, rfl, .refl _⟩⟩
def cM (xs : List AV) (H : Heap) (kn : Prop) (k : ES → Prop) : Prop := (xs = [.nilp] ∧ kn) ∨ ∃ (p : Nat) (s : ES) (R : Heap), xs = [.ptr p 0] ∧ EX p s H R ∧ k s
def c27 (xs : List AV) (H : Heap) (K : Kv) : Prop := cM xs H (K.ap (.int .i64 0) H) fun s => K.ap (.int .i64 s.out.length) H
def c28 (xs : List AV) (H : Heap) (K : Kv) : Prop := cM xs H (K.ap (.bool false) H) fun s => K.ap (.bool (s.cl && decide (s.out = []))) H
theorem c27_of (P : Program) {G : Nat → Option (List AV)} {xs : List AV} {H : Heap} {K : Kv} (h : c27 xs H K) : @xF ⟨G, P, []⟩ f27 xs H ⟨fun v H' => ∃ H0, Hle H0 H' ∧ K.ap v H0⟩ := by
  rcases h with ⟨rfl, k⟩ | ⟨p, s, R, rfl, hE, k⟩
  · simp (implicitDefEqProofs := false) only [sB, simprocAttr, f27]
    exact ⟨_, .refl _, k⟩
  · obtain ⟨t1, t2, g, hlk⟩ := hE.look
    simp (implicitDefEqProofs := false) only [sB, simprocAttr, f27, hlk, by_len]
    exact ⟨_, .refl _, k⟩
theorem c28_of (P : Program) {G : Nat → Option (List AV)} {xs : List AV} {H : Heap} {K : Kv} (h : c28 xs H K) : @xF ⟨G, P, []⟩ f28 xs H ⟨fun v H' => ∃ H0, Hle H0 H' ∧ K.ap v H0⟩ := by
  rcases h with ⟨rfl, k⟩ | ⟨p, s, R, rfl, hE, k⟩
  · simp (implicitDefEqProofs := false) only [sB, simprocAttr, f28]
    exact ⟨_, .refl _, k⟩
  · obtain ⟨t1, t2, g, hlk⟩ := hE.look
    cases hc : s.cl with
    | false =>
      rw [hc] at k hlk
      simp (implicitDefEqProofs := false) only [sB, simprocAttr, f28, hlk]
      exact ⟨_, .refl _, k⟩
    | true =>
      rw [hc] at k hlk
      by_cases ho : s.out = []
      · rw [decide_eq_true ho] at k
        simp (implicitDefEqProofs := false) only [sB, simprocAttr, f28, hlk, ho]
        exact ⟨_, .refl _, k⟩
      · rw [decide_eq_false ho] at k
        have hl : ¬ (s.out.length : Int) = 0 := by have := List.length_pos_iff.2 ho; omega
        simp (implicitDefEqProofs := false) only [sB, simprocAttr, f28, hlk, by_len, hl]
        exact ⟨_, .refl _, k⟩
theorem wrP_i32 : ∀ (n : Nat) (s : List UInt8), s.length ≤ n → I32 (wrP s).1
  | 0, s, h => by
    have : s = [] := List.length_eq_zero_iff.1 (by omega)
    subst this
    rw [wrP_stop (.inl rfl)]; intro r hr; cases hr
  | n + 1, s, h => by
    by_cases hs : s = [] ∨ (fst s).2 = true
    · rw [wrP_stop hs]; intro r hr; cases hr
    · rw [not_or] at hs
      have h1 : (fst s).2 = false := by simpa using hs.2
      rw [wrP_step hs.1 h1]
      have d1 := dec1_pos s
      have d2 := dec1_le hs.1
      have := wrP_i32 n (s.drop (dec1 s).2) (by rw [List.length_drop]; omega)
      intro r hr
      rcases List.mem_cons.1 hr with rfl | hr
      · exact dec1_rng s
      · exact this r hr
def c29 (xs : List AV) (H : Heap) (K : Kv) : Prop := (∃ y, xs = [.nilp, y] ∧ K.ap (.int .i64 1) H) ∨ ∃ (p : Nat) (s : ES) (x : AV) (b : List UInt8) (R : Heap), xs = [.ptr p 0, x] ∧ EX p s H R ∧ BSrc H x b ∧
  (s.cl = true → K.ap (.int .i64 4) H) ∧ (s.cl = false → s.h.length + b.length ≤ 1048576 ∧ s.out.length ≤ 536870912 ∧ 0 ≤ s.e ∧ s.e ≤ 4 ∧ ∀ H', EX p { s with h := (wrP (s.h ++ b)).2, out := s.out ++ (wrP (s.h ++ b)).1.flatMap (runeP s.e) } H' R → K.ap (.int .i64 0) H')
/-- Close. -/
def c30 (xs : List AV) (H : Heap) (K : Kv) : Prop := (xs = [.nilp] ∧ K.ap (.int .i64 1) H) ∨ ∃ (p : Nat) (s : ES) (R : Heap), xs = [.ptr p 0] ∧ EX p s H R ∧
  (s.cl = true → K.ap (.int .i64 4) H) ∧ (s.cl = false → s.h.length ≤ 1048576 ∧ s.out.length ≤ 536870912 ∧ 0 ≤ s.e ∧ s.e ≤ 4 ∧ ∀ H', EX p { s with h := [], cl := true, out := s.out ++ (decP s.h).flatMap (runeP s.e) } H' R → K.ap (.int .i64 0) H')
theorem x_c65 {pp : Nat} {h p : List UInt8} {tk : Tok} {rs : List AV} {x : AV} {R H : Heap} {K : Kv} (hp : H.Perm ((pp, dO h tk rs) :: R)) (hn : H.keys.Nodup) (hx : BSrc H x p) (hl : h.length + p.length ≤ 1073741824)
  (k : ∀ tk2 H', H'.Perm ((pp, dO (wrP (h ++ p)).2 tk2 rs) :: R) → H'.keys.Nodup → K.ap (.sl (i32AV (wrP (h ++ p)).1) (tokc (wrP (h ++ p)).1)) H') : c65 [.ptr pp 0, x] H K := ⟨pp, h, p, tk, rs, x, R, rfl, hp, hn, hx, hl, k⟩
theorem wrP_len : ∀ (n : Nat) (s : List UInt8), s.length ≤ n → (wrP s).1.length ≤ s.length
  | 0, s, h => by
    have : s = [] := List.length_eq_zero_iff.1 (by omega)
    subst this
    rw [wrP_stop (.inl rfl)]; simp
  | n + 1, s, h => by
    by_cases hs : s = [] ∨ (fst s).2 = true
    · rw [wrP_stop hs]; simp
    · rw [not_or] at hs
      have h1 : (fst s).2 = false := by simpa using hs.2
      rw [wrP_step hs.1 h1]
      have d1 := dec1_pos s
      have d2 := dec1_le hs.1
      have := wrP_len n (s.drop (dec1 s).2) (by rw [List.length_drop]; omega)
      rw [List.length_drop] at this
      simp only [List.length_cons]; omega
theorem c29_of (P : Program) {G : Nat → Option (List AV)} {xs : List AV} {H : Heap} {K : Kv} (h : c29 xs H K) : @xF ⟨G, P, [(64, c64), (65, c65)]⟩ f29 xs H ⟨fun v H' => ∃ H0, Hle H0 H' ∧ K.ap v H0⟩ := by
  rcases h with ⟨y, rfl, k⟩ | ⟨p, s, x, b, R, rfl, hE, hx, k1, k2⟩
  · simp (implicitDefEqProofs := false) only [sB, simprocAttr, f29]
    exact ⟨_, .refl _, k⟩
  obtain ⟨t1, t2, g, hlk⟩ := hE.look
  cases hc : s.cl with
  | true =>
    rw [hc] at hlk
    simp (implicitDefEqProofs := false) only [sB, simprocAttr, f29, hlk]
    exact ⟨_, .refl _, k1 hc⟩
  | false =>
    obtain ⟨hl, ho, e0, e4, k⟩ := k2 hc
    rw [hc] at hlk
    simp (implicitDefEqProofs := false) only [sB, simprocAttr, f29, hlk]
    obtain ⟨hn, u1, u2, g', hp⟩ := hE
    refine x_c65 (h := s.h) (p := b) (tk := u1) (rs := [.int .i64 s.e, .sl (bytesAV s.out) u2, .bool s.cl]) hp hn hx (by omega) fun tk2 H2 q1 q2 => ?_
    simp (implicitDefEqProofs := false) only [sB, simprocAttr]
    have hwl := wrP_len _ (s.h ++ b) (Nat.le_refl _)
    rw [List.length_append] at hwl
    refine ⟨p, (wrP (s.h ++ b)).2, s.e, s.out, s.cl, tk2, u2, R, _, (wrP (s.h ++ b)).1, rfl, .sl _ _, q1, q2, g', by omega, e0, e4, wrP_i32 _ _ (Nat.le_refl _), fun t3 H3 w1 w2 w3 => ?_⟩
    simp (implicitDefEqProofs := false) only [sB, simprocAttr]
    exact ⟨_, .refl _, k _ ⟨w3, tk2, t3, w1, w2⟩⟩
theorem x_c66 {pp : Nat} {h : List UInt8} {tk : Tok} {rs : List AV} {R H : Heap} {K : Kv} (hp : H.Perm ((pp, dO h tk rs) :: R)) (hn : H.keys.Nodup) (hl : h.length ≤ 1073741824)
  (k : ∀ id H', H'.Perm ((id, .cells (i32AV (decP h))) :: (pp, dO [] .nil rs) :: R) → H'.keys.Nodup → K.ap (.msl id 0 (decP h).length 1) H') : c66 [.ptr pp 0] H K := ⟨pp, h, tk, rs, R, rfl, hp, hn, hl, k⟩
theorem c30_of (P : Program) {G : Nat → Option (List AV)} {xs : List AV} {H : Heap} {K : Kv} (h : c30 xs H K) : @xF ⟨G, P, [(64, c64), (66, c66)]⟩ f30 xs H ⟨fun v H' => ∃ H0, Hle H0 H' ∧ K.ap v H0⟩ := by
  rcases h with ⟨rfl, k⟩ | ⟨p, s, R, rfl, hE, k1, k2⟩
  · simp (implicitDefEqProofs := false) only [sB, simprocAttr, f30]
    exact ⟨_, .refl _, k⟩
  obtain ⟨t1, t2, g, hlk⟩ := hE.look
  cases hc : s.cl with
  | true =>
    rw [hc] at hlk
    simp (implicitDefEqProofs := false) only [sB, simprocAttr, f30, hlk]
    exact ⟨_, .refl _, k1 hc⟩
  | false =>
    obtain ⟨hl, ho, e0, e4, k⟩ := k2 hc
    obtain ⟨hn, u1, u2, g', hp⟩ := hE
    have hlk2 := look_head hp hn
    simp only [eC, hc] at hlk2
    simp (implicitDefEqProofs := false) only [sB, simprocAttr, f30, hlk2]
    have hp3 : (renH p p _ H).Perm ((p, eC s.h s.e s.out true u1 u2) :: (tokH u2 ++ R)) := set_head (eC s.h s.e s.out true u1 u2) hp hn
    have hn3 : (renH p p (eC s.h s.e s.out true u1 u2) H).keys.Nodup := set_nodup _ hn
    have hdl := decP_len _ s.h (Nat.le_refl _)
    refine x_c66 (h := s.h) (tk := u1) (rs := [.int .i64 s.e, .sl (bytesAV s.out) u2, .bool true]) hp3 hn3 (by omega) fun id H2 q1 q2 => ?_
    simp (implicitDefEqProofs := false) only [sB, simprocAttr]
    have q3 : H2.Perm ((p, eC [] s.e s.out true .nil u2) :: (tokH u2 ++ ((id, .cells (i32AV (decP s.h))) :: R))) := q1.trans ((List.Perm.swap _ _ _).trans (.cons _ List.perm_middle.symm))
    have hlR : lookH id ((id, AObj.cells (i32AV (decP s.h))) :: R) = some (.cells (i32AV (decP s.h))) := by simp [lookH]
    refine ⟨p, [], s.e, s.out, true, .nil, u2, (id, .cells (i32AV (decP s.h))) :: R, _, decP s.h, rfl, .msl _ _ hlR, q3, q2, g', by omega, e0, e4, decP_rng _ _ (Nat.le_refl _), fun t3 H3 w1 w2 w3 => ?_⟩
    simp (implicitDefEqProofs := false) only [sB, simprocAttr]
    have w4 : H3.Perm ((id, .cells (i32AV (decP s.h))) :: ((p, eC [] s.e (s.out ++ (decP s.h).flatMap (runeP s.e)) true .nil t3) :: (tokH t3 ++ R))) := w2.trans ((List.Perm.cons _ List.perm_middle).trans (.swap _ _ _))
    exact ⟨_, hle_sub w4 (List.sublist_cons_self _ _), k _ ⟨(List.nodup_cons.1 ((w4.map Prod.fst).nodup_iff.1 w3)).2, .nil, t3, w1, .refl _⟩⟩
def c31 (xs : List AV) (H : Heap) (K : Kv) : Prop := (∃ y, xs = [.nilp, y] ∧ K.ap (.sl [] .nil) H) ∨ ∃ (p : Nat) (s : ES) (n : Int) (R : Heap), xs = [.ptr p 0, .int .i64 n] ∧ EX p s H R ∧ s.out.length ≤ 1073741824 ∧
  ∀ t H', EX p { s with out := s.out.drop (min n.toNat s.out.length) } H' R → K.ap (.sl (bytesAV (s.out.take (min n.toNat s.out.length))) t) H'
theorem c31_of (P : Program) {G : Nat → Option (List AV)} {xs : List AV} {H : Heap} {K : Kv} (h : c31 xs H K) : @xF ⟨G, P, [(67, c67)]⟩ f31 xs H ⟨fun v H' => ∃ H0, Hle H0 H' ∧ K.ap v H0⟩ := by
  rcases h with ⟨y, rfl, k⟩ | ⟨p, s, n, R, rfl, hE, hl, k⟩
  · simp (implicitDefEqProofs := false) only [sB, simprocAttr, f31]
    exact ⟨_, .refl _, k⟩
  obtain ⟨hn, u1, u2, g, hp⟩ := hE
  obtain ⟨t1, t2, g', hlk⟩ := EX.look (p := p) (s := s) (R := R) ⟨hn, u1, u2, g, hp⟩
  have hlk := look_head hp hn
  simp only [eC] at hlk
  obtain ⟨m, hm⟩ : ∃ m : Nat, m = min n.toNat s.out.length := ⟨_, rfl⟩
  rw [← hm] at k
  have hm2 : (if (0 : Int) < (if (s.out.length : Int) < n then (s.out.length : Int) else n) then (if (s.out.length : Int) < n then (s.out.length : Int) else n) else 0) = (m : Int) := by
    repeat' split
    all_goals omega
  have hm3 : m ≤ s.out.length := by omega
  have z1 : (0 : Int) ≤ (m : Int) := by omega
  have z2 : (m : Int) ≤ (s.out.length : Int) := by omega
  simp (implicitDefEqProofs := false) only [sB, simprocAttr, f31, hlk, by_len]
  simp only [hm2, Int.toNat_natCast]
  refine ⟨⟨z1, z2⟩, s.out.take m, _, rfl, fun ht => ?_, by rw [List.length_take]; omega, hn, fun t => ?_⟩
  · split at ht
    · subst ht
      have := by_nil (GT.nil_of g rfl)
      rw [this]; simp
    · cases ht
  simp (implicitDefEqProofs := false) only [sB, simprocAttr, hlk, by_len, hm2, z1, z2]
  have h5 := set_head (eC s.h s.e (s.out.drop m) s.cl u1 u2) hp hn
  exact ⟨_, .refl _, k t _ ⟨set_nodup _ hn, u1, u2, GT.drop m g, h5⟩⟩

theorem x_c25 {e : Int} {H : Heap} {K : Kv} (hn : H.keys.Nodup) (k1 : (e < 0 ∨ 5 ≤ e) → K.ap (.tup [.nilp, .int .i64 2]) H) (k2 : 0 ≤ e → e < 5 → ∀ p H', EX p ⟨[], e, [], false⟩ H' H → K.ap (.tup [.ptr p 0, .int .i64 0]) H') : c25 [.int .i64 e] H K := ⟨e, rfl, hn, k1, k2⟩
theorem x_c27 {p : Nat} {s : ES} {H R : Heap} {K : Kv} (h : EX p s H R) (k : K.ap (.int .i64 s.out.length) H) : c27 [.ptr p 0] H K := .inr ⟨p, s, R, rfl, h, k⟩
theorem x_c28 {p : Nat} {s : ES} {H R : Heap} {K : Kv} (h : EX p s H R) (k : K.ap (.bool (s.cl && decide (s.out = []))) H) : c28 [.ptr p 0] H K := .inr ⟨p, s, R, rfl, h, k⟩
theorem EX.push {p z : Nat} {s : ES} {o : AObj} {H R : Heap} (h : EX p s H R) (hz : z ∉ H.keys) : EX p s ((z, o) :: H) ((z, o) :: R) := by
  obtain ⟨hn, t1, t2, g, hp⟩ := h
  exact ⟨List.nodup_cons.2 ⟨hz, hn⟩, t1, t2, g, (hp.cons _).trans ((List.Perm.swap _ _ _).trans (List.Perm.cons _ List.perm_middle.symm))⟩
theorem EX.hle {p : Nat} {s : ES} {H R : Heap} (h : EX p s H R) : Hle R H := by
  obtain ⟨hn, t1, t2, g, hp⟩ := h
  exact hle_sub hp (.cons _ (List.sublist_append_right _ _))
theorem wr_alive : wrP [97, 60] = ([97, 60], []) := by rfl
def c26 (xs : List AV) (H : Heap) (K : Kv) : Prop := xs = [] ∧ H.keys.Nodup ∧ K.ap (.bool true) H
theorem c26_of (P : Program) {G : Nat → Option (List AV)} {xs : List AV} {H : Heap} {K : Kv} (h : c26 xs H K) : @xF ⟨G, P, [(25, c25), (27, c27), (28, c28), (29, c29), (31, c31)]⟩ f26 xs H ⟨fun v H' => ∃ H0, Hle H0 H' ∧ K.ap v H0⟩ := by
  obtain ⟨rfl, hn, k⟩ := h
  simp (implicitDefEqProofs := false) only [sB, simprocAttr, f26]
  refine x_c25 hn (fun h => by omega) fun _ _ p H1 hE => ?_
  simp (implicitDefEqProofs := false) only [sB, simprocAttr]
  refine i_new fun z hz => ?_
  simp (implicitDefEqProofs := false) only [sB, simprocAttr]
  have hw : wrP (([] : List UInt8) ++ [97, 60]) = ([97, 60], []) := wr_alive
  refine .inr ⟨p, ⟨[], 0, [], false⟩, _, [97, 60], _, rfl, hE.push hz, BSrc.sl [97, 60] _, fun h => (by cases h), fun _ => ⟨by decide, by decide, by decide, by decide, fun H2 hE2 => ?_⟩⟩
  simp only [hw] at hE2
  have hE3 : EX p ⟨[], 0, [97, 38, 108, 116, 59], false⟩ H2 ((z, .spare 2) :: H) := hE2
  simp (implicitDefEqProofs := false) only [sB, simprocAttr]
  refine x_c27 hE3 ?_
  simp (implicitDefEqProofs := false) only [sB, simprocAttr]
  refine .inr ⟨p, _, 2, _, rfl, hE3, by decide, fun t H3 hE4 => ?_⟩
  have hE5 : EX p ⟨[], 0, [108, 116, 59], false⟩ H3 ((z, .spare 2) :: H) := hE4
  simp (implicitDefEqProofs := false) only [sB, simprocAttr, by_of]
  refine x_c27 hE5 ?_
  simp (implicitDefEqProofs := false) only [sB, simprocAttr]
  refine x_c28 hE5 ?_
  simp (implicitDefEqProofs := false) only [sB, simprocAttr]
  refine ⟨H, ?_, k⟩
  obtain ⟨_, u1, u2, _, hp⟩ := hE5
  exact hle_sub hp (.cons _ (.trans (.cons _ (.refl _)) (List.sublist_append_right _ _)))
end Go.AL.Fun
