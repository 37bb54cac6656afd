/- Values: fields found; lists copied; maps of results. -/
import Derived.Test.YtpeaphpibnikcaaV8
set_option linter.unusedSimpArgs false
set_option linter.unusedVariables false
set_option maxRecDepth 100000
set_option maxHeartbeats 2000000
namespace Go.AL.Fun
open Go Go.AL

abbrev Res := Val × Int
def zeroV : Val := .mk 0 [] 0 false .nil [] .nil []
def resAV (r : Res) : AV := .agg (r.1.cs ++ [.int .i64 r.2])
abbrev RMap := List (List UInt8 × Res)
def resM (l : RMap) : List (AV × AV) := l.map fun e => (.str e.1, resAV e.2)
def rlook (k : List UInt8) : RMap → Option Res
  | [] => none
  | e :: l => if k = e.1 then some e.2 else rlook k l
def rupd (k : List UInt8) (r : Res) : RMap → RMap
  | [] => [(k, r)]
  | e :: l => if k = e.1 then (k, r) :: l else e :: rupd k r l
theorem rlook_upd (k k' : List UInt8) (r : Res) (l : RMap) : rlook k' (rupd k r l) = if k' = k then some r else rlook k' l := by
  induction l with
  | nil => simp [rlook, rupd]
  | cons e l ih =>
    simp only [rupd]
    by_cases c : k = e.1
    · rw [if_pos c]
      simp only [rlook]
      by_cases d : k' = k
      · simp [d]
      · rw [if_neg d, if_neg d, if_neg (by rw [← c]; exact d)]
    · rw [if_neg c]
      simp only [rlook, ih]
      by_cases d : k' = e.1
      · rw [if_pos d, if_pos d, if_neg (by rw [d]; exact fun h => c h.symm)]
      · rw [if_neg d, if_neg d]
theorem res_look (k : List UInt8) (l : RMap) : lookA (.str k) (resM l) = some ((rlook k l).map resAV) := by
  induction l with
  | nil => rfl
  | cons e l ih =>
    show (match (some (decide (k = e.1)) : Option Bool) with | some true => _ | some false => _ | none => _) = _
    by_cases c : k = e.1
    · simp [c, rlook]
    · simp only [c, decide_false, rlook, if_false]
      exact ih
theorem res_upd (k : List UInt8) (r : Res) (l : RMap) : updA (.str k) (resAV r) (resM l) = some (resM (rupd k r l)) := by
  induction l with
  | nil => rfl
  | cons e l ih =>
    show (match (some (decide (k = e.1)) : Option Bool) with | some true => _ | some false => _ | none => _) = _
    by_cases c : k = e.1
    · simp [c, rupd, resM]
    · simp only [c, decide_false, rupd, if_false]
      unfold resM at ih
      rw [ih]; rfl

def fieldR (fs : List Fld) (key : List UInt8) : Res := match fs.find? fun f => decide (f.1 = key) with | some f => (f.2, 0) | none => (zeroV, 17)
def c25 (xs : List AV) (H : Heap) (K : Kv) : Prop := ∃ (fs : List Fld) (ft : Tok) (key : List UInt8), xs = [.agg [.int .i64 4, .str [], .int .i64 0, .bool false, .sl [] .nil, .sl (Val.fvs fs) ft], .str key] ∧ fs.length ≤ 1099511627776 ∧ K.ap (.tup [.agg (fieldR fs key).1.cs, .int .i64 (fieldR fs key).2]) H
theorem x_c25 {fs : List Fld} {ft : Tok} {key : List UInt8} (h1 : fs.length ≤ 1099511627776) (H : Heap) (K : Kv) (h : K.ap (.tup [.agg (fieldR fs key).1.cs, .int .i64 (fieldR fs key).2]) H) :
    c25 [.agg [.int .i64 4, .str [], .int .i64 0, .bool false, .sl [] .nil, .sl (Val.fvs fs) ft], .str key] H K := ⟨_, _, _, rfl, h1, h⟩
theorem c25_of (P : Program) {xs : List AV} {H : Heap} {K : Kv} (h : c25 xs H K) : @xF (t0 P) f25 xs H ⟨fun v H' => ∃ H0, Hle H0 H' ∧ K.ap v H0⟩ := by
  obtain ⟨fs, ft, key, rfl, hl, h⟩ := h
  simp (implicitDefEqProofs := false) only [sB, simprocAttr, f25]
  refine i_new fun p hp => ?_
  simp (implicitDefEqProofs := false) only [sB, simprocAttr]
  refine i_new fun q hq => ?_
  simp (implicitDefEqProofs := false) only [sB, simprocAttr] at hq
  have hpq : ¬ p = q := fun e => hq.1 e.symm
  simp (implicitDefEqProofs := false) only [sB, simprocAttr, hq, hpq]
  refine i_loopJ (fun σ H1 => ∃ (i : Nat), H1 = (q, .cells [.int .i64 0, .str [], .int .i64 0, .bool false, .sl [] .nil, .sl [] .nil]) :: (p, .cells [.int .i64 4, .str [], .int .i64 0, .bool false, .sl [] .nil, .sl (Val.fvs fs) ft]) :: H ∧ i ≤ fs.length ∧
      (fs.find? fun f => decide (f.1 = key)) = ((fs.drop i).find? fun f => decide (f.1 = key)) ∧ σ = [(1, .str key), (2, .ptr p 0), (4, .ptr q 0), (6, .int .i64 i)])
    (fun σ _ => match σ.get 6 with | .int _ n => fs.length - n.toNat | _ => 0)
    (fun e σ H1 => (e = .exit 0 ∧ fieldR fs key = (zeroV, 17) ∧ H1 = (q, .cells [.int .i64 0, .str [], .int .i64 0, .bool false, .sl [] .nil, .sl [] .nil]) :: (p, .cells [.int .i64 4, .str [], .int .i64 0, .bool false, .sl [] .nil, .sl (Val.fvs fs) ft]) :: H ∧ σ.get 4 = .ptr q 0) ∨
      (e = .ret ∧ H1 = (q, .cells (fieldR fs key).1.cs) :: (p, .cells [.int .i64 4, .str [], .int .i64 0, .bool false, .sl [] .nil, .sl (Val.fvs fs) ft]) :: H ∧ σ.get 4 = .ptr q 0 ∧ σ.get 5 = .int .i64 (fieldR fs key).2))
    ⟨_, .refl _, 0, rfl, by omega, rfl, rfl⟩ ?_ ?_
  · rintro e σ H1 (⟨rfl, e1, rfl, q4⟩ | ⟨rfl, rfl, q4, q5⟩)
    · rw [e1] at h
      simp (implicitDefEqProofs := false) only [sB, simprocAttr, q4, hq, hpq]
      exact ⟨_, hle2, h⟩
    · generalize fieldR fs key = r at h q5 ⊢
      obtain ⟨⟨k', s', n', b', it', is', ft', fs'⟩, e'⟩ := r
      simp only [Val.cs] at h q5 ⊢
      simp (implicitDefEqProofs := false) only [sB, simprocAttr, q4, q5, hq, hpq]
      exact ⟨_, hle2, h⟩
  · rintro Q hQ σ H1 ⟨i, rfl, hi, hch, rfl⟩
    simp (implicitDefEqProofs := false) only [sB, simprocAttr, hq, hpq, Val.fvs_len]
    refine i_if (fun c => ?_) (fun c => ?_)
    · have c' : i < fs.length := by simpa using c
      rw [List.drop_eq_getElem_cons c', List.find?_cons] at hch
      have hx : (Val.fvs fs)[i]? = some (.agg (.str (fs[i]).1 :: (fs[i]).2.cs)) := by rw [Val.fvs_map, List.getElem?_map, List.getElem?_eq_getElem c']; rfl
      have r9 := w_i64 ((i : Int) + 1) (by omega) (by omega)
      have i0 : (0 : Int) ≤ (i : Int) := by omega
      generalize fs[i] = v at hch hx
      obtain ⟨ky, k', s', n', b', it', is', ft', fs'⟩ := v
      simp only [Val.cs] at hx hch
      by_cases eq : ky = key
      · have fr : fieldR fs key = (.mk k' s' n' b' it' is' ft' fs', 0) := by unfold fieldR; rw [hch]; simp [eq]
        simp (implicitDefEqProofs := false) only [sB, simprocAttr, i0, hx, hq, hpq, eq]
        exact hQ _ _ _ (.inr ⟨rfl, by rw [fr]; rfl, rfl, by rw [fr]; rfl⟩)
      · simp (implicitDefEqProofs := false) only [sB, simprocAttr, i0, hx, hq, hpq, eq, r9]
        refine ⟨_, .refl _, ⟨i + 1, rfl, by omega, ?_, by simp⟩, by omega⟩
        rw [hch]; simp [eq]
    · have e1 : i = fs.length := by have : ¬ (i : Int) < fs.length := by simpa using c
                                    omega
      subst e1
      rw [List.drop_length] at hch
      simp (implicitDefEqProofs := false) only [sB, simprocAttr]
      exact hQ _ _ _ (.inl ⟨rfl, by unfold fieldR; rw [hch]; rfl, rfl, rfl⟩)

theorem hle_tok9 {H H' : Heap} {t : Tok} (h : H'.Perm ([] ++ (tokH t ++ H))) : Hle H H' := (Hle.right (tokH t) H).trans (.of_perm h)
/-- A list of strings, copied. -/
def c17 (xs : List AV) (H : Heap) (K : Kv) : Prop := ∃ (l : List (List UInt8)) (t : Tok), xs = [.sl (strsAV l) t] ∧ (t = .nil → l = []) ∧ l.length ≤ 1048576 ∧ H.keys.Nodup ∧ ∀ t', K.ap (.sl (strsAV l) t') H
theorem x_c17 {l : List (List UInt8)} {t : Tok} {H : Heap} (h1 : t = .nil → l = []) (h2 : l.length ≤ 1048576) (h3 : H.keys.Nodup) (K : Kv) (h : ∀ t', K.ap (.sl (strsAV l) t') H) : c17 [.sl (strsAV l) t] H K := ⟨_, _, rfl, h1, h2, h3, h⟩
theorem c17_of (P : Program) {xs : List AV} {H : Heap} {K : Kv} (h : c17 xs H K) : @xF (t0 P) f17 xs H ⟨fun v H' => ∃ H0, Hle H0 H' ∧ K.ap v H0⟩ := by
  obtain ⟨l, t, rfl, ht, hl, hn, h⟩ := h
  by_cases c : t = .nil
  · have := ht c
    subst this c
    simp (implicitDefEqProofs := false) only [sB, simprocAttr, f17, strsAV]
    exact ⟨H, .refl _, h _⟩
  · simp (implicitDefEqProofs := false) only [sB, simprocAttr, f17, c]
    refine i_emp hn fun id hid hn2 => ?_
    simp (implicitDefEqProofs := false) only [sB, simprocAttr]
    refine i_app (A := []) (R := H) (tk := .at id 0 1) (xs := []) (ys := strsAV l) (.refl _) hn2 rfl (.inl ⟨_, rfl⟩) (strs_all l) (by rw [allSz_nil]; trivial) ?_ ?_ fun t' H' h1 h2 h3 => ?_
    · simp only [strs_len, List.length_nil, maxLen_eq]; omega
    · simp only [strs_len, List.length_nil]; omega
    · simp (implicitDefEqProofs := false) only [sB, simprocAttr]
      exact ⟨H, hle_tok9 h2, h t'⟩
end Go.AL.Fun
