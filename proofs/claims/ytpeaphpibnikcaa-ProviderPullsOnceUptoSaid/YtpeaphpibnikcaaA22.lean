/- The abstract layer, part 22: from a row's reading of the arguments to a call, and from a call's end to the row's word. -/
import Derived.Test.YtpeaphpibnikcaaA21
import Derived.ChangeReads
import Derived.ChangeSame
import Derived.ChangeOld
import Derived.JoinedCond
namespace Go.AL
open Go.RowKit Go.ChangeShapes

/-- All that lies there when the call begins. -/
def im0 (W : World) : Im where
  cell b o := if b < W.heap.size then W.cell? ⟨b, o, none⟩ else none
  size b := match W.heap[b]? with | some (.cells cs _ _) => some cs.size | _ => none

theorem Sat.start (W : World) : Sat (fun _ => none) W.heap.size W (im0 W) [] W := by
  refine ⟨Below.refl _ _, Nat.le_refl _, fun b o v h => ?_, fun b n h => ?_, (by simp), fun _ _ h => (by cases h), fun _ _ h => (by cases h)⟩
  · simp only [im0] at h
    split at h
    · exact h
    · cases h
  · simp only [im0] at h
    split at h
    · rename_i cs e fr hb; cases h; exact ⟨cs, e, fr, hb, rfl⟩
    · cases h

section
variable {H : Type} {enc : TypeId × Value → H} {P : Program} {W W' : World}

/-- A call that returns true, seen from the row. -/
theorem calls_true {f : Nat} {avs : List AV} {args : Array Value} (h : ACalls (fun _ => none) P f avs [] fun v _ => v = .bool true) (hr : RelL (im0 W) avs args.toList) :
    Calls P f args W fun e W' => e = .returned (.bool true) ∧ Below W.heap.size W W' := by
  refine (h.2 W.heap.size W (im0 W) W args (Sat.start W) hr).mono ?_
  rintro e W' ⟨v, cv, m', H', rfl, h1, h2, h3, rfl⟩
  cases h3
  exact ⟨rfl, h2.below⟩

/-- A list of types that holds its types' parts; no slice of nothings. -/
def okT (P : Program) (S : List TypeId) : Bool := S.all fun t => match P.underlying t with
  | some (.slice e) => S.contains e && decide (0 < P.cellsOf e)
  | some (.pointer e) => S.contains e
  | some (.struct fs) => fs.toList.all fun (f : Field) => S.contains f.type
  | some (.array _ e) => S.contains e
  | some (.map _ e) => S.contains e
  | _ => true

theorem okT_at {P : Program} {S : List TypeId} (h : okT P S = true) {t : TypeId} (ht : t ∈ S) {d : TypeDesc} (hd : P.underlying t = some d) :
    (∀ e, d = .slice e → e ∈ S ∧ 0 < P.cellsOf e) ∧ (∀ e, d = .pointer e → e ∈ S) ∧ (∀ fs, d = .struct fs → ∀ f ∈ fs.toList, f.type ∈ S) ∧ (∀ n e, d = .array n e → e ∈ S) ∧ (∀ k e, d = .map k e → e ∈ S) := by
  have h1 := List.all_eq_true.1 h t ht
  rw [hd] at h1
  refine ⟨?_, ?_, ?_, ?_, ?_⟩
  · intro e he; subst he; simpa using h1
  · intro e he; subst he; simpa using h1
  · intro fs he f hf; subst he
    have h2 := List.all_eq_true.1 h1 f hf
    simpa using h2
  · intro n e he; subst he; simpa using h1
  · intro k e he; subst he; simpa using h1

/-- Where spare places are looked at or not makes no difference where they lie in old memory. -/
theorem trod_spare {S : List TypeId} (hz : okT P S = true) {sp : Nat → Bool} {base : Nat} : ∀ (n : Nat) (t : TypeId) (cs : List Value) (x : DataW H × List MemPlace), t ∈ S →
    DataW.trod enc P W base (fun _ => true) true n t cs = some x → (∀ p ∈ x.2, sp p.block = true) → DataW.trod enc P W base sp true n t cs = some x := by
  intro n
  induction n with
  | zero => intro t cs x _ h; simp [DataW.trod] at h
  | succ n ih =>
    intro t cs x ht h hs
    rw [DataW.trod_step] at h ⊢
    unfold DataW.trodStep at h ⊢
    split at h
    case h_1 => exact h
    case h_2 => exact h
    case h_3 => exact h
    case h_4 => exact h
    case h_5 => exact h
    case h_6 e a hu =>
      have hS := (okT_at hz ht (by assumption)).2.1 e rfl
      simp only [Option.map_eq_some_iff, Option.bind_eq_some_iff] at h ⊢
      obtain ⟨y, ⟨cs', hc, hy⟩, rfl⟩ := h
      exact ⟨y, ⟨cs', hc, ih _ _ _ hS hy (fun p hp => hs p (by simp [hp]))⟩, rfl⟩
    case h_7 => exact h
    case h_8 e a len cap hu =>
      obtain ⟨hS, hpe⟩ := (okT_at hz ht (by assumption)).1 e rfl
      simp only [if_true] at h ⊢
      split at h
      · rename_i hc
        rw [if_pos hc]
        simp only [Option.map_eq_some_iff, Option.bind_eq_some_iff] at h ⊢
        obtain ⟨elems, he, rest, hrest, rfl⟩ := h
        have one : ∀ (i : Nat) (y : DataW H × List MemPlace), y ∈ elems ++ rest →
            (W.cells? base (a.add (i * P.cellsOf e)) (P.cellsOf e)).bind (DataW.trod enc P W base (fun _ => true) true n e) = some y → (W.cells? base (a.add (i * P.cellsOf e)) (P.cellsOf e)).bind (DataW.trod enc P W base sp true n e) = some y := by
          intro i y hy hv
          simp only [Option.bind_eq_some_iff] at hv ⊢
          obtain ⟨cs', hc', hy'⟩ := hv
          refine ⟨cs', hc', ih _ _ _ hS hy' (fun p hp => hs p ?_)⟩
          simp only [List.mem_append, List.mem_flatMap]
          exact .inr ⟨y, by simpa using hy, hp⟩
        refine ⟨elems, mapM_carry he (fun i y hi hy => one i y (by simp [hy])), rest, ?_, rfl⟩
        have hrl : rest.length = cap - len := by simpa using mapM_some_length hrest
        cases hsp : sp a.block with
        | true => rw [if_pos rfl]; exact mapM_carry hrest (fun j y hj hy => one (len + j) y (by simp [hy]))
        | false =>
          simp only [Bool.false_eq_true, if_false]
          by_cases h0 : cap - len = 0
          · have : rest = [] := List.eq_nil_of_length_eq_zero (by omega)
            rw [this]
          · exfalso
            have hpos : 0 < (elems.length + rest.length) * P.cellsOf e := Nat.mul_pos (by omega) hpe
            have := hs (.cell a.block (a.off + 0)) (List.mem_append_left _ (MemPlace.mem_row.2 ⟨0, hpos, rfl⟩))
            simp only [MemPlace.block] at this
            rw [hsp] at this; cases this
      · cases h
    case h_9 fs _ =>
      have hS := (okT_at hz ht (by assumption)).2.2.1 fs rfl
      split at h
      · rename_i hc
        rw [if_pos hc]
        simp only [Option.map_eq_some_iff] at h ⊢
        obtain ⟨xs, hx, rfl⟩ := h
        exact ⟨xs, mapM_carry hx (fun f y hf hy hv => ih _ _ _ (hS f hf) hv (fun p hp => hs p (List.mem_flatMap.2 ⟨y, hy, hp⟩))), rfl⟩
      · cases h
    case h_10 n e _ =>
      have hS := (okT_at hz ht (by assumption)).2.2.2.1 n e rfl
      split at h
      · rename_i hc
        rw [if_pos hc]
        simp only [Option.map_eq_some_iff] at h ⊢
        obtain ⟨xs, hx, rfl⟩ := h
        exact ⟨xs, mapM_carry hx (fun f y _ hy hv => ih _ _ _ hS hv (fun p hp => hs p (List.mem_flatMap.2 ⟨y, hy, hp⟩))), rfl⟩
      · cases h
    case h_11 => exact h
    case h_12 => exact h
    case h_13 => exact h
    case h_14 k e b _ =>
      have hS := (okT_at hz ht (by assumption)).2.2.2.2 k e rfl
      split at h
      · rename_i es clock hb
        split at h
        · rename_i hc
          simp only [Option.bind_eq_some_iff] at h
          obtain ⟨entries, he, hd⟩ := h
          split at hd
          · rename_i hris
            have hx := Option.some.inj hd
            subst hx
            simp only [if_pos hc, Option.bind_eq_some_iff]
            refine ⟨entries, mapM_carry he (fun x y _ hy hv => ?_), by simp [hris]⟩
            simp only [Option.bind_eq_some_iff] at hv ⊢
            obtain ⟨key, hk, hz⟩ := hv
            refine ⟨key, hk, ?_⟩
            split at hz
            · rename_i hf
              rw [if_pos hf]
              simp only [Option.map_eq_some_iff] at hz ⊢
              obtain ⟨q, hq, rfl⟩ := hz
              exact ⟨q, ih _ _ _ hS hq (fun p hp => hs p (by simp only [List.mem_cons, List.mem_flatMap]; right; exact ⟨_, hy, hp⟩)), rfl⟩
            · cases hz
          · cases hd
        · cases h
      · cases h
    case h_15 => exact h
    case h_16 => exact h
    case h_17 => exact h
    case h_18 => exact h
    case h_19 => exact h
    case h_20 => exact h
    case h_21 => cases h

theorem trodAll_below {S : List TypeId} (hz : okT P S = true) (hb : Below W.heap.size W W') {sp : Nat → Bool} : ∀ (ts : List TypeId) (vs : List Value) (ds : List (DataW H)) (ps : List MemPlace), (∀ t ∈ ts, t ∈ S) →
    DataW.TrodAll enc P W 0 (fun _ => true) true ts vs ds ps → (∀ p ∈ ps, sp p.block = true ∧ p.block < W.heap.size) → DataW.TrodAll enc P W' 0 sp true ts vs ds ps
  | [], [], [], ps, _, h, _ => h
  | t :: ts, v :: vs, d :: ds, ps, hS, h, hs => by
    obtain ⟨p, q, ⟨fuel, h1⟩, h2, rfl⟩ := h
    refine ⟨p, q, ⟨fuel, ?_⟩, trodAll_below hz hb ts vs ds q (fun x hx => hS x (List.mem_cons_of_mem _ hx)) h2 (fun x hx => hs x (List.mem_append_right _ hx)), rfl⟩
    exact DataW.trod_carry _ _ _ _ (trod_spare hz _ _ _ _ (hS t List.mem_cons_self) h1 (fun x hx => (hs x (List.mem_append_left _ hx)).1)) (fun x hx => hb.same (hs x (List.mem_append_left _ hx)).2)
  | [], _ :: _, _, _, _, h, _ => h.elim
  | [], [], _ :: _, _, _, h, _ => h.elim
  | _ :: _, [], _, _, _, h, _ => h.elim
  | _ :: _, _ :: _, [], _, _, h, _ => h.elim

/-- The row's word behind a call that returned true and turned nothing old. -/
theorem post_true {S : List TypeId} (hz : okT P S = true) {f : Func} (hS : ∀ t ∈ f.params.toList, t ∈ S) {s : ChangeSpec} {apart fresh handsOn again : Bool} {args : Array Value} {ds gs : List (DataW H)} {before : List MemPlace} {t : TypeId}
    (hW : DataW.Whole enc P f.params.toList s.vars apart W args.toList ds gs before) (hvars : s.vars = []) (hres : f.resultTypes = #[t]) (ht : P.underlying t = some .bool)
    (hfn : (s.fn H (ds ++ gs)).results = [.lit (.bool true)] ∧ (s.fn H (ds ++ gs)).args = ds ∧ (s.fn H (ds ++ gs)).vars = [])
    (hb : Below W.heap.size W W') : s.post enc P f apart fresh handsOn again W args (.bool true) W' := by
  have hlt := hW.lt
  have hW0 := hW
  obtain ⟨p, q, hp, hq, rfl, hfz, hnd⟩ := hW
  rw [hvars] at hq
  obtain ⟨rfl, rfl⟩ := trodVars_none hq
  simp only [List.append_nil] at hfn hlt hfz hnd hW0
  have hr : ∀ (b : Nat) (sp : Nat → Bool) (hd : Bool), DataW.TrodAll enc P W' b sp hd f.resultTypes.toList ((Value.bool true).resultList f.resultTypes.size) (s.fn H (ds ++ [])).results [] := by
    intro b sp hd
    rw [List.append_nil, hfn.1, hres]
    exact trodAll_mk1 (shut_bool ht true)
  have ha : ∀ sp : Nat → Bool, (∀ x ∈ p, sp x.block = true) → DataW.TrodAll enc P W' 0 sp true f.params.toList args.toList (s.fn H (ds ++ [])).args p := by
    intro sp hsp
    rw [List.append_nil, hfn.2.1]
    exact trodAll_below hz hb _ _ _ _ hS hp (fun x hx => ⟨hsp x hx, hlt x hx⟩)
  have hv : ∀ sp : Nat → Bool, DataW.TrodVars enc P W' sp s.vars (s.fn H (ds ++ [])).vars [] := by
    intro sp
    rw [List.append_nil, hfn.2.2, hvars]
    exact rfl
  refine ⟨ds, [], p, [], p, [], by simpa using hW0, hr _ _ _, ha _ (fun x hx => by simpa using hlt x hx), hv _, hb.frame _, fun _ => ?_⟩
  refine ⟨ok_one hres rfl (okWide_bool_mk ht _), _, _, ([] ++ p) ++ [], ⟨[] ++ p, [], trodAll_append (ha _ (fun _ _ => rfl)) (hr _ _ _), hv _, rfl, ?_, ?_⟩, ?_⟩
  · intro b off hx
    have hx : MemPlace.cell b off ∈ p := by simpa using hx
    rw [hb.frozen (hlt _ hx)]
    exact hfz b off hx
  · intro ha
    have := hnd ha
    simpa using this
  · intro x hx _
    simpa using hx

end
end Go.AL
