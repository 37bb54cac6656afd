/- The abstract layer, part 28: structs, read. -/
import Derived.Test.YtpeaphpibnikcaaA27
namespace Go.AL
open Go.RowKit Go.ChangeShapes

/-- A row of values of several types. -/
def StV : List (List AV → Nat → Prop) → List AV → Nat → Prop
  | [], avs, _ => avs = []
  | V :: Vs, avs, n => ∃ a r m k, avs = a ++ r ∧ V a m ∧ StV Vs r k ∧ m + k ≤ n

/-- The fields lie one behind another. -/
def FOk {H : Type} (enc : TypeId × Value → H) (P : Program) (W : World) (bk : DataW H → Nat) : Nat → List Field → List (List AV → Nat → Prop) → Nat → Prop
  | off, [], [], tot => off = tot
  | off, f :: fs, V :: Vs, tot => f.offset = off ∧ Rds enc P W bk f.type V ∧ FOk enc P W bk (off + P.cellsOf f.type) fs Vs tot
  | _, _, _, _ => False

section
variable {H : Type} {enc : TypeId × Value → H} {P : Program} {W : World} {bk : DataW H → Nat} {bkA : List (DataW H) → Nat} {t : TypeId}

theorem rd_fields (hb : BK bk bkA) (n : Nat) (cs : List Value) (tot : Nat) (hl : cs.length = tot) : ∀ (fs : List Field) (Vs : List (List AV → Nat → Prop)) (off : Nat) (xs : List (DataW H × List MemPlace)),
    FOk enc P W bk off fs Vs tot → xs.length = fs.length →
    (∀ (i : Nat) (f : Field), fs[i]? = some f → DataW.trod enc P W 0 (fun _ => true) true n f.type ((cs.drop f.offset).take (P.cellsOf f.type)) = xs[i]?) →
    ∃ avs, RelL (im0 W) avs (cs.drop off) ∧ (∀ c ∈ cs.drop off, c.oneCell' = true) ∧ StV Vs avs (bkA (xs.map (·.1)))
  | [], [], off, xs, h, hx, _ => by
    have : off = tot := h
    subst this
    rw [List.drop_eq_nil_of_le (by omega)]
    exact ⟨[], RelL.nil _, by simp, rfl⟩
  | f :: fs, V :: Vs, off, xs, h, hx, ht => by
    obtain ⟨h1, h2, h3⟩ := h
    subst h1
    cases xs with
    | nil => simp at hx
    | cons x xs =>
      have h4 := ht 0 f rfl
      obtain ⟨a, q1, q2, q3⟩ := h2 n _ x (by simpa using h4)
      obtain ⟨r, k1, k2, k3⟩ := rd_fields hb n cs tot hl fs Vs (f.offset + P.cellsOf f.type) xs h3 (by simpa using hx) (fun i g hg => by have := ht (i + 1) g (by simpa using hg); simpa using this)
      have e : cs.drop f.offset = (cs.drop f.offset).take (P.cellsOf f.type) ++ cs.drop (f.offset + P.cellsOf f.type) := by rw [← List.drop_drop, List.take_append_drop]
      refine ⟨a ++ r, by rw [e]; exact q1.append k1, fun c hc => ?_, a, r, _, _, rfl, q3, k3, ?_⟩
      · rw [e] at hc
        rcases List.mem_append.1 hc with hc | hc
        · exact q2 c hc
        · exact k2 c hc
      · rw [List.map_cons, hb.cons]; exact Nat.le_refl _
  | [], _ :: _, _, _, h, _, _ => h.elim
  | _ :: _, [], _, _, h, _, _ => h.elim

theorem rd_struct (hb : BK bk bkA) {fs : Array Field} {Vs : List (List AV → Nat → Prop)} (ht : P.underlying t = some (.struct fs)) (hf : FOk enc P W bk 0 fs.toList Vs (P.cellsOf t)) :
    Rds enc P W bk t fun avs n => ∃ m, StV Vs avs m ∧ m ≤ n := by
  intro fuel cs x h
  obtain ⟨xs, n, rfl, rfl, hl, hxl, hi⟩ := DataW.trod_struct ht h
  obtain ⟨avs, k1, k2, k3⟩ := rd_fields hb n cs _ hl fs.toList Vs 0 xs hf (by simpa using hxl) (fun i f hf => hi i f (by simpa using hf))
  rw [List.drop_zero] at k1 k2
  exact ⟨avs, k1, k2, _, k3, hb.agg _⟩
end
end Go.AL
