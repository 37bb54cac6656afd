/- Values of the data tree. -/
import Derived.Test.YtpeaphpibnikcaaB3
set_option linter.unusedSimpArgs false
set_option linter.unusedVariables false
namespace Go.AL.Fun
open Go Go.AL Go.RowKit Go.ChangeShapes

inductive Val where
  | mk (kind : Int) (s : List UInt8) (n : Int) (b : Bool) (it : Tok) (items : List Val) (ft : Tok) (fields : List (List UInt8 × Val))
abbrev Fld := List UInt8 × Val

mutual
def Val.cs : Val → List AV
  | .mk k s n b it is ft fs => [.int .i64 k, .str s, .int .i64 n, .bool b, .sl (Val.avs is) it, .sl (Val.fvs fs) ft]
def Val.avs : List Val → List AV
  | [] => []
  | v :: l => .agg v.cs :: Val.avs l
def Val.fvs : List Fld → List AV
  | [] => []
  | f :: l => .agg (Val.fcs f) :: Val.fvs l
def Val.fcs : Fld → List AV
  | (k, v) => .str k :: v.cs
end
mutual
/-- A count of values and letters. -/
def Val.wt : Val → Nat
  | .mk _ s _ _ _ is _ fs => 1 + s.length + Val.wts is + Val.wtf fs
def Val.wts : List Val → Nat
  | [] => 0
  | v :: l => v.wt + Val.wts l
def Val.wtf : List Fld → Nat
  | [] => 0
  | f :: l => Val.wt1 f + Val.wtf l
def Val.wt1 : Fld → Nat
  | (k, v) => 1 + k.length + v.wt
end
mutual
/-- Sound: its numbers fit, its slices of nothing are nil or not. -/
def Val.ok : Val → Prop
  | .mk k _ n _ it is ft fs => (Lit.int .i64 k).wf = true ∧ (Lit.int .i64 n).wf = true ∧ ((it = .nil ∧ is = []) ∨ it = .no) ∧ ((ft = .nil ∧ fs = []) ∨ ft = .no) ∧ Val.oks is ∧ Val.okf fs
def Val.oks : List Val → Prop
  | [] => True
  | v :: l => v.ok ∧ Val.oks l
def Val.okf : List Fld → Prop
  | [] => True
  | f :: l => Val.ok1 f ∧ Val.okf l
def Val.ok1 : Fld → Prop
  | (_, v) => v.ok
end
@[simp] theorem Val.cs_len (v : Val) : v.cs.length = 6 := by cases v; rfl
def Val.av (v : Val) : AV := .agg v.cs
def Val.fav (f : Fld) : AV := .agg (.str f.1 :: f.2.cs)
theorem Val.avs_map (l : List Val) : Val.avs l = l.map Val.av := by
  induction l with
  | nil => rfl
  | cons v l ih => simp only [Val.avs, ih]; rfl
theorem Val.fcs_eq (f : Fld) : Val.fcs f = .str f.1 :: f.2.cs := by obtain ⟨k, v⟩ := f; rw [Val.fcs]
theorem Val.ok1_eq (f : Fld) : Val.ok1 f = f.2.ok := by obtain ⟨k, v⟩ := f; rw [Val.ok1]
theorem Val.fvs_map (l : List Fld) : Val.fvs l = l.map Val.fav := by
  induction l with
  | nil => rfl
  | cons v l ih => simp only [Val.fvs, ih, Val.fcs_eq]; rfl
theorem Val.oks_all {l : List Val} (h : Val.oks l) : ∀ v ∈ l, v.ok := by
  induction l with
  | nil => intro v hv; cases hv
  | cons a l ih =>
    intro v hv
    rcases List.mem_cons.1 hv with rfl | hv
    · exact h.1
    · exact ih h.2 v hv
theorem Val.okf_all {l : List Fld} (h : Val.okf l) : ∀ f ∈ l, f.2.ok := by
  induction l with
  | nil => intro v hv; cases hv
  | cons a l ih =>
    intro v hv
    rcases List.mem_cons.1 hv with rfl | hv
    · have := h.1; rwa [Val.ok1_eq] at this
    · exact ih h.2 v hv
theorem Val.wts_le {l : List Val} : ∀ v ∈ l, v.wt ≤ Val.wts l := by
  induction l with
  | nil => intro v hv; cases hv
  | cons a l ih =>
    intro v hv
    rcases List.mem_cons.1 hv with rfl | hv
    · simp only [Val.wts]; omega
    · have := ih v hv; simp only [Val.wts]; omega
theorem Val.wtf_le {l : List Fld} : ∀ f ∈ l, f.2.wt + f.1.length + 1 ≤ Val.wtf l := by
  induction l with
  | nil => intro v hv; cases hv
  | cons a l ih =>
    intro v hv
    rcases List.mem_cons.1 hv with rfl | hv
    · simp only [Val.wtf]; show _ ≤ Val.wt1 (v.1, v.2) + _; simp only [Val.wt1]; omega
    · have := ih v hv; simp only [Val.wtf]; omega
theorem Val.wt_pos (v : Val) : 1 ≤ v.wt := by cases v; simp only [Val.wt]; omega
theorem Val.wts_len (l : List Val) : l.length ≤ Val.wts l := by
  induction l with
  | nil => exact Nat.le_refl _
  | cons a l ih => have := a.wt_pos; simp only [Val.wts, List.length_cons]; omega
theorem Val.wtf_len (l : List Fld) : l.length ≤ Val.wtf l := by
  induction l with
  | nil => exact Nat.le_refl _
  | cons a l ih =>
    have : 1 ≤ Val.wt1 a := by show 1 ≤ Val.wt1 (a.1, a.2); simp only [Val.wt1]; omega
    simp only [Val.wtf, List.length_cons]; omega

/-- What is read of a value's cells. -/
def ValV (avs : List AV) (n : Nat) : Prop := ∃ v : Val, avs = v.cs ∧ v.ok ∧ v.wt ≤ n
def FldV (avs : List AV) (n : Nat) : Prop := ∃ f : Fld, avs = .str f.1 :: f.2.cs ∧ f.2.ok ∧ Val.wt1 f ≤ n

theorem slv_vals {xs : List AV} {n : Nat} (h : SlV true 6 ValV xs n) : ∃ l : List Val, xs = Val.avs l ∧ Val.oks l ∧ Val.wts l ≤ n := by
  induction h with
  | nil => exact ⟨[], rfl, trivial, Nat.le_refl _⟩
  | one avs x b xs n hv hg _ _ _ ih =>
    obtain ⟨v, rfl, h1, h2⟩ := hv
    obtain ⟨l, rfl, h3, h4⟩ := ih
    simp only [if_true] at hg
    subst hg
    exact ⟨v :: l, rfl, ⟨h1, h3⟩, by simp only [Val.wts]; omega⟩
theorem slv_flds {xs : List AV} {n : Nat} (h : SlV true 7 FldV xs n) : ∃ l : List Fld, xs = Val.fvs l ∧ Val.okf l ∧ Val.wtf l ≤ n := by
  induction h with
  | nil => exact ⟨[], rfl, trivial, Nat.le_refl _⟩
  | one avs x b xs n hv hg _ _ _ ih =>
    obtain ⟨v, rfl, h1, h2⟩ := hv
    obtain ⟨l, rfl, h3, h4⟩ := ih
    simp only [if_true] at hg
    subst hg
    exact ⟨v :: l, by simp only [Val.fvs, Val.fcs_eq], ⟨by rw [Val.ok1_eq]; exact h1, h3⟩, by simp only [Val.wtf]; omega⟩
end Go.AL.Fun
