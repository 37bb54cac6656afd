/- The library's IndexByte: the kit's contract; IndexRune and ContainsRune over ASCII. -/
import Derived.Test.YtcmgeflfapffoaaDoorY2
import Derived.Test.YtcmgeflfapffoaaDoorF2
import Derived.Test.YtcmgeflfapffoaaDoorU2
import Derived.Shelf.Small.Strs
set_option linter.unusedSimpArgs false
set_option linter.unusedVariables false
set_option maxRecDepth 100000
set_option maxHeartbeats 4000000
namespace Go.AL.Fun
open Go Go.AL
def c37 (xs : List AV) (H : Heap) (K : Kv) : Prop := ∃ (s : List UInt8) (c : UInt8), xs = [.str s, .int .u8 c.toNat] ∧ K.ap (.int .i64 (Lib.indexByte s c)) H
theorem x_c37 {s : List UInt8} {c : UInt8} {H : Heap} {K : Kv} (k : K.ap (.int .i64 (Lib.indexByte s c)) H) : c37 [.str s, .int .u8 c.toNat] H K := ⟨s, c, rfl, k⟩
end Go.AL.Fun
namespace Go.Proofs.YtcmgeflfapffoaaDoor.lib
open Go.AL Go.AL.Fun Go.RowKit Go.Proofs

def ibLayRen : Go.Shelf.Ren := ⟨fun x => match x with | 137 => 54 | 217 => 58 | 266 => 67 | n => n, fun x => match x with | 3 => 3 | 5 => 5 | 9 => 9 | n => n, fun n => n⟩
theorem ibLay : Lays.n137 Tryd.prog ibLayRen where
  mixed := by kernel_rfl
  f137 := Tryd.func54.trans (congrArg some (by kernel_rfl))
  f217 := Tryd.func58.trans (congrArg some (by kernel_rfl))
  f266 := Tryd.func67.trans (congrArg some (by kernel_rfl))
  t3 := Tryd.underlying3
  a3 := Tryd.isAgg3
  z3 := Tryd.sizeOf3
  v3 := Tryd.zeroValue3
  t5 := Tryd.underlying5
  a5 := Tryd.isAgg5
  z5 := Tryd.sizeOf5
  v5 := Tryd.zeroValue5
  t9 := Tryd.underlying9
  a9 := Tryd.isAgg9
  z9 := Tryd.sizeOf9
  v9 := Tryd.zeroValue9
theorem rel_str {m : Im} {l : List UInt8} {v : Value} (h : Rel m (.str l) v) : ∃ s : ByteArray, v = .string s ∧ s.data.toList = l := by
  cases h with
  | str s => exact ⟨s, rfl, rfl⟩
theorem rel_int {m : Im} {k : IntKind} {n : Int} {v : Value} (h : Rel m (.int k n) v) : v = .int k n := by cases h; rfl
theorem h37 {G : Nat → Option (List AV)} : ∀ xs H K, c37 xs H ⟨K⟩ → ACalls G Tryd.prog 54 xs H K := by
  rintro xs H K ⟨s, c, rfl, k⟩
  refine ⟨fnOk_of f54_ok, fun B w0 m w cargs hs hr => ?_⟩
  obtain ⟨v1, r1, e1, h1, hr⟩ := hr.uncons
  obtain ⟨v2, r2, e2, h2, hr⟩ := hr.uncons
  have e3 := hr.unnil
  subst e2 e3
  obtain rfl : cargs = #[v1, v2] := by cases cargs; simp_all
  obtain ⟨s1, rfl, rfl⟩ := rel_str h1
  obtain rfl := rel_int h2
  refine (Any.strings_IndexByte ibLay s1 _ w).mono ?_
  rintro e w' ⟨rfl, rfl⟩
  have hc : ((c.toNat : Nat) : Int).toNat.toUInt8 = c := by rw [Int.toNat_natCast]; simp
  rw [hc]
  exact ⟨_, _, m, H, rfl, .refl m, hs, .int _ _, k⟩
end Go.Proofs.YtcmgeflfapffoaaDoor.lib
namespace Go.AL.Fun
open Go Go.AL
theorem enc_last (r : Int) (h0 : 128 ≤ r) (h1 : r ≤ 1114111) : ∃ e : List UInt8, (Utf8.encode r).data.toList = e ∧ 2 ≤ e.length ∧ e.length ≤ 4 ∧ ∃ z : UInt8, e[e.length - 1]? = some z ∧ 128 ≤ z.toNat := by
  unfold Utf8.encode
  generalize hc : (if Utf8.valid r then r.toNat else Utf8.runeError) = c
  have hc0 : 128 ≤ c := by
    subst hc; split
    · omega
    · decide
  have hz : ∀ n : Nat, 128 ≤ (UInt8.ofNat (128 + n % 64)).toNat := fun n => by simp; omega
  simp only
  rw [if_neg (by omega)]
  split
  · exact ⟨_, rfl, by simp, by simp, _, rfl, hz c⟩
  · split
    · exact ⟨_, rfl, by simp, by simp, _, rfl, hz c⟩
    · exact ⟨_, rfl, by simp, by simp, _, rfl, hz c⟩
theorem ib_none : ∀ (s : List UInt8) (z : UInt8), (∀ x ∈ s, x ≠ z) → Lib.indexByte s z = -1
  | [], _, _ => rfl
  | b :: s, z, h => by
    have hb : (b == z) = false := by simpa using h b (by simp)
    have ih := ib_none s z fun x hx => h x (by simp [hx])
    show (if b == z then 0 else if Lib.indexByte s z == -1 then -1 else Lib.indexByte s z + 1) = -1
    rw [hb, ih]; rfl
theorem ib_mem : ∀ (s : List UInt8) (z : UInt8), 0 ≤ Lib.indexByte s z ↔ z ∈ s
  | [], _ => by simp [Lib.indexByte]
  | b :: s, z => by
    have ih := ib_mem s z
    have hg := Lib.indexByte_ge s z
    show 0 ≤ (if b == z then 0 else if Lib.indexByte s z == -1 then -1 else Lib.indexByte s z + 1) ↔ _
    by_cases hb : b = z
    · subst hb; simp
    · rw [if_neg (by simpa using hb), List.mem_cons]
      by_cases h1 : Lib.indexByte s z = -1
      · rw [if_pos (by simpa using h1)]
        have : ¬ z ∈ s := fun hm => by have := ih.2 hm; omega
        simp [this, Ne.symm hb]
      · rw [if_neg (by simpa using h1)]
        have : z ∈ s := ih.1 (by omega)
        simp [this]; omega
/-- A rune among ASCII letters. -/
def hasR (s : List UInt8) (r : Int) : Bool := decide (0 ≤ r ∧ r < 128 ∧ UInt8.ofNat r.toNat ∈ s)
def okR (r : Int) : Prop := 0 ≤ r ∧ r ≤ 1114111 ∧ ¬ (55296 ≤ r ∧ r ≤ 57343)
def c47 (xs : List AV) (H : Heap) (K : Kv) : Prop := ∃ r : Int, xs = [.int .i32 r] ∧ okR r ∧ K.ap (.bool true) H
theorem c47_of (P : Program) {G : Nat → Option (List AV)} {xs : List AV} {H : Heap} {K : Kv} (h : c47 xs H K) : @xF ⟨G, P, []⟩ f64 xs H K := by
  obtain ⟨r, rfl, ⟨h0, h1, h2⟩, k⟩ := h
  by_cases c : r < 55296
  · simp (implicitDefEqProofs := false) only [sB, simprocAttr, f64, h0, c]
    exact k
  · have c2 : (57343 : Int) < r := by omega
    simp (implicitDefEqProofs := false) only [sB, simprocAttr, f64, h0, c, c2, h1]
    exact k
def c43 (xs : List AV) (H : Heap) (K : Kv) : Prop := ∃ (s : List UInt8) (r : Int), xs = [.str s, .int .i32 r] ∧ (∀ x ∈ s, x.toNat < 128) ∧ s.length ≤ 1000 ∧ okR r ∧ ∀ n : Int, decide (0 ≤ n) = hasR s r → K.ap (.int .i64 n) H
theorem c43_of (P : Program) {G : Nat → Option (List AV)} {xs : List AV} {H : Heap} {K : Kv} (h : c43 xs H K) : @xF ⟨G, P, [(54, c37), (64, c47)]⟩ f57 xs H ⟨fun v H' => ∃ H0, Hle H0 H' ∧ K.ap v H0⟩ := by
  obtain ⟨s, r, rfl, hs, hl, ⟨h0, h1, h2⟩, k⟩ := h
  by_cases c : r < 128
  · obtain ⟨z, rfl⟩ : ∃ z : UInt8, r = (z.toNat : Nat) := ⟨UInt8.ofNat r.toNat, by simp; omega⟩
    have w8 := w_u8 ((z.toNat : Nat) : Int) (by omega) (by omega)
    simp (implicitDefEqProofs := false) only [sB, simprocAttr, f57, h0, c, w8]
    refine x_c37 ?_
    simp (implicitDefEqProofs := false) only [sB, simprocAttr]
    refine ⟨_, .refl _, k _ ?_⟩
    unfold hasR
    rw [decide_eq_decide, ib_mem, Int.toNat_natCast]
    simp only [UInt8.ofNat_toNat]
    exact ⟨fun h => ⟨h0, c, h⟩, fun h => h.2.2⟩
  · have hno : hasR s r = false := by unfold hasR; rw [decide_eq_false]; omega
    by_cases c2 : r = 65533
    · subst c2
      simp (implicitDefEqProofs := false) only [sB, simprocAttr, f57]
      refine i_new fun it hit => ?_
      simp (implicitDefEqProofs := false) only [sB, simprocAttr]
      refine i_loopJ (fun σ H1 => ∃ (i : Nat), H1 = (it, .iter s i) :: H ∧ i ≤ s.length ∧ σ = [(175, .ptr it 0)])
        (fun _ H1 => match lookH it H1 with | some (.iter _ i) => s.length - i | _ => 0)
        (fun e σ H1 => e = .exit 9 ∧ Hle H H1)
        ⟨_, .refl _, 0, rfl, by omega, rfl⟩ ?_ ?_
      · rintro e σ H1 ⟨rfl, hle⟩
        simp (implicitDefEqProofs := false) only [sB, simprocAttr]
        exact ⟨_, hle, k _ (by rw [hno]; rfl)⟩
      · rintro Q hQ σ H1 ⟨i, rfl, hi, rfl⟩
        by_cases ci : i < s.length
        · have hu := utf8_dec ci
          have hx := hs s[i] (List.getElem_mem ci)
          have hd : dec1 (s.drop i) = (((s[i].toNat : Nat) : Int), 1) := by
            rw [List.drop_eq_getElem_cons ci]
            have hf : fst (s[i] :: s.drop (i + 1)) = (1, false) := by rw [fst, if_pos hx]
            unfold dec1; rw [hf]; rfl
          rw [hd] at hu
          have hne : ¬ ((s[i].toNat : Nat) : Int) = 65533 := by omega
          simp (implicitDefEqProofs := false) only [sB, simprocAttr, ci, hu.1, hu.2, hne]
          exact ⟨_, .refl _, ⟨i + 1, rfl, by omega⟩, by simp [lookH]; omega⟩
        · simp (implicitDefEqProofs := false) only [sB, simprocAttr, ci]
          exact hQ _ _ _ ⟨rfl, .tail _ _⟩
    · simp (implicitDefEqProofs := false) only [sB, simprocAttr, f57, h0, c, c2]
      refine ⟨r, rfl, ⟨h0, h1, h2⟩, ?_⟩
      obtain ⟨e, he, e2, e4, z, hz, hz8⟩ := enc_last r (by omega) h1
      have r1 := w_i64 ((e.length : Int) - 1) (by omega) (by omega)
      simp (implicitDefEqProofs := false) only [sB, simprocAttr, he, r1]
      refine i_loopJ (fun σ H1 => H1 = H ∧ σ = [(0, .str s), (7, .str e), (8, .int .i64 ((e.length : Int) - 1)), (9, .int .i64 ((e.length : Int) - 1))])
        (fun _ _ => 0)
        (fun e σ H1 => H1 = H ∧ (e = .exit 1 ∨ (e = .ret ∧ σ.get 4 = .int .i64 (-1))))
        ⟨_, .refl _, rfl, rfl⟩ ?_ ?_
      · rintro e σ H1 ⟨rfl, rfl | ⟨rfl, q4⟩⟩
        · simp (implicitDefEqProofs := false) only [sB, simprocAttr]
          exact ⟨_, .refl _, k _ (by rw [hno]; rfl)⟩
        · simp (implicitDefEqProofs := false) only [sB, simprocAttr, q4]
          exact ⟨_, .refl _, k _ (by rw [hno]; rfl)⟩
      · rintro Q hQ σ H1 ⟨rfl, rfl⟩
        have tn : ((e.length : Int) - 1).toNat = e.length - 1 := by omega
        have l0 : (0 : Int) ≤ (e.length : Int) - 1 := by omega
        by_cases ci : (e.length : Int) - 1 < (s.length : Int)
        · have ci' : e.length - 1 < s.length := by omega
          have hx : s[e.length - 1]? = some s[e.length - 1] := List.getElem?_eq_getElem ci'
          have hx8 := hs s[e.length - 1] (List.getElem_mem ci')
          have b1 : byteAV s[e.length - 1] = .int .u8 (s[e.length - 1].toNat : Nat) := rfl
          have b2 : byteAV z = .int .u8 (z.toNat : Nat) := rfl
          have hne : ¬ ((s[e.length - 1].toNat : Nat) : Int) = (z.toNat : Nat) := by omega
          have r2 := w_i64 ((e.length : Int) - 1 + 1) (by omega) (by omega)
          have l1 : (0 : Int) ≤ (e.length : Int) - 1 + 1 := by omega
          have l2 : (e.length : Int) - 1 + 1 ≤ (s.length : Int) := by omega
          simp (implicitDefEqProofs := false) only [sB, simprocAttr, ci, tn, l0, hx, hz, Option.map_some, b1, b2, hne, r2, l1, l2]
          refine x_c37 ?_
          rw [ib_none _ z fun x hx e => by have := hs x (List.mem_of_mem_drop hx); rw [e] at this; omega]
          simp (implicitDefEqProofs := false) only [sB, simprocAttr]
          exact hQ _ _ _ ⟨rfl, .inr ⟨rfl, rfl⟩⟩
        · simp (implicitDefEqProofs := false) only [sB, simprocAttr, ci]
          exact hQ _ _ _ ⟨rfl, .inl rfl⟩
end Go.AL.Fun
