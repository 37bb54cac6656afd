/- Numbers formatted. -/
import Derived.Test.YtijioomcpecdhaaDoorS3
import Derived.Test.YtijioomcpecdhaaDoorE1
set_option linter.unusedSimpArgs false
set_option linter.unusedVariables false
set_option maxRecDepth 100000
set_option maxHeartbeats 4000000
namespace Go.AL.Fun
open Go Go.AL

def hexD : List UInt8 := [48, 49, 50, 51, 52, 53, 54, 55, 56, 57, 97, 98, 99, 100, 101, 102]
theorem hexD_at : ∀ d : Fin 16, hexD[d.val]? = some (hx d.val) := by decide
theorem hexD_get {d : Nat} (h : d < 16) : hexD[d]? = some (hx d) := hexD_at ⟨d, h⟩
def digs : List UInt8 := [48, 49, 50, 51, 52, 53, 54, 55, 56, 57, 97, 98, 99, 100, 101, 102, 103, 104, 105, 106, 107, 108, 109, 110, 111, 112, 113, 114, 115, 116, 117, 118, 119, 120, 121, 122]
theorem digs_at : ∀ d : Fin 16, digs[d.val]? = some (hx d.val) := by decide
theorem digs_get {d : Nat} (h : d < 16) : digs[d]? = some (hx d) := digs_at ⟨d, h⟩
/-- How many digits are there yet. -/
def Few (m k : Nat) : Prop := (k = 0 ∧ m < 1048576) ∨ (k = 1 ∧ m < 65536) ∨ (k = 2 ∧ m < 4096) ∨ (k = 3 ∧ m < 256) ∨ (k = 4 ∧ m < 16)
theorem few_step {m k : Nat} (h : Few m k) (hm : 16 ≤ m) : Few (m / 16) (k + 1) ∧ k ≤ 3 := by unfold Few at *; omega
theorem hex_step {n m : Nat} {suf : List UInt8} (h : hexL n = hexL m ++ suf) (hm : 16 ≤ m) : hexL n = hexL (m / 16) ++ (hx (m % 16) :: suf) := by
  rw [h, hexL_ge (by omega : ¬ m < 16), List.append_assoc]; rfl
def c121 (xs : List AV) (H : Heap) (K : Kv) : Prop := xs = [.int .u64 16] ∧ K.ap (.int .i64 4) H
theorem c121_of (P : Program) {G : Nat → Option (List AV)} (hG : G 5 = some tab64L) {xs : List AV} {H : Heap} {K : Kv} (h : c121 xs H K) : @xF ⟨G, P, []⟩ f121 xs H ⟨fun v H' => ∃ H0, Hle H0 H' ∧ K.ap v H0⟩ := by
  obtain ⟨rfl, k⟩ := h
  have g5 : ∀ (P : Program) (T : XT), @Th.G ⟨G, P, T⟩ 5 = some tab64L := fun _ _ => hG
  have tz : (IntKind.u64.wrap (intB BinOp.and IntKind.u64 16 (IntKind.u64.wrap (-16)) * 285870213051353865)).fdiv (2 ^ if 58 ≤ IntKind.u64.bits then 58 else IntKind.u64.bits) = 15 := by decide
  have tt : (tab64L.drop 15)[0]? = some (.int .u8 4) := rfl
  simp (implicitDefEqProofs := false) only [sB, simprocAttr, f121, opE_glob, hG, g5, tz, tt]
  exact ⟨_, .refl _, k⟩
def c117 (xs : List AV) (H : Heap) (K : Kv) : Prop := xs = [.int .u64 16] ∧ K.ap (.int .i64 4) H
theorem c117_of (P : Program) {G : Nat → Option (List AV)} {xs : List AV} {H : Heap} {K : Kv} (h : c117 xs H K) : @xF ⟨G, P, [(121, c121)]⟩ f117 xs H K := by
  obtain ⟨rfl, k⟩ := h
  simp (implicitDefEqProofs := false) only [sB, simprocAttr, f117]
  refine ⟨rfl, ?_⟩
  simp (implicitDefEqProofs := false) only [sB, simprocAttr]
  exact k
def c116 (xs : List AV) (H : Heap) (K : Kv) : Prop := xs = [.int .i64 16] ∧ K.ap (.bool true) H
theorem c116_of (P : Program) {G : Nat → Option (List AV)} {xs : List AV} {H : Heap} {K : Kv} (h : c116 xs H K) : @xF ⟨G, P, []⟩ f116 xs H K := by
  obtain ⟨rfl, k⟩ := h
  have a1 : intB .and .i64 16 15 = 0 := by decide
  simp (implicitDefEqProofs := false) only [sB, simprocAttr, f116, a1]
  exact k
theorem and_u64 (x y : Nat) (hx : x < 18446744073709551616) (hy : y < 18446744073709551616) : intB .and .u64 x y = ((x &&& y : Nat) : Int) := by
  show IntKind.wrap .u64 (((BitVec.ofInt 64 (x : Int)) &&& (BitVec.ofInt 64 (y : Int))).toNat : Int) = _
  rw [ofInt_nat, ofInt_nat, BitVec.toNat_and, BitVec.toNat_ofNat, BitVec.toNat_ofNat, Nat.mod_eq_of_lt (by omega), Nat.mod_eq_of_lt (by omega)]
  have : x &&& y ≤ x := Nat.and_le_left
  exact w_u64 _ (by omega) (by omega)
theorem and15 (m : Nat) (h : m < 1048576) : intB .and .u64 (m : Int) 15 = ((m % 16 : Nat) : Int) := by
  have := and_u64 m 15 (by omega) (by decide)
  rw [show (((15 : Nat) : Int)) = 15 from rfl] at this
  rw [this, show (15 : Nat) = 2 ^ 4 - 1 from rfl, Nat.and_two_pow_sub_one_eq_mod]
theorem sh16 : (2 : Int) ^ (if 4 ≤ IntKind.u64.bits then 4 else IntKind.u64.bits) = 16 := by decide
theorem fd16 (m : Nat) : (m : Int).fdiv 16 = ((m / 16 : Nat) : Int) := by rw [Int.fdiv_eq_ediv_of_nonneg _ (by omega)]; omega
theorem arr_set (k : Nat) (suf : List UInt8) (x : UInt8) : bytesAV ((List.replicate (k + 1) 0 ++ suf).take k) ++ byteAV x :: bytesAV ((List.replicate (k + 1) 0 ++ suf).drop (k + 1)) = bytesAV (List.replicate k 0 ++ x :: suf) := by
  have e : List.replicate (k + 1) (0 : UInt8) ++ suf = List.replicate k 0 ++ ([0] ++ suf) := by rw [List.replicate_succ', List.append_assoc]
  rw [e, List.take_left' (by simp), ← List.drop_drop, List.drop_left' (by simp)]
  simp [bytesAV]
theorem by_c1 (x : UInt8) : (byteAV x).cells = [byteAV x] := rfl
def c102 (xs : List AV) (H : Heap) (K : Kv) : Prop := ∃ n : Nat, xs = [.sl [] .nil, .int .u64 n, .int .i64 16, .bool false, .bool false] ∧ n ≤ 65536 ∧ H.keys.Nodup ∧ K.ap (.tup [.sl [] .nil, .str (hexL n)]) H
theorem c102_of (P : Program) {G : Nat → Option (List AV)} {xs : List AV} {H : Heap} {K : Kv} (h : c102 xs H K) : @xF ⟨G, P, [(116, c116), (117, c117)]⟩ f102 xs H ⟨fun v H' => ∃ H0, Hle H0 H' ∧ K.ap v H0⟩ := by
  obtain ⟨n, rfl, hn, hnd, k⟩ := h
  simp (implicitDefEqProofs := false) only [sB, simprocAttr, f102]
  refine i_new fun ar har => ?_
  simp (implicitDefEqProofs := false) only [sB, simprocAttr]
  refine ⟨rfl, ?_⟩
  simp (implicitDefEqProofs := false) only [sB, simprocAttr]
  refine ⟨rfl, ?_⟩
  simp (implicitDefEqProofs := false) only [sB, simprocAttr]
  refine i_loopJ (fun σ H1 => ∃ (m : Nat) (suf : List UInt8), H1 = (ar, .cells (bytesAV (List.replicate (65 - suf.length) 0 ++ suf))) :: H ∧ hexL n = hexL m ++ suf ∧ Few m suf.length ∧
      σ = [(0, .sl [] .nil), (1, .int .u64 m), (3, .bool false), (4, .bool false), (10, .sl [] .nil), (11, .str []), (12, .ptr ar 0), (13, .int .i64 (65 - suf.length)), (14, .int .u64 4), (15, .int .u64 16), (16, .int .u64 15)])
    (fun σ _ => match σ.get 1 with | .int _ n => n.toNat | _ => 0)
    (fun e σ H1 => e = .exit 0 ∧ ∃ (m : Nat) (suf : List UInt8), m < 16 ∧ hexL n = hexL m ++ suf ∧ suf.length ≤ 4 ∧ H1 = (ar, .cells (bytesAV (List.replicate (65 - suf.length) 0 ++ suf))) :: H ∧
      σ.get 0 = .sl [] .nil ∧ σ.get 1 = .int .u64 m ∧ σ.get 3 = .bool false ∧ σ.get 4 = .bool false ∧ σ.get 10 = .sl [] .nil ∧ σ.get 11 = .str [] ∧ σ.get 12 = .ptr ar 0 ∧ σ.get 13 = .int .i64 (65 - suf.length))
    ⟨_, .refl _, n, [], rfl, by simp, .inl ⟨rfl, by omega⟩, rfl⟩ ?_ ?_
  · rintro e σ H1 ⟨rfl, m, suf, hm, he, hl, rfl, q0, q1, q3, q4, q10, q11, q12, q13⟩
    have m0 : (0 : Int) ≤ (m : Int) := by omega
    have hg := digs_get hm
    unfold digs at hg
    have b1 : byteAV (hx m) = .int .u8 ((hx m).toNat : Nat) := rfl
    have r1 := w_i64 ((65 : Int) - suf.length - 1) (by omega) (by omega)
    have s0 : (0 : Int) ≤ (65 : Int) - suf.length - 1 := by omega
    have s1 : (65 : Int) - suf.length - 1 < 65 := by omega
    obtain ⟨j, hj1, hj2⟩ : ∃ j, 65 - suf.length = j + 1 ∧ j = 64 - suf.length := ⟨64 - suf.length, by omega, rfl⟩
    have tn : ((65 : Int) - suf.length - 1).toNat = j := by omega
    have l1 : (65 : Int) - suf.length - 1 ≤ 65 := by omega
    simp (implicitDefEqProofs := false) only [sB, simprocAttr, q0, q1, q3, q4, q10, q11, q12, q13, m0, hg, Option.map_some, r1, s0, s1, tn, l1, hj1, by_c1, arr_set]
    refine ⟨by omega, by omega, ?_⟩
    have hL : hexL n = hx m :: suf := by rw [he, hexL_lt hm]; rfl
    have hlen : (hexL n).length = 65 - j := by rw [hL, List.length_cons]; omega
    rw [← hL]
    have hnd1 : (Heap.keys ((ar, AObj.cells (bytesAV (List.replicate j 0 ++ hexL n))) :: H)).Nodup := List.nodup_cons.2 ⟨har, hnd⟩
    have eL : List.take (65 - j) (List.drop j (List.replicate j 0 ++ hexL n)) = hexL n := by rw [List.drop_left' (by simp), List.take_of_length_le (by omega)]
    rw [eL]
    refine ⟨?_, H, ?_, k⟩
    · rw [← hlen, hL, List.length_cons]; omega
    · exact .tail _ _
  · rintro Q hQ σ H1 ⟨m, suf, rfl, he, hf, rfl⟩
    by_cases c : 16 ≤ m
    · have c' : (16 : Int) ≤ (m : Int) := by omega
      obtain ⟨f1, f2⟩ := few_step hf c
      have he2 := hex_step he c
      have m16 : m % 16 < 16 := Nat.mod_lt _ (by decide)
      have mb : m < 1048576 := by unfold Few at hf; omega
      have a15 := and15 m mb
      have m0 : (0 : Int) ≤ ((m % 16 : Nat) : Int) := by omega
      have hg := digs_get m16
      unfold digs at hg
      have r1 := w_i64 ((65 : Int) - suf.length - 1) (by omega) (by omega)
      have s0 : (0 : Int) ≤ (65 : Int) - suf.length - 1 := by omega
      have s1 : (65 : Int) - suf.length - 1 < 65 := by omega
      obtain ⟨j, hj1, hj2⟩ : ∃ j, 65 - suf.length = j + 1 ∧ j = 64 - suf.length := ⟨64 - suf.length, by omega, rfl⟩
      have tn : ((65 : Int) - suf.length - 1).toNat = j := by omega
      have fd := fd16 m
      simp (implicitDefEqProofs := false) only [sB, simprocAttr, c', a15, m0, hg, Option.map_some, r1, s0, s1, tn, sh16, fd, hj1, by_c1, arr_set]
      exact ⟨by omega, _, .refl _, ⟨m / 16, hx (m % 16) :: suf, by rw [List.length_cons, show 65 - (suf.length + 1) = j by omega], he2, by rw [List.length_cons]; exact f1, rfl, by simp; omega⟩, by omega⟩
    · have c' : ¬ (16 : Int) ≤ (m : Int) := by omega
      simp (implicitDefEqProofs := false) only [sB, simprocAttr, c']
      exact hQ _ _ _ ⟨rfl, m, suf, by omega, he, by unfold Few at hf; omega, rfl, rfl, rfl, rfl, rfl, rfl, rfl, rfl, rfl⟩
end Go.AL.Fun
