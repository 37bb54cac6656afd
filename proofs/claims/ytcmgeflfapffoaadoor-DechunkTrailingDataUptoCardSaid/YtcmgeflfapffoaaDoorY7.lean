/- Numbers formatted. -/
import Derived.Test.YtcmgeflfapffoaaDoorY2
set_option linter.unusedSimpArgs false
set_option linter.unusedVariables false
set_option maxRecDepth 100000
set_option maxHeartbeats 4000000
namespace Go.AL.Fun
open Go Go.AL

theorem hexD_at : ∀ d : Fin 16, hexD[d.val]? = some (hx d.val) := by decide
theorem hexD_get {d : Nat} (h : d < 16) : hexD[d]? = some (hx d) := hexD_at ⟨d, h⟩
def digs : List UInt8 := [48, 49, 50, 51, 52, 53, 54, 55, 56, 57, 97, 98, 99, 100, 101, 102, 103, 104, 105, 106, 107, 108, 109, 110, 111, 112, 113, 114, 115, 116, 117, 118, 119, 120, 121, 122]
theorem digs_at : ∀ d : Fin 16, digs[d.val]? = some (hx d.val) := by decide
theorem digs_get {d : Nat} (h : d < 16) : digs[d]? = some (hx d) := digs_at ⟨d, h⟩
/-- How many digits are there yet. -/
def Few (m k : Nat) : Prop := (k = 0 ∧ m < 1048576) ∨ (k = 1 ∧ m < 65536) ∨ (k = 2 ∧ m < 4096) ∨ (k = 3 ∧ m < 256) ∨ (k = 4 ∧ m < 16)
theorem few_step {m k : Nat} (h : Few m k) (hm : 16 ≤ m) : Few (m / 16) (k + 1) ∧ k ≤ 3 := by unfold Few at *; omega
theorem hex_step {n m : Nat} {suf : List UInt8} (h : hexL n = hexL m ++ suf) (hm : 16 ≤ m) : hexL n = hexL (m / 16) ++ (hx (m % 16) :: suf) := by
  rw [h, hexL_ge (by omega : ¬ m < 16), List.append_assoc]; rfl
def c33 (xs : List AV) (H : Heap) (K : Kv) : Prop := ∃ n : Nat, xs = [.int .i64 n] ∧ n ≤ 65536 ∧ K.ap (.str (hexL n)) H
theorem c33_of (P : Program) {G : Nat → Option (List AV)} {xs : List AV} {H : Heap} {K : Kv} (h : c33 xs H K) : @xF ⟨G, P, []⟩ f44 xs H ⟨fun v H' => ∃ H0, Hle H0 H' ∧ K.ap v H0⟩ := by
  obtain ⟨n, rfl, hn, k⟩ := h
  simp (implicitDefEqProofs := false) only [sB, simprocAttr, f44]
  refine i_loopJ (fun σ H1 => ∃ (m : Nat) (suf : List UInt8), H1 = H ∧ hexL n = hexL m ++ suf ∧ Few m suf.length ∧ σ = [(0, .int .i64 m), (3, .str suf)])
    (fun σ _ => match σ.get 0 with | .int _ n => n.toNat | _ => 0)
    (fun e σ H1 => e = .exit 0 ∧ H1 = H ∧ ∃ (m : Nat) (suf : List UInt8), m < 16 ∧ hexL n = hexL m ++ suf ∧ suf.length ≤ 4 ∧ σ.get 0 = .int .i64 m ∧ σ.get 3 = .str suf)
    ⟨_, .refl _, n, [], rfl, by simp, .inl ⟨rfl, by omega⟩, rfl⟩ ?_ ?_
  · rintro e σ H1 ⟨rfl, rfl, m, suf, hm, he, hl, q0, q3⟩
    have m0 : (0 : Int) ≤ (m : Int) := by omega
    have hg := hexD_get hm
    have b1 : byteAV (hx m) = .int .u8 ((hx m).toNat : Nat) := rfl
    simp (implicitDefEqProofs := false) only [sB, simprocAttr, q0, q3, m0, hg, Option.map_some, b1]
    refine i_new fun z hz => ?_
    have hlh : (hexL n).length ≤ 100 := by rw [he, hexL_lt hm, List.length_append, List.length_singleton]; omega
    rw [he, hexL_lt hm] at k
    simp (implicitDefEqProofs := false) only [sB, simprocAttr, UInt8.ofNat_toNat, q3]
    exact ⟨by omega, _, .tail _ _, k⟩
  · rintro Q hQ σ H1 ⟨m, suf, rfl, he, hf, rfl⟩
    by_cases c : 16 ≤ m
    · have c' : (16 : Int) ≤ (m : Int) := by omega
      obtain ⟨f1, f2⟩ := few_step hf c
      have he2 := hex_step he c
      have m16 : m % 16 < 16 := Nat.mod_lt _ (by decide)
      have t1 : (m : Int).tmod 16 = ((m % 16 : Nat) : Int) := by rw [Int.tmod_eq_emod_of_nonneg (by omega)]; omega
      have t2 : (m : Int).tdiv 16 = ((m / 16 : Nat) : Int) := by rw [Int.tdiv_eq_ediv_of_nonneg (by omega)]; omega
      have m0 : (0 : Int) ≤ ((m % 16 : Nat) : Int) := by omega
      have hg := hexD_get m16
      have b1 : byteAV (hx (m % 16)) = .int .u8 ((hx (m % 16)).toNat : Nat) := rfl
      have mb : m < 1048576 := by unfold Few at hf; omega
      have r1 := w_i64 ((m / 16 : Nat) : Int) (by omega) (by omega)
      simp (implicitDefEqProofs := false) only [sB, simprocAttr, c', t1, t2, m0, hg, Option.map_some, b1, r1]
      refine i_new fun z hz => ?_
      simp (implicitDefEqProofs := false) only [sB, simprocAttr, UInt8.ofNat_toNat, t2, r1]
      exact ⟨by unfold Few at hf; omega, _, .tail _ _, ⟨m / 16, hx (m % 16) :: suf, rfl, he2, by rw [List.length_cons]; exact f1, rfl, rfl⟩, by omega⟩
    · have c' : ¬ (16 : Int) ≤ (m : Int) := by omega
      simp (implicitDefEqProofs := false) only [sB, simprocAttr, c']
      refine hQ _ _ _ ⟨rfl, rfl, m, suf, by omega, he, by unfold Few at hf; omega, rfl, rfl⟩
def c62 (xs : List AV) (H : Heap) (K : Kv) : Prop := xs = [.int .u64 16] ∧ K.ap (.int .i64 4) H
def Gh : Nat → Option (List AV) := fun g => match g with | 5 => some tab64L | _ => none
@[reducible] def tH (P : Program) (T : XT) : Th := ⟨Gh, P, T⟩
theorem c62_of (P : Program) {xs : List AV} {H : Heap} {K : Kv} (h : c62 xs H K) : @xF (tH P []) f75 xs H ⟨fun v H' => ∃ H0, Hle H0 H' ∧ K.ap v H0⟩ := by
  obtain ⟨rfl, k⟩ := h
  have G5 : Gh 5 = some tab64L := rfl
  have g5 : ∀ (P : Program) (T : XT), @Th.G (tH P T) 5 = some tab64L := fun _ _ => rfl
  have tz : (IntKind.u64.wrap (intB BinOp.and IntKind.u64 16 (IntKind.u64.wrap (-16)) * 285870213051353865)).fdiv (2 ^ if 58 ≤ IntKind.u64.bits then 58 else IntKind.u64.bits) = 15 := by decide
  have tt : (tab64L.drop 15)[0]? = some (.int .u8 4) := rfl
  simp (implicitDefEqProofs := false) only [sB, simprocAttr, f75, opE_glob, G5, g5, tz, tt]
  exact ⟨_, .refl _, k⟩
def c60 (xs : List AV) (H : Heap) (K : Kv) : Prop := xs = [.int .u64 16] ∧ K.ap (.int .i64 4) H
theorem c60_of (P : Program) {G : Nat → Option (List AV)} {xs : List AV} {H : Heap} {K : Kv} (h : c60 xs H K) : @xF ⟨G, P, [(75, c62)]⟩ f72 xs H K := by
  obtain ⟨rfl, k⟩ := h
  simp (implicitDefEqProofs := false) only [sB, simprocAttr, f72]
  refine ⟨rfl, ?_⟩
  simp (implicitDefEqProofs := false) only [sB, simprocAttr]
  exact k
def c59 (xs : List AV) (H : Heap) (K : Kv) : Prop := xs = [.int .i64 16] ∧ K.ap (.bool true) H
theorem c59_of (P : Program) {G : Nat → Option (List AV)} {xs : List AV} {H : Heap} {K : Kv} (h : c59 xs H K) : @xF ⟨G, P, []⟩ f71 xs H K := by
  obtain ⟨rfl, k⟩ := h
  have a1 : intB .and .i64 16 15 = 0 := by decide
  simp (implicitDefEqProofs := false) only [sB, simprocAttr, f71, a1]
  exact k
theorem and_u64 (x y : Nat) (hx : x < 18446744073709551616) (hy : y < 18446744073709551616) : intB .and .u64 x y = ((x &&& y : Nat) : Int) := by
  show IntKind.wrap .u64 (((BitVec.ofInt 64 (x : Int)) &&& (BitVec.ofInt 64 (y : Int))).toNat : Int) = _
  rw [ofInt_nat, ofInt_nat, BitVec.toNat_and, BitVec.toNat_ofNat, BitVec.toNat_ofNat, Nat.mod_eq_of_lt (by omega), Nat.mod_eq_of_lt (by omega)]
  have : x &&& y ≤ x := Nat.and_le_left
  exact w_u64 _ (by omega) (by omega)
theorem and15 (m : Nat) (h : m < 1048576) : intB .and .u64 (m : Int) 15 = ((m % 16 : Nat) : Int) := by
  have := and_u64 m 15 (by omega) (by decide)
  rw [show (((15 : Nat) : Int)) = 15 from rfl] at this
  rw [this, show (15 : Nat) = 2 ^ 4 - 1 from rfl, Nat.and_two_pow_sub_one_eq_mod]
theorem sh16 : (2 : Int) ^ (if 4 ≤ IntKind.u64.bits then 4 else IntKind.u64.bits) = 16 := by decide
theorem fd16 (m : Nat) : (m : Int).fdiv 16 = ((m / 16 : Nat) : Int) := by rw [Int.fdiv_eq_ediv_of_nonneg _ (by omega)]; omega
theorem arr_set (k : Nat) (suf : List UInt8) (x : UInt8) : bytesAV ((List.replicate (k + 1) 0 ++ suf).take k) ++ byteAV x :: bytesAV ((List.replicate (k + 1) 0 ++ suf).drop (k + 1)) = bytesAV (List.replicate k 0 ++ x :: suf) := by
  have e : List.replicate (k + 1) (0 : UInt8) ++ suf = List.replicate k 0 ++ ([0] ++ suf) := by rw [List.replicate_succ', List.append_assoc]
  rw [e, List.take_left' (by simp), ← List.drop_drop, List.drop_left' (by simp)]
  simp [bytesAV]
theorem by_c1 (x : UInt8) : (byteAV x).cells = [byteAV x] := rfl
def c54 (xs : List AV) (H : Heap) (K : Kv) : Prop := ∃ n : Nat, xs = [.sl [] .nil, .int .u64 n, .int .i64 16, .bool false, .bool true] ∧ n ≤ 65536 ∧ H.keys.Nodup ∧ ∀ tk H', GC 1 (bytesAV (hexL n)) tk → H'.Perm (tokH tk ++ H) → H'.keys.Nodup → K.ap (.tup [.sl (bytesAV (hexL n)) tk, .str []]) H'
theorem c54_of (P : Program) {G : Nat → Option (List AV)} {xs : List AV} {H : Heap} {K : Kv} (h : c54 xs H K) : @xF ⟨G, P, [(71, c59), (72, c60)]⟩ f62 xs H ⟨fun v H' => ∃ H0, Hle H0 H' ∧ K.ap v H0⟩ := by
  obtain ⟨n, rfl, hn, hnd, k⟩ := h
  simp (implicitDefEqProofs := false) only [sB, simprocAttr, f62]
  refine i_new fun ar har => ?_
  simp (implicitDefEqProofs := false) only [sB, simprocAttr]
  refine ⟨rfl, ?_⟩
  simp (implicitDefEqProofs := false) only [sB, simprocAttr]
  refine ⟨rfl, ?_⟩
  simp (implicitDefEqProofs := false) only [sB, simprocAttr]
  refine i_loopJ (fun σ H1 => ∃ (m : Nat) (suf : List UInt8), H1 = (ar, .cells (bytesAV (List.replicate (65 - suf.length) 0 ++ suf))) :: H ∧ hexL n = hexL m ++ suf ∧ Few m suf.length ∧
      σ = [(0, .sl [] .nil), (1, .int .u64 m), (3, .bool false), (4, .bool true), (10, .sl [] .nil), (11, .str []), (12, .ptr ar 0), (13, .int .i64 (65 - suf.length)), (14, .int .u64 4), (15, .int .u64 16), (16, .int .u64 15)])
    (fun σ _ => match σ.get 1 with | .int _ n => n.toNat | _ => 0)
    (fun e σ H1 => e = .exit 0 ∧ ∃ (m : Nat) (suf : List UInt8), m < 16 ∧ hexL n = hexL m ++ suf ∧ suf.length ≤ 4 ∧ H1 = (ar, .cells (bytesAV (List.replicate (65 - suf.length) 0 ++ suf))) :: H ∧
      σ.get 0 = .sl [] .nil ∧ σ.get 1 = .int .u64 m ∧ σ.get 3 = .bool false ∧ σ.get 4 = .bool true ∧ σ.get 10 = .sl [] .nil ∧ σ.get 11 = .str [] ∧ σ.get 12 = .ptr ar 0 ∧ σ.get 13 = .int .i64 (65 - suf.length))
    ⟨_, .refl _, n, [], rfl, by simp, .inl ⟨rfl, by omega⟩, rfl⟩ ?_ ?_
  · rintro e σ H1 ⟨rfl, m, suf, hm, he, hl, rfl, q0, q1, q3, q4, q10, q11, q12, q13⟩
    have m0 : (0 : Int) ≤ (m : Int) := by omega
    have hg := digs_get hm
    unfold digs at hg
    have b1 : byteAV (hx m) = .int .u8 ((hx m).toNat : Nat) := rfl
    have r1 := w_i64 ((65 : Int) - suf.length - 1) (by omega) (by omega)
    have s0 : (0 : Int) ≤ (65 : Int) - suf.length - 1 := by omega
    have s1 : (65 : Int) - suf.length - 1 < 65 := by omega
    obtain ⟨j, hj1, hj2⟩ : ∃ j, 65 - suf.length = j + 1 ∧ j = 64 - suf.length := ⟨64 - suf.length, by omega, rfl⟩
    have tn : ((65 : Int) - suf.length - 1).toNat = j := by omega
    have l1 : (65 : Int) - suf.length - 1 ≤ 65 := by omega
    simp (implicitDefEqProofs := false) only [sB, simprocAttr, q0, q1, q3, q4, q10, q11, q12, q13, m0, hg, Option.map_some, r1, s0, s1, tn, l1, hj1, by_c1, arr_set]
    refine ⟨by omega, by omega, ?_⟩
    have hL : hexL n = hx m :: suf := by rw [he, hexL_lt hm]; rfl
    have hlen : (hexL n).length = 65 - j := by rw [hL, List.length_cons]; omega
    rw [← hL]
    have hnd1 : (Heap.keys ((ar, AObj.cells (bytesAV (List.replicate j 0 ++ hexL n))) :: H)).Nodup := List.nodup_cons.2 ⟨har, hnd⟩
    have ey : ((bytesAV (List.replicate j 0 ++ hexL n)).drop j).take (65 - j) = bytesAV (hexL n) := by
      rw [by_drop, by_take, List.drop_left' (by simp), List.take_of_length_le (by omega)]
    have src : ∀ K' : Kl AV, K'.ap (bytesAV (hexL n)) → xSrc 1 (.msl ar j (65 - j) 1) ((ar, AObj.cells (bytesAV (List.replicate j 0 ++ hexL n))) :: H) (K := K') := by
      intro K' k'
      rw [xsrc_msl1, show lookH ar ((ar, AObj.cells (bytesAV (List.replicate j 0 ++ hexL n))) :: H) = some (.cells (bytesAV (List.replicate j 0 ++ hexL n))) by simp [lookH], x_cells]
      exact ⟨rfl, ⟨by rw [by_len, List.length_append, List.length_replicate]; omega, by rw [ey]; exact allSz_bytes _, by rw [ey]; exact by_flat _⟩, by rw [ey]; exact k'⟩
    refine i_appC (by decide) (A := [(ar, .cells (bytesAV (List.replicate j 0 ++ hexL n)))]) (R := H) (tk := .nil) (xs := []) (.refl _) hnd1 rfl src (by rw [allSz_nil]; trivial) ?_ ?_ fun tk H' g1 g2 g3 => ?_
    · simp only [by_len, List.length_nil, maxLen_eq]; omega
    · simp only [by_len, List.length_nil]; omega
    simp (implicitDefEqProofs := false) only [sB, simprocAttr]
    exact ⟨_, hle_sub g2 (List.sublist_append_right _ _), k tk _ g1 (.refl _) (nodup_sub g2 (List.sublist_append_right _ _) g3)⟩
  · rintro Q hQ σ H1 ⟨m, suf, rfl, he, hf, rfl⟩
    by_cases c : 16 ≤ m
    · have c' : (16 : Int) ≤ (m : Int) := by omega
      obtain ⟨f1, f2⟩ := few_step hf c
      have he2 := hex_step he c
      have m16 : m % 16 < 16 := Nat.mod_lt _ (by decide)
      have mb : m < 1048576 := by unfold Few at hf; omega
      have a15 := and15 m mb
      have m0 : (0 : Int) ≤ ((m % 16 : Nat) : Int) := by omega
      have hg := digs_get m16
      unfold digs at hg
      have r1 := w_i64 ((65 : Int) - suf.length - 1) (by omega) (by omega)
      have s0 : (0 : Int) ≤ (65 : Int) - suf.length - 1 := by omega
      have s1 : (65 : Int) - suf.length - 1 < 65 := by omega
      obtain ⟨j, hj1, hj2⟩ : ∃ j, 65 - suf.length = j + 1 ∧ j = 64 - suf.length := ⟨64 - suf.length, by omega, rfl⟩
      have tn : ((65 : Int) - suf.length - 1).toNat = j := by omega
      have fd := fd16 m
      simp (implicitDefEqProofs := false) only [sB, simprocAttr, c', a15, m0, hg, Option.map_some, r1, s0, s1, tn, sh16, fd, hj1, by_c1, arr_set]
      exact ⟨by omega, _, .refl _, ⟨m / 16, hx (m % 16) :: suf, by rw [List.length_cons, show 65 - (suf.length + 1) = j by omega], he2, by rw [List.length_cons]; exact f1, rfl, by simp; omega⟩, by omega⟩
    · have c' : ¬ (16 : Int) ≤ (m : Int) := by omega
      simp (implicitDefEqProofs := false) only [sB, simprocAttr, c']
      exact hQ _ _ _ ⟨rfl, m, suf, by omega, he, by unfold Few at hf; omega, rfl, rfl, rfl, rfl, rfl, rfl, rfl, rfl, rfl⟩
end Go.AL.Fun
