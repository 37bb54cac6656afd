/- Encode, walked at the model. -/
import Derived.Test.YtcmgeflfapffoaaDoorFE
set_option linter.unusedSimpArgs false
set_option linter.unusedVariables false
set_option maxRecDepth 100000
set_option maxHeartbeats 4000000
namespace Go.AL.Fun
open Go Go.AL
/-- The chunk number j. -/
def partP (k : Nat) (b : List UInt8) (j : Nat) : List UInt8 := (b.drop (j * k)).take k
def outP (k : Nat) (b : List UInt8) (js : List Nat) : List UInt8 := js.flatMap fun j => chunkP (partP k b j)
/-- The body of some bytes. -/
def bodyP (k : Nat) (b : List UInt8) : List UInt8 := outP k b (List.range (cntN k b.length)) ++ chunkP []
theorem outP_app (k : Nat) (b : List UInt8) (js : List Nat) (j : Nat) : outP k b (js ++ [j]) = outP k b js ++ chunkP (partP k b j) := by simp [outP]
theorem part_len (k : Nat) (b : List UInt8) (j : Nat) : (partP k b j).length = min k (b.length - j * k) := by simp [partP]
theorem chunkP_len {b : List UInt8} (h : b.length ≤ 65536) : (chunkP b).length ≤ b.length + 104 := by
  unfold chunkP
  have := lineL_len h
  simp only [List.length_append, List.length_cons, List.length_nil]
  omega
theorem outP_len {k : Nat} (hk : k ≤ 65536) (b : List UInt8) : ∀ js : List Nat, (outP k b js).length ≤ js.length * (k + 104)
  | [] => by simp [outP]
  | j :: js => by
    have h1 := chunkP_len (b := partP k b j) (by rw [part_len]; omega)
    rw [part_len] at h1
    have h2 := outP_len hk b js
    have h3 : outP k b (j :: js) = chunkP (partP k b j) ++ outP k b js := rfl
    rw [h3, List.length_append, List.length_cons, Nat.add_mul]
    omega
theorem chunkP_ne (b : List UInt8) : chunkP b ≠ [] := by
  unfold chunkP lineL
  simp
theorem cnt_small {k len : Nat} (hk : 1 ≤ k) (hk2 : k ≤ 65536) (h : len ≤ 1048576) : cntN k len * (k + 104) ≤ 1073741000 := by
  have h1 : cntN k len ≤ len := by
    unfold cntN
    rw [Nat.div_le_iff_le_mul_add_pred (by omega)]
    have := Nat.mul_le_mul_right len hk
    rw [Nat.one_mul] at this
    omega
  have h2 : cntN k len * k ≤ len + k := by
    unfold cntN
    have := Nat.div_mul_le_self (len + k - 1) k
    omega
  rw [Nat.mul_add]
  omega
theorem FX.app {p : Nat} {s : FS} {H R : Heap} (h : FX p s H R) {O : Heap} (hn : (Heap.keys (H ++ O)).Nodup) : FX p s (H ++ O) (R ++ O) := by
  obtain ⟨_, tk, ht, hp⟩ := h
  exact ⟨hn, tk, ht, hp.append_right O⟩
theorem bR_app (p bp bf : Nat) (R O : Heap) : bR p bp bf R ++ O = bR p bp bf (R ++ O) := rfl
theorem DE.app {p bp bo bf : Nat} {s : FS} {out : List UInt8} {H R O : Heap} (h : DE p bp bo bf s out H R) (hn : (Heap.keys (H ++ O)).Nodup) : DE p bp bo bf s out (H ++ O) (R ++ O) := by
  obtain ⟨to, hg, hX⟩ := h
  have := hX.app hn
  rw [List.cons_append, List.append_assoc, bR_app] at this
  exact ⟨to, hg, this⟩
/-- What is added is let go. -/
theorem DE.unapp {p bp bo bf : Nat} {s : FS} {out : List UInt8} {H R O : Heap} (h : DE p bp bo bf s out H (R ++ O)) : ∃ A, H.Perm (A ++ O) ∧ DE p bp bo bf s out A R := by
  obtain ⟨to, hg, hn, tk, ht, hp⟩ := h
  have e : ((p, fO s tk) :: (bo, AObj.cells [.sl (bytesAV out) to]) :: (tokH to ++ bR p bp bf (R ++ O))) = ((p, fO s tk) :: (bo, AObj.cells [.sl (bytesAV out) to]) :: (tokH to ++ bR p bp bf R)) ++ O := by
    rw [← bR_app, ← List.append_assoc]; rfl
  rw [e] at hp
  exact ⟨_, hp, to, hg, nodup_sub hp (List.sublist_append_left _ _) hn, tk, ht, .refl _⟩
theorem tokH_cells (t : Tok) : cellsOnly (tokH t) := fun p hp => by
  cases t with
  | «at» b e s => simp [tokH] at hp; subst hp; rfl
  | nil => simp [tokH] at hp
  | no => simp [tokH] at hp
theorem DE.cells {p bp bo bf : Nat} {s : FS} {out : List UInt8} {H R : Heap} (h : DE p bp bo bf s out H R) (hR : cellsOnly R) : cellsOnly H := by
  obtain ⟨to, hg, hn, tk, ht, hp⟩ := h
  exact (((tokH_cells to).app ((hR.cons rfl).cons rfl)).cons rfl |>.cons rfl).perm hp
theorem DE.mem {p bp bo bf : Nat} {s : FS} {out : List UInt8} {H R : Heap} (h : DE p bp bo bf s out H R) {q : Nat × AObj} (hq : q ∈ bR p bp bf R) : q ∈ H := by
  obtain ⟨to, hg, hn, tk, ht, hp⟩ := h
  exact hp.mem_iff.2 (List.mem_cons_of_mem _ (List.mem_cons_of_mem _ (List.mem_append_right _ hq)))
def d12 (xs : List AV) (H : Heap) (K : Kv) : Prop := ∃ (b : List UInt8) (t : Tok) (n : Int), xs = [.sl (bytesAV b) t, .int .i64 n] ∧ b.length ≤ 1048576 ∧ H.keys.Nodup ∧ cellsOnly H ∧
  ((n < 1 ∨ 65536 < n) → K.ap (.tup [.sl [] .nil, .int .i64 3]) H) ∧ (1 ≤ n → n ≤ 65536 → K.ap (.tup [.sl (bytesAV (bodyP n.toNat b)) .no, .int .i64 0]) H)
end Go.AL.Fun
namespace Go.Proofs.YtcmgeflfapffoaaDoor.lib
open Go.RowKit Go.Shelf Go.Proofs Go.AL Go.AL.Fun
attribute [local go_sem] Oper.semAt_some
variable {G : Nat → Option (List AV)}
/-- A slice's chunks. -/
theorem rel_chunks {m : Im} {b : List UInt8} {t : Tok} {v : Value} (h : Go.AL.Rel m (.sl (bytesAV b) t) v) : ∃ (a : Option Addr) (cap blk off : Nat), v = .slice a b.length cap ∧ ChSl v blk off b.length ∧
    ∀ i k, i + k ≤ b.length → 0 < k → Go.AL.Rel m (.sl (bytesAV ((b.drop i).take k)) .no) (.slice (some ⟨blk, off + i, none⟩) k k) := by
  generalize hx : AV.sl (bytesAV b) t = x at h
  cases h with
  | slnil =>
    simp only [AV.sl.injEq] at hx
    have hb : b = [] := by simpa [bytesAV] using hx.1
    subst hb
    exact ⟨none, 0, 0, 0, rfl, .emp _ _ _ _, fun i k h1 h2 => by simp at h1; omega⟩
  | sl xs t' a len cap sz f ht hl hlc hcm hs hz hc h1 hr hk =>
    simp only [AV.sl.injEq] at hx
    obtain ⟨rfl, rfl⟩ := hx
    rw [by_len] at hl
    subst hl
    by_cases hb : b = []
    · subst hb
      exact ⟨some a, cap, 0, 0, rfl, .emp _ _ _ _, fun i k h1 h2 => by simp at h1; omega⟩
    have hne : bytesAV b ≠ [] := fun e => hb (by simpa [bytesAV] using e)
    have hsp := hs hne
    obtain ⟨blk, off, spot⟩ := a
    obtain rfl : spot = none := hsp
    have hsz : sz = 1 := by
      cases b with
      | nil => exact absurd rfl hb
      | cons c r => exact (hz 0 (byteAV c) rfl).symm
    subst hsz
    refine ⟨some ⟨blk, off, none⟩, cap, blk, off, rfl, .at _ _ _ _ hlc, fun i k h1' h2 => ?_⟩
    have hlen : (bytesAV ((b.drop i).take k)).length = k := by rw [by_len, List.length_take, List.length_drop]; omega
    have hget : ∀ q x, (bytesAV ((b.drop i).take k))[q]? = some x → (bytesAV b)[i + q]? = some x := fun q x hq => by
      have hq1 := (List.getElem?_eq_some_iff.1 hq).1
      rw [hlen] at hq1
      rw [bytesAV_get, List.getElem?_take_of_lt hq1, List.getElem?_drop, ← bytesAV_get] at hq
      exact hq
    rw [by_len] at hc h1
    refine .sl _ .no ⟨blk, off + i, none⟩ k k 1 (fun q j => f (i + q) j) (by decide) hlen.symm (Nat.le_refl _) (by omega) (fun _ => rfl) (fun q x hq => hz _ x (hget q x hq)) (fun q j hq hj => ?_) (fun q j hq hj => h1 _ _ (by rw [hlen] at hq; omega) hj) (fun q x j y hq hy => hr _ x j y (hget q x hq) hy) (fun b e s h => by cases h)
    rw [hlen] at hq
    have := hc (i + q) j (by omega) hj
    simp only [Nat.mul_one] at this ⊢
    rw [← this]
    congr 1
    omega
  | _ => cases hx
theorem run_store_fn {P : Program} {w : World} {a : Addr} {mo : Mode} (f : Fn) (fs cs : Array Value) : (store a (.func f fs cs) mo).run P w = stored P w a (.func f fs cs) mo := run_store P w a _ mo rfl
attribute [local go_sem] run_store_fn
theorem Rel.sl_eq {m : Im} {xs : List AV} {t : Tok} {c : Value} (h : Rel m (.sl xs t) c) : ∃ a l cp, c = .slice a l cp := by
  cases h with
  | slnil => exact ⟨_, _, _, rfl⟩
  | sl _ _ a len cap => exact ⟨_, _, _, rfl⟩
theorem permM {α : Type} (A R : List α) (x y : α) : (A ++ x :: y :: R).Perm (y :: x :: (A ++ R)) :=
  (List.perm_middle.trans (List.perm_middle.cons x)).trans (.swap _ _ _)
theorem perm7 {α : Type} (a b c d e f g : α) : [a, b, c, d, e, f, g].Perm [g, e, d, f, a, b, c] :=
  (List.perm_append_comm (l₁ := [a, b, c]) (l₂ := [d, e, f, g])).trans (((List.perm_append_comm (l₁ := [d, e, f]) (l₂ := [g])).trans ((List.Perm.swap e d [f]).cons g)).append_right [a, b, c])
theorem results12 {tmps : Array Value} {w : World} {b4 b5 : Nat} {d4 d5 : Value} (h4 : tmps.getD 4 undef = .pointer (some ⟨b4, 0, none⟩)) (h5 : tmps.getD 5 undef = .pointer (some ⟨b5, 0, none⟩))
    (c4 : w.cell? ⟨b4, 0, none⟩ = some d4) (c5 : w.cell? ⟨b5, 0, none⟩ = some d5) : (results Tryd.f12 tmps).run Tryd.prog w = .ok (.tuple #[d4, d5]) w := by
  have hs4 := Tryd.sizeOf22
  have hs5 := Tryd.sizeOf24
  have ha4 := Tryd.isAgg22
  have ha5 := Tryd.isAgg24
  rw [Array.getD_eq_getD_getElem?] at h4 h5
  simp [results, show Tryd.f12.results = #[.cell 4 22, .cell 5 24] from rfl, h4, h5, asAddr, loadVar, c4, c5, go_sem, hs4, hs5, ha4, ha5]
theorem encode_in (h14 : ∀ xs H K, d14 xs H ⟨K⟩ → ACalls G Tryd.prog 14 xs H K) (h15 : ∀ xs H K, d15 xs H ⟨K⟩ → ACalls G Tryd.prog 15 xs H K) (h19 : ∀ xs H K, d19 xs H ⟨K⟩ → ACalls G Tryd.prog 19 xs H K) (h34 : ∀ xs H K, d34 xs H ⟨K⟩ → ACalls G Tryd.prog 34 xs H K) :
    ∀ xs H K, d12 xs H ⟨K⟩ → ACalls G Tryd.prog 12 xs H K := by
  rintro xs H K ⟨b, t, n, rfl, hl, hn, hcO, k1, k2⟩
  refine ⟨⟨Tryd.f12, Tryd.func12, by kernel_rfl, by kernel_rfl⟩, fun B w0 m w cargs hs hr => ?_⟩
  obtain ⟨v1, r1, e1, g1, hr⟩ := hr.uncons
  obtain ⟨v2, r2, e2, g2, hr⟩ := hr.uncons
  have e3 := hr.unnil
  subst e2 e3
  obtain rfl : cargs = #[v1, v2] := by cases cargs; simp_all
  generalize hv2 : AV.int IntKind.i64 n = x2 at g2
  cases g2 <;> cases hv2
  obtain ⟨mA, hmA, sA⟩ := hs.newBox (x := .sl [] .nil) (c := .slice none 0 0) 22 .slnil rfl
  obtain ⟨mB, hmB, sB⟩ := sA.newBox (x := .int .i64 0) (c := .int .i64 0) 24 (.int _ _) rfl
  refine (callsIn_wide (n := 20)).1 ?_
  refine callsIn_of_wp_marks Tryd.func12 rfl trivial ?_ rfl
  simp only [Tryd.ntmps12, List.size_toArray, List.length_cons, List.length_nil, Nat.reduceAdd, Nat.reduceSub, Array.replicate_succ, Array.replicate_zero, List.push_toArray, List.append_toArray, List.nil_append, List.cons_append]
  gi_wp2
  rw [World.size_alloc] at sB
  obtain ⟨b4, hb4⟩ : ∃ b4, b4 = w.heap.size := ⟨_, rfl⟩
  rw [← hb4] at sB ⊢
  clear hb4
  obtain ⟨HB, hHB⟩ : ∃ HB, HB = ((b4 + 1, AObj.cells [.int .i64 0]) :: (b4, .cells [.sl [] .nil]) :: H) := ⟨_, rfl⟩
  rw [← hHB] at sB
  have hnB : (Heap.keys HB).Nodup := sB.nodup
  refine ⟨trivial, ((h14 _ _ (fun v H' => ((n < 1 ∨ 65536 < n) ∧ v = .tup [.nilp, .int .i64 3] ∧ H' = HB) ∨ (1 ≤ n ∧ n ≤ 65536 ∧ ∃ p, v = .tup [.ptr p 0, .int .i64 0] ∧ FX p ⟨n, [], false⟩ H' HB))
    ⟨n, rfl, hnB, fun h => .inl ⟨h, rfl, rfl⟩, fun h1 h2 p H' hX => .inr ⟨h1, h2, p, rfl, hX⟩⟩).wide 19 sB ((RelL.nil _).cons (.int _ _))).mono ?_⟩
  rintro e w1 ⟨v, cv, m1, H1, rfl, hm1, s1, hv, ⟨hcase, rfl, rfl⟩ | ⟨hn1, hn2, p, rfl, hX⟩⟩
  · obtain ⟨u1, u2, rfl, hu1, hu2⟩ := hv.tup2
    obtain rfl := hu1.nilp_eq
    obtain rfl := hu2.int_eq
    obtain ⟨m2, hm2, s2⟩ := s1.newBox (x := .nilp) (c := .pointer none) 29 .nilp rfl
    obtain ⟨bf, hbf⟩ : ∃ bf, bf = w1.heap.size := ⟨_, rfl⟩
    rw [← hbf] at s2
    have s2' := s2.perm (H' := (b4, .cells [.sl [] .nil]) :: (b4 + 1, .cells [.int .i64 0]) :: (bf, .cells [.nilp]) :: H) (by rw [hHB]; exact (List.perm_cons_append_cons (l₁ := [_, _]) _ (.refl _)).trans (.swap _ _ _))
    obtain ⟨c4, hc4, _, hf4, _, _, hlt4⟩ := s2'.box1 List.mem_cons_self
    have s3 := s2'.setBox (P := Tryd.prog) (c := .slice none 0 0) (y := .sl [] .nil) .slnil rfl
    have s3' := s3.perm (List.Perm.swap _ _ _)
    obtain ⟨c5, hc5, _, hf5, _, _, hlt5⟩ := s3'.box1 List.mem_cons_self
    have s4 := s3'.setBox (P := Tryd.prog) (c := .int .i64 3) (y := .int .i64 3) (.int _ _) rfl
    obtain ⟨d5, hd5, hr5, _⟩ := s4.box1 List.mem_cons_self
    obtain ⟨d4, hd4, hr4, _⟩ := s4.box1 (List.mem_cons_of_mem _ List.mem_cons_self)
    obtain rfl := hr5.int_eq
    gi_wp2
    refine ⟨_, results12 rfl rfl hd4 hd5, _, _, _, _, rfl, ((hmA.trans hmB).trans hm1).trans hm2, s4.drop (.cons _ (.cons _ (.cons _ (.refl _)))), .mk2 hr4 (.int _ _), k1 hcase⟩
  · obtain ⟨u1, u2, rfl, hu1, hu2⟩ := hv.tup2
    obtain rfl := hu1.ptr_eq
    obtain rfl := hu2.int_eq
    obtain ⟨k, rfl⟩ : ∃ k : Nat, n = k := ⟨n.toNat, by omega⟩
    have hk1 : 1 ≤ k := by omega
    have hk2 : k ≤ 65536 := by omega
    obtain ⟨a, cap, blk, off, rfl, hch, hparts⟩ := rel_chunks g1
    obtain ⟨m2, hm2, s2⟩ := s1.newBox (x := .ptr p 0) (c := .pointer (some ⟨p, 0, none⟩)) 29 (.ptr _ _) rfl
    obtain ⟨m3, hm3, s3⟩ := s2.newBox (x := .sl [] .nil) (c := .slice none 0 0) 22 .slnil rfl
    obtain ⟨m4, hm4, s4⟩ := s3.newBox (x := .fn (.func 16) [.ptr p 0] []) (c := .func (.func 16) #[.pointer (some ⟨p, 0, none⟩)] #[]) 34 (.fn _ _ _ _ _ rfl rfl (by intro i x y hx hy; match i with | 0 => simp at hx hy; subst hx hy; exact .ptr _ _ | i + 1 => simp at hx) (by intro i x y hx; simp at hx)) rfl
    obtain ⟨q, hq⟩ : ∃ q, q = w1.heap.size := ⟨_, rfl⟩
    simp only [World.size_alloc] at s3 s4
    rw [← hq] at s2 s3 s4
    obtain ⟨m5, hm5, s5⟩ := s4.newBox (x := .fn (.func 34) [] [.ptr (q + 1 + 1) 0, .ptr (q + 1) 0, .ptr q 0]) (c := .func (.func 34) #[] #[.pointer (some ⟨q + 1 + 1, 0, none⟩), .pointer (some ⟨q + 1, 0, none⟩), .pointer (some ⟨q, 0, none⟩)]) 58
      (.fn _ _ _ _ _ rfl rfl (by intro i x y hx; simp at hx) (by intro i x y hx hy; match i with | 0 => simp at hx hy; subst hx hy; exact .ptr _ _ | 1 => simp at hx hy; subst hx hy; exact .ptr _ _ | 2 => simp at hx hy; subst hx hy; exact .ptr _ _ | i + 3 => simp at hx)) rfl
    have s6 := s5.newRaw 22 [.slice a b.length cap]
    have s7 := s6.newRaw 3 [.int .i64 k]
    simp only [World.size_alloc] at s5 s6 s7
    rw [← hq] at s5 s6 s7
    gi_wp2
    refine ⟨trivial, (chunk_in 19 a b.length cap k (by omega) _).mono ?_⟩
    rintro e w' ⟨rfl, rfl⟩
    gi_wp2
    try rw [← hq]
    generalize (((((w1.alloc (Obj.cells #[Value.pointer (some { block := p, off := 0 })] 29)).alloc (Obj.cells #[Value.slice none 0 0] 22)).alloc (Obj.cells #[Value.func (Fn.func 16) #[Value.pointer (some { block := p, off := 0 })] #[]] 34)).alloc
        (Obj.cells #[Value.func (Fn.func 34) #[] #[Value.pointer (some { block := q + 1 + 1, off := 0 }), Value.pointer (some { block := q + 1, off := 0 }), Value.pointer (some { block := q, off := 0 })]] 58)).alloc (.cells #[.slice a b.length cap] 22)).alloc (.cells #[.int .i64 k] 3) = W7 at *
    clear hq s1 s2 s3 s4 s5 s6
    obtain ⟨R7, hR7⟩ : ∃ R7, R7 = ((q + 1 + 1 + 1 + 1 + 1, AObj.raw 3 [.int .i64 k]) :: (q + 1 + 1 + 1 + 1, .raw 22 [.slice a b.length cap]) :: (q + 1 + 1 + 1, .cells [.fn (.func 34) [] [.ptr (q + 1 + 1) 0, .ptr (q + 1) 0, .ptr q 0]]) :: HB) := ⟨_, rfl⟩
    have hcHB : cellsOnly HB := by rw [hHB]; exact (hcO.cons rfl).cons rfl
    have hcR : cellsOnly R7 := by rw [hR7]; exact ((hcHB.cons rfl).cons rfl).cons rfl
    have hr2 : (q + 1 + 1 + 1 + 1 + 1, AObj.raw 3 [.int .i64 k]) ∈ R7 := by rw [hR7]; exact List.mem_cons_self
    have hr1 : (q + 1 + 1 + 1 + 1, AObj.raw 22 [.slice a b.length cap]) ∈ R7 := by rw [hR7]; exact List.mem_cons_of_mem _ List.mem_cons_self
    have hr0 : (q + 1 + 1 + 1, AObj.cells [.fn (.func 34) [] [.ptr (q + 1 + 1) 0, .ptr (q + 1) 0, .ptr q 0]]) ∈ R7 := by rw [hR7]; exact List.mem_cons_of_mem _ (List.mem_cons_of_mem _ List.mem_cons_self)
    have hD0 : DE p (q + 1 + 1) (q + 1) q ⟨k, [], false⟩ [] ((q + 1 + 1 + 1 + 1 + 1, AObj.raw 3 [.int .i64 k]) :: (q + 1 + 1 + 1 + 1, .raw 22 [.slice a b.length cap]) :: (q + 1 + 1 + 1, .cells [.fn (.func 34) [] [.ptr (q + 1 + 1) 0, .ptr (q + 1) 0, .ptr q 0]]) :: (q + 1 + 1, .cells [.fn (.func 16) [.ptr p 0] []]) :: (q + 1, .cells [.sl [] .nil]) :: (q, .cells [.ptr p 0]) :: H1) R7 := by
      obtain ⟨_, tk, ht, hp⟩ := hX
      refine ⟨.nil, rfl, s7.nodup, tk, ht, ?_⟩
      rw [hR7]
      exact (((((((hp.cons _).cons _).cons _).cons _).cons _).cons _)).trans ((perm7 _ _ _ _ _ _ _).append_right HB)
    have hN : ∀ x : Fin (cntN k b.length), 0 < (partP k b x.val).length ∧ (partP k b x.val).length ≤ k ∧ Rel m5 (.sl (bytesAV (partP k b x.val)) .no) (chV blk off b.length k x.val) := fun x => by
      have h1 := cntN_lt hk1 x.isLt
      have h2 := part_len k b x.val
      have h3 := hparts (x.val * k) (min k (b.length - x.val * k)) (by omega) (by omega)
      refine ⟨by omega, by omega, ?_⟩
      have h4 : (b.drop (x.val * k)).take (min k (b.length - x.val * k)) = partP k b x.val := by
        unfold partP
        rw [List.take_eq_take_iff]
        simp
      rw [h4] at h3
      exact h3.mono (((((hmA.trans hmB).trans hm1).trans hm2).trans hm3).trans (hm4.trans hm5))
    have hcnt := cnt_small hk1 hk2 hl
    refine wpIn_rangeFunc_ownF rfl (by decide) (gf := 41) (lb := #[.pointer (some ⟨q + 1 + 1 + 1 + 1, 0, none⟩), .pointer (some ⟨q + 1 + 1 + 1 + 1 + 1, 0, none⟩)]) rfl trivial (enters_of Tryd.func41 (by kernel_rfl) rfl)
      (chunk_stops 19 (by decide) (q + 1 + 1 + 1 + 1) (q + 1 + 1 + 1 + 1 + 1) blk off b.length k _ hch hk1 hk2 (by omega) W7 (s7.obj _ _ (List.mem_cons_of_mem _ List.mem_cons_self)).2.1 (s7.obj _ _ List.mem_cons_self).2.1 (s7.raw1 (List.mem_cons_of_mem _ List.mem_cons_self)) (s7.raw1 List.mem_cons_self))
      (fun h h' => ⟨fun v e => h'.1 _ (h.1 _ e), fun v e => h'.2 _ (h.2 _ e)⟩)
      (fun W l o o' _ hl ho _ => ⟨fun v e => cell_kept e (grownBy_putObj' W l o') (fun r e => by cases e; exact ⟨o, hl, ho⟩), fun v e => cell_kept e (grownBy_putObj' W l o') (fun r e => by cases e; exact ⟨o, hl, ho⟩)⟩)
      (Below.refl _ _) (fun _ => rfl)
      (fun (pre : List (Fin (cntN k b.length))) W => ∃ m' H', (m5.le m' ∧ DE p (q + 1 + 1) (q + 1) q ⟨k, [], false⟩ (outP k b (pre.map Fin.val)) H' R7) ∧ Sat G B w0 m' H' W)
      (fun _ _ _ => False)
      (own_sat s7.base (fun (pre : List (Fin (cntN k b.length))) m' H' => m5.le m' ∧ DE p (q + 1 + 1) (q + 1) q ⟨k, [], false⟩ (outP k b (pre.map Fin.val)) H' R7) (fun _ _ _ h => h.2.cells hcR))
      (fun _ _ _ _ _ h _ _ => h)
      ⟨m5, _, ⟨.refl _, hD0⟩, s7⟩
      (fun x => { tmps := #[.slice a b.length cap, .int .i64 k, undef, undef, .pointer (some ⟨b4, 0, none⟩), .pointer (some ⟨b4 + 1, 0, none⟩), .pointer (some ⟨q, 0, none⟩), .int .i64 0, .pointer (some ⟨q + 1, 0, none⟩), .pointer (some ⟨q + 1 + 1, 0, none⟩), .pointer (some ⟨q + 1 + 1 + 1, 0, none⟩), chV blk off b.length k x.val, undef, undef, .tuple #[.pointer (some ⟨p, 0, none⟩), .int .i64 0], .int .i64 k, .tuple #[.pointer (some ⟨p, 0, none⟩), .int .i64 0], .pointer (some ⟨p, 0, none⟩), .int .i64 0, .int .i64 0, .bool false, undef, .pointer (some ⟨p, 0, none⟩), .func (.func 16) #[.pointer (some ⟨p, 0, none⟩)] #[], .func (.func 34) #[] #[.pointer (some ⟨q + 1 + 1, 0, none⟩), .pointer (some ⟨q + 1, 0, none⟩), .pointer (some ⟨q, 0, none⟩)], .slice a b.length cap, .int .i64 k, .func (.func 41) #[] #[.pointer (some ⟨q + 1 + 1 + 1 + 1, 0, none⟩), .pointer (some ⟨q + 1 + 1 + 1 + 1 + 1, 0, none⟩)], chV blk off b.length k x.val, undef, undef, undef, undef, undef, undef, undef, undef, undef, undef, undef, undef, undef, undef, undef, undef], defers := [] }) ?assign ?body ?done ?stop
    case assign =>
      intro l x W K hK
      gi_wp2
      exact hK
    case stop =>
      rintro D c pre W _ _ h _
      exact h.elim
    case body =>
      rintro l pre x W ⟨m', H', ⟨hm', hD⟩, hs'⟩ hlen
      obtain ⟨hp1, hp2, hp3⟩ := hN x
      have hO := hs'.rebase.others
      obtain ⟨O, hOe⟩ : ∃ O, O = Go.AL.others B H' W := ⟨_, rfl⟩
      rw [← hOe] at hO
      have hDO := hD.app hO.nodup
      obtain ⟨to, hg, hXO⟩ := hDO
      have hlenO : (outP k b (pre.map Fin.val)).length + (chunkP (partP k b x.val)).length ≤ 1073741824 := by
        have h1 := outP_len hk2 b (pre.map Fin.val)
        rw [List.length_map] at h1
        have h2 := chunkP_len (b := partP k b x.val) (by omega)
        have h3 : (pre.length + 1) * (k + 104) ≤ cntN k b.length * (k + 104) := Nat.mul_le_mul_right _ hlen
        rw [Nat.add_mul] at h3
        omega
      have hw1 := hs'.raw1 (hD.mem (List.mem_cons_of_mem _ (List.mem_cons_of_mem _ hr1)))
      have hw2 := hs'.raw1 (hD.mem (List.mem_cons_of_mem _ (List.mem_cons_of_mem _ hr2)))
      have hcd : W.cell? ⟨q + 1 + 1 + 1, 0, none⟩ = some (.func (.func 34) #[] #[.pointer (some ⟨q + 1 + 1, 0, none⟩), .pointer (some ⟨q + 1, 0, none⟩), .pointer (some ⟨q, 0, none⟩)]) := by
        obtain ⟨c, hc, hr, _⟩ := hs'.box1 (hD.mem (List.mem_cons_of_mem _ (List.mem_cons_of_mem _ hr0)))
        rw [hc, Rel.fn_ptrs (cs := [(q + 1 + 1, 0), (q + 1, 0), (q, 0)]) hr]
        rfl
      have hcf : W.cell? ⟨q, 0, none⟩ = some (.pointer (some ⟨p, 0, none⟩)) := by
        obtain ⟨c, hc, hr, _⟩ := hs'.box1 (id := q) (x := .ptr p 0) (hD.mem (List.mem_cons_of_mem _ List.mem_cons_self))
        rw [hc, hr.ptr_eq]
      have hc15 : ∀ nn, CallsIn Fence.wide nn Tryd.prog 15 #[.pointer (some ⟨p, 0, none⟩), chV blk off b.length k x.val] W.drew fun e w2 => e = .returned (.int .i64 0) ∧ w2.cell? ⟨q + 1 + 1 + 1, 0, none⟩ = some (.func (.func 34) #[] #[.pointer (some ⟨q + 1 + 1, 0, none⟩), .pointer (some ⟨q + 1, 0, none⟩), .pointer (some ⟨q, 0, none⟩)]) ∧
          ∀ nn, CallsIn Fence.wide nn Tryd.prog 34 #[.int .i64 0, .pointer (some ⟨q + 1 + 1, 0, none⟩), .pointer (some ⟨q + 1, 0, none⟩), .pointer (some ⟨q, 0, none⟩)] w2 fun e w3 => e = .returned (.int .i64 0) ∧ KeepsOthers W w3 ∧ KpB (q + 1 + 1 + 1 + 1) (q + 1 + 1 + 1 + 1 + 1) W w3 ∧
            ∃ m3 H3, (m5.le m3 ∧ DE p (q + 1 + 1) (q + 1) q ⟨k, [], false⟩ (outP k b ((pre ++ [x]).map Fin.val)) H3 R7) ∧ Sat G B w0 m3 H3 w3 := by
        intro nn
        refine ((h15 [.ptr p 0, .sl (bytesAV (partP k b x.val)) .no] _ (fun v H2 => v = .int .i64 0 ∧ FX p ⟨k, chunkP (partP k b x.val), false⟩ H2 _)
          (.inr ⟨p, _, _, _, _, rfl, hXO, .sl _ _, by show (k : Int) ≤ 65536; omega, fun h => by simp at h, fun _ _ h => ?_, fun _ _ _ _ H2 hX2 => ⟨rfl, hX2⟩⟩)).wide nn hO.drew (((RelL.nil _).cons (hp3.mono hm')).cons (.ptr _ _))).mono ?_
        · rcases h with h | h
          · rw [h] at hp1; simp at hp1
          · have : (k : Int) < (partP k b x.val).length := h
            omega
        rintro e w2 ⟨v, cv, m2', H2, rfl, hm2', sw2, hv2, rfl, hX2⟩
        obtain rfl := hv2.int_eq
        have hD2 : DE p (q + 1 + 1) (q + 1) q ⟨k, chunkP (partP k b x.val), false⟩ (outP k b (pre.map Fin.val)) H2 (R7 ++ O) := ⟨to, hg, hX2⟩
        refine ⟨rfl, ?_, fun nn => ?_⟩
        · obtain ⟨c, hc, hr, _⟩ := sw2.box1 (hD2.mem (List.mem_cons_of_mem _ (List.mem_cons_of_mem _ (List.mem_append_left _ hr0))))
          rw [hc, Rel.fn_ptrs (cs := [(q + 1 + 1, 0), (q + 1, 0), (q, 0)]) hr]
          rfl
        refine ((h34 [.int .i64 0, .ptr (q + 1 + 1) 0, .ptr (q + 1) 0, .ptr q 0] _ (fun v H3 => v = .int .i64 0 ∧ DE p (q + 1 + 1) (q + 1) q ⟨k, [], false⟩ (outP k b (pre.map Fin.val) ++ chunkP (partP k b x.val)) H3 (R7 ++ O))
          ⟨p, _, _, _, _, _, _, rfl, hD2, hlenO, fun H3 h => ⟨rfl, h⟩⟩).wide nn sw2 (((((RelL.nil _).cons (.ptr _ _)).cons (.ptr _ _)).cons (.ptr _ _)).cons (.int _ _))).mono ?_
        rintro e w3 ⟨v, cv, m3', H3, rfl, hm3', sw3, hv3, rfl, hD3⟩
        obtain rfl := hv3.int_eq
        obtain ⟨A, hpA, hDA⟩ := hD3.unapp
        have sw3' := sw3.perm hpA
        have sw4 := hs'.back (sw3'.drop (List.sublist_append_left _ _))
        refine ⟨rfl, hs'.rebase.kept (hD.cells hcR) (by rw [hOe] at sw3'; exact sw3'), ⟨fun v e => ?_, fun v e => ?_⟩, m3', A, ⟨(hm'.trans hm2').trans hm3', ?_⟩, sw4⟩
        · rw [hw1] at e; rw [← e]; exact sw4.raw1 (hDA.mem (List.mem_cons_of_mem _ (List.mem_cons_of_mem _ hr1)))
        · rw [hw2] at e; rw [← e]; exact sw4.raw1 (hDA.mem (List.mem_cons_of_mem _ (List.mem_cons_of_mem _ hr2)))
        · rw [List.map_append, List.map_cons, List.map_nil, outP_app]; exact hDA
      have hmx : Tryd.prog.follows .mixedOrders = true := by kernel_rfl
      gi_wp2
      gi_region_with_o (first | (refine ⟨trivial, ?_⟩; gi_at_call 15; refine (CallsIn.inRound l (hc15 _)).mono ?_; rintro e w2 ⟨rfl, hcd2, hc34⟩) | (refine ⟨trivial, ?_⟩; gi_at_call 34; refine (CallsIn.inRound l (hc34 _)).mono ?_; rintro e w3 ⟨rfl, hko, hkp, hI⟩) | (gi_at_call 15; refine (CallsIn.inRound l (hc15 _)).mono ?_; rintro e w2 ⟨rfl, hcd2, hc34⟩) | (gi_at_call 34; refine (CallsIn.inRound l (hc34 _)).mono ?_; rintro e w3 ⟨rfl, hko, hkp, hI⟩))
      all_goals gi_wp2
      all_goals exact ⟨hko, hkp, hI⟩
    case done =>
      rintro D ys W hDlt hys ⟨m', H', ⟨hm', hD⟩, hs'⟩ hK
      rw [hys] at hD
      have hO := hs'.rebase.others
      obtain ⟨O, hOe⟩ : ∃ O, O = Go.AL.others B H' W := ⟨_, rfl⟩
      rw [← hOe] at hO
      have hDO := hD.app hO.nodup
      obtain ⟨to, hg, hXO⟩ := hDO
      have hlenO : (outP k b (List.range (cntN k b.length))).length + (chunkP []).length ≤ 1073741824 := by
        have h1 := outP_len hk2 b (List.range (cntN k b.length))
        rw [List.length_range] at h1
        have h2 := chunkP_len (b := []) (by decide)
        rw [List.length_nil] at h2
        omega
      have hcd : W.cell? ⟨q + 1 + 1 + 1, 0, none⟩ = some (.func (.func 34) #[] #[.pointer (some ⟨q + 1 + 1, 0, none⟩), .pointer (some ⟨q + 1, 0, none⟩), .pointer (some ⟨q, 0, none⟩)]) := by
        obtain ⟨c, hc, hr, _⟩ := hs'.box1 (hD.mem (List.mem_cons_of_mem _ (List.mem_cons_of_mem _ hr0)))
        rw [hc, Rel.fn_ptrs (cs := [(q + 1 + 1, 0), (q + 1, 0), (q, 0)]) hr]
        rfl
      have hcf : W.cell? ⟨q, 0, none⟩ = some (.pointer (some ⟨p, 0, none⟩)) := by
        obtain ⟨c, hc, hr, _⟩ := hs'.box1 (id := q) (x := .ptr p 0) (hD.mem (List.mem_cons_of_mem _ List.mem_cons_self))
        rw [hc, hr.ptr_eq]
      have hc19 : ∀ nn, CallsIn Fence.wide nn Tryd.prog 19 #[.pointer (some ⟨p, 0, none⟩)] W.drew fun e w2 => e = .returned (.int .i64 0) ∧ w2.cell? ⟨q + 1 + 1 + 1, 0, none⟩ = some (.func (.func 34) #[] #[.pointer (some ⟨q + 1 + 1, 0, none⟩), .pointer (some ⟨q + 1, 0, none⟩), .pointer (some ⟨q, 0, none⟩)]) ∧
          ∀ nn, CallsIn Fence.wide nn Tryd.prog 34 #[.int .i64 0, .pointer (some ⟨q + 1 + 1, 0, none⟩), .pointer (some ⟨q + 1, 0, none⟩), .pointer (some ⟨q, 0, none⟩)] w2 fun e w3 => e = .returned (.int .i64 0) ∧ KeepsOthers W w3 ∧
            ∃ m3 H3, (m5.le m3 ∧ DE p (q + 1 + 1) (q + 1) q ⟨k, [], true⟩ (bodyP k b) H3 R7) ∧ Sat G B w0 m3 H3 w3 := by
        intro nn
        refine ((h19 [.ptr p 0] _ (fun v H2 => v = .int .i64 0 ∧ FX p ⟨k, chunkP [], true⟩ H2 _)
          (.inr ⟨p, _, _, rfl, hXO, fun h => by simp at h, fun _ _ H2 hX2 => ⟨rfl, hX2⟩⟩)).wide nn hO.drew ((RelL.nil _).cons (.ptr _ _))).mono ?_
        rintro e w2 ⟨v, cv, m2', H2, rfl, hm2', sw2, hv2, rfl, hX2⟩
        obtain rfl := hv2.int_eq
        have hD2 : DE p (q + 1 + 1) (q + 1) q ⟨k, chunkP [], true⟩ (outP k b (List.range (cntN k b.length))) H2 (R7 ++ O) := ⟨to, hg, hX2⟩
        refine ⟨rfl, ?_, fun nn => ?_⟩
        · obtain ⟨c, hc, hr, _⟩ := sw2.box1 (hD2.mem (List.mem_cons_of_mem _ (List.mem_cons_of_mem _ (List.mem_append_left _ hr0))))
          rw [hc, Rel.fn_ptrs (cs := [(q + 1 + 1, 0), (q + 1, 0), (q, 0)]) hr]
          rfl
        refine ((h34 [.int .i64 0, .ptr (q + 1 + 1) 0, .ptr (q + 1) 0, .ptr q 0] _ (fun v H3 => v = .int .i64 0 ∧ DE p (q + 1 + 1) (q + 1) q ⟨k, [], true⟩ (outP k b (List.range (cntN k b.length)) ++ chunkP []) H3 (R7 ++ O))
          ⟨p, _, _, _, _, _, _, rfl, hD2, hlenO, fun H3 h => ⟨rfl, h⟩⟩).wide nn sw2 (((((RelL.nil _).cons (.ptr _ _)).cons (.ptr _ _)).cons (.ptr _ _)).cons (.int _ _))).mono ?_
        rintro e w3 ⟨v, cv, m3', H3, rfl, hm3', sw3, hv3, rfl, hD3⟩
        obtain rfl := hv3.int_eq
        obtain ⟨A, hpA, hDA⟩ := hD3.unapp
        have sw3' := sw3.perm hpA
        have sw4 := hs'.back (sw3'.drop (List.sublist_append_left _ _))
        exact ⟨rfl, hs'.rebase.kept (hD.cells hcR) (by rw [hOe] at sw3'; exact sw3'), m3', A, ⟨(hm'.trans hm2').trans hm3', hDA⟩, sw4⟩
      have hmx : Tryd.prog.follows .mixedOrders = true := by kernel_rfl
      gi_wp2
      first
        | (gi_region_with_o (first | (refine ⟨trivial, ?_⟩; gi_at_call 19; refine (hc19 _).mono ?_; rintro e w2 ⟨rfl, hcd2, hc34⟩) | (refine ⟨trivial, ?_⟩; gi_at_call 34; refine (hc34 _).mono ?_; rintro e w3 ⟨rfl, hko, hI⟩) | (gi_at_call 19; refine (hc19 _).mono ?_; rintro e w2 ⟨rfl, hcd2, hc34⟩) | (gi_at_call 34; refine (hc34 _).mono ?_; rintro e w3 ⟨rfl, hko, hI⟩)))
        | fail
      all_goals
        obtain ⟨m3, H3, ⟨hm3', hD3⟩, sw3⟩ := hI
        obtain ⟨A, to3, hg3, hp3⟩ : ∃ A to3, GT (bytesAV (bodyP k b)) to3 ∧ H3.Perm ((q + 1, .cells [.sl (bytesAV (bodyP k b)) to3]) :: (b4, .cells [.sl [] .nil]) :: (b4 + 1, .cells [.int .i64 0]) :: (A ++ H)) := by
          obtain ⟨to3, hg3, _, tk3, _, hp3⟩ := hD3
          refine ⟨(p, fO ⟨k, [], true⟩ tk3) :: (tokH to3 ++ [(q + 1 + 1, .cells [.fn (.func 16) [.ptr p 0] []]), (q, .cells [.ptr p 0]), (q + 1 + 1 + 1 + 1 + 1, AObj.raw 3 [.int .i64 k]), (q + 1 + 1 + 1 + 1, .raw 22 [.slice a b.length cap]), (q + 1 + 1 + 1, .cells [.fn (.func 34) [] [.ptr (q + 1 + 1) 0, .ptr (q + 1) 0, .ptr q 0]])]), to3, hg3, hp3.trans ((List.Perm.swap _ _ _).trans (.cons _ ?_))⟩
          rw [hR7, hHB]
          refine (List.Perm.of_eq ?_).trans (permM _ H _ _)
          simp [bR]
        have sa := sw3.perm hp3
        obtain ⟨co, hco, hro, hfo, h1o, _⟩ := sa.box1 List.mem_cons_self
        have hro' : Rel m3 (.sl (bytesAV (bodyP k b)) .no) co := by
          cases to3 with
          | nil =>
            have hb0 : bytesAV (bodyP k b) = [] := hg3
            have hb1 : bodyP k b = [] := by simpa [bytesAV] using hb0
            exact absurd (List.append_eq_nil_iff.1 hb1).2 (chunkP_ne [])
          | no => exact hg3.elim
          | «at» q e s => exact AVle.no _ _ _ _ _ _ hro
        obtain ⟨ao, lo, cpo, rfl⟩ := Rel.sl_eq hro'
        have sb := sa.drop (.cons _ (.refl _))
        obtain ⟨c4, hc4, _, hf4, _, _, hlt4⟩ := sb.box1 List.mem_cons_self
        have sc := (sb.setBox (P := Tryd.prog) (c := .slice ao lo cpo) (y := .sl (bytesAV (bodyP k b)) .no) hro' h1o).perm (List.Perm.swap _ _ _)
        obtain ⟨c5, hc5, _, hf5, _, _, hlt5⟩ := sc.box1 List.mem_cons_self
        have sd := sc.setBox (P := Tryd.prog) (c := .int .i64 0) (y := .int .i64 0) (.int _ _) rfl
        have hKd := (KeepsOthers.setCell _ ⟨b4 + 1, 0, none⟩ (.int .i64 0)).same D _ ((KeepsOthers.setCell w3 ⟨b4, 0, none⟩ (.slice ao lo cpo)).same D _ (hko.same D _ hK rfl) rfl) rfl
        gi_wp2
      all_goals
        have hsc : cellsOnly ((b4 + 1, AObj.cells [.int .i64 0]) :: (b4, .cells [.sl (bytesAV (bodyP k b)) .no]) :: (A ++ H)) := by
          have h1 : cellsOnly ((q + 1, AObj.cells [.sl (bytesAV (bodyP k b)) to3]) :: (b4, .cells [.sl [] .nil]) :: (b4 + 1, .cells [.int .i64 0]) :: (A ++ H)) := (hD3.cells hcR).perm hp3.symm
          have h2 : cellsOnly (A ++ H) := fun x hx => h1 x (List.mem_cons_of_mem _ (List.mem_cons_of_mem _ (List.mem_cons_of_mem _ hx)))
          exact (h2.cons rfl).cons rfl
        have se := sd.put hsc (.deferred none) (Nat.le_trans s7.base hDlt) hKd rfl
        obtain ⟨e4, he4, hre4, _⟩ := se.box1 (List.mem_cons_of_mem _ List.mem_cons_self)
        obtain ⟨e5, he5, hre5, _⟩ := se.box1 List.mem_cons_self
        obtain rfl := hre5.int_eq
        refine ⟨by simp, .inl ⟨_, _, rfl, run_takeDeferred hKd, ?_⟩⟩
        refine ⟨_, results12 rfl rfl he4 he5, .tup [.sl (bytesAV (bodyP k b)) .no, .int .i64 0], _, m3, H, rfl, ((((((hmA.trans hmB).trans hm1).trans hm2).trans hm3).trans (hm4.trans hm5))).trans hm3', se.drop (.cons _ (.cons _ (List.sublist_append_right A H))), .mk2 hre4 (.int _ _), ?_⟩
        have k3 := k2 (by omega) (by omega)
        rw [Int.toNat_natCast] at k3
        exact k3
end Go.Proofs.YtcmgeflfapffoaaDoor.lib
