/- The reference: a size line parsed and formatted. -/
import Derived.Test.YtcaegdcldbggpaaDoorE5
set_option linter.unusedSimpArgs false
set_option linter.unusedVariables false
set_option maxRecDepth 100000
set_option maxHeartbeats 4000000
namespace Go.AL.Fun
open Go Go.AL

def valI (c : UInt8) : Int := if isHx c = true then ((hv c : Nat) : Int) else -1
def c38 (xs : List AV) (H : Heap) (K : Kv) : Prop := ∃ c : UInt8, xs = [.int .u8 c.toNat] ∧ K.ap (.int .i64 (valI c)) H
theorem c38_of (P : Program) {G : Nat → Option (List AV)} {xs : List AV} {H : Heap} {K : Kv} (h : c38 xs H K) : @xF ⟨G, P, []⟩ f38 xs H K := by
  obtain ⟨c, rfl, k⟩ := h
  have h8 := c.toNat_lt
  by_cases h1 : 48 ≤ c.toNat ∧ c.toNat ≤ 57
  · have e : valI c = (c.toNat : Int) - 48 := by
      have hv1 : hv c = c.toNat - 48 := by unfold hv; rw [if_pos h1]
      have hx : isHx c = true := by unfold isHx; rw [hv1]; exact decide_eq_true (by omega)
      unfold valI; rw [if_pos hx, hv1]; omega
    rw [e] at k
    have a1 : (48 : Int) ≤ (c.toNat : Nat) := by omega
    have a2 : ((c.toNat : Nat) : Int) ≤ 57 := by omega
    have r1 := w_i64 ((c.toNat : Nat) : Int) (by omega) (by omega)
    have r2 := w_i64 (((c.toNat : Nat) : Int) - 48) (by omega) (by omega)
    simp (implicitDefEqProofs := false) only [sB, simprocAttr, f38, a1, a2, r1, r2]
    exact k
  · by_cases h2 : 97 ≤ c.toNat ∧ c.toNat ≤ 102
    · have e : valI c = (c.toNat : Int) - 87 := by
        have hv1 : hv c = c.toNat - 87 := by unfold hv; rw [if_neg h1, if_pos h2]
        have hx : isHx c = true := by unfold isHx; rw [hv1]; exact decide_eq_true (by omega)
        unfold valI; rw [if_pos hx, hv1]; omega
      rw [e] at k
      have a1 : (48 : Int) ≤ (c.toNat : Nat) := by omega
      have a2 : ¬ ((c.toNat : Nat) : Int) ≤ 57 := by omega
      have a3 : (97 : Int) ≤ (c.toNat : Nat) := by omega
      have a4 : ((c.toNat : Nat) : Int) ≤ 102 := by omega
      have r1 := w_i64 ((c.toNat : Nat) : Int) (by omega) (by omega)
      have r2 := w_i64 (((c.toNat : Nat) : Int) - 87) (by omega) (by omega)
      simp (implicitDefEqProofs := false) only [sB, simprocAttr, f38, a1, a2, a3, a4, r1, r2]
      exact k
    · have e : valI c = -1 := by
        have hv1 : hv c = 16 := by unfold hv; rw [if_neg h1, if_neg h2]
        have hx : ¬ isHx c = true := by unfold isHx; rw [hv1]; decide
        unfold valI; rw [if_neg hx]
      rw [e] at k
      by_cases b1 : (48 : Int) ≤ (c.toNat : Nat)
      · have b2 : ¬ ((c.toNat : Nat) : Int) ≤ 57 := by omega
        by_cases b3 : (97 : Int) ≤ (c.toNat : Nat)
        · have b4 : ¬ ((c.toNat : Nat) : Int) ≤ 102 := by omega
          simp (implicitDefEqProofs := false) only [sB, simprocAttr, f38, b1, b2, b3, b4]
          exact k
        · simp (implicitDefEqProofs := false) only [sB, simprocAttr, f38, b1, b2, b3]
          exact k
      · have b3 : ¬ (97 : Int) ≤ (c.toNat : Nat) := by omega
        simp (implicitDefEqProofs := false) only [sB, simprocAttr, f38, b1, b3]
        exact k
theorem x_c38 {c : UInt8} {H : Heap} {K : Kv} (k : K.ap (.int .i64 (valI c)) H) : c38 [.int .u8 c.toNat] H K := ⟨c, rfl, k⟩
theorem parse_at {b : List UInt8} {i : Nat} (hi : i ≤ b.length) (ha : ∀ c ∈ b.take i, isHx c = true) (hx : ∀ c, b[i]? = some c → isHx c = false) (h1 : hvalL (b.take i) ≤ 65536) (h2 : 1 < i → b.head? ≠ some 48) : parseP b = restP (b.take i) (b.drop i) := by
  have e := tw_len hi ha hx
  have el : (b.take i).length = i := by rw [List.length_take]; omega
  unfold parseP
  rw [e, el, if_neg]
  rintro (h | ⟨h3, h4⟩)
  · omega
  · refine h2 h3 ?_
    cases b with
    | nil => simp at h4
    | cons x t =>
      cases i with
      | zero => omega
      | succ i => simpa using h4
theorem parse_bad {b : List UInt8} {i : Nat} (hi : i ≤ b.length) (ha : ∀ c ∈ b.take i, isHx c = true) (h : 65536 < hvalL (b.take i) ∨ (1 < i ∧ b.head? = some 48)) : parseP b = (0, 0, 5) := by
  have e : b.takeWhile isHx = b.take i ++ (b.drop i).takeWhile isHx := by
    conv => lhs; rw [← List.take_append_drop i b]
    exact List.takeWhile_append_of_pos ha
  unfold parseP
  rw [e, if_pos]
  rcases h with h | ⟨h1, h2⟩
  · have := hvalL_mono ((b.drop i).takeWhile isHx) (b.take i)
    exact .inl (by omega)
  · refine .inr ⟨?_, ?_⟩
    · rw [List.length_append, List.length_take]; omega
    · cases b with
      | nil => simp at h2
      | cons x t =>
        cases i with
        | zero => omega
        | succ i => simpa using h2
def c28 (xs : List AV) (H : Heap) (K : Kv) : Prop := ∃ (b : List UInt8) (t : Tok), xs = [.sl (bytesAV b) t] ∧ b.length ≤ 1099511627776 ∧ K.ap (tup3 (parseP b)) H
theorem c28_of (P : Program) {G : Nat → Option (List AV)} {xs : List AV} {H : Heap} {K : Kv} (h : c28 xs H K) : @xF ⟨G, P, [(38, c38)]⟩ f28 xs H ⟨fun v H' => ∃ H0, Hle H0 H' ∧ K.ap v H0⟩ := by
  obtain ⟨b, t, rfl, hl, k⟩ := h
  simp (implicitDefEqProofs := false) only [sB, simprocAttr, f28]
  refine i_loopJ (fun σ H1 => ∃ (i : Nat), H1 = H ∧ i ≤ b.length ∧ (∀ c ∈ b.take i, isHx c = true) ∧ hvalL (b.take i) ≤ 65536 ∧ (1 < i → b.head? ≠ some 48) ∧ σ = [(0, .sl (bytesAV b) t), (5, .int .i64 (hvalL (b.take i) : Nat)), (6, .int .i64 i)])
    (fun σ _ => match σ.get 6 with | .int _ n => b.length - n.toNat | _ => 0)
    (fun e σ H1 => H1 = H ∧ ((e = .exit 0 ∧ ∃ i, i ≤ b.length ∧ parseP b = restP (b.take i) (b.drop i) ∧ σ.get 0 = .sl (bytesAV b) t ∧ σ.get 5 = .int .i64 (hvalL (b.take i) : Nat) ∧ σ.get 6 = .int .i64 i) ∨
      (e = .ret ∧ parseP b = (0, 0, 5) ∧ σ.get 2 = .int .i64 0 ∧ σ.get 3 = .int .i64 0 ∧ σ.get 4 = .int .i64 5)))
    ⟨_, .refl _, 0, rfl, by omega, by simp, by simp [hvalL_nil], by omega, rfl⟩ ?_ ?_
  · rintro e σ H1 ⟨rfl, ⟨rfl, i, hi, e1, q0, q5, q6⟩ | ⟨rfl, e1, q2, q3, q4⟩⟩
    · rw [e1] at k
      have el : (b.take i).length = i := by rw [List.length_take]; omega
      by_cases ci : i = b.length
      · have ci' : (i : Int) = (b.length : Int) := by omega
        have k5 : restP (b.take i) (b.drop i) = (0, 0, 7) := by rw [List.drop_eq_nil_of_le (by omega)]; rfl
        rw [k5] at k
        simp (implicitDefEqProofs := false) only [sB, simprocAttr, q0, q5, q6, by_len, ci']
        exact ⟨_, .refl _, k⟩
      have ci' : ¬ (i : Int) = (b.length : Int) := by omega
      have i0 : (0 : Int) ≤ (i : Int) := by omega
      have i1 : (i : Int) < (b.length : Int) := by omega
      have clt : i < b.length := by omega
      have hx : b[i]? = some b[i] := List.getElem?_eq_getElem clt
      have hdr : b.drop i = b[i] :: b.drop (i + 1) := List.drop_eq_getElem_cons clt
      have hdr2 : ∀ h : i + 1 < b.length, b.drop (i + 1) = b[i + 1] :: b.drop (i + 2) := fun h => List.drop_eq_getElem_cons h
      rw [hdr] at k
      have b1 : byteAV b[i] = .int .u8 (b[i].toNat : Nat) := rfl
      by_cases cz : i = 0
      · have cz' : (i : Int) = 0 := by omega
        have k5 : restP (b.take i) (b[i] :: b.drop (i + 1)) = (0, 0, 5) := by
          have : b.take i = [] := by rw [cz]; rfl
          simp [restP, this]
        rw [k5] at k
        have cb0 : ¬ (0 : Int) = (b.length : Int) := by omega
        simp (implicitDefEqProofs := false) only [sB, simprocAttr, q0, q5, q6, by_len, ci', cz', cb0]
        exact ⟨_, .refl _, k⟩
      have cz' : ¬ (i : Int) = 0 := by omega
      have hne : b.take i ≠ [] := by intro e; rw [e] at el; simp at el; omega
      by_cases c13 : b[i] = 13
      · have hc13 : ((b[i].toNat : Nat) : Int) = 13 := by rw [c13]; rfl
        have r1 := w_i64 ((i : Int) + 1) (by omega) (by omega)
        by_cases cn : i + 1 = b.length
        · have cn' : (i : Int) + 1 = (b.length : Int) := by omega
          have k5 : restP (b.take i) (b[i] :: b.drop (i + 1)) = (0, 0, 7) := by
            rw [List.drop_eq_nil_of_le (by omega : b.length ≤ i + 1)]
            simp [restP, hne, c13]
          rw [k5] at k
          have rl := w_i64 (b.length : Int) (by omega) (by omega)
          simp (implicitDefEqProofs := false) only [sB, simprocAttr, q0, q5, q6, by_len, ci', cz', i0, i1, by_get, hx, Option.map_some, b1, hc13, r1, cn', rl]
          exact ⟨_, .refl _, k⟩
        · have cn' : ¬ (i : Int) + 1 = (b.length : Int) := by omega
          have c2 : i + 1 < b.length := by omega
          have j0 : (0 : Int) ≤ (i : Int) + 1 := by omega
          have j1 : (i : Int) + 1 < (b.length : Int) := by omega
          have tn : ((i : Int) + 1).toNat = i + 1 := by omega
          have hx2 : b[i + 1]? = some b[i + 1] := List.getElem?_eq_getElem c2
          have b2 : byteAV b[i + 1] = .int .u8 (b[i + 1].toNat : Nat) := rfl
          have r3 := w_i64 ((i : Int) + 2) (by omega) (by omega)
          rw [hdr2 c2] at k
          by_cases c10 : b[i + 1] = 10
          · have hc10 : ((b[i + 1].toNat : Nat) : Int) = 10 := by rw [c10]; rfl
            have k5 : restP (b.take i) (b[i] :: b[i + 1] :: b.drop (i + 2)) = (hvalL (b.take i), i + 2, 0) := by simp [restP, hne, c13, c10]; omega
            rw [k5] at k
            simp (implicitDefEqProofs := false) only [sB, simprocAttr, q0, q5, q6, by_len, ci', cz', i0, i1, by_get, hx, Option.map_some, b1, hc13, r1, cn', j0, j1, tn, hx2, b2, hc10, r3]
            exact ⟨_, .refl _, k⟩
          · have hc10 : ¬ ((b[i + 1].toNat : Nat) : Int) = 10 := fun e => c10 (UInt8.toNat_inj.1 (by have : (10 : UInt8).toNat = 10 := rfl; omega))
            have k5 : restP (b.take i) (b[i] :: b[i + 1] :: b.drop (i + 2)) = (0, 0, 5) := by simp [restP, hne, c13, c10]
            rw [k5] at k
            simp (implicitDefEqProofs := false) only [sB, simprocAttr, q0, q5, q6, by_len, ci', cz', i0, i1, by_get, hx, Option.map_some, b1, hc13, r1, cn', j0, j1, tn, hx2, b2, hc10]
            exact ⟨_, .refl _, k⟩
      · have hc13 : ¬ ((b[i].toNat : Nat) : Int) = 13 := fun e => c13 (UInt8.toNat_inj.1 (by have : (13 : UInt8).toNat = 13 := rfl; omega))
        have k5 : restP (b.take i) (b[i] :: b.drop (i + 1)) = (0, 0, 5) := by simp [restP, c13]
        rw [k5] at k
        simp (implicitDefEqProofs := false) only [sB, simprocAttr, q0, q5, q6, by_len, ci', cz', i0, i1, by_get, hx, Option.map_some, b1, hc13]
        exact ⟨_, .refl _, k⟩
    · rw [e1] at k
      simp (implicitDefEqProofs := false) only [sB, simprocAttr, q2, q3, q4]
      exact ⟨_, .refl _, k⟩
  · rintro Q hQ σ H1 ⟨i, rfl, hi, ha, hv5, hz, rfl⟩
    by_cases ci : i < b.length
    · have ci' : (i : Int) < (b.length : Int) := by omega
      have i0 : (0 : Int) ≤ (i : Int) := by omega
      have hx : b[i]? = some b[i] := List.getElem?_eq_getElem ci
      have b1 : byteAV b[i] = .int .u8 (b[i].toNat : Nat) := rfl
      have ht := hval_take ci
      simp (implicitDefEqProofs := false) only [sB, simprocAttr, by_len, ci', i0, by_get, hx, Option.map_some, b1]
      refine x_c38 ?_
      cases hxx : isHx b[i] with
      | false =>
        have e1 : valI b[i] = -1 := by unfold valI; rw [hxx]; rfl
        have pa := parse_at hi ha (fun c hc => by rw [hx] at hc; cases hc; exact hxx) hv5 hz
        rw [e1]
        simp (implicitDefEqProofs := false) only [sB, simprocAttr]
        exact hQ _ _ _ ⟨rfl, .inl ⟨rfl, i, hi, pa, rfl, rfl, rfl⟩⟩
      | true =>
        have e1 : valI b[i] = ((hv b[i] : Nat) : Int) := by unfold valI; rw [hxx]; rfl
        have hv16 := hv_lt hxx
        have v0 : (0 : Int) ≤ (hv b[i] : Nat) := by omega
        have r1 := w_i64 (16 * (hvalL (b.take i) : Nat)) (by omega) (by omega)
        have r2 := w_i64 (16 * (hvalL (b.take i) : Nat) + (hv b[i] : Nat)) (by omega) (by omega)
        have r9 := w_i64 ((i : Int) + 1) (by omega) (by omega)
        have hn : 16 * ((hvalL (b.take i) : Nat) : Int) + (hv b[i] : Nat) = (hvalL (b.take (i + 1)) : Nat) := by rw [ht]; omega
        have ha' : ∀ c ∈ b.take (i + 1), isHx c = true := by
          intro c hc
          rw [List.take_add_one, hx] at hc
          rcases List.mem_append.1 hc with hc | hc
          · exact ha c hc
          · simp at hc; subst hc; exact hxx
        rw [e1]
        simp (implicitDefEqProofs := false) only [sB, simprocAttr, v0, ci', i0, by_get, hx, Option.map_some, b1, by_len, r1]
        refine x_c38 ?_
        rw [e1]
        simp (implicitDefEqProofs := false) only [sB, simprocAttr, r2, r9]
        rw [hn]
        by_cases c5 : (65536 : Int) < (hvalL (b.take (i + 1)) : Nat)
        · have pb := parse_bad (i := i + 1) (by omega) ha' (.inl (by omega))
          simp (implicitDefEqProofs := false) only [sB, simprocAttr, c5]
          exact hQ _ _ _ ⟨rfl, .inr ⟨rfl, pb, rfl, rfl, rfl⟩⟩
        · by_cases c1 : (1 : Int) < (i : Int) + 1
          · have h0 : 0 < b.length := by omega
            have hx0 : b[0]? = some b[0] := List.getElem?_eq_getElem h0
            have hby0 : byteAV b[0] = .int .u8 (b[0].toNat : Nat) := rfl
            have hh0 : b.head? = some b[0] := by rw [List.head?_eq_getElem?]; exact hx0
            have d00 : (0 : Int) < (b.length : Int) := by omega
            by_cases cz : b[0] = 48
            · have hz0 : ((b[0].toNat : Nat) : Int) = 48 := by rw [cz]; rfl
              have pb := parse_bad (i := i + 1) (by omega) ha' (.inr ⟨by omega, by rw [hh0, cz]⟩)
              simp (implicitDefEqProofs := false) only [sB, simprocAttr, c5, by_len, c1, by_get, hx0, Option.map_some, hby0, hz0, d00]
              exact hQ _ _ _ ⟨rfl, .inr ⟨rfl, pb, rfl, rfl, rfl⟩⟩
            · have hz0 : ¬ ((b[0].toNat : Nat) : Int) = 48 := fun e => cz (UInt8.toNat_inj.1 (by have : (48 : UInt8).toNat = 48 := rfl; omega))
              simp (implicitDefEqProofs := false) only [sB, simprocAttr, c5, by_len, c1, by_get, hx0, Option.map_some, hby0, hz0, d00]
              exact ⟨_, .refl _, ⟨i + 1, rfl, by omega, ha', by omega, fun _ h => cz (by rw [hh0] at h; simpa using h), by simp⟩, by omega⟩
          · simp (implicitDefEqProofs := false) only [sB, simprocAttr, c5, by_len, c1]
            exact ⟨_, .refl _, ⟨i + 1, rfl, by omega, ha', by omega, fun _ => by omega, by simp⟩, by omega⟩
    · have ci' : ¬ (i : Int) < (b.length : Int) := by omega
      have pa := parse_at hi ha (fun c hc => by rw [List.getElem?_eq_none (by omega)] at hc; cases hc) hv5 hz
      simp (implicitDefEqProofs := false) only [sB, simprocAttr, by_len, ci']
      exact hQ _ _ _ ⟨rfl, .inl ⟨rfl, i, hi, pa, rfl, rfl, rfl⟩⟩
end Go.AL.Fun
