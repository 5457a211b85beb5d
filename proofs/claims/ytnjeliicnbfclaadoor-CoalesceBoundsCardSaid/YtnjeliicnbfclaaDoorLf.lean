/- Plain laws: what Form answers; bounds and comparisons of Static's answers. -/
import Derived.Test.YtnjeliicnbfclaaDoorLc
import Derived.Test.YtnjeliicnbfclaaDoorF
namespace Go.Proofs.YtnjeliicnbfclaaDoor.P
open Go.RowKit Go.Proofs.YtnjeliicnbfclaaDoorW.PrintWords Go.Proofs.YtnjeliicnbfclaaDoorW.PrintLast Go.Proofs.YtnjeliicnbfclaaDoorW.PrintMore
set_option linter.unusedVariables false
set_option linter.unusedSimpArgs false

theorem wf_u16 {x : Int} (h : (Lit.int .u16 x).wf = true) : 0 ≤ x ∧ x < 65536 := by
  simp only [Lit.wf, decide_eq_true_eq, Bool.and_eq_true] at h
  have e1 : IntKind.u16.min = 0 := by rfl
  have e2 : IntKind.u16.max = 65535 := by rfl
  omega
theorem wf_i16 {x : Int} (h : (Lit.int .i16 x).wf = true) : -32768 ≤ x ∧ x < 32768 := by
  simp only [Lit.wf, decide_eq_true_eq, Bool.and_eq_true] at h
  have e1 : IntKind.i16.min = -32768 := by rfl
  have e2 : IntKind.i16.max = 32767 := by rfl
  omega
theorem wf_i32 {x : Int} (h : (Lit.int .i32 x).wf = true) : -2147483648 ≤ x ∧ x < 2147483648 := by
  simp only [Lit.wf, decide_eq_true_eq, Bool.and_eq_true] at h
  have e1 : IntKind.i32.min = -2147483648 := by rfl
  have e2 : IntKind.i32.max = 2147483647 := by rfl
  omega
theorem stat_is (an : Bool) (a1 a2 a3 a4 a5 a6 lanes act : Int) (h11 : -2199023255552 ≤ a1) (h12 : a1 ≤ 2199023255552) (h21 : -2199023255552 ≤ a2) (h22 : a2 ≤ 2199023255552)
    (h41 : -1125899906842624 ≤ a4) (h42 : a4 ≤ 1125899906842624) (h51 : -1125899906842624 ≤ a5) (h52 : a5 ≤ 1125899906842624) (h6 : a6 = 0 ∨ a4 < a5) (hl1 : -9223372036854775808 ≤ lanes) (hl2 : lanes ≤ 9223372036854775807) (ha1 : 0 ≤ act) (ha2 : act < 18446744073709551616) :
    coalesce_Static.f an a1 a2 a3 a4 a5 a6 lanes act = some (staticV an (a1 + a2) a4 a5 a6 (setOfLanes lanes act)) := by
  unfold coalesce_Static.f
  exact if_pos (decide_eq_true ⟨h11, h12, h21, h22, h41, h42, h51, h52, h6, hl1, hl2, ha1, ha2⟩)

/-- A form as the reference makes one. -/
structure Formed (an : Bool) (a1 a2 a3 lo hi st N : Int) : Prop where
  a11 : -2199023255552 ≤ a1
  a12 : a1 ≤ 2199023255552
  a21 : -32768 ≤ a2
  a22 : a2 ≤ 32768
  a31 : -32768 ≤ a3
  a32 : a3 ≤ 32768
  lo1 : -2147483648 ≤ lo
  lo2 : lo ≤ 2147483648
  n1 : 0 ≤ N
  n2 : N ≤ 7
  st1 : 0 ≤ st
  st2 : st ≤ 64
  hi : hi = lo + st * N
  z : (st = 0 ∧ N = 0) ∨ (0 < st ∧ 0 < N)
theorem Formed.span {an : Bool} {a1 a2 a3 lo hi st N : Int} (h : Formed an a1 a2 a3 lo hi st N) : lo ≤ hi ∧ hi ≤ lo + 448 ∧ (st = 0 → hi = lo) ∧ (st ≠ 0 → lo < hi ∧ lo + st ≤ hi) := by
  have p1 : 0 ≤ st * N := Int.mul_nonneg h.st1 h.n1
  have p2 : st * N ≤ 64 * 7 := Int.mul_le_mul h.st2 h.n2 h.n1 (by omega)
  have e := h.hi
  refine ⟨by omega, by omega, fun h0 => ?_, fun h0 => ?_⟩
  · rw [h0, Int.zero_mul] at e
    omega
  · have hN : 0 < N := by
      rcases h.z with h' | h'
      · exact absurd h'.1 h0
      · exact h'.2
    have hs : 0 < st := by have := h.st1; omega
    have : st * 1 ≤ st * N := Int.mul_le_mul_of_nonneg_left (by omega) h.st1
    omega
theorem Formed.static {an : Bool} {a1 a2 a3 lo hi st N : Int} (h : Formed an a1 a2 a3 lo hi st N) (an' : Bool) (lanes act : Int) (hl1 : -9223372036854775808 ≤ lanes) (hl2 : lanes ≤ 9223372036854775807) (ha1 : 0 ≤ act) (ha2 : act < 18446744073709551616) :
    coalesce_Static.f an' a1 a2 a3 lo hi st lanes act = some (staticV an' (a1 + a2) lo hi st (setOfLanes lanes act)) := by
  obtain ⟨s1, s2, s3, s4⟩ := h.span
  have := h.a11; have := h.a12; have := h.a21; have := h.a22; have := h.lo1; have := h.lo2
  exact stat_is an' a1 a2 a3 lo hi st lanes act (by omega) (by omega) (by omega) (by omega) (by omega) (by omega) (by omega) (by omega) (by by_cases h0 : st = 0; exact .inl h0; exact .inr (s4 h0).1) hl1 hl2 ha1 ha2

theorem form_is (b0 : Bool) (n1 n2 n3 n4 n5 n6 : Int) (b7 : Bool) (w1 : (Lit.int .i16 n1).wf = true) (w2 : (Lit.int .i16 n2).wf = true) (w3 : (Lit.int .i16 n3).wf = true) (w4 : (Lit.int .i32 n4).wf = true) (w5 : (Lit.int .u16 n5).wf = true) (w6 : (Lit.int .u16 n6).wf = true) :
    ∃ a1 a2 a3 lo hi st N : Int, v22_Form.f b0 n1 n2 n3 n4 n5 n6 b7 = some (b0, a1, a2, a3, lo, hi, st) ∧ Formed b0 a1 a2 a3 lo hi st N := by
  have k1 := wf_i16 w1
  have k2 := wf_i16 w2
  have k3 := wf_i16 w3
  have k4 := wf_i32 w4
  have k5 := wf_u16 w5
  have k6 := wf_u16 w6
  have m5 : Int.tmod n5 64 = n5 % 64 := Int.tmod_eq_emod_of_nonneg k5.1
  have m6 : Int.tmod n6 8 = n6 % 8 := Int.tmod_eq_emod_of_nonneg k6.1
  have q1 : 0 ≤ (n5 % 64 + 1) * (n6 % 8) := Int.mul_nonneg (by omega) (by omega)
  have q2 : (n5 % 64 + 1) * (n6 % 8) ≤ 64 * 7 := Int.mul_le_mul (by omega) (by omega) (by omega) (by omega)
  unfold v22_Form.f
  rw [m5, m6, w64 (n := n1) (by omega) (by omega), w64 (n := n2) (by omega) (by omega), w64 (n := n3) (by omega) (by omega), w64 (n := n4) (by omega) (by omega), w64 (n := n5 % 64) (by omega) (by omega), w64 (n := n5 % 64 + 1) (by omega) (by omega), w64 (n := n6 % 8) (by omega) (by omega), w64 (n := (n5 % 64 + 1) * (n6 % 8)) (by omega) (by omega), w64 (n := n4 + (n5 % 64 + 1) * (n6 % 8)) (by omega) (by omega), w64 (n := n1 * 16777216) (by omega) (by omega)]
  by_cases hg : b7 = true
  · rw [if_pos hg]
    by_cases hN : n6 % 8 > 0
    · rw [if_pos hN]
      exact ⟨_, _, _, _, _, _, n6 % 8, rfl, ⟨by omega, by omega, by omega, by omega, by omega, by omega, by omega, by omega, by omega, by omega, by omega, by omega, rfl, .inr ⟨by omega, hN⟩⟩⟩
    · rw [if_neg hN]
      exact ⟨_, _, _, _, _, _, 0, rfl, ⟨by omega, by omega, by omega, by omega, by omega, by omega, by omega, by omega, by omega, by omega, by omega, by omega, by omega, .inl ⟨rfl, rfl⟩⟩⟩
  · rw [if_neg hg]
    by_cases hN : n6 % 8 > 0
    · rw [if_pos hN]
      exact ⟨_, _, _, _, _, _, n6 % 8, rfl, ⟨by omega, by omega, by omega, by omega, by omega, by omega, by omega, by omega, by omega, by omega, by omega, by omega, rfl, .inr ⟨by omega, hN⟩⟩⟩
    · rw [if_neg hN]
      exact ⟨_, _, _, _, _, _, 0, rfl, ⟨by omega, by omega, by omega, by omega, by omega, by omega, by omega, by omega, by omega, by omega, by omega, by omega, by omega, .inl ⟨rfl, rfl⟩⟩⟩

/-! ### comparisons -/
def wideV (S w : Int) (s : Nat) : Int := min ((onesAt 64 0 s).length : Int) ((max S (-S) * ((Lib.bitLen s : Int) - 1 - (Lib.ctz 64 s : Nat)) + w - 1) / 16 + 2)
theorem staticV_eq (an : Bool) (S lo hi st : Int) (s : Nat) : staticV an S lo hi st s = if an = true ∨ onesAt 64 0 s = [] then ((onesAt 64 0 s).length : Int) else if st = 0 then ((mostS S (onesAt 64 0 s) 16 : Nat) : Int) else wideV S (hi - lo) s := by
  unfold staticV wideV
  rw [show max S (-S) * ((Lib.bitLen s : Int) - 1 - (Lib.ctz 64 s : Nat)) + (hi - lo) = max S (-S) * ((Lib.bitLen s : Int) - 1 - (Lib.ctz 64 s : Nat)) + hi - lo by omega]
theorem staticV_le (an : Bool) (S lo hi st : Int) (s : Nat) : staticV an S lo hi st s ≤ ((onesAt 64 0 s).length : Int) := by
  unfold staticV
  split
  · omega
  · split
    · have := mostS_le_length S (onesAt 64 0 s) 16
      omega
    · omega

/-- Two numbers of places in a set: the ends. -/
theorem ends (s : Nat) (h0 : s ≠ 0) (h : s < 2 ^ 64) : ∃ n : Nat, (Lib.bitLen s : Int) - 1 - (Lib.ctz 64 s : Nat) = n ∧ n < 64 ∧ ∀ i ∈ onesAt 64 0 s, ∀ j ∈ onesAt 64 0 s, (i : Int) - j ≤ n := by
  have hct := ctz_lt_bitLen s h0 h
  have hbl : Lib.bitLen s ≤ 64 := bitLenAux_le 64 s
  refine ⟨Lib.bitLen s - 1 - Lib.ctz 64 s, by omega, by omega, fun i hi j hj => ?_⟩
  have h1 := onesAt_end s h0 h i hi
  have h2 := onesAt_head s h0 h j hj
  omega
theorem ends_sub (s t : Nat) (h0 : s ≠ 0) (ht0 : t ≠ 0) (h : s < 2 ^ 64) (ht : t < 2 ^ 64) (hs : ∀ i ∈ onesAt 64 0 s, i ∈ onesAt 64 0 t) : (Lib.bitLen s : Int) - 1 - (Lib.ctz 64 s : Nat) ≤ (Lib.bitLen t : Int) - 1 - (Lib.ctz 64 t : Nat) := by
  have e1 : Lib.bitLen s - 1 ∈ onesAt 64 0 s := by
    have e := onesAt_last 64 0 s h0 h
    have hb : Lib.bitLenAux 64 s = Lib.bitLen s := rfl
    have := List.mem_of_getLast? e
    rw [hb] at this
    simpa using this
  have e2 : Lib.ctz 64 s ∈ onesAt 64 0 s := by
    rw [onesAt_step 64 0 s h0 h]
    unfold Lib.ctz
    rw [if_neg h0]
    simp
  have h1 := onesAt_end t ht0 ht _ (hs _ e1)
  have h2 := onesAt_head t ht0 ht _ (hs _ e2)
  have c1 := ctz_lt_bitLen s h0 h
  have c2 := ctz_lt_bitLen t ht0 ht
  omega
theorem nodup_onesAt (s : Nat) : (onesAt 64 0 s).Nodup := (onesAt_inc 64 0 s).imp (fun {a b} hab => by omega)
theorem len_sub {s t : Nat} (hs : ∀ i ∈ onesAt 64 0 s, i ∈ onesAt 64 0 t) : (onesAt 64 0 s).length ≤ (onesAt 64 0 t).length :=
  List.Nodup.length_le_of_subset (nodup_onesAt s) (fun i hi => hs i hi)

/-- Fewer lanes, or a narrower rest, do not need more. -/
theorem staticV_mono (an : Bool) (S lo hi lo' hi' st st' : Int) (s t : Nat) (h : s < 2 ^ 64) (ht : t < 2 ^ 64) (hs : ∀ i ∈ onesAt 64 0 s, i ∈ onesAt 64 0 t) (hst : st = 0 ↔ st' = 0) (hw : hi - lo ≤ hi' - lo') (hw' : st' ≠ 0 → lo' < hi') :
    staticV an S lo hi st s ≤ staticV an S lo' hi' st' t := by
  have hl := len_sub hs
  rw [staticV_eq, staticV_eq]
  by_cases han : an = true
  · rw [if_pos (.inl han), if_pos (.inl han)]
    omega
  by_cases hz : onesAt 64 0 s = []
  · rw [if_pos (.inr hz), hz]
    by_cases hz' : onesAt 64 0 t = []
    · rw [if_pos (.inr hz'), hz']
      simp
    · rw [if_neg (show ¬ (an = true ∨ onesAt 64 0 t = []) from fun h' => h'.elim han hz')]
      by_cases h0 : st' = 0
      · rw [if_pos h0]
        simp
      · rw [if_neg h0]
        have ht0 : t ≠ 0 := fun e => hz' ((onesAt_nil t ht).2 e)
        obtain ⟨n, hn, _, _⟩ := ends t ht0 ht
        unfold wideV
        rw [hn]
        have hp : 0 ≤ max S (-S) * (n : Int) := Int.mul_nonneg (by omega) (by omega)
        have := hw' h0
        generalize max S (-S) * (n : Int) = y at *
        simp only [List.length_nil]
        omega
  · have hs0 : s ≠ 0 := fun e => hz ((onesAt_nil s h).2 e)
    have hz' : onesAt 64 0 t ≠ [] := by
      obtain ⟨i, l, e⟩ := List.exists_cons_of_ne_nil hz
      have := hs i (by rw [e]; simp)
      intro e'
      rw [e'] at this
      cases this
    have ht0 : t ≠ 0 := fun e => hz' ((onesAt_nil t ht).2 e)
    rw [if_neg (show ¬ (an = true ∨ onesAt 64 0 s = []) from fun h' => h'.elim han hz), if_neg (show ¬ (an = true ∨ onesAt 64 0 t = []) from fun h' => h'.elim han hz')]
    by_cases h0 : st = 0
    · rw [if_pos h0, if_pos (hst.1 h0)]
      have := mostS_sub S hs 16
      omega
    · rw [if_neg h0, if_neg (fun e => h0 (hst.2 e))]
      unfold wideV
      have he := ends_sub s t hs0 ht0 h ht hs
      have hm : 0 ≤ max S (-S) := by omega
      have := Int.mul_le_mul_of_nonneg_left he hm
      generalize max S (-S) * ((Lib.bitLen s : Int) - 1 - (Lib.ctz 64 s : Nat)) = x at *
      generalize max S (-S) * ((Lib.bitLen t : Int) - 1 - (Lib.ctz 64 t : Nat)) = y at *
      omega
end Go.Proofs.YtnjeliicnbfclaaDoor.P
