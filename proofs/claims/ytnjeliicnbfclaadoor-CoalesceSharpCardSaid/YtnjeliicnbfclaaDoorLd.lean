/- Plain law: CoalesceSharp's printed form answers true. -/
import Derived.Test.YtnjeliicnbfclaaDoorLw
import Derived.Test.YtnjeliicnbfclaaDoorLc
import Derived.Test.YtnjeliicnbfclaaDoorPx10
namespace Go.Proofs.YtnjeliicnbfclaaDoor.P
open Go.RowKit Go.Proofs.YtnjeliicnbfclaaDoorW.PrintWords Go.Proofs.YtnjeliicnbfclaaDoorW.PrintLast Go.Proofs.YtnjeliicnbfclaaDoorW.PrintMore
set_option linter.unusedVariables false
set_option linter.unusedSimpArgs false

theorem wf_u8 {x : Int} (h : (Lit.int .u8 x).wf = true) : 0 ≤ x ∧ x < 256 := by
  simp only [Lit.wf, decide_eq_true_eq, Bool.and_eq_true] at h
  have e1 : IntKind.u8.min = 0 := by rfl
  have e2 : IntKind.u8.max = 255 := by rfl
  omega
theorem wf_u64 {x : Int} (h : (Lit.int .u64 x).wf = true) : 0 ≤ x ∧ x < 18446744073709551616 := by
  simp only [Lit.wf, decide_eq_true_eq, Bool.and_eq_true] at h
  have e1 : IntKind.u64.min = 0 := by rfl
  have e2 : IntKind.u64.max = 18446744073709551615 := by rfl
  omega
theorem static_is (an : Bool) (a1 a2 a3 a4 a5 a6 lanes act : Int) (h11 : -2199023255552 ≤ a1) (h12 : a1 ≤ 2199023255552) (h21 : -2199023255552 ≤ a2) (h22 : a2 ≤ 2199023255552)
    (h41 : -1125899906842624 ≤ a4) (h42 : a4 ≤ 1125899906842624) (h51 : -1125899906842624 ≤ a5) (h52 : a5 ≤ 1125899906842624) (h6 : a6 = 0 ∨ a4 < a5) (hl1 : -9223372036854775808 ≤ lanes) (hl2 : lanes ≤ 9223372036854775807) (ha1 : 0 ≤ act) (ha2 : act < 18446744073709551616) :
    coalesce_Static.f an a1 a2 a3 a4 a5 a6 lanes act = some (staticV an (a1 + a2) a4 a5 a6 (setOfLanes lanes act)) := by
  unfold coalesce_Static.f
  exact if_pos (decide_eq_true ⟨h11, h12, h21, h22, h41, h42, h51, h52, h6, hl1, hl2, ha1, ha2⟩)
theorem static_step (S lanes act : Int) (h1 : -2199023255552 ≤ S) (h2 : S ≤ 2199023255552) (hl1 : -9223372036854775808 ≤ lanes) (hl2 : lanes ≤ 9223372036854775807) (ha1 : 0 ≤ act) (ha2 : act < 18446744073709551616) :
    coalesce_Static.f false 0 S 0 0 0 0 lanes act = some (if onesAt 64 0 (setOfLanes lanes act) = [] then 0 else (mostS S (onesAt 64 0 (setOfLanes lanes act)) 16 : Int)) := by
  rw [static_is false 0 S 0 0 0 0 lanes act (by omega) (by omega) h1 h2 (by omega) (by omega) (by omega) (by omega) (.inl rfl) hl1 hl2 ha1 ha2]
  unfold staticV
  by_cases h : onesAt 64 0 (setOfLanes lanes act) = []
  · rw [if_pos (.inr h), if_pos h, h]
    rfl
  · rw [if_neg (by rintro (h' | h') <;> first | cases h' | exact h h'), if_pos rfl, if_neg h, Int.zero_add]

theorem words_plain (an : Bool) (a1 a2 a3 lo c : Int) (pick : List Int) (s : Nat) (h11 : -2199023255552 ≤ a1) (h12 : a1 ≤ 2199023255552) (h21 : -2199023255552 ≤ a2) (h22 : a2 ≤ 2199023255552)
    (hlo1 : -1125899906842624 ≤ lo) (hlo2 : lo ≤ 1125899906842624) (hc1 : -1125899906842624 ≤ c) (hc2 : c ≤ 1125899906842624)
    (hp : ∀ p ∈ pick, 0 ≤ p ∧ p < 65536) (hpl : pick.length < 9223372036854775807) :
    Ev (fun k => w22_words.f k an a1 a2 a3 lo lo 0 (lanesOf s) c pick) (laneWords (c + lo) (a1 + a2) (onesAt 64 0 s)) := by
  have h := words_l0 an a1 a2 a3 lo lo 0 0 c pick s h11 h12 h21 h22 hlo1 hlo2 (by omega) (by omega) (by omega) (by omega) (by omega) hc1 hc2 hp hpl (onesAt 64 0 s).length 0 (by omega)
  have e : (List.range (onesAt 64 0 s).length).map (wordAt (a1 + a2) lo 0 0 c pick (lanesOf s)) = laneWords (c + lo) (a1 + a2) (onesAt 64 0 s) := by
    unfold laneWords
    refine List.ext_getElem (by simp) fun i hi1 hi2 => ?_
    have hi : i < (onesAt 64 0 s).length := by simpa using hi2
    simp only [List.getElem_map, List.getElem_range]
    unfold wordAt
    rw [if_neg (by omega), lanesOf_getD s i hi, List.getD, List.getElem?_eq_getElem hi]
    simp only [Option.getD_some]
    omega
  rw [e] at h
  exact h

theorem sharp_j1 (act : Int) (ha1 : 0 ≤ act) (ha2 : act < 18446744073709551616) (L : Nat) (hL0 : 0 < L) (hL : L < 65) (hne : onesAt 64 0 (setOfLanes (L : Int) act) ≠ []) :
    Ev (fun k => w22_CSharp.j1 k act true (L : Int) false) true := by
  have hall : setOfLanes (L : Int) 18446744073709551615 = 2 ^ L - 1 := by
    have hd : ∀ m : Nat, m < 65 → 18446744073709551615 % 2 ^ m = 2 ^ m - 1 := by decide +kernel
    unfold setOfLanes
    have e1 : (18446744073709551615 : Int).toNat = 18446744073709551615 := rfl
    have e2 : (min (max (L : Int) 0) 64).toNat = L := by omega
    rw [e1, e2]
    exact hd L hL
  have hm := mostS_one L hL
  rw [if_neg (by omega)] at hm
  obtain ⟨hm1, hm2⟩ := Prod.mk.inj hm
  have hone : onesAt 64 0 (2 ^ L - 1) ≠ [] := by
    refine onesAt_ne 64 0 _ ?_ ?_
    · have : 2 ^ 1 ≤ 2 ^ L := Nat.pow_le_pow_right (by omega) (by omega)
      omega
    · have : 2 ^ L ≤ 2 ^ 64 := Nat.pow_le_pow_right (by omega) (by omega)
      omega
  have hw : wrap64 (Int.tdiv (wrap64 ((L : Int) + 30)) 16) = (((L + 30) / 16 : Nat) : Int) := by
    rw [w64 (n := (L : Int) + 30) (by omega) (by omega)]
    have : Int.tdiv ((L : Int) + 30) 16 = (((L + 30) / 16 : Nat) : Int) := rfl
    rw [this, w64 (by omega) (by omega)]
  refine Ev.done 1 fun k => ?_
  simp only [w22_CSharp.j1, w22_step.f, Option.bind_some]
  rw [if_neg (by simp), static_step 0 (L : Int) act (by omega) (by omega) (by omega) (by omega) ha1 ha2, if_neg hne, mostS_zero _ hne, Option.bind_some, if_pos (show ((1 : Nat) : Int) = 1 from rfl),
    static_step 1 (L : Int) 18446744073709551615 (by omega) (by omega) (by omega) (by omega) (by omega) (by omega), hall, if_neg hone, hm1, Option.bind_some, hw, if_pos rfl,
    static_step (-1) (L : Int) 18446744073709551615 (by omega) (by omega) (by omega) (by omega) (by omega) (by omega), hall, if_neg hone, hm2, Option.bind_some, if_pos rfl]

theorem sharp_l0 (S act : Int) (h1 : -1099511627776 < S) (h2 : S < 1099511627776) (ha1 : 0 ≤ act) (ha2 : act < 18446744073709551616) (L : Nat) (hL0 : 0 < L) (hL : L < 65) (hne : onesAt 64 0 (setOfLanes (L : Int) act) ≠ []) :
    ∀ (d c : Nat), c + d = 16 → Ev (fun k => w22_CSharp.l0 k S act true (L : Int) (lanesOf (setOfLanes (L : Int) act)) (mostS S (onesAt 64 0 (setOfLanes (L : Int) act)) 16 : Int) (mostS S (onesAt 64 0 (setOfLanes (L : Int) act)) c : Int) (c : Int)) true
  | 0, c, h => by
    have : c = 16 := by omega
    subst this
    refine Ev.next 1 (sharp_j1 act ha1 ha2 L hL0 hL hne) fun k => ?_
    simp only [w22_CSharp.l0]
    rw [if_neg (by omega), if_pos trivial]
    have far : ∀ hf : S ≤ -16 ∨ 16 ≤ S, ((mostS S (onesAt 64 0 (setOfLanes (L : Int) act)) 16 : Int) != ((lanesOf (setOfLanes (L : Int) act)).length : Int)) = false := fun hf => by
      rw [mostS_far S hf _ (onesAt_inc 64 0 _), lanesOf_length]
      simp
    by_cases h16 : S ≥ 16
    · rw [if_pos h16, far (.inr h16)]
    · rw [if_neg h16]
      by_cases hm : S ≤ -16
      · rw [if_pos hm, far (.inl hm)]
      · rw [if_neg hm]
  | d + 1, c, h => by
    have ih := sharp_l0 S act h1 h2 ha1 ha2 L hL0 hL hne d (c + 1) (by omega)
    have hw := words_plain false 0 S 0 0 (c : Int) [] (setOfLanes (L : Int) act) (by omega) (by omega) (by omega) (by omega) (by omega) (by omega) (by omega) (by omega) (by simp) (by simp)
    rw [Int.add_zero, Int.zero_add] at hw
    have e : ((mostS S (onesAt 64 0 (setOfLanes (L : Int) act)) (c + 1) : Nat) : Int) = mx (mostS S (onesAt 64 0 (setOfLanes (L : Int) act)) c : Int) ((segs (laneWords (c : Int) S (onesAt 64 0 (setOfLanes (L : Int) act)))).length : Int) := by
      rw [mostS]
      unfold mx
      split <;> omega
    rw [e] at ih
    refine Ev.next 1 (H := fun k => (w22_words.f k false 0 S 0 0 0 0 (lanesOf (setOfLanes (L : Int) act)) (c : Int) []).bind fun t448 => ((coalesce_Segments.f t448).bind fun t451 => (w22_CSharp.l0 k S act true (L : Int) (lanesOf (setOfLanes (L : Int) act)) (mostS S (onesAt 64 0 (setOfLanes (L : Int) act)) 16 : Int) (mx (mostS S (onesAt 64 0 (setOfLanes (L : Int) act)) c : Int) (t451.length : Int)) ((c + 1 : Nat) : Int)))) ?_ fun k => ?_
    · refine Ev.step hw ih fun k hk => ?_
      rw [hk, Option.bind_some, f_words c _ S (by omega) (by omega) (by omega), Option.bind_some]
    · simp only [w22_CSharp.l0, w22_step.f, Option.bind_some]
      rw [if_pos (by omega), w64 (n := (c : Int) + 1) (by omega) (by omega)]
      rfl

theorem sharp_pure : w22_CSharp.Pure := by
  intro a0 a1 a2 w0 w1 w2
  have b0 := wf_bounds w0
  have b1 := wf_u8 w1
  have b2 := wf_u64 w2
  have hS1 := Int.tmod_lt_of_pos a0 (b := 1099511627776) (by omega)
  have hS2 : -1099511627776 < Int.tmod a0 1099511627776 := by
    have := Int.lt_tmod_of_pos a0 (b := 1099511627776) (by omega)
    omega
  have hm : Int.tmod a1 64 = a1 % 64 := Int.tmod_eq_emod_of_nonneg b1.1
  obtain ⟨L, hL⟩ : ∃ L : Nat, (L : Int) = 1 + a1 % 64 := ⟨(1 + a1 % 64).toNat, by omega⟩
  have hlan : wrap64 (1 + (wrap64 (Int.tmod a1 64))) = (L : Int) := by
    rw [hm, w64 (n := a1 % 64) (by omega) (by omega), w64 (by omega) (by omega), hL]
  generalize hSd : Int.tmod a0 1099511627776 = S at *
  have hbody : Ev (fun k => if ((lanesOf (setOfLanes (L : Int) a2)).length : Int) = 0 then ((coalesce_Static.f false 0 S 0 0 0 0 (L : Int) a2).bind fun t432 => (if t432 = 0 then (some true) else (some false))) else ((coalesce_Static.f false 0 S 0 0 0 0 (L : Int) a2).bind fun t440 => (w22_CSharp.l0 k S a2 true (L : Int) (lanesOf (setOfLanes (L : Int) a2)) t440 0 0))) true := by
    rw [static_step S (L : Int) a2 (by omega) (by omega) (by omega) (by omega) b2.1 b2.2]
    by_cases hz : onesAt 64 0 (setOfLanes (L : Int) a2) = []
    · refine Ev.all fun k => ?_
      rw [if_pos hz, if_pos (by rw [lanesOf_length, hz]; rfl), Option.bind_some, if_pos rfl]
    · refine Ev.next 0 (sharp_l0 S a2 hS2 hS1 b2.1 b2.2 L (by omega) (by omega) hz 16 0 (by omega)) fun k => ?_
      have : 0 < (onesAt 64 0 (setOfLanes (L : Int) a2)).length := List.length_pos_iff.2 hz
      rw [if_neg hz, if_neg (by rw [lanesOf_length]; omega), Option.bind_some]
      rfl
  refine (Ev.step examples (Ev.step (F := fun k => (v22_Lanes.f k (L : Int) a2).bind fun t422 => if (t422.length : Int) = 0 then ((coalesce_Static.f false 0 S 0 0 0 0 (L : Int) a2).bind fun t432 => (if t432 = 0 then (some true) else (some false))) else ((coalesce_Static.f false 0 S 0 0 0 0 (L : Int) a2).bind fun t440 => (w22_CSharp.l0 k S a2 true (L : Int) t422 t440 0 0))) (refLanes (L : Int) a2 b2.1 b2.2) hbody fun k hk => ?_) fun k hk => ?_).some
  · rw [hk]
    rfl
  · unfold w22_CSharp.f
    rw [hk, Option.bind_some, if_pos rfl, hlan, hSd]
    simp only [w22_step.f, Option.bind_some]
end Go.Proofs.YtnjeliicnbfclaaDoor.P
