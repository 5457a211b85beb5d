/- Plain laws: the examples hold; the reference's Static answers what Static answers; the words of lanes. -/
import Derived.Test.YtnjeliicnbfclaaDoorLa
import Derived.Test.YtnjeliicnbfclaaDoorLb
import Derived.Test.YtnjeliicnbfclaaDoorPx8
import Derived.Test.YtnjeliicnbfclaaDoorPx1e
namespace Go.Proofs.YtnjeliicnbfclaaDoor.P
open Go.RowKit Go.Proofs.YtnjeliicnbfclaaDoorW.PrintWords Go.Proofs.YtnjeliicnbfclaaDoorW.PrintLast Go.Proofs.YtnjeliicnbfclaaDoorW.PrintMore
set_option linter.unusedVariables false
set_option linter.unusedSimpArgs false

/-! ### the examples -/
theorem ex_segments : coalesce_Segments.f [0, 15, 16, -1, 40] = some [-1, 0, 1, 2] := by decide +kernel
theorem ex_moves : coalesce_Moves.f (([(⟨1, 0, 0, 0, 0, 0, 0, 3, 0⟩ : S47), (⟨2, 0, 0, 0, 0, 0, 0, 15, 0⟩ : S47), (⟨1, 0, 0, 0, 0, 0, 1, 3, 0⟩ : S47), (⟨3, 0, 0, 0, 0, 0, 0, 16, 0⟩ : S47), (⟨4, 0, 0, 0, 0, 0, 0, 0, 0⟩ : S47)] : List (S47))) (([(⟨(⟨#[]⟩ : ByteArray), 1, 0, 32⟩ : S31), (⟨(⟨#[]⟩ : ByteArray), 2, 0, 4⟩ : S31)] : List (S31))) = some 2 := by decide +kernel
set_option maxRecDepth 100000 in
theorem ex_static : coalesce_Static.f false 0 1 0 0 0 0 32 18446744073709551615 = some 3 ∧ coalesce_Static.f false 0 2 0 0 0 0 32 18446744073709551615 = some 5 ∧ coalesce_Static.f false 0 0 0 0 0 0 32 18446744073709551615 = some 1 ∧
    coalesce_Static.f false 0 16 0 0 0 0 32 18446744073709551615 = some 32 ∧ coalesce_Static.f false 0 1 0 0 0 0 32 0 = some 0 := by decide +kernel
theorem examples : Ev (fun k => w22_examples.f k) true := by
  obtain ⟨s1, s2, s3, s4, s5⟩ := ex_static
  have hj : Ev (fun k => w22_examples.j0 k 18446744073709551615 (((2 : Int)) != 2)) true := by
    refine Ev.done 1 fun k => ?_
    simp only [w22_examples.j0, w22_step.f, Option.bind_some]
    rw [if_neg (by decide), s1, Option.bind_some, if_pos rfl, s2, Option.bind_some, if_pos rfl, s3, Option.bind_some, if_pos rfl, s4, Option.bind_some, if_pos rfl, s5, Option.bind_some]
    rfl
  refine Ev.step (sameInts [-1, 0, 1, 2] (by decide)) hj fun k hk => ?_
  unfold w22_examples.f
  rw [ex_segments, Option.bind_some, hk, Option.bind_some, if_pos rfl, ex_moves, Option.bind_some]

/-! ### the reference's Static -/
theorem lanesOf_length (s : Nat) : (lanesOf s).length = (onesAt 64 0 s).length := by simp [lanesOf]
theorem lanesOf_getD (s i : Nat) (h : i < (onesAt 64 0 s).length) : (lanesOf s).getD i 0 = (((onesAt 64 0 s).getD i 0 : Nat) : Int) := by
  simp [lanesOf, List.getD, List.getElem?_eq_getElem h]
theorem onesAt_lt (s i : Nat) (h : i < (onesAt 64 0 s).length) : (onesAt 64 0 s).getD i 0 < 64 := by
  have : (onesAt 64 0 s).getD i 0 ∈ onesAt 64 0 s := by
    simp [List.getD, List.getElem?_eq_getElem h]
  have := (onesAt_mem 64 0 s _).1 this
  omega
theorem static_l1 (s : Nat) (S : Int) (h1 : -4398046511104 ≤ S) (h2 : S ≤ 4398046511104) (c : Nat) (hc : c < 16) (most : Int) (r : Int)
    (hr : Ev (fun k => v22_Static.l0 k (lanesOf s) S (mx most ((segs (laneWords (c : Int) S (onesAt 64 0 s))).length : Int)) ((c + 1 : Nat) : Int)) r) :
    ∀ (d i : Nat), i + d = (onesAt 64 0 s).length → Ev (fun k => v22_Static.l1 k (lanesOf s) S most (c : Int) (segs (laneWords (c : Int) S ((onesAt 64 0 s).take i))) (i : Int)) r
  | 0, i, h => by
    have hi : i = (onesAt 64 0 s).length := by omega
    subst hi
    rw [List.take_length]
    refine Ev.next 1 hr fun k => ?_
    simp only [v22_Static.l1]
    rw [if_neg (by rw [lanesOf_length]; omega), w64 (by omega) (by omega)]
    rfl
  | d + 1, i, h => by
    have hi : i < (onesAt 64 0 s).length := by omega
    have hlen := onesAt_length 64 0 s
    have ih := static_l1 s S h1 h2 c hc most r hr d (i + 1) (by omega)
    have hlt := onesAt_lt s i hi
    have hb := mul_bound S h1 h2 ((onesAt 64 0 s).getD i 0)
    have hword := lane_wrap S h1 h2 c ((onesAt 64 0 s).getD i 0) (by omega) hlt
    have hseg := segment ((c : Int) + S * (((onesAt 64 0 s).getD i 0 : Nat) : Int)) (by omega) (by omega)
    have hstep : segs (laneWords (c : Int) S ((onesAt 64 0 s).take (i + 1))) = ins (segs (laneWords (c : Int) S ((onesAt 64 0 s).take i))) (((c : Int) + S * (((onesAt 64 0 s).getD i 0 : Nat) : Int)) / 16) := by
      rw [take_next _ 0 i hi]
      simp [laneWords, segs, List.foldl_append]
    rw [hstep] at ih
    have hsl := length_segs (laneWords (c : Int) S ((onesAt 64 0 s).take i))
    rw [laneWords_length, List.length_take] at hsl
    refine Ev.next 1 (H := fun k => (v22_added.f k (segs (laneWords (c : Int) S ((onesAt 64 0 s).take i))) (((c : Int) + S * (((onesAt 64 0 s).getD i 0 : Nat) : Int)) / 16)).bind fun t => v22_Static.l1 k (lanesOf s) S most (c : Int) t ((i + 1 : Nat) : Int)) ?_ fun k => ?_
    · exact Ev.step (added (segs (laneWords (c : Int) S ((onesAt 64 0 s).take i))) (((c : Int) + S * (((onesAt 64 0 s).getD i 0 : Nat) : Int)) / 16) (by omega)) ih fun k hk => by rw [hk]; rfl
    · simp only [v22_Static.l1]
      rw [if_pos (by rw [lanesOf_length]; omega), if_pos (by omega), rd_nat, lanesOf_getD s i hi, hword, w64 (n := (i : Int) + 1) (by omega) (by omega), hseg]
      rfl
theorem static_l0 (s : Nat) (S : Int) (h1 : -4398046511104 ≤ S) (h2 : S ≤ 4398046511104) : ∀ (d c : Nat), c + d = 16 → Ev (fun k => v22_Static.l0 k (lanesOf s) S (mostS S (onesAt 64 0 s) c : Int) (c : Int)) (mostS S (onesAt 64 0 s) 16 : Int)
  | 0, c, h => by
    have : c = 16 := by omega
    subst this
    refine Ev.done 1 fun k => ?_
    simp only [v22_Static.l0]
    rw [if_neg (by omega)]
  | d + 1, c, h => by
    have ih := static_l0 s S h1 h2 d (c + 1) (by omega)
    have e : ((mostS S (onesAt 64 0 s) (c + 1) : Nat) : Int) = mx (mostS S (onesAt 64 0 s) c : Int) ((segs (laneWords (c : Int) S (onesAt 64 0 s))).length : Int) := by
      rw [mostS]
      unfold mx
      split <;> omega
    rw [e] at ih
    refine Ev.next 1 (static_l1 s S h1 h2 c (by omega) _ _ ih (onesAt 64 0 s).length 0 (by omega)) fun k => ?_
    simp only [v22_Static.l0]
    rw [if_pos (by omega)]
    rfl

theorem onesAt_first (s : Nat) (h0 : s ≠ 0) (h : s < 2 ^ 64) : (onesAt 64 0 s).getD 0 0 = Lib.ctz 64 s := by
  rw [onesAt_step 64 0 s h0 h]
  unfold Lib.ctz
  rw [if_neg h0]
  simp
theorem onesAt_final (s : Nat) (h0 : s ≠ 0) (h : s < 2 ^ 64) : (onesAt 64 0 s).getD ((onesAt 64 0 s).length - 1) 0 = Lib.bitLen s - 1 := by
  have e := onesAt_last 64 0 s h0 h
  rw [List.getLast?_eq_getElem?] at e
  rw [List.getD, e]
  have : Lib.bitLenAux 64 s = Lib.bitLen s := rfl
  simp [this]
theorem set_lt (lanes act : Int) : setOfLanes lanes act < 2 ^ 64 := by
  unfold setOfLanes
  refine Nat.lt_of_lt_of_le (Nat.mod_lt _ (Nat.two_pow_pos _)) (Nat.pow_le_pow_right (by omega) (by omega))
theorem onesAt_nil (s : Nat) (h : s < 2 ^ 64) : onesAt 64 0 s = [] ↔ s = 0 := by
  constructor
  · intro e
    by_cases h0 : s = 0
    · exact h0
    · exact absurd e (onesAt_ne 64 0 s h0 h)
  · rintro rfl
    exact onesAt_zero _ _

theorem refStatic (an : Bool) (a1 a2 a3 a4 a5 a6 lanes act r : Int) (h : coalesce_Static.f an a1 a2 a3 a4 a5 a6 lanes act = some r) (h6 : a4 = a5 ↔ a6 = 0) :
    Ev (fun k => v22_Static.f k an a1 a2 a3 a4 a5 a6 lanes act) r := by
  unfold coalesce_Static.f at h
  split at h
  rotate_left
  · cases h
  rename_i hok
  obtain rfl := Option.some.inj h
  obtain ⟨b11, b12, b21, b22, b41, b42, b51, b52, b45, hl1, hl2, ha1, ha2⟩ := of_decide_eq_true hok
  have hslt := set_lt lanes act
  have hL := refLanes lanes act ha1 ha2
  generalize setOfLanes lanes act = s at *
  have hlen := onesAt_length 64 0 s
  have hbody : Ev (fun k => if ((lanesOf s).length : Int) = 0 then v22_Static.j0 k (lanesOf s) true an a1 a2 a3 a4 a5 a6 else v22_Static.j0 k (lanesOf s) an an a1 a2 a3 a4 a5 a6) (staticV an (a1 + a2) a4 a5 a6 s) := by
    unfold staticV
    by_cases hor : an = true ∨ onesAt 64 0 s = []
    · rw [if_pos hor]
      refine Ev.done 1 fun k => ?_
      by_cases hz : ((lanesOf s).length : Int) = 0
      · rw [if_pos hz]
        simp only [v22_Static.j0]
        rw [if_pos trivial, lanesOf_length]
      · rw [if_neg hz]
        have : an = true := by
          rcases hor with h | h
          · exact h
          · rw [lanesOf_length, h] at hz; simp at hz
        subst this
        simp only [v22_Static.j0]
        rw [if_pos trivial, lanesOf_length]
    · rw [if_neg hor]
      have hne : onesAt 64 0 s ≠ [] := fun e => hor (.inr e)
      have hpos : 0 < (onesAt 64 0 s).length := List.length_pos_iff.2 hne
      have han : an = false := by
        cases an
        · rfl
        · exact absurd (.inl rfl) hor
      subst han
      have hs0 : s ≠ 0 := fun e => hne ((onesAt_nil s hslt).2 e)
      have hS : wrap64 (a1 + a2) = a1 + a2 := w64 (by omega) (by omega)
      generalize hSS : a1 + a2 = S at *
      by_cases h60 : a6 = 0
      · rw [if_pos h60]
        refine Ev.next 1 (static_l0 s S (by omega) (by omega) 16 0 (by omega)) fun k => ?_
        rw [if_neg (by rw [lanesOf_length]; omega)]
        simp only [v22_Static.j0]
        rw [if_neg (by simp), if_pos (h6.2 h60), hSS, hS]
        rfl
      · rw [if_neg h60]
        have h45 : a4 < a5 := b45.resolve_left h60
        refine Ev.done 1 fun k => ?_
        rw [if_neg (by rw [lanesOf_length]; omega)]
        simp only [v22_Static.j0]
        have hw1 : wrap64 (((lanesOf s).length : Int) - 1) = (((onesAt 64 0 s).length - 1 : Nat) : Int) := by
          rw [lanesOf_length, w64 (by omega) (by omega)]
          omega
        have hr1 : rd (lanesOf s) (((onesAt 64 0 s).length - 1 : Nat) : Int) = ((Lib.bitLen s - 1 : Nat) : Int) := by
          rw [rd_nat, lanesOf_getD _ _ (by omega), onesAt_final s hs0 hslt]
        have hr0 : rd (lanesOf s) 0 = ((Lib.ctz 64 s : Nat) : Int) := by
          rw [show (0 : Int) = ((0 : Nat) : Int) from rfl, rd_nat, lanesOf_getD _ _ (by omega), onesAt_first s hs0 hslt]
        have hbl : Lib.bitLen s ≤ 64 := bitLenAux_le 64 s
        have hct := ctz_lt_bitLen s hs0 hslt
        have hd : wrap64 (((Lib.bitLen s - 1 : Nat) : Int) - ((Lib.ctz 64 s : Nat) : Int)) = (Lib.bitLen s : Int) - 1 - (Lib.ctz 64 s : Nat) := by
          rw [w64 (by omega) (by omega)]
          omega
        rw [if_neg (by simp), if_neg (by omega), hSS, hS, hw1, hr1, hr0, hd]
        obtain ⟨n, hn⟩ : ∃ n : Nat, (Lib.bitLen s : Int) - 1 - (Lib.ctz 64 s : Nat) = n := ⟨Lib.bitLen s - 1 - Lib.ctz 64 s, by omega⟩
        have hn63 : n < 64 := by omega
        rw [hn]
        have fin : ∀ T : Int, 0 ≤ T → T ≤ 4398046511104 → T = max S (-S) →
            some (mn ((lanesOf s).length : Int) (wrap64 ((wrap64 (Int.tdiv (wrap64 ((wrap64 ((wrap64 ((wrap64 (T * (n : Int))) + a5)) - a4)) - 1)) 16)) + 2))) = some (min ((onesAt 64 0 s).length : Int) ((max S (-S) * (n : Int) + a5 - a4 - 1) / 16 + 2)) := by
          intro T hT hT' hTm
          have hm := mul_bound T (by omega) hT' n
          have hp : 0 ≤ T * (n : Int) := Int.mul_nonneg hT (by omega)
          have e2 := Int.tdiv_eq_ediv (a := T * (n : Int) + a5 - a4 - 1) (b := 16)
          rw [if_pos (.inl (by omega))] at e2
          rw [← hTm, w64 (n := T * (n : Int)) (by omega) (by omega), w64 (n := T * (n : Int) + a5) (by omega) (by omega), w64 (n := T * (n : Int) + a5 - a4) (by omega) (by omega), w64 (n := T * (n : Int) + a5 - a4 - 1) (by omega) (by omega), e2, Int.add_zero, w64 (n := (T * (n : Int) + a5 - a4 - 1) / 16) (by omega) (by omega), w64 (by omega) (by omega), lanesOf_length]
          congr 1
          unfold mn
          split <;> omega
        by_cases hneg : S < 0
        · rw [if_pos hneg, if_pos (by omega), if_pos (by rw [lanesOf_length]; omega), if_pos (by rw [lanesOf_length]; omega), w64 (n := -S) (by omega) (by omega)]
          exact fin (-S) (by omega) (by omega) (by omega)
        · rw [if_neg hneg, if_pos (by omega), if_pos (by rw [lanesOf_length]; omega), if_pos (by rw [lanesOf_length]; omega)]
          exact fin S (by omega) (by omega) (by omega)
  exact Ev.step hL hbody fun k hk => by
    unfold v22_Static.f
    rw [hk]
    rfl

/-! ### the words -/
def wordAt (S lo st N c : Int) (pick l : List Int) (i : Nat) : Int := c + S * l.getD i 0 + (lo + (if 0 < st ∧ pick ≠ [] then st * (pick.getD (i % pick.length) 0 % (N + 1)) else 0))
theorem words_l0 (an : Bool) (a1 a2 a3 lo hi st N c : Int) (pick : List Int) (s : Nat) (h11 : -2199023255552 ≤ a1) (h12 : a1 ≤ 2199023255552) (h21 : -2199023255552 ≤ a2) (h22 : a2 ≤ 2199023255552)
    (hlo1 : -1125899906842624 ≤ lo) (hlo2 : lo ≤ 1125899906842624) (hst : 0 ≤ st) (hst2 : st ≤ 64) (hN : 0 ≤ N) (hN2 : N ≤ 7) (hhi : hi = lo + st * N) (hc1 : -1125899906842624 ≤ c) (hc2 : c ≤ 1125899906842624)
    (hp : ∀ p ∈ pick, 0 ≤ p ∧ p < 65536) (hpl : pick.length < 9223372036854775807) :
    ∀ (d i : Nat), i + d = (onesAt 64 0 s).length → Ev (fun k => w22_words.l0 k (lanesOf s) c pick ((List.range i).map (wordAt (a1 + a2) lo st N c pick (lanesOf s))) (i : Int) an a1 a2 a3 lo hi st) ((List.range (onesAt 64 0 s).length).map (wordAt (a1 + a2) lo st N c pick (lanesOf s)))
  | 0, i, h => by
    have hi' : i = (onesAt 64 0 s).length := by omega
    subst hi'
    refine Ev.done 1 fun k => ?_
    simp only [w22_words.l0]
    rw [if_neg (by rw [lanesOf_length]; omega)]
  | d + 1, i, h => by
    have hi' : i < (onesAt 64 0 s).length := by omega
    have hlen := onesAt_length 64 0 s
    have hlt := onesAt_lt s i hi'
    have ih := words_l0 an a1 a2 a3 lo hi st N c pick s h11 h12 h21 h22 hlo1 hlo2 hst hst2 hN hN2 hhi hc1 hc2 hp hpl d (i + 1) (by omega)
    rw [List.range_succ, List.map_append, List.map_singleton] at ih
    have hb := mul_bound (a1 + a2) (by omega) (by omega) ((onesAt 64 0 s).getD i 0)
    have hS : wrap64 (a1 + a2) = a1 + a2 := w64 (by omega) (by omega)
    refine Ev.next 1 ih fun k => ?_
    simp only [w22_words.l0]
    rw [if_pos (by rw [lanesOf_length]; omega), hS, rd_nat, lanesOf_getD s i hi', w64 (n := (a1 + a2) * (((onesAt 64 0 s).getD i 0 : Nat) : Int)) (by omega) (by omega), w64 (n := c + (a1 + a2) * (((onesAt 64 0 s).getD i 0 : Nat) : Int)) (by omega) (by omega), w64 (n := (i : Int) + 1) (by omega) (by omega)]
    have hlen2 : ((List.range i).map (wordAt (a1 + a2) lo st N c pick (lanesOf s))).length < 17592186044416 := by simp; omega
    have plain : ¬ (0 < st ∧ pick ≠ []) → wordAt (a1 + a2) lo st N c pick (lanesOf s) i = wrap64 (c + (a1 + a2) * (((onesAt 64 0 s).getD i 0 : Nat) : Int) + lo) := fun hno => by
      unfold wordAt
      rw [if_neg hno, lanesOf_getD s i hi', w64 (by omega) (by omega)]
      omega
    by_cases h1 : st > 0
    · rw [if_pos h1]
      by_cases h2 : (pick.length : Int) > 0
      · have hpn : pick ≠ [] := by rintro rfl; simp at h2
        have hm : Int.tmod (i : Int) (pick.length : Int) = ((i % pick.length : Nat) : Int) := rfl
        have hml : i % pick.length < pick.length := Nat.mod_lt _ (by omega)
        have hpi := hp (pick.getD (i % pick.length) 0) (by simp [List.getD, List.getElem?_eq_getElem hml])
        have hsub : wrap64 (hi - lo) = st * N := by
          have : 0 ≤ st * N := Int.mul_nonneg hst hN
          have : st * N ≤ 64 * 7 := Int.mul_le_mul hst2 hN2 hN (by omega)
          rw [hhi, w64 (by omega) (by omega)]
          omega
        have hdiv : Int.tdiv (st * N) st = N := Int.mul_tdiv_cancel_left N (by omega)
        have hmod : Int.tmod (pick.getD (i % pick.length) 0) (N + 1) = pick.getD (i % pick.length) 0 % (N + 1) := Int.tmod_eq_emod_of_nonneg hpi.1
        have hm1 : 0 ≤ pick.getD (i % pick.length) 0 % (N + 1) := Int.emod_nonneg _ (by omega)
        have hm2 : pick.getD (i % pick.length) 0 % (N + 1) < N + 1 := Int.emod_lt_of_pos _ (by omega)
        have hp1 : 0 ≤ st * (pick.getD (i % pick.length) 0 % (N + 1)) := Int.mul_nonneg hst hm1
        have hp2 : st * (pick.getD (i % pick.length) 0 % (N + 1)) ≤ 64 * 7 := Int.mul_le_mul hst2 (by omega) hm1 (by omega)
        rw [if_pos h2, if_neg (by omega), if_neg (by omega), hm, if_pos (by omega), if_pos (by omega), hsub, hdiv, w64 (n := N) (by omega) (by omega), w64 (n := N + 1) (by omega) (by omega), if_neg (by omega), if_pos (by omega), if_pos hlen2, rd_nat, w64 (n := pick.getD (i % pick.length) 0) (by omega) (by omega), hmod, w64 (n := st * (pick.getD (i % pick.length) 0 % (N + 1))) (by omega) (by omega), w64 (n := lo + st * (pick.getD (i % pick.length) 0 % (N + 1))) (by omega) (by omega), w64 (by omega) (by omega)]
        have : wordAt (a1 + a2) lo st N c pick (lanesOf s) i = c + (a1 + a2) * (((onesAt 64 0 s).getD i 0 : Nat) : Int) + (lo + st * (pick.getD (i % pick.length) 0 % (N + 1))) := by
          unfold wordAt
          rw [if_pos ⟨h1, hpn⟩, lanesOf_getD s i hi']
        rw [this]
        rfl
      · rw [if_neg h2, if_pos (by omega), if_pos hlen2, plain (fun ⟨_, hq⟩ => h2 (by have := List.length_pos_iff.2 hq; omega))]
        rfl
    · rw [if_neg h1, if_pos (by omega), if_pos hlen2, plain (fun ⟨hq, _⟩ => h1 hq)]
      rfl
end Go.Proofs.YtnjeliicnbfclaaDoor.P
