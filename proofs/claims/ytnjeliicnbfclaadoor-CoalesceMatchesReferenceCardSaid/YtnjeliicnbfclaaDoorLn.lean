/- Plain laws: the reference's Segments and Static answer what Segments and Static answer. -/
import Derived.Test.YtnjeliicnbfclaaDoorPx3
import Derived.Test.YtnjeliicnbfclaaDoorLa
import Derived.Test.YtnjeliicnbfclaaDoorLc
namespace Go.Proofs.YtnjeliicnbfclaaDoor.P
open Go.RowKit Go.Proofs.YtnjeliicnbfclaaDoorW.PrintWords Go.Proofs.YtnjeliicnbfclaaDoorW.PrintLast Go.Proofs.YtnjeliicnbfclaaDoorW.PrintMore
set_option linter.unusedVariables false
set_option linter.unusedSimpArgs false

/-! ### Segment, added, Segments -/
theorem segment (a : Int) (h1 : -9223372036854775808 ≤ a) (h2 : a ≤ 9223372036854775807) : v22_Segment.f a = Option.some (a / 16) := by
  unfold v22_Segment.f
  have e1 := Int.tmod_eq_emod (a := a) (b := 16)
  have e2 := Int.tdiv_eq_ediv (a := a) (b := 16)
  by_cases hd : 0 ≤ a ∨ (16 : Int) ∣ a
  · rw [if_pos hd] at e1 e2
    rw [if_neg (by omega), w64 (by omega) (by omega)]
    congr 1
    omega
  · rw [if_neg hd] at e1 e2
    have hs : Int.sign 16 = 1 := rfl
    have hn : ((Int.natAbs 16 : Nat) : Int) = 16 := rfl
    rw [hs] at e2
    rw [if_pos (by omega), w64 (n := Int.tdiv a 16) (by omega) (by omega), w64 (by omega) (by omega)]
    congr 1
    omega

theorem ins_drop (l : List Int) (n : Int) : ∀ i : Nat, (∀ j, j < i → l.getD j 0 < n) → i ≤ l.length → ins l n = l.take i ++ ins (l.drop i) n := by
  induction l with
  | nil => intro i _ h; simp at h; subst h; simp
  | cons x l ih =>
    intro i hlt hi
    cases i with
    | zero => simp
    | succ i =>
      have h0 : x < n := by simpa using hlt 0 (by omega)
      have := ih i (fun j hj => by simpa using hlt (j + 1) (by omega)) (by simpa using hi)
      simp only [List.take_succ_cons, List.drop_succ_cons, List.cons_append]
      rw [ins, if_neg (by omega), if_neg (by omega), this]

theorem added_l0 (l : List Int) (n : Int) (hl : l.length < 17592186044415) : ∀ (d i : Nat), i + d = l.length → (∀ j, j < i → l.getD j 0 < n) → Ev (fun k => v22_added.l0 k l n (i : Int)) (ins l n)
  | 0, i, h, hlt => by
    refine Ev.done 1 fun k => ?_
    simp only [v22_added.l0]
    have e : ((i : Int)).toNat = i := by omega
    rw [if_neg (by omega), Option.bind_some, if_pos (by omega), if_pos (by omega), e]
    have hi : i = l.length := by omega
    subst hi
    rw [ins_drop l n l.length hlt (Nat.le_refl _)]
    simp only [Option.bind_some, List.take_length, List.nil_append, List.drop_length, ins, List.append_nil, List.length_nil, List.length_append, List.length_cons]
    rw [if_pos (by omega), if_pos (by omega), if_pos (by omega)]
  | d + 1, i, h, hlt => by
    have hi : i < l.length := by omega
    by_cases hc : l.getD i 0 < n
    · refine Ev.next 1 (added_l0 l n hl d (i + 1) (by omega) (fun j hj => ?_)) fun k => ?_
      · by_cases hj' : j = i
        · subst hj'; exact hc
        · exact hlt j (by omega)
      · simp only [v22_added.l0]
        rw [rd_nat, if_pos (by omega), if_pos (by omega), if_pos hc, w64 (by omega) (by omega)]
        rfl
    · have hdrop : l.drop i = l.getD i 0 :: l.drop (i + 1) := by
        rw [List.drop_eq_getElem_cons hi]
        simp [List.getD, List.getElem?_eq_getElem hi]
      refine Ev.done 1 fun k => ?_
      simp only [v22_added.l0]
      rw [rd_nat, if_pos (by omega), if_pos (by omega), if_neg hc]
      have hins := ins_drop l n i hlt (by omega)
      rw [hdrop] at hins
      by_cases he : l.getD i 0 = n
      · rw [if_pos he, hins, ins, if_neg (by omega), if_pos he.symm, ← hdrop, List.take_append_drop]
      · rw [if_neg he, hins, ins, if_pos (by omega)]
        have e : ((i : Int)).toNat = i := by omega
        simp only [Option.bind_some, List.nil_append, e, List.length_nil, List.length_append, List.length_take, List.length_drop, List.length_cons]
        rw [if_pos (by omega), if_pos (by omega), if_pos (by omega), if_pos (by omega), hdrop]
        simp
theorem added (l : List Int) (n : Int) (hl : l.length < 17592186044415) : Ev (fun k => v22_added.f k l n) (ins l n) := by
  refine (added_l0 l n hl l.length 0 (by omega) (fun j hj => by omega)).congr fun k => ?_
  rfl

theorem segments_l1 (l : List Int) (hl : l.length < 17592186044415) : ∀ (d i : Nat), i + d = l.length → Ev (fun k => v22_Segments.l1 k l (l.take i) (i : Int)) l
  | 0, i, h => by
    refine Ev.done 1 fun k => ?_
    simp only [v22_Segments.l1]
    rw [if_neg (by omega)]
    congr 1
    have : i = l.length := by omega
    subst this
    exact List.take_length
  | d + 1, i, h => by
    have hi : i < l.length := by omega
    refine Ev.next 1 (segments_l1 l hl d (i + 1) (by omega)) fun k => ?_
    simp only [v22_Segments.l1]
    rw [if_pos (by omega), if_pos (by omega), if_pos (by simp; omega), w64 (by omega) (by omega), rd_nat, take_next l 0 i hi]
    rfl
theorem segments_l0 (xs : List Int) (hl : xs.length < 17592186044415) (hw : ∀ x ∈ xs, -9223372036854775808 ≤ x ∧ x ≤ 9223372036854775807) : ∀ (d i : Nat), i + d = xs.length → Ev (fun k => v22_Segments.l0 k xs (segs (xs.take i)) (i : Int)) (segs xs)
  | 0, i, h => by
    have : i = xs.length := by omega
    subst this
    rw [List.take_length]
    have hlen := length_segs xs
    refine Ev.next 1 (segments_l1 (segs xs) (by omega) (segs xs).length 0 (by omega)) fun k => ?_
    simp only [v22_Segments.l0]
    rw [if_neg (by omega)]
    rfl
  | d + 1, i, h => by
    have hi : i < xs.length := by omega
    have hx := hw (xs.getD i 0) (by simp [List.getD, List.getElem?_eq_getElem hi])
    have hlen := length_segs (xs.take i)
    have hstep : segs (xs.take (i + 1)) = ins (segs (xs.take i)) (xs.getD i 0 / 16) := by
      rw [take_next xs 0 i hi]
      simp [segs, List.foldl_append]
    have ih := segments_l0 xs hl hw d (i + 1) (by omega)
    rw [hstep] at ih
    refine Ev.next 1 (H := fun k => (v22_added.f k (segs (xs.take i)) (xs.getD i 0 / 16)).bind fun t => v22_Segments.l0 k xs t ((i + 1 : Nat) : Int)) ?_ fun k => ?_
    · exact Ev.step (added (segs (xs.take i)) (xs.getD i 0 / 16) (by simp at hlen; omega)) ih fun k hk => by rw [hk]; rfl
    · simp only [v22_Segments.l0]
      rw [if_pos (by omega), if_pos (by omega), w64 (by omega) (by omega), rd_nat, segment _ hx.1 hx.2]
      rfl
theorem refSegments (xs : List Int) (hl : xs.length < 17592186044415) (hw : ∀ x ∈ xs, -9223372036854775808 ≤ x ∧ x ≤ 9223372036854775807) : Ev (fun k => v22_Segments.f k xs) (segs xs) :=
  (segments_l0 xs hl hw xs.length 0 (by omega)).congr fun k => rfl

/-! ### the reference's Static -/
theorem static_l1 (s : Nat) (S : Int) (h1 : -4398046511104 ≤ S) (h2 : S ≤ 4398046511104) (c : Nat) (hc : c < 16) (most : Int) (r : Int)
    (hr : Ev (fun k => v22_Static.l0 k (lanesOf s) S (mx most ((segs (laneWords (c : Int) S (onesAt 64 0 s))).length : Int)) ((c + 1 : Nat) : Int)) r) :
    ∀ (d i : Nat), i + d = (onesAt 64 0 s).length → Ev (fun k => v22_Static.l1 k (lanesOf s) S most (c : Int) (segs (laneWords (c : Int) S ((onesAt 64 0 s).take i))) (i : Int)) r
  | 0, i, h => by
    have hi : i = (onesAt 64 0 s).length := by omega
    subst hi
    rw [List.take_length]
    refine Ev.next 1 hr fun k => ?_
    simp only [v22_Static.l1]
    rw [if_neg (by rw [lanesOf_length]; omega), w64 (by omega) (by omega)]
    rfl
  | d + 1, i, h => by
    have hi : i < (onesAt 64 0 s).length := by omega
    have hlen := onesAt_length 64 0 s
    have ih := static_l1 s S h1 h2 c hc most r hr d (i + 1) (by omega)
    have hlt := onesAt_lt s i hi
    have hb := mul_bound S h1 h2 ((onesAt 64 0 s).getD i 0)
    have hword := lane_wrap S h1 h2 c ((onesAt 64 0 s).getD i 0) (by omega) hlt
    have hseg := segment ((c : Int) + S * (((onesAt 64 0 s).getD i 0 : Nat) : Int)) (by omega) (by omega)
    have hstep : segs (laneWords (c : Int) S ((onesAt 64 0 s).take (i + 1))) = ins (segs (laneWords (c : Int) S ((onesAt 64 0 s).take i))) (((c : Int) + S * (((onesAt 64 0 s).getD i 0 : Nat) : Int)) / 16) := by
      rw [take_next _ 0 i hi]
      simp [laneWords, segs, List.foldl_append]
    rw [hstep] at ih
    have hsl := length_segs (laneWords (c : Int) S ((onesAt 64 0 s).take i))
    rw [laneWords_length, List.length_take] at hsl
    refine Ev.next 1 (H := fun k => (v22_added.f k (segs (laneWords (c : Int) S ((onesAt 64 0 s).take i))) (((c : Int) + S * (((onesAt 64 0 s).getD i 0 : Nat) : Int)) / 16)).bind fun t => v22_Static.l1 k (lanesOf s) S most (c : Int) t ((i + 1 : Nat) : Int)) ?_ fun k => ?_
    · exact Ev.step (added (segs (laneWords (c : Int) S ((onesAt 64 0 s).take i))) (((c : Int) + S * (((onesAt 64 0 s).getD i 0 : Nat) : Int)) / 16) (by omega)) ih fun k hk => by rw [hk]; rfl
    · simp only [v22_Static.l1]
      rw [if_pos (by rw [lanesOf_length]; omega), if_pos (by omega), rd_nat, lanesOf_getD s i hi, hword, w64 (n := (i : Int) + 1) (by omega) (by omega), hseg]
      rfl
theorem static_l0 (s : Nat) (S : Int) (h1 : -4398046511104 ≤ S) (h2 : S ≤ 4398046511104) : ∀ (d c : Nat), c + d = 16 → Ev (fun k => v22_Static.l0 k (lanesOf s) S (mostS S (onesAt 64 0 s) c : Int) (c : Int)) (mostS S (onesAt 64 0 s) 16 : Int)
  | 0, c, h => by
    have : c = 16 := by omega
    subst this
    refine Ev.done 1 fun k => ?_
    simp only [v22_Static.l0]
    rw [if_neg (by omega)]
  | d + 1, c, h => by
    have ih := static_l0 s S h1 h2 d (c + 1) (by omega)
    have e : ((mostS S (onesAt 64 0 s) (c + 1) : Nat) : Int) = mx (mostS S (onesAt 64 0 s) c : Int) ((segs (laneWords (c : Int) S (onesAt 64 0 s))).length : Int) := by
      rw [mostS]
      unfold mx
      split <;> omega
    rw [e] at ih
    refine Ev.next 1 (static_l1 s S h1 h2 c (by omega) _ _ ih (onesAt 64 0 s).length 0 (by omega)) fun k => ?_
    simp only [v22_Static.l0]
    rw [if_pos (by omega)]
    rfl

theorem refStatic (an : Bool) (a1 a2 a3 a4 a5 a6 lanes act r : Int) (h : coalesce_Static.f an a1 a2 a3 a4 a5 a6 lanes act = some r) (h6 : a4 = a5 ↔ a6 = 0) :
    Ev (fun k => v22_Static.f k an a1 a2 a3 a4 a5 a6 lanes act) r := by
  unfold coalesce_Static.f at h
  split at h
  rotate_left
  · cases h
  rename_i hok
  obtain rfl := Option.some.inj h
  obtain ⟨b11, b12, b21, b22, b41, b42, b51, b52, b45, hl1, hl2, ha1, ha2⟩ := of_decide_eq_true hok
  have hslt := set_lt lanes act
  have hL := refLanes lanes act ha1 ha2
  generalize setOfLanes lanes act = s at *
  have hlen := onesAt_length 64 0 s
  have hbody : Ev (fun k => if ((lanesOf s).length : Int) = 0 then v22_Static.j0 k (lanesOf s) true an a1 a2 a3 a4 a5 a6 else v22_Static.j0 k (lanesOf s) an an a1 a2 a3 a4 a5 a6) (staticV an (a1 + a2) a4 a5 a6 s) := by
    unfold staticV
    by_cases hor : an = true ∨ onesAt 64 0 s = []
    · rw [if_pos hor]
      refine Ev.done 1 fun k => ?_
      by_cases hz : ((lanesOf s).length : Int) = 0
      · rw [if_pos hz]
        simp only [v22_Static.j0]
        rw [if_pos trivial, lanesOf_length]
      · rw [if_neg hz]
        have : an = true := by
          rcases hor with h | h
          · exact h
          · rw [lanesOf_length, h] at hz; simp at hz
        subst this
        simp only [v22_Static.j0]
        rw [if_pos trivial, lanesOf_length]
    · rw [if_neg hor]
      have hne : onesAt 64 0 s ≠ [] := fun e => hor (.inr e)
      have hpos : 0 < (onesAt 64 0 s).length := List.length_pos_iff.2 hne
      have han : an = false := by
        cases an
        · rfl
        · exact absurd (.inl rfl) hor
      subst han
      have hs0 : s ≠ 0 := fun e => hne ((onesAt_nil s hslt).2 e)
      have hS : wrap64 (a1 + a2) = a1 + a2 := w64 (by omega) (by omega)
      generalize hSS : a1 + a2 = S at *
      by_cases h60 : a6 = 0
      · rw [if_pos h60]
        refine Ev.next 1 (static_l0 s S (by omega) (by omega) 16 0 (by omega)) fun k => ?_
        rw [if_neg (by rw [lanesOf_length]; omega)]
        simp only [v22_Static.j0]
        rw [if_neg (by simp), if_pos (h6.2 h60), hSS, hS]
        rfl
      · rw [if_neg h60]
        have h45 : a4 < a5 := b45.resolve_left h60
        refine Ev.done 1 fun k => ?_
        rw [if_neg (by rw [lanesOf_length]; omega)]
        simp only [v22_Static.j0]
        have hw1 : wrap64 (((lanesOf s).length : Int) - 1) = (((onesAt 64 0 s).length - 1 : Nat) : Int) := by
          rw [lanesOf_length, w64 (by omega) (by omega)]
          omega
        have hr1 : rd (lanesOf s) (((onesAt 64 0 s).length - 1 : Nat) : Int) = ((Lib.bitLen s - 1 : Nat) : Int) := by
          rw [rd_nat, lanesOf_getD _ _ (by omega), onesAt_final s hs0 hslt]
        have hr0 : rd (lanesOf s) 0 = ((Lib.ctz 64 s : Nat) : Int) := by
          rw [show (0 : Int) = ((0 : Nat) : Int) from rfl, rd_nat, lanesOf_getD _ _ (by omega), onesAt_first s hs0 hslt]
        have hbl : Lib.bitLen s ≤ 64 := bitLenAux_le 64 s
        have hct := ctz_lt_bitLen s hs0 hslt
        have hd : wrap64 (((Lib.bitLen s - 1 : Nat) : Int) - ((Lib.ctz 64 s : Nat) : Int)) = (Lib.bitLen s : Int) - 1 - (Lib.ctz 64 s : Nat) := by
          rw [w64 (by omega) (by omega)]
          omega
        rw [if_neg (by simp), if_neg (by omega), hSS, hS, hw1, hr1, hr0, hd]
        obtain ⟨n, hn⟩ : ∃ n : Nat, (Lib.bitLen s : Int) - 1 - (Lib.ctz 64 s : Nat) = n := ⟨Lib.bitLen s - 1 - Lib.ctz 64 s, by omega⟩
        have hn63 : n < 64 := by omega
        rw [hn]
        have fin : ∀ T : Int, 0 ≤ T → T ≤ 4398046511104 → T = max S (-S) →
            some (mn ((lanesOf s).length : Int) (wrap64 ((wrap64 (Int.tdiv (wrap64 ((wrap64 ((wrap64 ((wrap64 (T * (n : Int))) + a5)) - a4)) - 1)) 16)) + 2))) = some (min ((onesAt 64 0 s).length : Int) ((max S (-S) * (n : Int) + a5 - a4 - 1) / 16 + 2)) := by
          intro T hT hT' hTm
          have hm := mul_bound T (by omega) hT' n
          have hp : 0 ≤ T * (n : Int) := Int.mul_nonneg hT (by omega)
          have e2 := Int.tdiv_eq_ediv (a := T * (n : Int) + a5 - a4 - 1) (b := 16)
          rw [if_pos (.inl (by omega))] at e2
          rw [← hTm, w64 (n := T * (n : Int)) (by omega) (by omega), w64 (n := T * (n : Int) + a5) (by omega) (by omega), w64 (n := T * (n : Int) + a5 - a4) (by omega) (by omega), w64 (n := T * (n : Int) + a5 - a4 - 1) (by omega) (by omega), e2, Int.add_zero, w64 (n := (T * (n : Int) + a5 - a4 - 1) / 16) (by omega) (by omega), w64 (by omega) (by omega), lanesOf_length]
          congr 1
          unfold mn
          split <;> omega
        by_cases hneg : S < 0
        · rw [if_pos hneg, if_pos (by omega), if_pos (by rw [lanesOf_length]; omega), if_pos (by rw [lanesOf_length]; omega), w64 (n := -S) (by omega) (by omega)]
          exact fin (-S) (by omega) (by omega) (by omega)
        · rw [if_neg hneg, if_pos (by omega), if_pos (by rw [lanesOf_length]; omega), if_pos (by rw [lanesOf_length]; omega)]
          exact fin S (by omega) (by omega) (by omega)
  exact Ev.step hL hbody fun k hk => by
    unfold v22_Static.f
    rw [hk]
    rfl

end Go.Proofs.YtnjeliicnbfclaaDoor.P
