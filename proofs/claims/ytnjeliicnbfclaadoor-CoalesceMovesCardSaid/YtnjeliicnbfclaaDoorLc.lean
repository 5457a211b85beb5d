/- Plain laws: the examples hold; places of ones. -/
import Derived.Test.YtnjeliicnbfclaaDoorLa
import Derived.Test.YtnjeliicnbfclaaDoorLb
import Derived.Test.YtnjeliicnbfclaaDoorPx1e
namespace Go.Proofs.YtnjeliicnbfclaaDoor.P
open Go.RowKit Go.Proofs.YtnjeliicnbfclaaDoorW.PrintWords Go.Proofs.YtnjeliicnbfclaaDoorW.PrintLast Go.Proofs.YtnjeliicnbfclaaDoorW.PrintMore
set_option linter.unusedVariables false
set_option linter.unusedSimpArgs false

/-! ### the examples -/
theorem ex_segments : coalesce_Segments.f [0, 15, 16, -1, 40] = some [-1, 0, 1, 2] := by decide +kernel
theorem ex_moves : coalesce_Moves.f (([(⟨1, 0, 0, 0, 0, 0, 0, 3, 0⟩ : S47), (⟨2, 0, 0, 0, 0, 0, 0, 15, 0⟩ : S47), (⟨1, 0, 0, 0, 0, 0, 1, 3, 0⟩ : S47), (⟨3, 0, 0, 0, 0, 0, 0, 16, 0⟩ : S47), (⟨4, 0, 0, 0, 0, 0, 0, 0, 0⟩ : S47)] : List (S47))) (([(⟨(⟨#[]⟩ : ByteArray), 1, 0, 32⟩ : S31), (⟨(⟨#[]⟩ : ByteArray), 2, 0, 4⟩ : S31)] : List (S31))) = some 2 := by decide +kernel
set_option maxRecDepth 100000 in
theorem ex_static : coalesce_Static.f false 0 1 0 0 0 0 32 18446744073709551615 = some 3 ∧ coalesce_Static.f false 0 2 0 0 0 0 32 18446744073709551615 = some 5 ∧ coalesce_Static.f false 0 0 0 0 0 0 32 18446744073709551615 = some 1 ∧
    coalesce_Static.f false 0 16 0 0 0 0 32 18446744073709551615 = some 32 ∧ coalesce_Static.f false 0 1 0 0 0 0 32 0 = some 0 := by decide +kernel
theorem examples : Ev (fun k => w22_examples.f k) true := by
  obtain ⟨s1, s2, s3, s4, s5⟩ := ex_static
  have hj : Ev (fun k => w22_examples.j0 k 18446744073709551615 (((2 : Int)) != 2)) true := by
    refine Ev.done 1 fun k => ?_
    simp only [w22_examples.j0, w22_step.f, Option.bind_some]
    rw [if_neg (by decide), s1, Option.bind_some, if_pos rfl, s2, Option.bind_some, if_pos rfl, s3, Option.bind_some, if_pos rfl, s4, Option.bind_some, if_pos rfl, s5, Option.bind_some]
    rfl
  refine Ev.step (sameInts [-1, 0, 1, 2] (by decide)) hj fun k hk => ?_
  unfold w22_examples.f
  rw [ex_segments, Option.bind_some, hk, Option.bind_some, if_pos rfl, ex_moves, Option.bind_some]

/-! ### places of ones -/
theorem lanesOf_length (s : Nat) : (lanesOf s).length = (onesAt 64 0 s).length := by simp [lanesOf]
theorem lanesOf_getD (s i : Nat) (h : i < (onesAt 64 0 s).length) : (lanesOf s).getD i 0 = (((onesAt 64 0 s).getD i 0 : Nat) : Int) := by
  simp [lanesOf, List.getD, List.getElem?_eq_getElem h]
theorem onesAt_lt (s i : Nat) (h : i < (onesAt 64 0 s).length) : (onesAt 64 0 s).getD i 0 < 64 := by
  have : (onesAt 64 0 s).getD i 0 ∈ onesAt 64 0 s := by
    simp [List.getD, List.getElem?_eq_getElem h]
  have := (onesAt_mem 64 0 s _).1 this
  omega
theorem onesAt_first (s : Nat) (h0 : s ≠ 0) (h : s < 2 ^ 64) : (onesAt 64 0 s).getD 0 0 = Lib.ctz 64 s := by
  rw [onesAt_step 64 0 s h0 h]
  unfold Lib.ctz
  rw [if_neg h0]
  simp
theorem onesAt_final (s : Nat) (h0 : s ≠ 0) (h : s < 2 ^ 64) : (onesAt 64 0 s).getD ((onesAt 64 0 s).length - 1) 0 = Lib.bitLen s - 1 := by
  have e := onesAt_last 64 0 s h0 h
  rw [List.getLast?_eq_getElem?] at e
  rw [List.getD, e]
  have : Lib.bitLenAux 64 s = Lib.bitLen s := rfl
  simp [this]
theorem set_lt (lanes act : Int) : setOfLanes lanes act < 2 ^ 64 := by
  unfold setOfLanes
  refine Nat.lt_of_lt_of_le (Nat.mod_lt _ (Nat.two_pow_pos _)) (Nat.pow_le_pow_right (by omega) (by omega))
theorem onesAt_nil (s : Nat) (h : s < 2 ^ 64) : onesAt 64 0 s = [] ↔ s = 0 := by
  constructor
  · intro e
    by_cases h0 : s = 0
    · exact h0
    · exact absurd e (onesAt_ne 64 0 s h0 h)
  · rintro rfl
    exact onesAt_zero _ _

end Go.Proofs.YtnjeliicnbfclaaDoor.P
