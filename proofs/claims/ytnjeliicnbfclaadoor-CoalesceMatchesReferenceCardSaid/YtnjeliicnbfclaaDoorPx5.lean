-- Written by wip/myprint.py, a program of this session's own over the kit's print: functions and their contracts.
import Derived.Test.YtnjeliicnbfclaaDoorPx0
import Derived.Test.YtnjeliicnbfclaaDoorPx1e
import Derived.Test.YtnjeliicnbfclaaDoorF
import Derived.Test.YtnjeliicnbfclaaDoorPx3
import Derived.Test.YtnjeliicnbfclaaDoorPx4
import Derived.Test.YtnjeliicnbfclaaDoorG1
import Derived.Test.YtnjeliicnbfclaaDoorG2
import Derived.Test.YtnjeliicnbfclaaDoorG3c
namespace Go.Proofs.YtnjeliicnbfclaaDoor.P
open Go.RowKit Go.Proofs.YtnjeliicnbfclaaDoorW.PrintWords Go.Proofs.YtnjeliicnbfclaaDoorW.PrintLast Go.Proofs.YtnjeliicnbfclaaDoorW.PrintMore
attribute [local go_sem] max2_int min2_int max_two min_two max_three min_three max_four min_four   -- for this text's walks alone
set_option linter.unusedVariables false
set_option linter.unusedSimpArgs false

/-! ### w22_CMatchesReference: function 3 -/
mutual
def w22_CMatchesReference.j0 : Nat → List Int → List (S47) → Bool → Bool → Bool → Int → Int → Int → Int → Int → Int → Bool → Option (Bool)
  | 0, _, _, _, _, _, _, _, _, _, _, _, _ => none
  | k + 1, x0, x1, x7, x22, x267000, x267001, x267002, x267003, x267004, x267005, x267006, x267007 => if x22 = true then (some x7) else (w22_CMatchesReference.l0 k x0 x1 x7 (([] : List (S31))) 0 x267000 x267001 x267002 x267003 x267004 x267005 x267006 x267007)
def w22_CMatchesReference.j2 : Nat → List Int → List (S47) → Bool → List (S31) → Bool → Int → Int → Int → Int → Int → Int → Bool → Option (Bool)
  | 0, _, _, _, _, _, _, _, _, _, _, _, _ => none
  | k + 1, x0, x1, x7, x8, x267000, x267001, x267002, x267003, x267004, x267005, x267006, x267007 => (v22_Form.f x267000 x267001 x267002 x267003 x267004 x267005 x267006 x267007).bind fun bt275 => (w22_CMatchesReference.l1 k x0 x1 x7 x8 0 bt275.1 bt275.2.1 bt275.2.2.1 bt275.2.2.2.1 bt275.2.2.2.2.1 bt275.2.2.2.2.2.1 bt275.2.2.2.2.2.2)
def w22_CMatchesReference.l1 : Nat → List Int → List (S47) → Bool → List (S31) → Int → Bool → Int → Int → Int → Int → Int → Int → Option (Bool)
  | 0, _, _, _, _, _, _, _, _, _, _, _, _ => none
  | k + 1, x0, x1, x7, x8, x11, x283000, x283001, x283002, x283003, x283004, x283005, x283006 => if x11 < (x0.length : Int) then (w22_CMatchesReference.j4 k x0 x1 x7 x8 x11 (decide (x11 < 8)) x283000 x283001 x283002 x283003 x283004 x283005 x283006) else (w22_CMatchesReference.j4 k x0 x1 x7 x8 x11 false x283000 x283001 x283002 x283003 x283004 x283005 x283006)
def w22_CMatchesReference.j4 : Nat → List Int → List (S47) → Bool → List (S31) → Int → Bool → Bool → Int → Int → Int → Int → Int → Int → Option (Bool)
  | 0, _, _, _, _, _, _, _, _, _, _, _, _, _ => none
  | k + 1, x0, x1, x7, x8, x11, x53, x283000, x283001, x283002, x283003, x283004, x283005, x283006 => if x53 = true then (if 0 ≤ x11 then (if x11 < (x0.length : Int) then ((coalesce_Static.f x283000 x283001 x283002 x283003 x283004 x283005 x283006 (rd x0 x11) (IntKind.u64.wrap (rd x0 x11))).bind fun t285 => ((v22_Static.f k x283000 x283001 x283002 x283003 x283004 x283005 x283006 (rd x0 x11) (IntKind.u64.wrap (rd x0 x11))).bind fun t288 => (if t285 = t288 then ((coalesce_Static.f x283000 x283001 x283002 x283003 x283004 x283005 x283006 (wrap64 (1 + (Go.bits .and .i64 (rd x0 x11) 63))) (Go.bits .xor .u64 18446744073709551615 (IntKind.u64.wrap (rd x0 x11)))).bind fun t291 => ((v22_Static.f k x283000 x283001 x283002 x283003 x283004 x283005 x283006 (wrap64 (1 + (Go.bits .and .i64 (rd x0 x11) 63))) (Go.bits .xor .u64 18446744073709551615 (IntKind.u64.wrap (rd x0 x11)))).bind fun t294 => (if t291 = t294 then (w22_CMatchesReference.l1 k x0 x1 x7 x8 (wrap64 (x11 + 1)) x283000 x283001 x283002 x283003 x283004 x283005 x283006) else (some false)))) else (some false)))) else (none)) else (none)) else ((coalesce_Segments.f x0).bind fun t295 => ((v22_Segments.f k x0).bind fun t298 => ((v22_SameInts.f k t295 t298).bind fun t301 => (if t301 = true then ((coalesce_Moves.f x1 x8).bind fun t302 => ((v22_Moves.f k x1 x8).bind fun t303 => (if t302 = t303 then (some x7) else (some false)))) else (some false)))))
def w22_CMatchesReference.l0 : Nat → List Int → List (S47) → Bool → List (S31) → Int → Bool → Int → Int → Int → Int → Int → Int → Bool → Option (Bool)
  | 0, _, _, _, _, _, _, _, _, _, _, _, _, _ => none
  | k + 1, x0, x1, x7, x8, x9, x267000, x267001, x267002, x267003, x267004, x267005, x267006, x267007 => if x9 < (x0.length : Int) then (if x9 < 12 then (if 0 ≤ x9 then (if x8.length < 3518437208883 then (w22_CMatchesReference.l0 k x0 x1 x7 (x8 ++ [(⟨(⟨#[]⟩ : ByteArray), Go.bits .and .i64 (rd x0 x9) 3, 0, 64⟩ : S31)]) (wrap64 (x9 + 1)) x267000 x267001 x267002 x267003 x267004 x267005 x267006 x267007) else (none)) else (none)) else (w22_CMatchesReference.j2 k x0 x1 x7 x8 x267000 x267001 x267002 x267003 x267004 x267005 x267006 x267007)) else (w22_CMatchesReference.j2 k x0 x1 x7 x8 x267000 x267001 x267002 x267003 x267004 x267005 x267006 x267007)
end
def w22_CMatchesReference.f (k : Nat) (l0 : List Int) (l1 : List (S47)) (a2_0 : Bool) (a2_1 : Int) (a2_2 : Int) (a2_3 : Int) (a2_4 : Int) (a2_5 : Int) (a2_6 : Int) (a2_7 : Bool) : Option (Bool) := (w22_examples.f k).bind fun t267 => (if t267 = true then (if (l0.length : Int) > 100 then (w22_CMatchesReference.j0 k l0 l1 t267 true a2_0 a2_1 a2_2 a2_3 a2_4 a2_5 a2_6 a2_7) else (w22_CMatchesReference.j0 k l0 l1 t267 (decide ((l1.length : Int) > 100)) a2_0 a2_1 a2_2 a2_3 a2_4 a2_5 a2_6 a2_7)) else (some false))
theorem w22_CMatchesReference.mono_l : ∀ k, (∀ y0 y1 y2 y3 y4 y5 y6 y7 y8 y9 y10 y11, LeO (w22_CMatchesReference.j0 k y0 y1 y2 y3 y4 y5 y6 y7 y8 y9 y10 y11) (w22_CMatchesReference.j0 (k + 1) y0 y1 y2 y3 y4 y5 y6 y7 y8 y9 y10 y11)) ∧ (∀ y0 y1 y2 y3 y4 y5 y6 y7 y8 y9 y10 y11, LeO (w22_CMatchesReference.j2 k y0 y1 y2 y3 y4 y5 y6 y7 y8 y9 y10 y11) (w22_CMatchesReference.j2 (k + 1) y0 y1 y2 y3 y4 y5 y6 y7 y8 y9 y10 y11)) ∧ (∀ y0 y1 y2 y3 y4 y5 y6 y7 y8 y9 y10 y11, LeO (w22_CMatchesReference.l1 k y0 y1 y2 y3 y4 y5 y6 y7 y8 y9 y10 y11) (w22_CMatchesReference.l1 (k + 1) y0 y1 y2 y3 y4 y5 y6 y7 y8 y9 y10 y11)) ∧ (∀ y0 y1 y2 y3 y4 y5 y6 y7 y8 y9 y10 y11 y12, LeO (w22_CMatchesReference.j4 k y0 y1 y2 y3 y4 y5 y6 y7 y8 y9 y10 y11 y12) (w22_CMatchesReference.j4 (k + 1) y0 y1 y2 y3 y4 y5 y6 y7 y8 y9 y10 y11 y12)) ∧ (∀ y0 y1 y2 y3 y4 y5 y6 y7 y8 y9 y10 y11 y12, LeO (w22_CMatchesReference.l0 k y0 y1 y2 y3 y4 y5 y6 y7 y8 y9 y10 y11 y12) (w22_CMatchesReference.l0 (k + 1) y0 y1 y2 y3 y4 y5 y6 y7 y8 y9 y10 y11 y12))
  | 0 => ⟨fun _ _ _ _ _ _ _ _ _ _ _ _ r h => by simp [w22_CMatchesReference.j0] at h, fun _ _ _ _ _ _ _ _ _ _ _ _ r h => by simp [w22_CMatchesReference.j2] at h, fun _ _ _ _ _ _ _ _ _ _ _ _ r h => by simp [w22_CMatchesReference.l1] at h, fun _ _ _ _ _ _ _ _ _ _ _ _ _ r h => by simp [w22_CMatchesReference.j4] at h, fun _ _ _ _ _ _ _ _ _ _ _ _ _ r h => by simp [w22_CMatchesReference.l0] at h⟩
  | k + 1 => by
    obtain ⟨ih0, ih1, ih2, ih3, ih4⟩ := w22_CMatchesReference.mono_l k
    refine ⟨?_, ?_, ?_, ?_, ?_⟩
    · intro y0 y1 y2 y3 y4 y5 y6 y7 y8 y9 y10 y11
      unfold w22_CMatchesReference.j0
      repeat' first
      | (with_reducible exact ih0 _ _ _ _ _ _ _ _ _ _ _ _)
      | (with_reducible exact ih1 _ _ _ _ _ _ _ _ _ _ _ _)
      | (with_reducible exact ih2 _ _ _ _ _ _ _ _ _ _ _ _)
      | (with_reducible exact ih3 _ _ _ _ _ _ _ _ _ _ _ _ _)
      | (with_reducible exact ih4 _ _ _ _ _ _ _ _ _ _ _ _ _)
      | (with_reducible exact v22_Moves.mono _ _ _)
      | (with_reducible exact v22_SameInts.mono _ _ _)
      | (with_reducible exact v22_Segments.mono _ _)
      | (with_reducible exact v22_Static.mono _ _ _ _ _ _ _ _ _ _)
      | (with_reducible exact w22_examples.mono _)
      | (with_reducible exact LeO.refl _)
      | (with_reducible exact LeO.none _)
      | (with_reducible refine LeO.ite ?_ ?_)
      | (with_reducible refine LeO.bind ?_ (fun _ => ?_))
      | exact ih0 _ _ _ _ _ _ _ _ _ _ _ _
      | exact ih1 _ _ _ _ _ _ _ _ _ _ _ _
      | exact ih2 _ _ _ _ _ _ _ _ _ _ _ _
      | exact ih3 _ _ _ _ _ _ _ _ _ _ _ _ _
      | exact ih4 _ _ _ _ _ _ _ _ _ _ _ _ _
      | exact v22_Moves.mono _ _ _
      | exact v22_SameInts.mono _ _ _
      | exact v22_Segments.mono _ _
      | exact v22_Static.mono _ _ _ _ _ _ _ _ _ _
      | exact w22_examples.mono _
      | exact LeO.none _
      | refine LeO.ite ?_ ?_
      | refine LeO.bind ?_ (fun _ => ?_)
    · intro y0 y1 y2 y3 y4 y5 y6 y7 y8 y9 y10 y11
      unfold w22_CMatchesReference.j2
      repeat' first
      | (with_reducible exact ih0 _ _ _ _ _ _ _ _ _ _ _ _)
      | (with_reducible exact ih1 _ _ _ _ _ _ _ _ _ _ _ _)
      | (with_reducible exact ih2 _ _ _ _ _ _ _ _ _ _ _ _)
      | (with_reducible exact ih3 _ _ _ _ _ _ _ _ _ _ _ _ _)
      | (with_reducible exact ih4 _ _ _ _ _ _ _ _ _ _ _ _ _)
      | (with_reducible exact v22_Moves.mono _ _ _)
      | (with_reducible exact v22_SameInts.mono _ _ _)
      | (with_reducible exact v22_Segments.mono _ _)
      | (with_reducible exact v22_Static.mono _ _ _ _ _ _ _ _ _ _)
      | (with_reducible exact w22_examples.mono _)
      | (with_reducible exact LeO.refl _)
      | (with_reducible exact LeO.none _)
      | (with_reducible refine LeO.ite ?_ ?_)
      | (with_reducible refine LeO.bind ?_ (fun _ => ?_))
      | exact ih0 _ _ _ _ _ _ _ _ _ _ _ _
      | exact ih1 _ _ _ _ _ _ _ _ _ _ _ _
      | exact ih2 _ _ _ _ _ _ _ _ _ _ _ _
      | exact ih3 _ _ _ _ _ _ _ _ _ _ _ _ _
      | exact ih4 _ _ _ _ _ _ _ _ _ _ _ _ _
      | exact v22_Moves.mono _ _ _
      | exact v22_SameInts.mono _ _ _
      | exact v22_Segments.mono _ _
      | exact v22_Static.mono _ _ _ _ _ _ _ _ _ _
      | exact w22_examples.mono _
      | exact LeO.none _
      | refine LeO.ite ?_ ?_
      | refine LeO.bind ?_ (fun _ => ?_)
    · intro y0 y1 y2 y3 y4 y5 y6 y7 y8 y9 y10 y11
      unfold w22_CMatchesReference.l1
      repeat' first
      | (with_reducible exact ih0 _ _ _ _ _ _ _ _ _ _ _ _)
      | (with_reducible exact ih1 _ _ _ _ _ _ _ _ _ _ _ _)
      | (with_reducible exact ih2 _ _ _ _ _ _ _ _ _ _ _ _)
      | (with_reducible exact ih3 _ _ _ _ _ _ _ _ _ _ _ _ _)
      | (with_reducible exact ih4 _ _ _ _ _ _ _ _ _ _ _ _ _)
      | (with_reducible exact v22_Moves.mono _ _ _)
      | (with_reducible exact v22_SameInts.mono _ _ _)
      | (with_reducible exact v22_Segments.mono _ _)
      | (with_reducible exact v22_Static.mono _ _ _ _ _ _ _ _ _ _)
      | (with_reducible exact w22_examples.mono _)
      | (with_reducible exact LeO.refl _)
      | (with_reducible exact LeO.none _)
      | (with_reducible refine LeO.ite ?_ ?_)
      | (with_reducible refine LeO.bind ?_ (fun _ => ?_))
      | exact ih0 _ _ _ _ _ _ _ _ _ _ _ _
      | exact ih1 _ _ _ _ _ _ _ _ _ _ _ _
      | exact ih2 _ _ _ _ _ _ _ _ _ _ _ _
      | exact ih3 _ _ _ _ _ _ _ _ _ _ _ _ _
      | exact ih4 _ _ _ _ _ _ _ _ _ _ _ _ _
      | exact v22_Moves.mono _ _ _
      | exact v22_SameInts.mono _ _ _
      | exact v22_Segments.mono _ _
      | exact v22_Static.mono _ _ _ _ _ _ _ _ _ _
      | exact w22_examples.mono _
      | exact LeO.none _
      | refine LeO.ite ?_ ?_
      | refine LeO.bind ?_ (fun _ => ?_)
    · intro y0 y1 y2 y3 y4 y5 y6 y7 y8 y9 y10 y11 y12
      unfold w22_CMatchesReference.j4
      repeat' first
      | (with_reducible exact ih0 _ _ _ _ _ _ _ _ _ _ _ _)
      | (with_reducible exact ih1 _ _ _ _ _ _ _ _ _ _ _ _)
      | (with_reducible exact ih2 _ _ _ _ _ _ _ _ _ _ _ _)
      | (with_reducible exact ih3 _ _ _ _ _ _ _ _ _ _ _ _ _)
      | (with_reducible exact ih4 _ _ _ _ _ _ _ _ _ _ _ _ _)
      | (with_reducible exact v22_Moves.mono _ _ _)
      | (with_reducible exact v22_SameInts.mono _ _ _)
      | (with_reducible exact v22_Segments.mono _ _)
      | (with_reducible exact v22_Static.mono _ _ _ _ _ _ _ _ _ _)
      | (with_reducible exact w22_examples.mono _)
      | (with_reducible exact LeO.refl _)
      | (with_reducible exact LeO.none _)
      | (with_reducible refine LeO.ite ?_ ?_)
      | (with_reducible refine LeO.bind ?_ (fun _ => ?_))
      | exact ih0 _ _ _ _ _ _ _ _ _ _ _ _
      | exact ih1 _ _ _ _ _ _ _ _ _ _ _ _
      | exact ih2 _ _ _ _ _ _ _ _ _ _ _ _
      | exact ih3 _ _ _ _ _ _ _ _ _ _ _ _ _
      | exact ih4 _ _ _ _ _ _ _ _ _ _ _ _ _
      | exact v22_Moves.mono _ _ _
      | exact v22_SameInts.mono _ _ _
      | exact v22_Segments.mono _ _
      | exact v22_Static.mono _ _ _ _ _ _ _ _ _ _
      | exact w22_examples.mono _
      | exact LeO.none _
      | refine LeO.ite ?_ ?_
      | refine LeO.bind ?_ (fun _ => ?_)
    · intro y0 y1 y2 y3 y4 y5 y6 y7 y8 y9 y10 y11 y12
      unfold w22_CMatchesReference.l0
      repeat' first
      | (with_reducible exact ih0 _ _ _ _ _ _ _ _ _ _ _ _)
      | (with_reducible exact ih1 _ _ _ _ _ _ _ _ _ _ _ _)
      | (with_reducible exact ih2 _ _ _ _ _ _ _ _ _ _ _ _)
      | (with_reducible exact ih3 _ _ _ _ _ _ _ _ _ _ _ _ _)
      | (with_reducible exact ih4 _ _ _ _ _ _ _ _ _ _ _ _ _)
      | (with_reducible exact v22_Moves.mono _ _ _)
      | (with_reducible exact v22_SameInts.mono _ _ _)
      | (with_reducible exact v22_Segments.mono _ _)
      | (with_reducible exact v22_Static.mono _ _ _ _ _ _ _ _ _ _)
      | (with_reducible exact w22_examples.mono _)
      | (with_reducible exact LeO.refl _)
      | (with_reducible exact LeO.none _)
      | (with_reducible refine LeO.ite ?_ ?_)
      | (with_reducible refine LeO.bind ?_ (fun _ => ?_))
      | exact ih0 _ _ _ _ _ _ _ _ _ _ _ _
      | exact ih1 _ _ _ _ _ _ _ _ _ _ _ _
      | exact ih2 _ _ _ _ _ _ _ _ _ _ _ _
      | exact ih3 _ _ _ _ _ _ _ _ _ _ _ _ _
      | exact ih4 _ _ _ _ _ _ _ _ _ _ _ _ _
      | exact v22_Moves.mono _ _ _
      | exact v22_SameInts.mono _ _ _
      | exact v22_Segments.mono _ _
      | exact v22_Static.mono _ _ _ _ _ _ _ _ _ _
      | exact w22_examples.mono _
      | exact LeO.none _
      | refine LeO.ite ?_ ?_
      | refine LeO.bind ?_ (fun _ => ?_)
theorem w22_CMatchesReference.mono : ∀ a0 a1 a2 a3 a4 a5 a6 a7 a8 a9 k, LeO (w22_CMatchesReference.f k a0 a1 a2 a3 a4 a5 a6 a7 a8 a9) (w22_CMatchesReference.f (k + 1) a0 a1 a2 a3 a4 a5 a6 a7 a8 a9) := by
  intro a0 a1 a2 a3 a4 a5 a6 a7 a8 a9 k
  obtain ⟨ih0, ih1, ih2, ih3, ih4⟩ := w22_CMatchesReference.mono_l k
  unfold w22_CMatchesReference.f
  repeat' first
      | (with_reducible exact ih0 _ _ _ _ _ _ _ _ _ _ _ _)
      | (with_reducible exact ih1 _ _ _ _ _ _ _ _ _ _ _ _)
      | (with_reducible exact ih2 _ _ _ _ _ _ _ _ _ _ _ _)
      | (with_reducible exact ih3 _ _ _ _ _ _ _ _ _ _ _ _ _)
      | (with_reducible exact ih4 _ _ _ _ _ _ _ _ _ _ _ _ _)
      | (with_reducible exact v22_Moves.mono _ _ _)
      | (with_reducible exact v22_SameInts.mono _ _ _)
      | (with_reducible exact v22_Segments.mono _ _)
      | (with_reducible exact v22_Static.mono _ _ _ _ _ _ _ _ _ _)
      | (with_reducible exact w22_examples.mono _)
      | (with_reducible exact LeO.refl _)
      | (with_reducible exact LeO.none _)
      | (with_reducible refine LeO.ite ?_ ?_)
      | (with_reducible refine LeO.bind ?_ (fun _ => ?_))
      | exact ih0 _ _ _ _ _ _ _ _ _ _ _ _
      | exact ih1 _ _ _ _ _ _ _ _ _ _ _ _
      | exact ih2 _ _ _ _ _ _ _ _ _ _ _ _
      | exact ih3 _ _ _ _ _ _ _ _ _ _ _ _ _
      | exact ih4 _ _ _ _ _ _ _ _ _ _ _ _ _
      | exact v22_Moves.mono _ _ _
      | exact v22_SameInts.mono _ _ _
      | exact v22_Segments.mono _ _
      | exact v22_Static.mono _ _ _ _ _ _ _ _ _ _
      | exact w22_examples.mono _
      | exact LeO.none _
      | refine LeO.ite ?_ ?_
      | refine LeO.bind ?_ (fun _ => ?_)
def w22_CMatchesReference.T15 : Bool × List (List Nat × List Nat) := (true, [([], []), ([], []), ([], []), ([1, 2], [1, 2]), ([3], [3]), ([], []), ([], []), ([5, 6], [5, 6]), ([7], [7]), ([8], [8]), ([0, 4, 9], [0, 4, 9]), ([], []), ([], []), ([], []), ([12, 13], [12, 13]), ([14], [14]), ([], []), ([], []), ([16, 17], [16, 17]), ([18], [18]), ([19], [19]), ([11, 15, 20, 10], [11, 15, 20]), ([10, 21], [10, 21]), ([22, 21], [22]), ([23], [23]), ([23], [23]), ([23], [23]), ([25, 26, 23], [23, 25, 26]), ([27, 23], [23, 27]), ([28, 23], [23, 28]), ([29, 23], [23, 29]), ([23], [23]), ([23], [23]), ([31, 32, 23], [23, 31, 32]), ([33, 23], [23, 33]), ([34, 23], [23, 34]), ([35, 23], [23, 35]), ([24, 30, 36, 23, 23], [23, 24, 30, 36]), ([23], [23]), ([23], [23]), ([23], [23]), ([39, 40, 23], [23, 39, 40]), ([41, 23], [23, 41]), ([42, 23], [23, 42]), ([43, 23], [23, 43]), ([23], [23]), ([23], [23]), ([45, 46, 23], [23, 45, 46]), ([47, 23], [23, 47]), ([48, 23], [23, 48]), ([49, 23], [23, 49]), ([38, 44, 50, 37, 23], [23, 38, 44, 50]), ([37, 51, 23], [23, 37, 51]), ([23, 52], [23, 52])])
def w22_CMatchesReference.B15 : List Nat := [0, 0, 0, 6, 14, 0, 0, 96, 224, 480, 1023, 0, 0, 0, 12288, 28672, 0, 0, 196608, 458752, 983040, 2097151, 4194303, 8388607, 16777215, 16777215, 16777215, 117440511, 251658239, 520093695, 1056964607, 16777215, 16777215, 6459228159, 15049162751, 32229031935, 66588770303, 137438953471, 16777215, 16777215, 16777215, 1649284218879, 3848307474431, 8246353985535, 17042447007743, 16777215, 16777215, 105553133043711, 246290621399039, 527765598109695, 1090715551531007, 2251799813685247, 4503599627370495, 9007199254740991]
theorem w22_CMatchesReference.tab15 : rtab .any (opsOf Tryd.f3 15) = w22_CMatchesReference.T15 := by kernel_rfl
theorem w22_CMatchesReference.bits15 : waitsOk w22_CMatchesReference.T15.2 w22_CMatchesReference.B15 = true := by kernel_rfl
set_option maxHeartbeats 8000000 in
set_option maxRecDepth 100000 in
theorem w22_CMatchesReference.calls (k : Nat) (A0 : Option Addr) (c0 : Nat) (l0 : List Int) (A1 : Option Addr) (c1 : Nat) (l1 : List (S47)) (a2_0 : Bool) (a2_1 : Int) (a2_2 : Int) (a2_3 : Int) (a2_4 : Int) (a2_5 : Int) (a2_6 : Int) (a2_7 : Bool) (r : Bool) (w : World) (hr0 : Kd.C (Kd.int .i64) w A0 l0.length l0) (hc0 : l0.length ≤ c0) (hr1 : Kd.C k47 w A1 l1.length l1) (hc1 : l1.length ≤ c1) (h : w22_CMatchesReference.f k l0 l1 a2_0 a2_1 a2_2 a2_3 a2_4 a2_5 a2_6 a2_7 = some r) (HT : Tab w := by exact Tab.below HT (by repeat (first | (with_reducible first | exact HB.out | apply pA | apply pN | apply p1_) | exact HB.out))) :
    Calls Tryd.prog 3 #[.slice A0 l0.length c0, .slice A1 l1.length c1, .agg #[.bool a2_0, .int .i16 a2_1, .int .i16 a2_2, .int .i16 a2_3, .int .i32 a2_4, .int .u16 a2_5, .int .u16 a2_6, .bool a2_7]] w fun e w' => e = .returned (.bool r) ∧ Below w.heap.size w w' := by
  have hu27 := Tryd.underlying27
  have hu31 := Tryd.underlying31
  have hu35 := Tryd.underlying35
  have HR0 := Aside0.mk hr0
  have HC0 := Aside0.mk hc0
  clear hr0 hc0
  have HR1 := Aside0.mk hr1
  have HC1 := Aside0.mk hc1
  clear hr1 hc1
  have HB := Aside0.mk (Below.refl w.heap.size w)
  have H : ((w22_examples.f k).bind fun t267 => (if t267 = true then (if (l0.length : Int) > 100 then (w22_CMatchesReference.j0 k l0 l1 t267 true a2_0 a2_1 a2_2 a2_3 a2_4 a2_5 a2_6 a2_7) else (w22_CMatchesReference.j0 k l0 l1 t267 (decide ((l1.length : Int) > 100)) a2_0 a2_1 a2_2 a2_3 a2_4 a2_5 a2_6 a2_7)) else (some false))) = some r := h
  clear h
  replace H := Option.bind_eq_some_iff.mp H
  obtain ⟨t267, A40, H⟩ := H
  replace H : (if t267 = true then (if (l0.length : Int) > 100 then (w22_CMatchesReference.j0 k l0 l1 t267 true a2_0 a2_1 a2_2 a2_3 a2_4 a2_5 a2_6 a2_7) else (w22_CMatchesReference.j0 k l0 l1 t267 (decide ((l1.length : Int) > 100)) a2_0 a2_1 a2_2 a2_3 a2_4 a2_5 a2_6 a2_7)) else (some false)) = some r := H
  have A4 := Aside0.mk A40
  clear A40
  by_cases c5 : t267 = true
  · subst c5
    have H1 : (if (l0.length : Int) > 100 then (w22_CMatchesReference.j0 k l0 l1 true true a2_0 a2_1 a2_2 a2_3 a2_4 a2_5 a2_6 a2_7) else (w22_CMatchesReference.j0 k l0 l1 true (decide ((l1.length : Int) > 100)) a2_0 a2_1 a2_2 a2_3 a2_4 a2_5 a2_6 a2_7)) = some r := by rw [if_pos rfl] at H; exact H
    clear H
    have H := H1
    clear H1
    have HC6 := Aside0.mk H
    clear H
    go_enter Tryd.func3, Tryd.ntmps3
    go_upto_region 4 with (first | ((with_reducible refine gate_dst (N := 5) rfl ?_); (try (refine gate_guard (by rfl) ?_; dsimp only)); refine box_event ?hg (N := 5) ?hd (cs := #[.bool a2_0, .int .i16 a2_1, .int .i16 a2_2, .int .i16 a2_3, .int .i32 a2_4, .int .u16 a2_5, .int .u16 a2_6, .bool a2_7]) (t := 27) ?hr ?_; (case hd => rfl); (case hg => rfl); (case hr => first | (go_simp; done) | (go_simp; rfl)); intro gb266 hg w7 hbox hb; have n0_ := Aside0.mk (below_step (by repeat (first | (with_reducible first | exact HB.out | apply pA | apply pN | apply p1_) | exact HB.out)) hb); have n1_ := Aside0.mk (hbox); have n2_ := Aside0.mk ((by rw [hg]; exact (below_size (by repeat (first | (with_reducible first | exact HB.out | apply pA | apply pN | apply p1_) | exact HB.out))) : w.heap.size ≤ gb266)); have n3_ := Aside0.mk ((by rw [hg]; exact (below_size (by repeat (first | (with_reducible first | exact HB.out | apply pA | apply pN | apply p1_) | exact HB.out))) : w.heap.size ≤ gb266)); clear HB; have HB := n0_; have BK266 := n1_; have GW266 := n2_; have GE266 := n3_; clear n0_ n1_ n2_ n3_; clear hb hbox hg) | ((with_reducible refine gate_callee (f := 9) rfl ?_); refine goesL_ (some 12) rfl rfl Tryd.func9 (by kernel_rfl) rfl #[] rfl (by (try simp only [List.map_toArray, List.map_cons, List.map_nil]); first | done | rfl | (simp only [List.length_drop, List.length_take]; rfl)) ?_; (with_reducible refine (w22_examples.calls k  true _ A4.out).mono ?_); rintro e w8 ⟨rfl, hb⟩; refine ⟨_, rfl, ?_⟩; have n0_ := Aside0.mk (bB (g := gb266) (o := .cells #[.bool a2_0, .int .i16 a2_1, .int .i16 a2_2, .int .i16 a2_3, .int .i32 a2_4, .int .u16 a2_5, .int .u16 a2_6, .bool a2_7] 27 (0, 0)) (by (with_reducible repeat (first | refine bN ?_ _ | refine bD ?_ | refine bA ?_ _)); exact BK266.out) hb); have n1_ := Aside0.mk (below_step (by repeat (first | (with_reducible first | exact HB.out | apply pA | apply pN | apply p1_ | refine bS ?_ GE266.out) | exact HB.out)) hb); clear BK266; clear HB; have BK266 := n0_; have HB := n1_; clear n0_ n1_; (try clear hb); (try clear hb2); (try clear hk); (try clear hi)))
    (try simp only [Act.put, sI, sZ, sS])
    go_cut [22] (fun v22 wc => ∃ (kq : Nat) (x22_5 : Bool), v22 = .bool x22_5 ∧ Aside0 (w22_CMatchesReference.j0 kq l0 l1 true x22_5 a2_0 a2_1 a2_2 a2_3 a2_4 a2_5 a2_6 a2_7 = some r) ∧ Aside0 (kq ≤ k) ∧ Aside0 (wc.heap[gb266]? = some (.cells #[.bool a2_0, .int .i16 a2_1, .int .i16 a2_2, .int .i16 a2_3, .int .i32 a2_4, .int .u16 a2_5, .int .u16 a2_6, .bool a2_7] 27 (0, 0))) ∧ Aside0 (Below w.heap.size w wc))
    case first =>
      have H := HC6.out
      clear HC6
      by_cases c9 : (l0.length : Int) > 100
      · rw [if_pos c9] at H
        have c9b0 : decide (100 < (l0.length : Int)) = true := decide_eq_true c9
        have c9b1 : decide (100 < l0.length) = true := decide_eq_true (by omega)
        clear c9
        (first | rw [c9b0] | (simp only [i64_w, i32_w]; rw [c9b0]) | skip)
        have H' := Aside0.mk H
        clear H
        go_wp2
        go_meet
        case rel => exact ⟨_, (true), (by first | rfl | (simp; done) | (simp [*]; done)), H', ⟨by first | omega | exact Nat.le_refl _⟩, ⟨by (with_reducible repeat (first | refine bN ?_ _ | refine bD ?_ | refine bA ?_ _)); exact BK266.out⟩, ⟨by repeat (first | (with_reducible first | exact HB.out | apply pA | apply pN | apply p1_ | refine bS ?_ GE266.out) | exact HB.out)⟩⟩
      · rw [if_neg c9] at H
        have c9b0 : decide (100 < (l0.length : Int)) = false := decide_eq_false c9
        have c9b1 : decide (100 < l0.length) = false := decide_eq_false (by omega)
        clear c9
        (first | rw [c9b0] | (simp only [i64_w, i32_w]; rw [c9b0]) | skip)
        have H' := Aside0.mk H
        clear H
        go_wp2
        go_meet
        case rel => exact ⟨_, (decide ((l1.length : Int) > 100)), (by first | rfl | (simp; done) | (simp [*]; done)), H', ⟨by first | omega | exact Nat.le_refl _⟩, ⟨by (with_reducible repeat (first | refine bN ?_ _ | refine bD ?_ | refine bA ?_ _)); exact BK266.out⟩, ⟨by repeat (first | (with_reducible first | exact HB.out | apply pA | apply pN | apply p1_ | refine bS ?_ GE266.out) | exact HB.out)⟩⟩
    case rest =>
      clear HC6
      try clear c1
      try clear p2
      try clear c3
      try clear c5
      try clear c9
      try clear c9b0
      try clear c9b1
      obtain ⟨kq, x22_5, rfl, HA, HJ5, BK266, HB⟩ := hcut
      cases kq with
      | zero => exact absurd HA.out (by simp [w22_CMatchesReference.j0])
      | succ kj5 =>
        have H := HA.out
        clear HA
        simp only [w22_CMatchesReference.j0] at H
        by_cases c10 : x22_5 = true
        · subst c10
          have H1 : (some true) = some r := by rw [if_pos rfl] at H; exact H
          clear H
          have H := H1
          clear H1
          obtain rfl := Option.some.inj H
          go_wp2
          go_ret
          exact ⟨by first | rfl | (simp [errW_none, errW_some] <;> rfl) | (simp [*, errW_none, errW_some] <;> rfl), by repeat (first | (with_reducible first | exact HB.out | apply pA | apply pN | apply p1_ | refine bS ?_ GE266.out) | exact HB.out)⟩
        · replace c10 := Bool.eq_false_iff.mpr c10
          subst c10
          have H1 : (w22_CMatchesReference.l0 kj5 l0 l1 true (([] : List (S31))) 0 a2_0 a2_1 a2_2 a2_3 a2_4 a2_5 a2_6 a2_7) = some r := by rw [if_neg (show ¬ (false = true) by decide)] at H; exact H
          clear H
          have H := H1
          clear H1
          obtain ⟨y268, hy268⟩ : ∃ y_ : List (S31), y_ = (([] : List (S31))) := ⟨_, rfl⟩
          replace H : (w22_CMatchesReference.l0 kj5 l0 l1 true y268 0 a2_0 a2_1 a2_2 a2_3 a2_4 a2_5 a2_6 a2_7) = some r := by first | (rw [hy268]; with_reducible exact H) | (have H2_ := (Option.bind_some _ _).symm.trans H; rw [hy268]; with_reducible exact H2_) | (have H2_ := (Option.bind_some _ _).symm.trans H; with_reducible exact H2_) | with_reducible exact H | (rw [hy268]; exact H) | exact H
          have Ny268 := Aside0.mk hy268
          clear hy268
          have HC11 := Aside0.mk H
          clear H
          go_upto_block 0 with (first | ((with_reducible refine gate_dst (N := 24) rfl ?_); (try (refine gate_guard (by rfl) ?_; dsimp only)); refine Kd.R_lit k31 _ 31 ?hg (N := 24) ?hd (xs := ([] : List (S31))) (inner := []) (ok := fun _ => True) (okp := fun _ => True) ?hr ?hp (fun _ hk => hk) trivial (Below.refl _ _) (Nat.le_refl _) (by simp) ?_; (case hd => rfl); (case hg => rfl); (case hr => first | (go_simp; done) | (go_simp; rfl)); (case hp => exact (Reps.none _ _)); intro v269 w12 ho13 hb hg_ hnew_; clear hg_ hnew_; (first | rw [← Ny268.out] at ho13 | (simp only [Int.reduceToNat] at ho13; rw [← Ny268.out] at ho13)); have n0_ := Aside0.mk (Kd.R_lower ho13 (below_size (by repeat (first | (with_reducible first | exact HB.out | apply pA | apply pN | apply p1_ | refine bS ?_ GE266.out) | exact HB.out)))); have n1_ := Aside0.mk (bB (g := gb266) (o := .cells #[.bool a2_0, .int .i16 a2_1, .int .i16 a2_2, .int .i16 a2_3, .int .i32 a2_4, .int .u16 a2_5, .int .u16 a2_6, .bool a2_7] 27 (0, 0)) (by (with_reducible repeat (first | refine bN ?_ _ | refine bD ?_ | refine bA ?_ _)); exact BK266.out) hb); have n2_ := Aside0.mk (below_step (by repeat (first | (with_reducible first | exact HB.out | apply pA | apply pN | apply p1_ | refine bS ?_ GE266.out) | exact HB.out)) hb); clear BK266; clear HB; have HO270 := n0_; have BK266 := n1_; have HB := n2_; clear n0_ n1_ n2_; clear hb ho13))
          (try simp only [Act.put, sI, sZ, sS])
          go_cut [8] (fun v8 wc => ∃ (kq : Nat) (x8_10 : List (S31)), Aside0 (w22_CMatchesReference.j2 kq l0 l1 true x8_10 a2_0 a2_1 a2_2 a2_3 a2_4 a2_5 a2_6 a2_7 = some r) ∧ Aside0 (kq ≤ kj5) ∧ Aside0 (Kd.R k31 31 wc w.heap.size (fun _ => True) v8 x8_10) ∧ Aside0 (wc.heap[gb266]? = some (.cells #[.bool a2_0, .int .i16 a2_1, .int .i16 a2_2, .int .i16 a2_3, .int .i32 a2_4, .int .u16 a2_5, .int .u16 a2_6, .bool a2_7] 27 (0, 0))) ∧ Aside0 (Below w.heap.size w wc))
          case first =>
            have H := HC11.out
            clear HC11
            have H' := Aside0.mk H
            clear H
            go_wp2
            go_loopg [8, 9] kj5 (fun kq v8 v9 w' => ∃ (x8_2 : List (S31)) (x9_2 : Int), v9 = .int .i64 x9_2 ∧ Aside0 (w22_CMatchesReference.l0 kq l0 l1 true x8_2 x9_2 a2_0 a2_1 a2_2 a2_3 a2_4 a2_5 a2_6 a2_7 = some r) ∧ Aside0 (kq ≤ kj5) ∧ Aside0 (Kd.R k31 31 w' w.heap.size (fun _ => True) v8 x8_2) ∧ Aside0 (w'.heap[gb266]? = some (.cells #[.bool a2_0, .int .i16 a2_1, .int .i16 a2_2, .int .i16 a2_3, .int .i32 a2_4, .int .u16 a2_5, .int .u16 a2_6, .bool a2_7] 27 (0, 0))) ∧ Aside0 (Below w.heap.size w w'))
            case atStart => exact ⟨(y268), (0), (by first | rfl | (simp; done) | (simp [*]; done)), H', ⟨Nat.le_refl _⟩, ⟨by (with_reducible repeat (first | apply Kd.R_alloc | apply Kd.R_drewN | apply Kd.R_drew)); exact HO270.out⟩, ⟨by (with_reducible repeat (first | refine bN ?_ _ | refine bD ?_ | refine bA ?_ _)); exact BK266.out⟩, ⟨by repeat (first | (with_reducible first | exact HB.out | apply pA | apply pN | apply p1_ | refine bS ?_ GE266.out) | exact HB.out)⟩⟩
            case round =>
              clear H'
              try clear c1
              try clear p2
              try clear c3
              try clear c5
              try clear c9
              try clear c9b0
              try clear c9b1
              try clear c10
              try clear p2
              obtain ⟨x8_2, x9_2, rfl, HA, HK2, HO_8, BK266, HB⟩ := hrel
              cases gk with
              | zero => exact absurd HA.out (by simp [w22_CMatchesReference.l0])
              | succ k2 =>
                have H := HA.out
                clear HA
                simp only [w22_CMatchesReference.l0] at H
                by_cases c14 : x9_2 < (l0.length : Int)
                · rw [if_pos c14] at H
                  have c14b0 : decide (x9_2 < (l0.length : Int)) = true := decide_eq_true c14
                  clear c14
                  (first | rw [c14b0] | (simp only [i64_w, i32_w]; rw [c14b0]) | skip)
                  by_cases c15 : x9_2 < 12
                  · rw [if_pos c15] at H
                    have c15b0 : decide (x9_2 < 12) = true := decide_eq_true c15
                    clear c15
                    by_cases c16 : 0 ≤ x9_2
                    · rw [if_pos c16] at H
                      have c16b0 : decide (0 ≤ x9_2) = true := decide_eq_true c16
                      clear c16
                      by_cases c17 : x8_2.length < 3518437208883
                      · rw [if_pos c17] at H
                        have LMc17 := Aside0.mk c17
                        clear c17
                        obtain ⟨y272, hy272⟩ : ∃ y_ : List (S31), y_ = (x8_2 ++ [(⟨(⟨#[]⟩ : ByteArray), Go.bits .and .i64 (rd l0 x9_2) 3, 0, 64⟩ : S31)]) := ⟨_, rfl⟩
                        replace H : (w22_CMatchesReference.l0 k2 l0 l1 true y272 (wrap64 (x9_2 + 1)) a2_0 a2_1 a2_2 a2_3 a2_4 a2_5 a2_6 a2_7) = some r := by first | (rw [hy272]; with_reducible exact H) | (have H2_ := (Option.bind_some _ _).symm.trans H; rw [hy272]; with_reducible exact H2_) | (have H2_ := (Option.bind_some _ _).symm.trans H; with_reducible exact H2_) | with_reducible exact H | (rw [hy272]; exact H) | exact H
                        have Ny272 := Aside0.mk hy272
                        clear hy272
                        have H' := Aside0.mk H
                        clear H
                        have p271 : 0 ≤ (x9_2 : Int) := of_decide_eq_true (by first | (with_reducible assumption) | assumption)
                        have q271 : x9_2 < (l0.length : Int) := of_decide_eq_true (by first | (with_reducible assumption) | assumption)
                        obtain ⟨ad271, e271, hx271_0⟩ := Kd.at_int HR0.out x9_2 p271 q271
                        cases e271
                        replace hx271_0 := (HB.out.cell (World.block_lt_of_cell? w _ hx271_0)).trans hx271_0
                        replace p271 := eq_true p271
                        replace q271 := eq_true q271
                        go_wp2_with (first | ((with_reducible refine gate_builtin (b := .append) (xs := #[.tmp 35, .tmp 42]) rfl ?_); (try (refine gate_guard (by rfl) ?_; dsimp only)); at_builtin; refine Kd.R_append k31 (w0 := w) w.heap.size rfl (.tmp 35) (.tmp 42) 29 31 (.agg #[(.string ⟨#[]⟩), (.int .i64 0), (.int .i64 0), (.int .i64 0)]) 40 rfl Tryd.underlying29 info31 rfl (by decide) (by omega) u8 x8_2 (⟨(⟨#[]⟩ : ByteArray), Go.bits .and .i64 (rd l0 x9_2) 3, 0, 64⟩ : S31) [.string (⟨#[]⟩ : ByteArray), .int .i64 (Go.bits .and .i64 (rd l0 x9_2) 3), .int .i64 0, .int .i64 64] (fun _ => True) (fun _ => False) rfl rfl ?aP (fun _ hk => hk.elim) ?aF ?aO ?aB ?aS ?aL ?_; (case aP => exact k31_mkM _ _ _ (⟨(⟨#[]⟩ : ByteArray), Go.bits .and .i64 (rd l0 x9_2) 3, 0, 64⟩ : S31)); (case aB => exact (by repeat (first | (with_reducible first | exact HB.out | apply pA | apply pN | apply p1_ | refine bS ?_ GE266.out) | exact HB.out))); (case aF => exact (fun _ _ => trivial)); (case aO => exact (by (with_reducible repeat (first | apply Kd.R_alloc | apply Kd.R_drewN | apply Kd.R_drew)); exact HO_8.out)); (case aS => exact (below_size (by repeat (first | (with_reducible first | exact HB.out | apply pA | apply pN | apply p1_ | refine bS ?_ GE266.out) | exact HB.out)))); (case aL => have := LMc17.out; omega); intro v273 w18 ho hb hg hat; rw [← Ny272.out] at ho; have n0_ := Aside0.mk (blk_grown (g := gb266) (o := .cells #[.bool a2_0, .int .i16 a2_1, .int .i16 a2_2, .int .i16 a2_3, .int .i32 a2_4, .int .u16 a2_5, .int .u16 a2_6, .bool a2_7] 27 (0, 0)) (by (with_reducible repeat (first | refine bN ?_ _ | refine bD ?_ | refine bA ?_ _)); exact BK266.out) hg (Kd.R_ne HO_8.out BK266.out (by decide))); have n1_ := Aside0.mk (hb); have n2_ := Aside0.mk (ho); clear BK266; clear HB; clear HO_8; have BK266 := n0_; have HB := n1_; have HO274 := n2_; clear n0_ n1_ n2_; clear ho hb hg hat))
                        go_roundg k2
                        case measure => have := HJ5.out; have := HK2.out; omega
                        case rel => exact ⟨(y272), (wrap64 (x9_2 + 1)), (by first | rfl | (simp; done) | (simp [*]; done)), H', ⟨by have := HJ5.out; have := HK2.out; omega⟩, ⟨by (with_reducible repeat (first | apply Kd.R_alloc | apply Kd.R_drewN | apply Kd.R_drew)); exact HO274.out⟩, ⟨by (with_reducible repeat (first | refine bN ?_ _ | refine bD ?_ | refine bA ?_ _)); exact BK266.out⟩, ⟨by repeat (first | (with_reducible first | exact HB.out | apply pA | apply pN | apply p1_ | refine bS ?_ GE266.out) | exact HB.out)⟩⟩
                      · rw [if_neg c17] at H
                        exact absurd H (by simp)
                    · rw [if_neg c16] at H
                      exact absurd H (by simp)
                  · rw [if_neg c15] at H
                    have c15b0 : decide (x9_2 < 12) = false := decide_eq_false c15
                    clear c15
                    have H' := Aside0.mk H
                    clear H
                    go_wp2
                    go_meet
                    case rel => exact ⟨_, (x8_2), H', ⟨by have := HJ5.out; have := HK2.out; first | omega | exact Nat.le_refl _⟩, ⟨by (with_reducible repeat (first | apply Kd.R_alloc | apply Kd.R_drewN | apply Kd.R_drew)); exact HO_8.out⟩, ⟨by (with_reducible repeat (first | refine bN ?_ _ | refine bD ?_ | refine bA ?_ _)); exact BK266.out⟩, ⟨by repeat (first | (with_reducible first | exact HB.out | apply pA | apply pN | apply p1_ | refine bS ?_ GE266.out) | exact HB.out)⟩⟩
                · rw [if_neg c14] at H
                  have c14b0 : decide (x9_2 < (l0.length : Int)) = false := decide_eq_false c14
                  clear c14
                  (first | rw [c14b0] | (simp only [i64_w, i32_w]; rw [c14b0]) | skip)
                  have H' := Aside0.mk H
                  clear H
                  go_wp2
                  go_meet
                  case rel => exact ⟨_, (x8_2), H', ⟨by have := HJ5.out; have := HK2.out; first | omega | exact Nat.le_refl _⟩, ⟨by (with_reducible repeat (first | apply Kd.R_alloc | apply Kd.R_drewN | apply Kd.R_drew)); exact HO_8.out⟩, ⟨by (with_reducible repeat (first | refine bN ?_ _ | refine bD ?_ | refine bA ?_ _)); exact BK266.out⟩, ⟨by repeat (first | (with_reducible first | exact HB.out | apply pA | apply pN | apply p1_ | refine bS ?_ GE266.out) | exact HB.out)⟩⟩
          case rest =>
            clear HC11
            try clear c1
            try clear p2
            try clear q2
            try clear hx2
            try clear c3
            try clear c5
            try clear p6
            try clear c9
            try clear c9b0
            try clear c9b1
            try clear c10
            try clear c14
            try clear c14b0
            try clear c15
            try clear c15b0
            try clear c16
            try clear c16b0
            try clear c17
            try clear hx271_0
            try clear p2
            try clear p271
            try clear q271
            obtain ⟨kq, x8_10, HA, HJ10, HO_8, BK266, HB⟩ := hcut
            cases kq with
            | zero => exact absurd HA.out (by simp [w22_CMatchesReference.j2])
            | succ kj10 =>
              have H := HA.out
              clear HA
              simp only [w22_CMatchesReference.j2] at H
              replace H := Option.bind_eq_some_iff.mp H
              obtain ⟨⟨t275, t276, t277, t278, t279, t280, t281⟩, A190, H⟩ := H
              replace H : (w22_CMatchesReference.l1 kj10 l0 l1 true x8_10 0 t275 t276 t277 t278 t279 t280 t281) = some r := H
              have A19 := Aside0.mk A190
              clear A190
              have H' := Aside0.mk H
              clear H
              have hcz20_0 : wc.cell? ⟨gb266, 0, none⟩ = some (.bool a2_0) := (bC BK266.out 0).trans rfl
              have hcz20_1 : wc.cell? ⟨gb266, 1, none⟩ = some (.int .i16 a2_1) := (bC BK266.out 1).trans rfl
              have hcz20_2 : wc.cell? ⟨gb266, 2, none⟩ = some (.int .i16 a2_2) := (bC BK266.out 2).trans rfl
              have hcz20_3 : wc.cell? ⟨gb266, 3, none⟩ = some (.int .i16 a2_3) := (bC BK266.out 3).trans rfl
              have hcz20_4 : wc.cell? ⟨gb266, 4, none⟩ = some (.int .i32 a2_4) := (bC BK266.out 4).trans rfl
              have hcz20_5 : wc.cell? ⟨gb266, 5, none⟩ = some (.int .u16 a2_5) := (bC BK266.out 5).trans rfl
              have hcz20_6 : wc.cell? ⟨gb266, 6, none⟩ = some (.int .u16 a2_6) := (bC BK266.out 6).trans rfl
              have hcz20_7 : wc.cell? ⟨gb266, 7, none⟩ = some (.bool a2_7) := (bC BK266.out 7).trans rfl
              have hfz20_0 := bF BK266.out 0
              have hfz20_1 := bF BK266.out 1
              have hfz20_2 := bF BK266.out 2
              have hfz20_3 := bF BK266.out 3
              have hfz20_4 := bF BK266.out 4
              have hfz20_5 := bF BK266.out 5
              have hfz20_6 := bF BK266.out 6
              have hfz20_7 := bF BK266.out 7
              go_wp2_with (first | ((with_reducible refine gate_callee (f := 10) rfl ?_); refine goesL_ (some 45) rfl rfl Tryd.func10 (by kernel_rfl) rfl #[.agg #[.bool a2_0, .int .i16 a2_1, .int .i16 a2_2, .int .i16 a2_3, .int .i32 a2_4, .int .u16 a2_5, .int .u16 a2_6, .bool a2_7]] rfl (by (try simp only [List.map_toArray, List.map_cons, List.map_nil]); first | done | rfl | (simp only [List.length_drop, List.length_take]; rfl)) ?_; (with_reducible refine (v22_Form.calls a2_0 a2_1 a2_2 a2_3 a2_4 a2_5 a2_6 a2_7 t275 t276 t277 t278 t279 t280 t281 _ A19.out).mono ?_); rintro e w21 ⟨rfl, hb⟩; refine ⟨_, rfl, ?_⟩; have n0_ := Aside0.mk (Kd.R_below (by (with_reducible repeat (first | apply Kd.R_alloc | apply Kd.R_drewN | apply Kd.R_drew)); exact HO_8.out) hb); have n1_ := Aside0.mk (bB (g := gb266) (o := .cells #[.bool a2_0, .int .i16 a2_1, .int .i16 a2_2, .int .i16 a2_3, .int .i32 a2_4, .int .u16 a2_5, .int .u16 a2_6, .bool a2_7] 27 (0, 0)) (by (with_reducible repeat (first | refine bN ?_ _ | refine bD ?_ | refine bA ?_ _)); exact BK266.out) hb); have n2_ := Aside0.mk (below_step (by repeat (first | (with_reducible first | exact HB.out | apply pA | apply pN | apply p1_ | refine bS ?_ GE266.out) | exact HB.out)) hb); clear HO_8; clear BK266; clear HB; have HO_8 := n0_; have BK266 := n1_; have HB := n2_; clear n0_ n1_ n2_; (try clear hb); (try clear hb2); (try clear hk); (try clear hi)) | ((with_reducible refine gate_dst (N := 10) rfl ?_); (try (refine gate_guard (by rfl) ?_; dsimp only)); refine box_event ?hg (N := 10) ?hd (cs := #[.bool false, .int .i64 0, .int .i64 0, .int .i64 0, .int .i64 0, .int .i64 0, .int .i64 0]) (t := 35) ?hr ?_; (case hd => rfl); (case hg => rfl); (case hr => first | (go_simp; done) | (go_simp; rfl)); intro gb282 hg w22 hbox hb; have n0_ := Aside0.mk (Kd.R_below (by (with_reducible repeat (first | apply Kd.R_alloc | apply Kd.R_drewN | apply Kd.R_drew)); exact HO_8.out) hb); have n1_ := Aside0.mk (bB (g := gb266) (o := .cells #[.bool a2_0, .int .i16 a2_1, .int .i16 a2_2, .int .i16 a2_3, .int .i32 a2_4, .int .u16 a2_5, .int .u16 a2_6, .bool a2_7] 27 (0, 0)) (by (with_reducible repeat (first | refine bN ?_ _ | refine bD ?_ | refine bA ?_ _)); exact BK266.out) hb); have n2_ := Aside0.mk (below_step (by repeat (first | (with_reducible first | exact HB.out | apply pA | apply pN | apply p1_ | refine bS ?_ GE266.out) | exact HB.out)) hb); have n3_ := Aside0.mk (hbox); have n4_ := Aside0.mk ((by rw [hg]; exact (below_size (by repeat (first | (with_reducible first | exact HB.out | apply pA | apply pN | apply p1_ | refine bS ?_ GE266.out) | exact HB.out))) : w.heap.size ≤ gb282)); have n5_ := Aside0.mk ((by rw [hg]; exact (below_size (by repeat (first | (with_reducible first | exact HB.out | apply pA | apply pN | apply p1_ | refine bS ?_ GE266.out) | exact HB.out))) : w.heap.size ≤ gb282)); have n6_ := Aside0.mk ((by rw [hg]; exact Nat.ne_of_lt (blk_lt (g := gb266) (o := .cells #[.bool a2_0, .int .i16 a2_1, .int .i16 a2_2, .int .i16 a2_3, .int .i32 a2_4, .int .u16 a2_5, .int .u16 a2_6, .bool a2_7] 27 (0, 0)) (by (with_reducible repeat (first | refine bN ?_ _ | refine bD ?_ | refine bA ?_ _)); exact BK266.out)) : gb266 ≠ gb282)); have n7_ := Aside0.mk ((by rw [hg]; exact Nat.ne_of_gt (blk_lt (g := gb266) (o := .cells #[.bool a2_0, .int .i16 a2_1, .int .i16 a2_2, .int .i16 a2_3, .int .i32 a2_4, .int .u16 a2_5, .int .u16 a2_6, .bool a2_7] 27 (0, 0)) (by (with_reducible repeat (first | refine bN ?_ _ | refine bD ?_ | refine bA ?_ _)); exact BK266.out)) : gb282 ≠ gb266)); clear HO_8; clear BK266; clear HB; have HO_8 := n0_; have BK266 := n1_; have HB := n2_; have BK282 := n3_; have GW282 := n4_; have GE282 := n5_; have Na_ := n6_; have Nb_ := n7_; clear n0_ n1_ n2_ n3_ n4_ n5_ n6_ n7_; clear hb hbox hg; have hnb23 := Nb_.out; have hnc23 := Na_.out; have hcz24_0 : w22.cell? ⟨gb282, 0, none⟩ = some (.bool false) := (bC BK282.out 0).trans rfl; have hcz24_1 : w22.cell? ⟨gb282, 1, none⟩ = some (.int .i64 0) := (bC BK282.out 1).trans rfl; have hcz24_2 : w22.cell? ⟨gb282, 2, none⟩ = some (.int .i64 0) := (bC BK282.out 2).trans rfl; have hcz24_3 : w22.cell? ⟨gb282, 3, none⟩ = some (.int .i64 0) := (bC BK282.out 3).trans rfl; have hcz24_4 : w22.cell? ⟨gb282, 4, none⟩ = some (.int .i64 0) := (bC BK282.out 4).trans rfl; have hcz24_5 : w22.cell? ⟨gb282, 5, none⟩ = some (.int .i64 0) := (bC BK282.out 5).trans rfl; have hcz24_6 : w22.cell? ⟨gb282, 6, none⟩ = some (.int .i64 0) := (bC BK282.out 6).trans rfl; have hfz24_0 := bF BK282.out 0; have hfz24_1 := bF BK282.out 1; have hfz24_2 := bF BK282.out 2; have hfz24_3 := bF BK282.out 3; have hfz24_4 := bF BK282.out 4; have hfz24_5 := bF BK282.out 5; have hfz24_6 := bF BK282.out 6))
              go_loopg [11] kj10 (fun kq v11 w' => ∃ (x11_3 : Int), v11 = .int .i64 x11_3 ∧ Aside0 (w22_CMatchesReference.l1 kq l0 l1 true x8_10 x11_3 t275 t276 t277 t278 t279 t280 t281 = some r) ∧ Aside0 (kq ≤ kj10) ∧ Aside0 (Kd.R k31 31 w' w.heap.size (fun _ => True) u8 x8_10) ∧ Aside0 (w'.heap[gb266]? = some (.cells #[.bool a2_0, .int .i16 a2_1, .int .i16 a2_2, .int .i16 a2_3, .int .i32 a2_4, .int .u16 a2_5, .int .u16 a2_6, .bool a2_7] 27 (0, 0))) ∧ Aside0 (w'.heap[gb282]? = some (.cells #[.bool t275, .int .i64 t276, .int .i64 t277, .int .i64 t278, .int .i64 t279, .int .i64 t280, .int .i64 t281] 35 (0, 0))) ∧ Aside0 (Below w.heap.size w w'))
              case atStart => exact ⟨(0), (by first | rfl | (simp; done) | (simp [*]; done)), H', ⟨Nat.le_refl _⟩, ⟨by (with_reducible repeat (first | apply Kd.R_alloc | apply Kd.R_drewN | apply Kd.R_drew)); exact Kd.R_mono (Kd.R_far (p := ⟨gb282, 6, none⟩) (Kd.R_far (p := ⟨gb282, 5, none⟩) (Kd.R_far (p := ⟨gb282, 4, none⟩) (Kd.R_far (p := ⟨gb282, 3, none⟩) (Kd.R_far (p := ⟨gb282, 2, none⟩) (Kd.R_far (p := ⟨gb282, 1, none⟩) (Kd.R_far (p := ⟨gb282, 0, none⟩) (Kd.R_types HO_8.out BK282.out (by decide)) (fun _ hk => hk.2) (.bool t275)) (fun _ hk => hk.2) (.int .i64 t276)) (fun _ hk => hk.2) (.int .i64 t277)) (fun _ hk => hk.2) (.int .i64 t278)) (fun _ hk => hk.2) (.int .i64 t279)) (fun _ hk => hk.2) (.int .i64 t280)) (fun _ hk => hk.2) (.int .i64 t281)) (fun _ hk => trivial)⟩, ⟨by (with_reducible repeat (first | refine bN ?_ _ | refine bD ?_ | refine bA ?_ _)); refine blk_far ?_ Na_.out _; (with_reducible repeat (first | refine bN ?_ _ | refine bD ?_ | refine bA ?_ _)); refine blk_far ?_ Na_.out _; (with_reducible repeat (first | refine bN ?_ _ | refine bD ?_ | refine bA ?_ _)); refine blk_far ?_ Na_.out _; (with_reducible repeat (first | refine bN ?_ _ | refine bD ?_ | refine bA ?_ _)); refine blk_far ?_ Na_.out _; (with_reducible repeat (first | refine bN ?_ _ | refine bD ?_ | refine bA ?_ _)); refine blk_far ?_ Na_.out _; (with_reducible repeat (first | refine bN ?_ _ | refine bD ?_ | refine bA ?_ _)); refine blk_far ?_ Na_.out _; (with_reducible repeat (first | refine bN ?_ _ | refine bD ?_ | refine bA ?_ _)); refine blk_far ?_ Na_.out _; (with_reducible repeat (first | refine bN ?_ _ | refine bD ?_ | refine bA ?_ _)); exact BK266.out⟩, ⟨by (with_reducible repeat (first | refine bN ?_ _ | refine bD ?_ | refine bA ?_ _)); refine blk_put (cs := #[.bool t275, .int .i64 t276, .int .i64 t277, .int .i64 t278, .int .i64 t279, .int .i64 t280, .int .i64 0]) ?_ 6 _ rfl; (with_reducible repeat (first | refine bN ?_ _ | refine bD ?_ | refine bA ?_ _)); refine blk_put (cs := #[.bool t275, .int .i64 t276, .int .i64 t277, .int .i64 t278, .int .i64 t279, .int .i64 0, .int .i64 0]) ?_ 5 _ rfl; (with_reducible repeat (first | refine bN ?_ _ | refine bD ?_ | refine bA ?_ _)); refine blk_put (cs := #[.bool t275, .int .i64 t276, .int .i64 t277, .int .i64 t278, .int .i64 0, .int .i64 0, .int .i64 0]) ?_ 4 _ rfl; (with_reducible repeat (first | refine bN ?_ _ | refine bD ?_ | refine bA ?_ _)); refine blk_put (cs := #[.bool t275, .int .i64 t276, .int .i64 t277, .int .i64 0, .int .i64 0, .int .i64 0, .int .i64 0]) ?_ 3 _ rfl; (with_reducible repeat (first | refine bN ?_ _ | refine bD ?_ | refine bA ?_ _)); refine blk_put (cs := #[.bool t275, .int .i64 t276, .int .i64 0, .int .i64 0, .int .i64 0, .int .i64 0, .int .i64 0]) ?_ 2 _ rfl; (with_reducible repeat (first | refine bN ?_ _ | refine bD ?_ | refine bA ?_ _)); refine blk_put (cs := #[.bool t275, .int .i64 0, .int .i64 0, .int .i64 0, .int .i64 0, .int .i64 0, .int .i64 0]) ?_ 1 _ rfl; (with_reducible repeat (first | refine bN ?_ _ | refine bD ?_ | refine bA ?_ _)); refine blk_put (cs := #[.bool false, .int .i64 0, .int .i64 0, .int .i64 0, .int .i64 0, .int .i64 0, .int .i64 0]) ?_ 0 _ rfl; (with_reducible repeat (first | refine bN ?_ _ | refine bD ?_ | refine bA ?_ _)); exact BK282.out⟩, ⟨by repeat (first | (with_reducible first | exact HB.out | apply pA | apply pN | apply p1_ | refine bS ?_ GE266.out | refine bS ?_ GE282.out) | exact HB.out)⟩⟩
              case round =>
                clear H'
                try clear c1
                try clear c2
                try clear p2
                try clear q2
                try clear hx2
                try clear c3
                try clear c5
                try clear p6
                try clear c9
                try clear c9b0
                try clear c9b1
                try clear c10
                try clear c14
                try clear c14b0
                try clear c15
                try clear c15b0
                try clear c16
                try clear c16b0
                try clear c17
                try clear c23
                try clear hcz20_0
                try clear hcz20_1
                try clear hcz20_2
                try clear hcz20_3
                try clear hcz20_4
                try clear hcz20_5
                try clear hcz20_6
                try clear hcz20_7
                try clear hcz24_0
                try clear hcz24_1
                try clear hcz24_2
                try clear hcz24_3
                try clear hcz24_4
                try clear hcz24_5
                try clear hcz24_6
                try clear hfz20_0
                try clear hfz20_1
                try clear hfz20_2
                try clear hfz20_3
                try clear hfz20_4
                try clear hfz20_5
                try clear hfz20_6
                try clear hfz20_7
                try clear hfz24_0
                try clear hfz24_1
                try clear hfz24_2
                try clear hfz24_3
                try clear hfz24_4
                try clear hfz24_5
                try clear hfz24_6
                try clear hx271_0
                try clear p2
                try clear p271
                try clear p6
                try clear q2
                try clear q271
                obtain ⟨x11_3, rfl, HA, HK3, HO_8, BK266, BK282, HB⟩ := hrel
                cases gk with
                | zero => exact absurd HA.out (by simp [w22_CMatchesReference.l1])
                | succ k3 =>
                  have H := HA.out
                  clear HA
                  simp only [w22_CMatchesReference.l1] at H
                  have HC25 := Aside0.mk H
                  clear H
                  go_upto_region 13 with (fail)
                  go_cut [53] (fun v53 wc => ∃ (kq : Nat) (x53_24 : Bool), v53 = .bool x53_24 ∧ Aside0 (w22_CMatchesReference.j4 kq l0 l1 true x8_10 x11_3 x53_24 t275 t276 t277 t278 t279 t280 t281 = some r) ∧ Aside0 (kq ≤ k3) ∧ Aside0 (Kd.R k31 31 wc w.heap.size (fun _ => True) u8 x8_10) ∧ Aside0 (wc.heap[gb266]? = some (.cells #[.bool a2_0, .int .i16 a2_1, .int .i16 a2_2, .int .i16 a2_3, .int .i32 a2_4, .int .u16 a2_5, .int .u16 a2_6, .bool a2_7] 27 (0, 0))) ∧ Aside0 (wc.heap[gb282]? = some (.cells #[.bool t275, .int .i64 t276, .int .i64 t277, .int .i64 t278, .int .i64 t279, .int .i64 t280, .int .i64 t281] 35 (0, 0))) ∧ Aside0 (Below w.heap.size w wc))
                  case first =>
                    have H := HC25.out
                    clear HC25
                    by_cases c26 : x11_3 < (l0.length : Int)
                    · rw [if_pos c26] at H
                      have c26b0 : decide (x11_3 < (l0.length : Int)) = true := decide_eq_true c26
                      clear c26
                      (first | rw [c26b0] | (simp only [i64_w, i32_w]; rw [c26b0]) | skip)
                      have H' := Aside0.mk H
                      clear H
                      go_wp2
                      go_meet
                      case rel => exact ⟨_, (decide (x11_3 < 8)), (by first | rfl | (simp; done) | (simp [*]; done)), H', ⟨by have := HJ5.out; have := HJ10.out; have := HK3.out; first | omega | exact Nat.le_refl _⟩, ⟨by (with_reducible repeat (first | apply Kd.R_alloc | apply Kd.R_drewN | apply Kd.R_drew)); exact HO_8.out⟩, ⟨by (with_reducible repeat (first | refine bN ?_ _ | refine bD ?_ | refine bA ?_ _)); exact BK266.out⟩, ⟨by (with_reducible repeat (first | refine bN ?_ _ | refine bD ?_ | refine bA ?_ _)); exact BK282.out⟩, ⟨by repeat (first | (with_reducible first | exact HB.out | apply pA | apply pN | apply p1_ | refine bS ?_ GE266.out | refine bS ?_ GE282.out) | exact HB.out)⟩⟩
                    · rw [if_neg c26] at H
                      have c26b0 : decide (x11_3 < (l0.length : Int)) = false := decide_eq_false c26
                      clear c26
                      (first | rw [c26b0] | (simp only [i64_w, i32_w]; rw [c26b0]) | skip)
                      have H' := Aside0.mk H
                      clear H
                      go_wp2
                      go_meet
                      case rel => exact ⟨_, (false), (by first | rfl | (simp; done) | (simp [*]; done)), H', ⟨by have := HJ5.out; have := HJ10.out; have := HK3.out; first | omega | exact Nat.le_refl _⟩, ⟨by (with_reducible repeat (first | apply Kd.R_alloc | apply Kd.R_drewN | apply Kd.R_drew)); exact HO_8.out⟩, ⟨by (with_reducible repeat (first | refine bN ?_ _ | refine bD ?_ | refine bA ?_ _)); exact BK266.out⟩, ⟨by (with_reducible repeat (first | refine bN ?_ _ | refine bD ?_ | refine bA ?_ _)); exact BK282.out⟩, ⟨by repeat (first | (with_reducible first | exact HB.out | apply pA | apply pN | apply p1_ | refine bS ?_ GE266.out | refine bS ?_ GE282.out) | exact HB.out)⟩⟩
                  case rest =>
                    clear HC25
                    try clear c1
                    try clear c2
                    try clear p2
                    try clear q2
                    try clear hx2
                    try clear c3
                    try clear c5
                    try clear p6
                    try clear c9
                    try clear c9b0
                    try clear c9b1
                    try clear c10
                    try clear c14
                    try clear c14b0
                    try clear c15
                    try clear c15b0
                    try clear c16
                    try clear c16b0
                    try clear c17
                    try clear c23
                    try clear c26
                    try clear c26b0
                    try clear hcz20_0
                    try clear hcz20_1
                    try clear hcz20_2
                    try clear hcz20_3
                    try clear hcz20_4
                    try clear hcz20_5
                    try clear hcz20_6
                    try clear hcz20_7
                    try clear hcz24_0
                    try clear hcz24_1
                    try clear hcz24_2
                    try clear hcz24_3
                    try clear hcz24_4
                    try clear hcz24_5
                    try clear hcz24_6
                    try clear hfz20_0
                    try clear hfz20_1
                    try clear hfz20_2
                    try clear hfz20_3
                    try clear hfz20_4
                    try clear hfz20_5
                    try clear hfz20_6
                    try clear hfz20_7
                    try clear hfz24_0
                    try clear hfz24_1
                    try clear hfz24_2
                    try clear hfz24_3
                    try clear hfz24_4
                    try clear hfz24_5
                    try clear hfz24_6
                    try clear hx271_0
                    try clear p2
                    try clear p271
                    try clear p6
                    try clear q2
                    try clear q271
                    obtain ⟨kq, x53_24, rfl, HA, HJ24, HO_8, BK266, BK282, HB⟩ := hcut
                    cases kq with
                    | zero => exact absurd HA.out (by simp [w22_CMatchesReference.j4])
                    | succ kj24 =>
                      have H := HA.out
                      clear HA
                      simp only [w22_CMatchesReference.j4] at H
                      by_cases c27 : x53_24 = true
                      · subst c27
                        have H1 : (if 0 ≤ x11_3 then (if x11_3 < (l0.length : Int) then ((coalesce_Static.f t275 t276 t277 t278 t279 t280 t281 (rd l0 x11_3) (IntKind.u64.wrap (rd l0 x11_3))).bind fun t285 => ((v22_Static.f kj24 t275 t276 t277 t278 t279 t280 t281 (rd l0 x11_3) (IntKind.u64.wrap (rd l0 x11_3))).bind fun t288 => (if t285 = t288 then ((coalesce_Static.f t275 t276 t277 t278 t279 t280 t281 (wrap64 (1 + (Go.bits .and .i64 (rd l0 x11_3) 63))) (Go.bits .xor .u64 18446744073709551615 (IntKind.u64.wrap (rd l0 x11_3)))).bind fun t291 => ((v22_Static.f kj24 t275 t276 t277 t278 t279 t280 t281 (wrap64 (1 + (Go.bits .and .i64 (rd l0 x11_3) 63))) (Go.bits .xor .u64 18446744073709551615 (IntKind.u64.wrap (rd l0 x11_3)))).bind fun t294 => (if t291 = t294 then (w22_CMatchesReference.l1 kj24 l0 l1 true x8_10 (wrap64 (x11_3 + 1)) t275 t276 t277 t278 t279 t280 t281) else (some false)))) else (some false)))) else (none)) else (none)) = some r := by rw [if_pos rfl] at H; exact H
                        clear H
                        have H := H1
                        clear H1
                        by_cases c28 : 0 ≤ x11_3
                        · rw [if_pos c28] at H
                          have c28b0 : decide (0 ≤ x11_3) = true := decide_eq_true c28
                          clear c28
                          by_cases c29 : x11_3 < (l0.length : Int)
                          · rw [if_pos c29] at H
                            have c29b0 : decide (x11_3 < (l0.length : Int)) = true := decide_eq_true c29
                            clear c29
                            replace H := Option.bind_eq_some_iff.mp H
                            obtain ⟨t285, A300, H⟩ := H
                            replace H : ((v22_Static.f kj24 t275 t276 t277 t278 t279 t280 t281 (rd l0 x11_3) (IntKind.u64.wrap (rd l0 x11_3))).bind fun t288 => (if t285 = t288 then ((coalesce_Static.f t275 t276 t277 t278 t279 t280 t281 (wrap64 (1 + (Go.bits .and .i64 (rd l0 x11_3) 63))) (Go.bits .xor .u64 18446744073709551615 (IntKind.u64.wrap (rd l0 x11_3)))).bind fun t291 => ((v22_Static.f kj24 t275 t276 t277 t278 t279 t280 t281 (wrap64 (1 + (Go.bits .and .i64 (rd l0 x11_3) 63))) (Go.bits .xor .u64 18446744073709551615 (IntKind.u64.wrap (rd l0 x11_3)))).bind fun t294 => (if t291 = t294 then (w22_CMatchesReference.l1 kj24 l0 l1 true x8_10 (wrap64 (x11_3 + 1)) t275 t276 t277 t278 t279 t280 t281) else (some false)))) else (some false))) = some r := H
                            have A30 := Aside0.mk A300
                            clear A300
                            replace H := Option.bind_eq_some_iff.mp H
                            obtain ⟨t288, A310, H⟩ := H
                            replace H : (if t285 = t288 then ((coalesce_Static.f t275 t276 t277 t278 t279 t280 t281 (wrap64 (1 + (Go.bits .and .i64 (rd l0 x11_3) 63))) (Go.bits .xor .u64 18446744073709551615 (IntKind.u64.wrap (rd l0 x11_3)))).bind fun t291 => ((v22_Static.f kj24 t275 t276 t277 t278 t279 t280 t281 (wrap64 (1 + (Go.bits .and .i64 (rd l0 x11_3) 63))) (Go.bits .xor .u64 18446744073709551615 (IntKind.u64.wrap (rd l0 x11_3)))).bind fun t294 => (if t291 = t294 then (w22_CMatchesReference.l1 kj24 l0 l1 true x8_10 (wrap64 (x11_3 + 1)) t275 t276 t277 t278 t279 t280 t281) else (some false)))) else (some false)) = some r := H
                            have A31 := Aside0.mk A310
                            clear A310
                            by_cases c32 : t285 = t288
                            · rw [if_pos c32] at H
                              have c32b0 : (t285 == t288) = true := beq_iff_eq.mpr c32
                              have c32b1 : (t285 != t288) = false := bne_eq_false_iff_eq.mpr c32
                              clear c32
                              replace H := Option.bind_eq_some_iff.mp H
                              obtain ⟨t291, A330, H⟩ := H
                              replace H : ((v22_Static.f kj24 t275 t276 t277 t278 t279 t280 t281 (wrap64 (1 + (Go.bits .and .i64 (rd l0 x11_3) 63))) (Go.bits .xor .u64 18446744073709551615 (IntKind.u64.wrap (rd l0 x11_3)))).bind fun t294 => (if t291 = t294 then (w22_CMatchesReference.l1 kj24 l0 l1 true x8_10 (wrap64 (x11_3 + 1)) t275 t276 t277 t278 t279 t280 t281) else (some false))) = some r := H
                              have A33 := Aside0.mk A330
                              clear A330
                              replace H := Option.bind_eq_some_iff.mp H
                              obtain ⟨t294, A340, H⟩ := H
                              replace H : (if t291 = t294 then (w22_CMatchesReference.l1 kj24 l0 l1 true x8_10 (wrap64 (x11_3 + 1)) t275 t276 t277 t278 t279 t280 t281) else (some false)) = some r := H
                              have A34 := Aside0.mk A340
                              clear A340
                              by_cases c35 : t291 = t294
                              · rw [if_pos c35] at H
                                have c35b0 : (t291 == t294) = true := beq_iff_eq.mpr c35
                                have c35b1 : (t291 != t294) = false := bne_eq_false_iff_eq.mpr c35
                                clear c35
                                have H' := Aside0.mk H
                                clear H
                                try go_wp2
                                have n0_ := Aside0.mk (Kd.R_drew HO_8.out)
                                have n1_ := Aside0.mk (bD BK266.out)
                                have n2_ := Aside0.mk (bD BK282.out)
                                have n3_ := Aside0.mk (p1_ HB.out)
                                clear HO_8
                                clear BK266
                                clear BK282
                                clear HB
                                have HO_8 := n0_
                                have BK266 := n1_
                                have BK282 := n2_
                                have HB := n3_
                                clear n0_ n1_ n2_ n3_
                                have p283 : 0 ≤ (x11_3 : Int) := of_decide_eq_true (by first | (with_reducible assumption) | assumption)
                                have q283 : x11_3 < (l0.length : Int) := of_decide_eq_true (by first | (with_reducible assumption) | assumption)
                                obtain ⟨ad283, e283, hx283_0⟩ := Kd.at_int HR0.out x11_3 p283 q283
                                have hw283_0 := hx283_0
                                cases e283
                                replace hx283_0 := (HB.out.cell (World.block_lt_of_cell? w _ hx283_0)).trans hx283_0
                                replace p283 := eq_true p283
                                replace q283 := eq_true q283
                                have p284 : 0 ≤ (x11_3 : Int) := of_decide_eq_true (by first | (with_reducible assumption) | assumption)
                                have q284 : x11_3 < (l0.length : Int) := of_decide_eq_true (by first | (with_reducible assumption) | assumption)
                                obtain ⟨ad284, e284, hx284_0⟩ := Kd.at_int HR0.out x11_3 p284 q284
                                have hw284_0 := hx284_0
                                obtain rfl : ad283 = ad284 := (by injection e284)
                                replace hx284_0 := (HB.out.cell (World.block_lt_of_cell? w _ hx284_0)).trans hx284_0
                                replace p284 := eq_true p284
                                replace q284 := eq_true q284
                                have p286 : 0 ≤ (x11_3 : Int) := of_decide_eq_true (by first | (with_reducible assumption) | assumption)
                                have q286 : x11_3 < (l0.length : Int) := of_decide_eq_true (by first | (with_reducible assumption) | assumption)
                                obtain ⟨ad286, e286, hx286_0⟩ := Kd.at_int HR0.out x11_3 p286 q286
                                have hw286_0 := hx286_0
                                obtain rfl : ad283 = ad286 := (by injection e286)
                                replace hx286_0 := (HB.out.cell (World.block_lt_of_cell? w _ hx286_0)).trans hx286_0
                                replace p286 := eq_true p286
                                replace q286 := eq_true q286
                                have p287 : 0 ≤ (x11_3 : Int) := of_decide_eq_true (by first | (with_reducible assumption) | assumption)
                                have q287 : x11_3 < (l0.length : Int) := of_decide_eq_true (by first | (with_reducible assumption) | assumption)
                                obtain ⟨ad287, e287, hx287_0⟩ := Kd.at_int HR0.out x11_3 p287 q287
                                have hw287_0 := hx287_0
                                obtain rfl : ad283 = ad287 := (by injection e287)
                                replace hx287_0 := (HB.out.cell (World.block_lt_of_cell? w _ hx287_0)).trans hx287_0
                                replace p287 := eq_true p287
                                replace q287 := eq_true q287
                                have p289 : 0 ≤ (x11_3 : Int) := of_decide_eq_true (by first | (with_reducible assumption) | assumption)
                                have q289 : x11_3 < (l0.length : Int) := of_decide_eq_true (by first | (with_reducible assumption) | assumption)
                                obtain ⟨ad289, e289, hx289_0⟩ := Kd.at_int HR0.out x11_3 p289 q289
                                have hw289_0 := hx289_0
                                obtain rfl : ad283 = ad289 := (by injection e289)
                                replace hx289_0 := (HB.out.cell (World.block_lt_of_cell? w _ hx289_0)).trans hx289_0
                                replace p289 := eq_true p289
                                replace q289 := eq_true q289
                                have p290 : 0 ≤ (x11_3 : Int) := of_decide_eq_true (by first | (with_reducible assumption) | assumption)
                                have q290 : x11_3 < (l0.length : Int) := of_decide_eq_true (by first | (with_reducible assumption) | assumption)
                                obtain ⟨ad290, e290, hx290_0⟩ := Kd.at_int HR0.out x11_3 p290 q290
                                have hw290_0 := hx290_0
                                obtain rfl : ad283 = ad290 := (by injection e290)
                                replace hx290_0 := (HB.out.cell (World.block_lt_of_cell? w _ hx290_0)).trans hx290_0
                                replace p290 := eq_true p290
                                replace q290 := eq_true q290
                                have p292 : 0 ≤ (x11_3 : Int) := of_decide_eq_true (by first | (with_reducible assumption) | assumption)
                                have q292 : x11_3 < (l0.length : Int) := of_decide_eq_true (by first | (with_reducible assumption) | assumption)
                                obtain ⟨ad292, e292, hx292_0⟩ := Kd.at_int HR0.out x11_3 p292 q292
                                have hw292_0 := hx292_0
                                obtain rfl : ad283 = ad292 := (by injection e292)
                                replace hx292_0 := (HB.out.cell (World.block_lt_of_cell? w _ hx292_0)).trans hx292_0
                                replace p292 := eq_true p292
                                replace q292 := eq_true q292
                                have p293 : 0 ≤ (x11_3 : Int) := of_decide_eq_true (by first | (with_reducible assumption) | assumption)
                                have q293 : x11_3 < (l0.length : Int) := of_decide_eq_true (by first | (with_reducible assumption) | assumption)
                                obtain ⟨ad293, e293, hx293_0⟩ := Kd.at_int HR0.out x11_3 p293 q293
                                have hw293_0 := hx293_0
                                obtain rfl : ad283 = ad293 := (by injection e293)
                                replace hx293_0 := (HB.out.cell (World.block_lt_of_cell? w _ hx293_0)).trans hx293_0
                                replace p293 := eq_true p293
                                replace q293 := eq_true q293
                                refine start_ (n := 54) (S := fun w' => w'.cell? ⟨gb282, 0, none⟩ = some (.bool t275) ∧ w'.cell? ⟨gb282, 1, none⟩ = some (.int .i64 t276) ∧ w'.cell? ⟨gb282, 2, none⟩ = some (.int .i64 t277) ∧ w'.cell? ⟨gb282, 3, none⟩ = some (.int .i64 t278) ∧ w'.cell? ⟨gb282, 4, none⟩ = some (.int .i64 t279) ∧ w'.cell? ⟨gb282, 5, none⟩ = some (.int .i64 t280) ∧ w'.cell? ⟨gb282, 6, none⟩ = some (.int .i64 t281) ∧ w'.cell? (ad283.add (x11_3).toNat) = some (.int .i64 (rd l0 x11_3)) ∧ w'.cell? (ad283.add (x11_3).toNat) = some (.int .i64 (rd l0 x11_3)) ∧ w'.cell? (ad283.add (x11_3).toNat) = some (.int .i64 (rd l0 x11_3)) ∧ w'.cell? (ad283.add (x11_3).toNat) = some (.int .i64 (rd l0 x11_3)) ∧ w'.cell? (ad283.add (x11_3).toNat) = some (.int .i64 (rd l0 x11_3)) ∧ w'.cell? (ad283.add (x11_3).toNat) = some (.int .i64 (rd l0 x11_3)) ∧ w'.cell? (ad283.add (x11_3).toNat) = some (.int .i64 (rd l0 x11_3)) ∧ w'.cell? (ad283.add (x11_3).toNat) = some (.int .i64 (rd l0 x11_3))) (ds := []) #[false, false, false, false, false, false, false, false, false, false, false, false, false, false, false, false, false, false, false, false, false, false, false, false, false, false, false, false, false, false, false, false, false, false, false, false, false, false, false, false, false, false, false, false, false, false, false, false, false, false, false, false, false, false] (by kernel_rfl) rfl rfl ⟨(bC BK282.out 0).trans rfl, (bC BK282.out 1).trans rfl, (bC BK282.out 2).trans rfl, (bC BK282.out 3).trans rfl, (bC BK282.out 4).trans rfl, (bC BK282.out 5).trans rfl, (bC BK282.out 6).trans rfl, ((HB.out.cell (World.block_lt_of_cell? w _ hw283_0)).trans hw283_0), ((HB.out.cell (World.block_lt_of_cell? w _ hw284_0)).trans hw284_0), ((HB.out.cell (World.block_lt_of_cell? w _ hw286_0)).trans hw286_0), ((HB.out.cell (World.block_lt_of_cell? w _ hw287_0)).trans hw287_0), ((HB.out.cell (World.block_lt_of_cell? w _ hw289_0)).trans hw289_0), ((HB.out.cell (World.block_lt_of_cell? w _ hw290_0)).trans hw290_0), ((HB.out.cell (World.block_lt_of_cell? w _ hw292_0)).trans hw292_0), ((HB.out.cell (World.block_lt_of_cell? w _ hw293_0)).trans hw293_0)⟩ (fun hHeld => ?_); refine with_tabW w22_CMatchesReference.tab15 w22_CMatchesReference.bits15 (fun HT_ HW_ => ?_)
                                generalize wc.drew = w36 at HO_8 BK266 BK282 HB hx283_0 hx284_0 hx286_0 hx287_0 hx289_0 hx290_0 hx292_0 hx293_0 hHeld ⊢
                                refine pure_ (i := 1) (N := some 57) (v := ?_) (a' := ?_) #[false, true, false, false, false, false, false, false, false, false, false, false, false, false, false, false, false, false, false, false, false, false, false, false, false, false, false, false, false, false, false, false, false, false, false, false, false, false, false, false, false, false, false, false, false, false, false, false, false, false, false, false, false, false] rfl rfl (any_of HT_.out (by kernel_rfl)) (fun _ _ _ h => h) (Or.inl ⟨by rfl, ?_⟩) ?_ ?_
                                rotate_left
                                · intro w'
                                  go_simp
                                  with_reducible rfl
                                rotate_left
                                · simp only [Act.put, sI, sZ, sS, i64_w, i32_w]
                                  rfl
                                refine pure_ (i := 2) (N := some 58) (v := ?_) (a' := ?_) #[false, true, true, false, false, false, false, false, false, false, false, false, false, false, false, false, false, false, false, false, false, false, false, false, false, false, false, false, false, false, false, false, false, false, false, false, false, false, false, false, false, false, false, false, false, false, false, false, false, false, false, false, false, false] rfl rfl (any_of HT_.out (by kernel_rfl)) (fun _ _ _ h => h) (Or.inl ⟨by rfl, ?_⟩) ?_ ?_
                                rotate_left
                                · intro w'
                                  go_simp
                                  with_reducible rfl
                                rotate_left
                                · simp only [Act.put, sI, sZ, sS, i64_w, i32_w]
                                  rfl
                                refine pure_ (i := 3) (N := some 59) (v := ?_) (a' := ?_) #[false, true, true, true, false, false, false, false, false, false, false, false, false, false, false, false, false, false, false, false, false, false, false, false, false, false, false, false, false, false, false, false, false, false, false, false, false, false, false, false, false, false, false, false, false, false, false, false, false, false, false, false, false, false] rfl rfl (any_of HT_.out (by kernel_rfl)) (fun _ _ _ h => h) (Or.inl ⟨by rfl, ?_⟩) ?_ ?_
                                rotate_left
                                · intro w'
                                  go_simp
                                  with_reducible rfl
                                rotate_left
                                · simp only [Act.put, sI, sZ, sS, i64_w, i32_w]
                                  rfl
                                refine pure_ (i := 5) (N := some 61) (v := ?_) (a' := ?_) #[false, true, true, true, false, true, false, false, false, false, false, false, false, false, false, false, false, false, false, false, false, false, false, false, false, false, false, false, false, false, false, false, false, false, false, false, false, false, false, false, false, false, false, false, false, false, false, false, false, false, false, false, false, false] rfl rfl (any_of HT_.out (by kernel_rfl)) (fun _ _ _ h => h) (Or.inl ⟨by rfl, ?_⟩) ?_ ?_
                                rotate_left
                                · intro w'
                                  go_simp
                                  with_reducible rfl
                                rotate_left
                                · simp only [Act.put, sI, sZ, sS, i64_w, i32_w]
                                  rfl
                                refine pure_ (i := 6) (N := some 62) (v := ?_) (a' := ?_) #[false, true, true, true, false, true, true, false, false, false, false, false, false, false, false, false, false, false, false, false, false, false, false, false, false, false, false, false, false, false, false, false, false, false, false, false, false, false, false, false, false, false, false, false, false, false, false, false, false, false, false, false, false, false] rfl rfl (any_of HT_.out (by kernel_rfl)) (fun _ _ _ h => h) (Or.inl ⟨by rfl, ?_⟩) ?_ ?_
                                rotate_left
                                · intro w'
                                  go_simp
                                  with_reducible rfl
                                rotate_left
                                · simp only [Act.put, sI, sZ, sS, i64_w, i32_w]
                                  rfl
                                refine pure_ (i := 7) (N := some 63) (v := ?_) (a' := ?_) #[false, true, true, true, false, true, true, true, false, false, false, false, false, false, false, false, false, false, false, false, false, false, false, false, false, false, false, false, false, false, false, false, false, false, false, false, false, false, false, false, false, false, false, false, false, false, false, false, false, false, false, false, false, false] rfl rfl (any_of HT_.out (by kernel_rfl)) (fun _ _ _ h => h) (Or.inl ⟨by rfl, ?_⟩) ?_ ?_
                                rotate_left
                                · intro w'
                                  go_simp
                                  with_reducible rfl
                                rotate_left
                                · simp only [Act.put, sI, sZ, sS, i64_w, i32_w]
                                  rfl
                                refine pure_ (i := 12) (N := some 68) (v := ?_) (a' := ?_) #[false, true, true, true, false, true, true, true, false, false, false, false, true, false, false, false, false, false, false, false, false, false, false, false, false, false, false, false, false, false, false, false, false, false, false, false, false, false, false, false, false, false, false, false, false, false, false, false, false, false, false, false, false, false] rfl rfl (any_of HT_.out (by kernel_rfl)) (fun _ _ _ h => h) (Or.inl ⟨by rfl, ?_⟩) ?_ ?_
                                rotate_left
                                · intro w'
                                  go_simp
                                  with_reducible rfl
                                rotate_left
                                · simp only [Act.put, sI, sZ, sS, i64_w, i32_w]
                                  rfl
                                refine pure_ (i := 13) (N := some 69) (v := ?_) (a' := ?_) #[false, true, true, true, false, true, true, true, false, false, false, false, true, true, false, false, false, false, false, false, false, false, false, false, false, false, false, false, false, false, false, false, false, false, false, false, false, false, false, false, false, false, false, false, false, false, false, false, false, false, false, false, false, false] rfl rfl (any_of HT_.out (by kernel_rfl)) (fun _ _ _ h => h) (Or.inl ⟨by rfl, ?_⟩) ?_ ?_
                                rotate_left
                                · intro w'
                                  go_simp
                                  with_reducible rfl
                                rotate_left
                                · simp only [Act.put, sI, sZ, sS, i64_w, i32_w]
                                  rfl
                                refine pure_ (i := 14) (N := some 70) (v := ?_) (a' := ?_) #[false, true, true, true, false, true, true, true, false, false, false, false, true, true, true, false, false, false, false, false, false, false, false, false, false, false, false, false, false, false, false, false, false, false, false, false, false, false, false, false, false, false, false, false, false, false, false, false, false, false, false, false, false, false] rfl rfl (any_of HT_.out (by kernel_rfl)) (fun _ _ _ h => h) (Or.inl ⟨by rfl, ?_⟩) ?_ ?_
                                rotate_left
                                · intro w'
                                  go_simp
                                  with_reducible rfl
                                rotate_left
                                · simp only [Act.put, sI, sZ, sS, i64_w, i32_w]
                                  rfl
                                refine pure_ (i := 16) (N := some 72) (v := ?_) (a' := ?_) #[false, true, true, true, false, true, true, true, false, false, false, false, true, true, true, false, true, false, false, false, false, false, false, false, false, false, false, false, false, false, false, false, false, false, false, false, false, false, false, false, false, false, false, false, false, false, false, false, false, false, false, false, false, false] rfl rfl (any_of HT_.out (by kernel_rfl)) (fun _ _ _ h => h) (Or.inl ⟨by rfl, ?_⟩) ?_ ?_
                                rotate_left
                                · intro w'
                                  go_simp
                                  with_reducible rfl
                                rotate_left
                                · simp only [Act.put, sI, sZ, sS, i64_w, i32_w]
                                  rfl
                                refine pure_ (i := 17) (N := some 73) (v := ?_) (a' := ?_) #[false, true, true, true, false, true, true, true, false, false, false, false, true, true, true, false, true, true, false, false, false, false, false, false, false, false, false, false, false, false, false, false, false, false, false, false, false, false, false, false, false, false, false, false, false, false, false, false, false, false, false, false, false, false] rfl rfl (any_of HT_.out (by kernel_rfl)) (fun _ _ _ h => h) (Or.inl ⟨by rfl, ?_⟩) ?_ ?_
                                rotate_left
                                · intro w'
                                  go_simp
                                  with_reducible rfl
                                rotate_left
                                · simp only [Act.put, sI, sZ, sS, i64_w, i32_w]
                                  rfl
                                refine pure_ (i := 18) (N := some 74) (v := ?_) (a' := ?_) #[false, true, true, true, false, true, true, true, false, false, false, false, true, true, true, false, true, true, true, false, false, false, false, false, false, false, false, false, false, false, false, false, false, false, false, false, false, false, false, false, false, false, false, false, false, false, false, false, false, false, false, false, false, false] rfl rfl (any_of HT_.out (by kernel_rfl)) (fun _ _ _ h => h) (Or.inl ⟨by rfl, ?_⟩) ?_ ?_
                                rotate_left
                                · intro w'
                                  go_simp
                                  with_reducible rfl
                                rotate_left
                                · simp only [Act.put, sI, sZ, sS, i64_w, i32_w]
                                  rfl
                                refine take_ (i := 0) (N := some 56) (v := ?_) (a' := ?_) #[true, true, true, true, false, true, true, true, false, false, false, false, true, true, true, false, true, true, true, false, false, false, false, false, false, false, false, false, false, false, false, false, false, false, false, false, false, false, false, false, false, false, false, false, false, false, false, false, false, false, false, false, false, false] rfl rfl (take_ofW HT_.out HW_.out (by kernel_rfl)) (fun _ _ _ h => h) (Or.inl ⟨by rfl, ?_⟩) hHeld ?_ ?_
                                rotate_left
                                · rintro w' ⟨s0, s1, s2, s3, s4, s5, s6, s7, s8, s9, s10, s11, s12, s13, s14⟩
                                  go_simp
                                  with_reducible rfl
                                rotate_left
                                · simp only [Act.put, sI, sZ, sS, i64_w, i32_w]
                                  rfl
                                refine take_ (i := 4) (N := some 60) (v := ?_) (a' := ?_) #[true, true, true, true, true, true, true, true, false, false, false, false, true, true, true, false, true, true, true, false, false, false, false, false, false, false, false, false, false, false, false, false, false, false, false, false, false, false, false, false, false, false, false, false, false, false, false, false, false, false, false, false, false, false] rfl rfl (take_ofW HT_.out HW_.out (by kernel_rfl)) (fun _ _ _ h => h) (Or.inl ⟨by rfl, ?_⟩) hHeld ?_ ?_
                                rotate_left
                                · rintro w' ⟨s0, s1, s2, s3, s4, s5, s6, s7, s8, s9, s10, s11, s12, s13, s14⟩
                                  go_simp
                                  with_reducible rfl
                                rotate_left
                                · simp only [Act.put, sI, sZ, sS, i64_w, i32_w]
                                  rfl
                                refine take_ (i := 8) (N := some 64) (v := ?_) (a' := ?_) #[true, true, true, true, true, true, true, true, true, false, false, false, true, true, true, false, true, true, true, false, false, false, false, false, false, false, false, false, false, false, false, false, false, false, false, false, false, false, false, false, false, false, false, false, false, false, false, false, false, false, false, false, false, false] rfl rfl (take_ofW HT_.out HW_.out (by kernel_rfl)) (fun _ _ _ h => h) (Or.inl ⟨by rfl, ?_⟩) hHeld ?_ ?_
                                rotate_left
                                · rintro w' ⟨s0, s1, s2, s3, s4, s5, s6, s7, s8, s9, s10, s11, s12, s13, s14⟩
                                  go_simp
                                  with_reducible rfl
                                rotate_left
                                · simp only [Act.put, sI, sZ, sS, i64_w, i32_w]
                                  rfl
                                refine pure_ (i := 9) (N := some 65) (v := ?_) (a' := ?_) #[true, true, true, true, true, true, true, true, true, true, false, false, true, true, true, false, true, true, true, false, false, false, false, false, false, false, false, false, false, false, false, false, false, false, false, false, false, false, false, false, false, false, false, false, false, false, false, false, false, false, false, false, false, false] rfl rfl (any_of HT_.out (by kernel_rfl)) (fun _ _ _ h => h) (Or.inl ⟨by rfl, ?_⟩) ?_ ?_
                                rotate_left
                                · intro w'
                                  go_simp
                                  with_reducible rfl
                                rotate_left
                                · simp only [Act.put, sI, sZ, sS, i64_w, i32_w]
                                  rfl
                                refine take_ (i := 11) (N := some 67) (v := ?_) (a' := ?_) #[true, true, true, true, true, true, true, true, true, true, false, true, true, true, true, false, true, true, true, false, false, false, false, false, false, false, false, false, false, false, false, false, false, false, false, false, false, false, false, false, false, false, false, false, false, false, false, false, false, false, false, false, false, false] rfl rfl (take_ofW HT_.out HW_.out (by kernel_rfl)) (fun _ _ _ h => h) (Or.inl ⟨by rfl, ?_⟩) hHeld ?_ ?_
                                rotate_left
                                · rintro w' ⟨s0, s1, s2, s3, s4, s5, s6, s7, s8, s9, s10, s11, s12, s13, s14⟩
                                  go_simp
                                  with_reducible rfl
                                rotate_left
                                · simp only [Act.put, sI, sZ, sS, i64_w, i32_w]
                                  rfl
                                refine take_ (i := 15) (N := some 71) (v := ?_) (a' := ?_) #[true, true, true, true, true, true, true, true, true, true, false, true, true, true, true, true, true, true, true, false, false, false, false, false, false, false, false, false, false, false, false, false, false, false, false, false, false, false, false, false, false, false, false, false, false, false, false, false, false, false, false, false, false, false] rfl rfl (take_ofW HT_.out HW_.out (by kernel_rfl)) (fun _ _ _ h => h) (Or.inl ⟨by rfl, ?_⟩) hHeld ?_ ?_
                                rotate_left
                                · rintro w' ⟨s0, s1, s2, s3, s4, s5, s6, s7, s8, s9, s10, s11, s12, s13, s14⟩
                                  go_simp
                                  with_reducible rfl
                                rotate_left
                                · simp only [Act.put, sI, sZ, sS, i64_w, i32_w]
                                  rfl
                                refine take_ (i := 19) (N := some 75) (v := ?_) (a' := ?_) #[true, true, true, true, true, true, true, true, true, true, false, true, true, true, true, true, true, true, true, true, false, false, false, false, false, false, false, false, false, false, false, false, false, false, false, false, false, false, false, false, false, false, false, false, false, false, false, false, false, false, false, false, false, false] rfl rfl (take_ofW HT_.out HW_.out (by kernel_rfl)) (fun _ _ _ h => h) (Or.inl ⟨by rfl, ?_⟩) hHeld ?_ ?_
                                rotate_left
                                · rintro w' ⟨s0, s1, s2, s3, s4, s5, s6, s7, s8, s9, s10, s11, s12, s13, s14⟩
                                  go_simp
                                  with_reducible rfl
                                rotate_left
                                · simp only [Act.put, sI, sZ, sS, i64_w, i32_w]
                                  rfl
                                refine pure_ (i := 20) (N := some 76) (v := ?_) (a' := ?_) #[true, true, true, true, true, true, true, true, true, true, false, true, true, true, true, true, true, true, true, true, true, false, false, false, false, false, false, false, false, false, false, false, false, false, false, false, false, false, false, false, false, false, false, false, false, false, false, false, false, false, false, false, false, false] rfl rfl (any_of HT_.out (by kernel_rfl)) (fun _ _ _ h => h) (Or.inl ⟨by rfl, ?_⟩) ?_ ?_
                                rotate_left
                                · intro w'
                                  go_simp
                                  with_reducible rfl
                                rotate_left
                                · simp only [Act.put, sI, sZ, sS, i64_w, i32_w]
                                  rfl
                                refine one_ (i := 10) (N := some 66) #[true, true, true, true, true, true, true, true, true, true, true, true, true, true, true, true, true, true, true, true, true, false, false, false, false, false, false, false, false, false, false, false, false, false, false, false, false, false, false, false, false, false, false, false, false, false, false, false, false, false, false, false, false, false] rfl rfl (one_of HT_.out (by kernel_rfl)) (by decide) (fun K hK => ?_)
                                refine goes_ Tryd.func11 (by kernel_rfl) rfl #[.agg #[.bool t275, .int .i64 t276, .int .i64 t277, .int .i64 t278, .int .i64 t279, .int .i64 t280, .int .i64 t281], .int .i64 (rd l0 x11_3), .int .u64 (IntKind.u64.wrap (rd l0 x11_3))] (by rfl) rfl rfl (by (try simp only [List.map_toArray, List.map_cons, List.map_nil]); first | done | rfl | (simp only [List.length_drop, List.length_take]; rfl)) ?_
                                with_reducible refine (coalesce_Static.calls t275 t276 t277 t278 t279 t280 t281 (rd l0 x11_3) (IntKind.u64.wrap (rd l0 x11_3)) t285 _ A30.out).mono ?_
                                rintro e w37 ⟨rfl, hb⟩
                                refine ⟨_, rfl, ?_⟩
                                have n0_ := Aside0.mk (Kd.R_below (by (with_reducible repeat (first | apply Kd.R_alloc | apply Kd.R_drewN | apply Kd.R_drew)); exact HO_8.out) hb)
                                have n1_ := Aside0.mk (bB (g := gb266) (o := .cells #[.bool a2_0, .int .i16 a2_1, .int .i16 a2_2, .int .i16 a2_3, .int .i32 a2_4, .int .u16 a2_5, .int .u16 a2_6, .bool a2_7] 27 (0, 0)) (by (with_reducible repeat (first | refine bN ?_ _ | refine bD ?_ | refine bA ?_ _)); exact BK266.out) hb)
                                have n2_ := Aside0.mk (bB (g := gb282) (o := .cells #[.bool t275, .int .i64 t276, .int .i64 t277, .int .i64 t278, .int .i64 t279, .int .i64 t280, .int .i64 t281] 35 (0, 0)) (by (with_reducible repeat (first | refine bN ?_ _ | refine bD ?_ | refine bA ?_ _)); exact BK282.out) hb)
                                have n3_ := Aside0.mk (below_step (by repeat (first | (with_reducible first | exact HB.out | apply pA | apply pN | apply p1_ | refine bS ?_ GE266.out | refine bS ?_ GE282.out) | exact HB.out)) hb)
                                clear HO_8
                                clear BK266
                                clear BK282
                                clear HB
                                have HO_8 := n0_
                                have BK266 := n1_
                                have BK282 := n2_
                                have HB := n3_
                                clear n0_ n1_ n2_ n3_
                                (try clear hb)
                                (try clear hb2)
                                (try clear hk)
                                (try clear hi)
                                refine hK.out _ _ ⟨(bC BK282.out 0).trans rfl, (bC BK282.out 1).trans rfl, (bC BK282.out 2).trans rfl, (bC BK282.out 3).trans rfl, (bC BK282.out 4).trans rfl, (bC BK282.out 5).trans rfl, (bC BK282.out 6).trans rfl, ((HB.out.cell (World.block_lt_of_cell? w _ hw283_0)).trans hw283_0), ((HB.out.cell (World.block_lt_of_cell? w _ hw284_0)).trans hw284_0), ((HB.out.cell (World.block_lt_of_cell? w _ hw286_0)).trans hw286_0), ((HB.out.cell (World.block_lt_of_cell? w _ hw287_0)).trans hw287_0), ((HB.out.cell (World.block_lt_of_cell? w _ hw289_0)).trans hw289_0), ((HB.out.cell (World.block_lt_of_cell? w _ hw290_0)).trans hw290_0), ((HB.out.cell (World.block_lt_of_cell? w _ hw292_0)).trans hw292_0), ((HB.out.cell (World.block_lt_of_cell? w _ hw293_0)).trans hw293_0)⟩ (fun hHeld => ?_)
                                clear hK K
                                refine norm_ (a' := ?_) ?_ ?_
                                rotate_left
                                · show Act.put _ (some 66) _ = _
                                  simp only [Act.put, sI, sZ, sS, i64_w, i32_w]
                                  rfl
                                refine one_ (i := 21) (N := some 77) #[true, true, true, true, true, true, true, true, true, true, true, true, true, true, true, true, true, true, true, true, true, true, false, false, false, false, false, false, false, false, false, false, false, false, false, false, false, false, false, false, false, false, false, false, false, false, false, false, false, false, false, false, false, false] rfl rfl (one_of HT_.out (by kernel_rfl)) (by decide) (fun K hK => ?_)
                                refine goes_ Tryd.func12 (by kernel_rfl) rfl #[.agg #[.bool t275, .int .i64 t276, .int .i64 t277, .int .i64 t278, .int .i64 t279, .int .i64 t280, .int .i64 t281], .int .i64 (rd l0 x11_3), .int .u64 (IntKind.u64.wrap (rd l0 x11_3))] (by rfl) rfl rfl (by (try simp only [List.map_toArray, List.map_cons, List.map_nil]); first | done | rfl | (simp only [List.length_drop, List.length_take]; rfl)) ?_
                                with_reducible refine (v22_Static.calls kj24 t275 t276 t277 t278 t279 t280 t281 (rd l0 x11_3) (IntKind.u64.wrap (rd l0 x11_3)) t288 _ A31.out).mono ?_
                                rintro e w38 ⟨rfl, hb⟩
                                refine ⟨_, rfl, ?_⟩
                                have n0_ := Aside0.mk (Kd.R_below (by (with_reducible repeat (first | apply Kd.R_alloc | apply Kd.R_drewN | apply Kd.R_drew)); exact HO_8.out) hb)
                                have n1_ := Aside0.mk (bB (g := gb266) (o := .cells #[.bool a2_0, .int .i16 a2_1, .int .i16 a2_2, .int .i16 a2_3, .int .i32 a2_4, .int .u16 a2_5, .int .u16 a2_6, .bool a2_7] 27 (0, 0)) (by (with_reducible repeat (first | refine bN ?_ _ | refine bD ?_ | refine bA ?_ _)); exact BK266.out) hb)
                                have n2_ := Aside0.mk (bB (g := gb282) (o := .cells #[.bool t275, .int .i64 t276, .int .i64 t277, .int .i64 t278, .int .i64 t279, .int .i64 t280, .int .i64 t281] 35 (0, 0)) (by (with_reducible repeat (first | refine bN ?_ _ | refine bD ?_ | refine bA ?_ _)); exact BK282.out) hb)
                                have n3_ := Aside0.mk (below_step (by repeat (first | (with_reducible first | exact HB.out | apply pA | apply pN | apply p1_ | refine bS ?_ GE266.out | refine bS ?_ GE282.out) | exact HB.out)) hb)
                                clear HO_8
                                clear BK266
                                clear BK282
                                clear HB
                                have HO_8 := n0_
                                have BK266 := n1_
                                have BK282 := n2_
                                have HB := n3_
                                clear n0_ n1_ n2_ n3_
                                (try clear hb)
                                (try clear hb2)
                                (try clear hk)
                                (try clear hi)
                                refine hK.out _ _ ⟨(bC BK282.out 0).trans rfl, (bC BK282.out 1).trans rfl, (bC BK282.out 2).trans rfl, (bC BK282.out 3).trans rfl, (bC BK282.out 4).trans rfl, (bC BK282.out 5).trans rfl, (bC BK282.out 6).trans rfl, ((HB.out.cell (World.block_lt_of_cell? w _ hw283_0)).trans hw283_0), ((HB.out.cell (World.block_lt_of_cell? w _ hw284_0)).trans hw284_0), ((HB.out.cell (World.block_lt_of_cell? w _ hw286_0)).trans hw286_0), ((HB.out.cell (World.block_lt_of_cell? w _ hw287_0)).trans hw287_0), ((HB.out.cell (World.block_lt_of_cell? w _ hw289_0)).trans hw289_0), ((HB.out.cell (World.block_lt_of_cell? w _ hw290_0)).trans hw290_0), ((HB.out.cell (World.block_lt_of_cell? w _ hw292_0)).trans hw292_0), ((HB.out.cell (World.block_lt_of_cell? w _ hw293_0)).trans hw293_0)⟩ (fun hHeld => ?_)
                                clear hK K
                                refine norm_ (a' := ?_) ?_ ?_
                                rotate_left
                                · show Act.put _ (some 77) _ = _
                                  simp only [Act.put, sI, sZ, sS, i64_w, i32_w]
                                  rfl
                                refine pure_ (i := 22) (N := some 78) (v := ?_) (a' := ?_) #[true, true, true, true, true, true, true, true, true, true, true, true, true, true, true, true, true, true, true, true, true, true, true, false, false, false, false, false, false, false, false, false, false, false, false, false, false, false, false, false, false, false, false, false, false, false, false, false, false, false, false, false, false, false] rfl rfl (any_of HT_.out (by kernel_rfl)) (fun _ _ _ h => h) (Or.inl ⟨by rfl, ?_⟩) ?_ ?_
                                rotate_left
                                · intro w'
                                  go_simp
                                  with_reducible rfl
                                rotate_left
                                · simp only [Act.put, sI, sZ, sS, i64_w, i32_w]
                                  rfl
                                refine pure_ (i := 23) (N := some 79) (v := ?_) (a' := ?_) #[true, true, true, true, true, true, true, true, true, true, true, true, true, true, true, true, true, true, true, true, true, true, true, true, false, false, false, false, false, false, false, false, false, false, false, false, false, false, false, false, false, false, false, false, false, false, false, false, false, false, false, false, false, false] rfl rfl (any_of HT_.out (by kernel_rfl)) (fun _ _ _ h => h) (Or.inl ⟨by rfl, ?_⟩) ?_ ?_
                                rotate_left
                                · intro w'
                                  go_simp
                                  with_reducible rfl
                                rotate_left
                                · simp only [Act.put, sI, sZ, sS, i64_w, i32_w]
                                  rfl
                                refine pure_ (i := 25) (N := some 81) (v := ?_) (a' := ?_) #[true, true, true, true, true, true, true, true, true, true, true, true, true, true, true, true, true, true, true, true, true, true, true, true, false, true, false, false, false, false, false, false, false, false, false, false, false, false, false, false, false, false, false, false, false, false, false, false, false, false, false, false, false, false] rfl rfl (any_of HT_.out (by kernel_rfl)) (fun _ _ _ h => h) (Or.inl ⟨by rfl, ?_⟩) ?_ ?_
                                rotate_left
                                · intro w'
                                  go_simp
                                  with_reducible rfl
                                rotate_left
                                · simp only [Act.put, sI, sZ, sS, i64_w, i32_w]
                                  rfl
                                refine pure_ (i := 26) (N := some 82) (v := ?_) (a' := ?_) #[true, true, true, true, true, true, true, true, true, true, true, true, true, true, true, true, true, true, true, true, true, true, true, true, false, true, true, false, false, false, false, false, false, false, false, false, false, false, false, false, false, false, false, false, false, false, false, false, false, false, false, false, false, false] rfl rfl (any_of HT_.out (by kernel_rfl)) (fun _ _ _ h => h) (Or.inl ⟨by rfl, ?_⟩) ?_ ?_
                                rotate_left
                                · intro w'
                                  go_simp
                                  with_reducible rfl
                                rotate_left
                                · simp only [Act.put, sI, sZ, sS, i64_w, i32_w]
                                  rfl
                                refine pure_ (i := 27) (N := some 83) (v := ?_) (a' := ?_) #[true, true, true, true, true, true, true, true, true, true, true, true, true, true, true, true, true, true, true, true, true, true, true, true, false, true, true, true, false, false, false, false, false, false, false, false, false, false, false, false, false, false, false, false, false, false, false, false, false, false, false, false, false, false] rfl rfl (any_of HT_.out (by kernel_rfl)) (fun _ _ _ h => h) (Or.inl ⟨by rfl, ?_⟩) ?_ ?_
                                rotate_left
                                · intro w'
                                  go_simp
                                  with_reducible rfl
                                rotate_left
                                · simp only [Act.put, sI, sZ, sS, i64_w, i32_w]
                                  rfl
                                refine pure_ (i := 31) (N := some 87) (v := ?_) (a' := ?_) #[true, true, true, true, true, true, true, true, true, true, true, true, true, true, true, true, true, true, true, true, true, true, true, true, false, true, true, true, false, false, false, true, false, false, false, false, false, false, false, false, false, false, false, false, false, false, false, false, false, false, false, false, false, false] rfl rfl (any_of HT_.out (by kernel_rfl)) (fun _ _ _ h => h) (Or.inl ⟨by rfl, ?_⟩) ?_ ?_
                                rotate_left
                                · intro w'
                                  go_simp
                                  with_reducible rfl
                                rotate_left
                                · simp only [Act.put, sI, sZ, sS, i64_w, i32_w]
                                  rfl
                                refine pure_ (i := 32) (N := some 88) (v := ?_) (a' := ?_) #[true, true, true, true, true, true, true, true, true, true, true, true, true, true, true, true, true, true, true, true, true, true, true, true, false, true, true, true, false, false, false, true, true, false, false, false, false, false, false, false, false, false, false, false, false, false, false, false, false, false, false, false, false, false] rfl rfl (any_of HT_.out (by kernel_rfl)) (fun _ _ _ h => h) (Or.inl ⟨by rfl, ?_⟩) ?_ ?_
                                rotate_left
                                · intro w'
                                  go_simp
                                  with_reducible rfl
                                rotate_left
                                · simp only [Act.put, sI, sZ, sS, i64_w, i32_w]
                                  rfl
                                refine pure_ (i := 33) (N := some 89) (v := ?_) (a' := ?_) #[true, true, true, true, true, true, true, true, true, true, true, true, true, true, true, true, true, true, true, true, true, true, true, true, false, true, true, true, false, false, false, true, true, true, false, false, false, false, false, false, false, false, false, false, false, false, false, false, false, false, false, false, false, false] rfl rfl (any_of HT_.out (by kernel_rfl)) (fun _ _ _ h => h) (Or.inl ⟨by rfl, ?_⟩) ?_ ?_
                                rotate_left
                                · intro w'
                                  go_simp
                                  with_reducible rfl
                                rotate_left
                                · simp only [Act.put, sI, sZ, sS, i64_w, i32_w]
                                  rfl
                                refine pure_ (i := 39) (N := some 95) (v := ?_) (a' := ?_) #[true, true, true, true, true, true, true, true, true, true, true, true, true, true, true, true, true, true, true, true, true, true, true, true, false, true, true, true, false, false, false, true, true, true, false, false, false, false, false, true, false, false, false, false, false, false, false, false, false, false, false, false, false, false] rfl rfl (any_of HT_.out (by kernel_rfl)) (fun _ _ _ h => h) (Or.inl ⟨by rfl, ?_⟩) ?_ ?_
                                rotate_left
                                · intro w'
                                  go_simp
                                  with_reducible rfl
                                rotate_left
                                · simp only [Act.put, sI, sZ, sS, i64_w, i32_w]
                                  rfl
                                refine pure_ (i := 40) (N := some 96) (v := ?_) (a' := ?_) #[true, true, true, true, true, true, true, true, true, true, true, true, true, true, true, true, true, true, true, true, true, true, true, true, false, true, true, true, false, false, false, true, true, true, false, false, false, false, false, true, true, false, false, false, false, false, false, false, false, false, false, false, false, false] rfl rfl (any_of HT_.out (by kernel_rfl)) (fun _ _ _ h => h) (Or.inl ⟨by rfl, ?_⟩) ?_ ?_
                                rotate_left
                                · intro w'
                                  go_simp
                                  with_reducible rfl
                                rotate_left
                                · simp only [Act.put, sI, sZ, sS, i64_w, i32_w]
                                  rfl
                                refine pure_ (i := 41) (N := some 97) (v := ?_) (a' := ?_) #[true, true, true, true, true, true, true, true, true, true, true, true, true, true, true, true, true, true, true, true, true, true, true, true, false, true, true, true, false, false, false, true, true, true, false, false, false, false, false, true, true, true, false, false, false, false, false, false, false, false, false, false, false, false] rfl rfl (any_of HT_.out (by kernel_rfl)) (fun _ _ _ h => h) (Or.inl ⟨by rfl, ?_⟩) ?_ ?_
                                rotate_left
                                · intro w'
                                  go_simp
                                  with_reducible rfl
                                rotate_left
                                · simp only [Act.put, sI, sZ, sS, i64_w, i32_w]
                                  rfl
                                refine pure_ (i := 45) (N := some 101) (v := ?_) (a' := ?_) #[true, true, true, true, true, true, true, true, true, true, true, true, true, true, true, true, true, true, true, true, true, true, true, true, false, true, true, true, false, false, false, true, true, true, false, false, false, false, false, true, true, true, false, false, false, true, false, false, false, false, false, false, false, false] rfl rfl (any_of HT_.out (by kernel_rfl)) (fun _ _ _ h => h) (Or.inl ⟨by rfl, ?_⟩) ?_ ?_
                                rotate_left
                                · intro w'
                                  go_simp
                                  with_reducible rfl
                                rotate_left
                                · simp only [Act.put, sI, sZ, sS, i64_w, i32_w]
                                  rfl
                                refine pure_ (i := 46) (N := some 102) (v := ?_) (a' := ?_) #[true, true, true, true, true, true, true, true, true, true, true, true, true, true, true, true, true, true, true, true, true, true, true, true, false, true, true, true, false, false, false, true, true, true, false, false, false, false, false, true, true, true, false, false, false, true, true, false, false, false, false, false, false, false] rfl rfl (any_of HT_.out (by kernel_rfl)) (fun _ _ _ h => h) (Or.inl ⟨by rfl, ?_⟩) ?_ ?_
                                rotate_left
                                · intro w'
                                  go_simp
                                  with_reducible rfl
                                rotate_left
                                · simp only [Act.put, sI, sZ, sS, i64_w, i32_w]
                                  rfl
                                refine pure_ (i := 47) (N := some 103) (v := ?_) (a' := ?_) #[true, true, true, true, true, true, true, true, true, true, true, true, true, true, true, true, true, true, true, true, true, true, true, true, false, true, true, true, false, false, false, true, true, true, false, false, false, false, false, true, true, true, false, false, false, true, true, true, false, false, false, false, false, false] rfl rfl (any_of HT_.out (by kernel_rfl)) (fun _ _ _ h => h) (Or.inl ⟨by rfl, ?_⟩) ?_ ?_
                                rotate_left
                                · intro w'
                                  go_simp
                                  with_reducible rfl
                                rotate_left
                                · simp only [Act.put, sI, sZ, sS, i64_w, i32_w]
                                  rfl
                                refine take_ (i := 24) (N := some 80) (v := ?_) (a' := ?_) #[true, true, true, true, true, true, true, true, true, true, true, true, true, true, true, true, true, true, true, true, true, true, true, true, true, true, true, true, false, false, false, true, true, true, false, false, false, false, false, true, true, true, false, false, false, true, true, true, false, false, false, false, false, false] rfl rfl (take_ofW HT_.out HW_.out (by kernel_rfl)) (fun _ _ _ h => h) (Or.inl ⟨by rfl, ?_⟩) hHeld ?_ ?_
                                rotate_left
                                · rintro w' ⟨s0, s1, s2, s3, s4, s5, s6, s7, s8, s9, s10, s11, s12, s13, s14⟩
                                  go_simp
                                  with_reducible rfl
                                rotate_left
                                · simp only [Act.put, sI, sZ, sS, i64_w, i32_w]
                                  rfl
                                refine take_ (i := 28) (N := some 84) (v := ?_) (a' := ?_) #[true, true, true, true, true, true, true, true, true, true, true, true, true, true, true, true, true, true, true, true, true, true, true, true, true, true, true, true, true, false, false, true, true, true, false, false, false, false, false, true, true, true, false, false, false, true, true, true, false, false, false, false, false, false] rfl rfl (take_ofW HT_.out HW_.out (by kernel_rfl)) (fun _ _ _ h => h) (Or.inl ⟨by rfl, ?_⟩) hHeld ?_ ?_
                                rotate_left
                                · rintro w' ⟨s0, s1, s2, s3, s4, s5, s6, s7, s8, s9, s10, s11, s12, s13, s14⟩
                                  go_simp
                                  with_reducible rfl
                                rotate_left
                                · simp only [Act.put, sI, sZ, sS, i64_w, i32_w]
                                  rfl
                                refine pure_ (i := 29) (N := some 85) (v := ?_) (a' := ?_) #[true, true, true, true, true, true, true, true, true, true, true, true, true, true, true, true, true, true, true, true, true, true, true, true, true, true, true, true, true, true, false, true, true, true, false, false, false, false, false, true, true, true, false, false, false, true, true, true, false, false, false, false, false, false] rfl rfl (any_of HT_.out (by kernel_rfl)) (fun _ _ _ h => h) (Or.inl ⟨by rfl, ?_⟩) ?_ ?_
                                rotate_left
                                · intro w'
                                  go_simp
                                  with_reducible rfl
                                rotate_left
                                · simp only [Act.put, sI, sZ, sS, i64_w, i32_w]
                                  rfl
                                refine pure_ (i := 30) (N := some 86) (v := ?_) (a' := ?_) #[true, true, true, true, true, true, true, true, true, true, true, true, true, true, true, true, true, true, true, true, true, true, true, true, true, true, true, true, true, true, true, true, true, true, false, false, false, false, false, true, true, true, false, false, false, true, true, true, false, false, false, false, false, false] rfl rfl (any_of HT_.out (by kernel_rfl)) (fun _ _ _ h => h) (Or.inl ⟨by rfl, ?_⟩) ?_ ?_
                                rotate_left
                                · intro w'
                                  go_simp
                                  with_reducible rfl
                                rotate_left
                                · simp only [Act.put, sI, sZ, sS, i64_w, i32_w]
                                  rfl
                                refine take_ (i := 34) (N := some 90) (v := ?_) (a' := ?_) #[true, true, true, true, true, true, true, true, true, true, true, true, true, true, true, true, true, true, true, true, true, true, true, true, true, true, true, true, true, true, true, true, true, true, true, false, false, false, false, true, true, true, false, false, false, true, true, true, false, false, false, false, false, false] rfl rfl (take_ofW HT_.out HW_.out (by kernel_rfl)) (fun _ _ _ h => h) (Or.inl ⟨by rfl, ?_⟩) hHeld ?_ ?_
                                rotate_left
                                · rintro w' ⟨s0, s1, s2, s3, s4, s5, s6, s7, s8, s9, s10, s11, s12, s13, s14⟩
                                  go_simp
                                  with_reducible rfl
                                rotate_left
                                · simp only [Act.put, sI, sZ, sS, i64_w, i32_w]
                                  rfl
                                refine pure_ (i := 35) (N := some 91) (v := ?_) (a' := ?_) #[true, true, true, true, true, true, true, true, true, true, true, true, true, true, true, true, true, true, true, true, true, true, true, true, true, true, true, true, true, true, true, true, true, true, true, true, false, false, false, true, true, true, false, false, false, true, true, true, false, false, false, false, false, false] rfl rfl (any_of HT_.out (by kernel_rfl)) (fun _ _ _ h => h) (Or.inl ⟨by rfl, ?_⟩) ?_ ?_
                                rotate_left
                                · intro w'
                                  go_simp
                                  with_reducible rfl
                                rotate_left
                                · simp only [Act.put, sI, sZ, sS, i64_w, i32_w]
                                  rfl
                                refine pure_ (i := 36) (N := some 92) (v := ?_) (a' := ?_) #[true, true, true, true, true, true, true, true, true, true, true, true, true, true, true, true, true, true, true, true, true, true, true, true, true, true, true, true, true, true, true, true, true, true, true, true, true, false, false, true, true, true, false, false, false, true, true, true, false, false, false, false, false, false] rfl rfl (any_of HT_.out (by kernel_rfl)) (fun _ _ _ h => h) (Or.inl ⟨by rfl, ?_⟩) ?_ ?_
                                rotate_left
                                · intro w'
                                  go_simp
                                  with_reducible rfl
                                rotate_left
                                · simp only [Act.put, sI, sZ, sS, i64_w, i32_w]
                                  rfl
                                refine take_ (i := 38) (N := some 94) (v := ?_) (a' := ?_) #[true, true, true, true, true, true, true, true, true, true, true, true, true, true, true, true, true, true, true, true, true, true, true, true, true, true, true, true, true, true, true, true, true, true, true, true, true, false, true, true, true, true, false, false, false, true, true, true, false, false, false, false, false, false] rfl rfl (take_ofW HT_.out HW_.out (by kernel_rfl)) (fun _ _ _ h => h) (Or.inl ⟨by rfl, ?_⟩) hHeld ?_ ?_
                                rotate_left
                                · rintro w' ⟨s0, s1, s2, s3, s4, s5, s6, s7, s8, s9, s10, s11, s12, s13, s14⟩
                                  go_simp
                                  with_reducible rfl
                                rotate_left
                                · simp only [Act.put, sI, sZ, sS, i64_w, i32_w]
                                  rfl
                                refine take_ (i := 42) (N := some 98) (v := ?_) (a' := ?_) #[true, true, true, true, true, true, true, true, true, true, true, true, true, true, true, true, true, true, true, true, true, true, true, true, true, true, true, true, true, true, true, true, true, true, true, true, true, false, true, true, true, true, true, false, false, true, true, true, false, false, false, false, false, false] rfl rfl (take_ofW HT_.out HW_.out (by kernel_rfl)) (fun _ _ _ h => h) (Or.inl ⟨by rfl, ?_⟩) hHeld ?_ ?_
                                rotate_left
                                · rintro w' ⟨s0, s1, s2, s3, s4, s5, s6, s7, s8, s9, s10, s11, s12, s13, s14⟩
                                  go_simp
                                  with_reducible rfl
                                rotate_left
                                · simp only [Act.put, sI, sZ, sS, i64_w, i32_w]
                                  rfl
                                refine pure_ (i := 43) (N := some 99) (v := ?_) (a' := ?_) #[true, true, true, true, true, true, true, true, true, true, true, true, true, true, true, true, true, true, true, true, true, true, true, true, true, true, true, true, true, true, true, true, true, true, true, true, true, false, true, true, true, true, true, true, false, true, true, true, false, false, false, false, false, false] rfl rfl (any_of HT_.out (by kernel_rfl)) (fun _ _ _ h => h) (Or.inl ⟨by rfl, ?_⟩) ?_ ?_
                                rotate_left
                                · intro w'
                                  go_simp
                                  with_reducible rfl
                                rotate_left
                                · simp only [Act.put, sI, sZ, sS, i64_w, i32_w]
                                  rfl
                                refine pure_ (i := 44) (N := some 100) (v := ?_) (a' := ?_) #[true, true, true, true, true, true, true, true, true, true, true, true, true, true, true, true, true, true, true, true, true, true, true, true, true, true, true, true, true, true, true, true, true, true, true, true, true, false, true, true, true, true, true, true, true, true, true, true, false, false, false, false, false, false] rfl rfl (any_of HT_.out (by kernel_rfl)) (fun _ _ _ h => h) (Or.inl ⟨by rfl, ?_⟩) ?_ ?_
                                rotate_left
                                · intro w'
                                  go_simp
                                  with_reducible rfl
                                rotate_left
                                · simp only [Act.put, sI, sZ, sS, i64_w, i32_w]
                                  rfl
                                refine take_ (i := 48) (N := some 104) (v := ?_) (a' := ?_) #[true, true, true, true, true, true, true, true, true, true, true, true, true, true, true, true, true, true, true, true, true, true, true, true, true, true, true, true, true, true, true, true, true, true, true, true, true, false, true, true, true, true, true, true, true, true, true, true, true, false, false, false, false, false] rfl rfl (take_ofW HT_.out HW_.out (by kernel_rfl)) (fun _ _ _ h => h) (Or.inl ⟨by rfl, ?_⟩) hHeld ?_ ?_
                                rotate_left
                                · rintro w' ⟨s0, s1, s2, s3, s4, s5, s6, s7, s8, s9, s10, s11, s12, s13, s14⟩
                                  go_simp
                                  with_reducible rfl
                                rotate_left
                                · simp only [Act.put, sI, sZ, sS, i64_w, i32_w]
                                  rfl
                                refine pure_ (i := 49) (N := some 105) (v := ?_) (a' := ?_) #[true, true, true, true, true, true, true, true, true, true, true, true, true, true, true, true, true, true, true, true, true, true, true, true, true, true, true, true, true, true, true, true, true, true, true, true, true, false, true, true, true, true, true, true, true, true, true, true, true, true, false, false, false, false] rfl rfl (any_of HT_.out (by kernel_rfl)) (fun _ _ _ h => h) (Or.inl ⟨by rfl, ?_⟩) ?_ ?_
                                rotate_left
                                · intro w'
                                  go_simp
                                  with_reducible rfl
                                rotate_left
                                · simp only [Act.put, sI, sZ, sS, i64_w, i32_w]
                                  rfl
                                refine pure_ (i := 50) (N := some 106) (v := ?_) (a' := ?_) #[true, true, true, true, true, true, true, true, true, true, true, true, true, true, true, true, true, true, true, true, true, true, true, true, true, true, true, true, true, true, true, true, true, true, true, true, true, false, true, true, true, true, true, true, true, true, true, true, true, true, true, false, false, false] rfl rfl (any_of HT_.out (by kernel_rfl)) (fun _ _ _ h => h) (Or.inl ⟨by rfl, ?_⟩) ?_ ?_
                                rotate_left
                                · intro w'
                                  go_simp
                                  with_reducible rfl
                                rotate_left
                                · simp only [Act.put, sI, sZ, sS, i64_w, i32_w]
                                  rfl
                                refine one_ (i := 37) (N := some 93) #[true, true, true, true, true, true, true, true, true, true, true, true, true, true, true, true, true, true, true, true, true, true, true, true, true, true, true, true, true, true, true, true, true, true, true, true, true, true, true, true, true, true, true, true, true, true, true, true, true, true, true, false, false, false] rfl rfl (one_of HT_.out (by kernel_rfl)) (by decide) (fun K hK => ?_)
                                refine goes_ Tryd.func11 (by kernel_rfl) rfl #[.agg #[.bool t275, .int .i64 t276, .int .i64 t277, .int .i64 t278, .int .i64 t279, .int .i64 t280, .int .i64 t281], .int .i64 (wrap64 (1 + (Go.bits .and .i64 (rd l0 x11_3) 63))), .int .u64 (Go.bits .xor .u64 18446744073709551615 (IntKind.u64.wrap (rd l0 x11_3)))] (by rfl) rfl rfl (by (try simp only [List.map_toArray, List.map_cons, List.map_nil]); first | done | rfl | (simp only [List.length_drop, List.length_take]; rfl)) ?_
                                with_reducible refine (coalesce_Static.calls t275 t276 t277 t278 t279 t280 t281 (wrap64 (1 + (Go.bits .and .i64 (rd l0 x11_3) 63))) (Go.bits .xor .u64 18446744073709551615 (IntKind.u64.wrap (rd l0 x11_3))) t291 _ A33.out).mono ?_
                                rintro e w39 ⟨rfl, hb⟩
                                refine ⟨_, rfl, ?_⟩
                                have n0_ := Aside0.mk (Kd.R_below (by (with_reducible repeat (first | apply Kd.R_alloc | apply Kd.R_drewN | apply Kd.R_drew)); exact HO_8.out) hb)
                                have n1_ := Aside0.mk (bB (g := gb266) (o := .cells #[.bool a2_0, .int .i16 a2_1, .int .i16 a2_2, .int .i16 a2_3, .int .i32 a2_4, .int .u16 a2_5, .int .u16 a2_6, .bool a2_7] 27 (0, 0)) (by (with_reducible repeat (first | refine bN ?_ _ | refine bD ?_ | refine bA ?_ _)); exact BK266.out) hb)
                                have n2_ := Aside0.mk (bB (g := gb282) (o := .cells #[.bool t275, .int .i64 t276, .int .i64 t277, .int .i64 t278, .int .i64 t279, .int .i64 t280, .int .i64 t281] 35 (0, 0)) (by (with_reducible repeat (first | refine bN ?_ _ | refine bD ?_ | refine bA ?_ _)); exact BK282.out) hb)
                                have n3_ := Aside0.mk (below_step (by repeat (first | (with_reducible first | exact HB.out | apply pA | apply pN | apply p1_ | refine bS ?_ GE266.out | refine bS ?_ GE282.out) | exact HB.out)) hb)
                                clear HO_8
                                clear BK266
                                clear BK282
                                clear HB
                                have HO_8 := n0_
                                have BK266 := n1_
                                have BK282 := n2_
                                have HB := n3_
                                clear n0_ n1_ n2_ n3_
                                (try clear hb)
                                (try clear hb2)
                                (try clear hk)
                                (try clear hi)
                                refine hK.out _ _ ⟨(bC BK282.out 0).trans rfl, (bC BK282.out 1).trans rfl, (bC BK282.out 2).trans rfl, (bC BK282.out 3).trans rfl, (bC BK282.out 4).trans rfl, (bC BK282.out 5).trans rfl, (bC BK282.out 6).trans rfl, ((HB.out.cell (World.block_lt_of_cell? w _ hw283_0)).trans hw283_0), ((HB.out.cell (World.block_lt_of_cell? w _ hw284_0)).trans hw284_0), ((HB.out.cell (World.block_lt_of_cell? w _ hw286_0)).trans hw286_0), ((HB.out.cell (World.block_lt_of_cell? w _ hw287_0)).trans hw287_0), ((HB.out.cell (World.block_lt_of_cell? w _ hw289_0)).trans hw289_0), ((HB.out.cell (World.block_lt_of_cell? w _ hw290_0)).trans hw290_0), ((HB.out.cell (World.block_lt_of_cell? w _ hw292_0)).trans hw292_0), ((HB.out.cell (World.block_lt_of_cell? w _ hw293_0)).trans hw293_0)⟩ (fun hHeld => ?_)
                                clear hK K
                                refine norm_ (a' := ?_) ?_ ?_
                                rotate_left
                                · show Act.put _ (some 93) _ = _
                                  simp only [Act.put, sI, sZ, sS, i64_w, i32_w]
                                  rfl
                                refine one_ (i := 51) (N := some 107) #[true, true, true, true, true, true, true, true, true, true, true, true, true, true, true, true, true, true, true, true, true, true, true, true, true, true, true, true, true, true, true, true, true, true, true, true, true, true, true, true, true, true, true, true, true, true, true, true, true, true, true, true, false, false] rfl rfl (one_of HT_.out (by kernel_rfl)) (by decide) (fun K hK => ?_)
                                refine goes_ Tryd.func12 (by kernel_rfl) rfl #[.agg #[.bool t275, .int .i64 t276, .int .i64 t277, .int .i64 t278, .int .i64 t279, .int .i64 t280, .int .i64 t281], .int .i64 (wrap64 (1 + (Go.bits .and .i64 (rd l0 x11_3) 63))), .int .u64 (Go.bits .xor .u64 18446744073709551615 (IntKind.u64.wrap (rd l0 x11_3)))] (by rfl) rfl rfl (by (try simp only [List.map_toArray, List.map_cons, List.map_nil]); first | done | rfl | (simp only [List.length_drop, List.length_take]; rfl)) ?_
                                with_reducible refine (v22_Static.calls kj24 t275 t276 t277 t278 t279 t280 t281 (wrap64 (1 + (Go.bits .and .i64 (rd l0 x11_3) 63))) (Go.bits .xor .u64 18446744073709551615 (IntKind.u64.wrap (rd l0 x11_3))) t294 _ A34.out).mono ?_
                                rintro e w40 ⟨rfl, hb⟩
                                refine ⟨_, rfl, ?_⟩
                                have n0_ := Aside0.mk (Kd.R_below (by (with_reducible repeat (first | apply Kd.R_alloc | apply Kd.R_drewN | apply Kd.R_drew)); exact HO_8.out) hb)
                                have n1_ := Aside0.mk (bB (g := gb266) (o := .cells #[.bool a2_0, .int .i16 a2_1, .int .i16 a2_2, .int .i16 a2_3, .int .i32 a2_4, .int .u16 a2_5, .int .u16 a2_6, .bool a2_7] 27 (0, 0)) (by (with_reducible repeat (first | refine bN ?_ _ | refine bD ?_ | refine bA ?_ _)); exact BK266.out) hb)
                                have n2_ := Aside0.mk (bB (g := gb282) (o := .cells #[.bool t275, .int .i64 t276, .int .i64 t277, .int .i64 t278, .int .i64 t279, .int .i64 t280, .int .i64 t281] 35 (0, 0)) (by (with_reducible repeat (first | refine bN ?_ _ | refine bD ?_ | refine bA ?_ _)); exact BK282.out) hb)
                                have n3_ := Aside0.mk (below_step (by repeat (first | (with_reducible first | exact HB.out | apply pA | apply pN | apply p1_ | refine bS ?_ GE266.out | refine bS ?_ GE282.out) | exact HB.out)) hb)
                                clear HO_8
                                clear BK266
                                clear BK282
                                clear HB
                                have HO_8 := n0_
                                have BK266 := n1_
                                have BK282 := n2_
                                have HB := n3_
                                clear n0_ n1_ n2_ n3_
                                (try clear hb)
                                (try clear hb2)
                                (try clear hk)
                                (try clear hi)
                                refine hK.out _ _ ⟨(bC BK282.out 0).trans rfl, (bC BK282.out 1).trans rfl, (bC BK282.out 2).trans rfl, (bC BK282.out 3).trans rfl, (bC BK282.out 4).trans rfl, (bC BK282.out 5).trans rfl, (bC BK282.out 6).trans rfl, ((HB.out.cell (World.block_lt_of_cell? w _ hw283_0)).trans hw283_0), ((HB.out.cell (World.block_lt_of_cell? w _ hw284_0)).trans hw284_0), ((HB.out.cell (World.block_lt_of_cell? w _ hw286_0)).trans hw286_0), ((HB.out.cell (World.block_lt_of_cell? w _ hw287_0)).trans hw287_0), ((HB.out.cell (World.block_lt_of_cell? w _ hw289_0)).trans hw289_0), ((HB.out.cell (World.block_lt_of_cell? w _ hw290_0)).trans hw290_0), ((HB.out.cell (World.block_lt_of_cell? w _ hw292_0)).trans hw292_0), ((HB.out.cell (World.block_lt_of_cell? w _ hw293_0)).trans hw293_0)⟩ (fun hHeld => ?_)
                                clear hK K
                                refine norm_ (a' := ?_) ?_ ?_
                                rotate_left
                                · show Act.put _ (some 107) _ = _
                                  simp only [Act.put, sI, sZ, sS, i64_w, i32_w]
                                  rfl
                                refine pure_ (i := 52) (N := some 108) (v := ?_) (a' := ?_) #[true, true, true, true, true, true, true, true, true, true, true, true, true, true, true, true, true, true, true, true, true, true, true, true, true, true, true, true, true, true, true, true, true, true, true, true, true, true, true, true, true, true, true, true, true, true, true, true, true, true, true, true, true, false] rfl rfl (any_of HT_.out (by kernel_rfl)) (fun _ _ _ h => h) (Or.inl ⟨by rfl, ?_⟩) ?_ ?_
                                rotate_left
                                · intro w'
                                  go_simp
                                  with_reducible rfl
                                rotate_left
                                · simp only [Act.put, sI, sZ, sS, i64_w, i32_w]
                                  rfl
                                refine pure_ (i := 53) (N := some 109) (v := ?_) (a' := ?_) #[true, true, true, true, true, true, true, true, true, true, true, true, true, true, true, true, true, true, true, true, true, true, true, true, true, true, true, true, true, true, true, true, true, true, true, true, true, true, true, true, true, true, true, true, true, true, true, true, true, true, true, true, true, true] rfl rfl (any_of HT_.out (by kernel_rfl)) (fun _ _ _ h => h) (Or.inl ⟨by rfl, ?_⟩) ?_ ?_
                                rotate_left
                                · intro w'
                                  go_simp
                                  with_reducible rfl
                                rotate_left
                                · simp only [Act.put, sI, sZ, sS, i64_w, i32_w]
                                  rfl
                                refine done_ (done_of HT_.out (by kernel_rfl)) ?_
                                try go_wp2
                                go_roundg kj24
                                case measure => have := HJ5.out; have := HJ10.out; have := HK3.out; have := HJ24.out; omega
                                case rel => exact ⟨(wrap64 (x11_3 + 1)), (by first | rfl | (simp; done) | (simp [*]; done)), H', ⟨by have := HJ5.out; have := HJ10.out; have := HK3.out; have := HJ24.out; omega⟩, ⟨by (with_reducible repeat (first | apply Kd.R_alloc | apply Kd.R_drewN | apply Kd.R_drew)); exact HO_8.out⟩, ⟨by (with_reducible repeat (first | refine bN ?_ _ | refine bD ?_ | refine bA ?_ _)); exact BK266.out⟩, ⟨by (with_reducible repeat (first | refine bN ?_ _ | refine bD ?_ | refine bA ?_ _)); exact BK282.out⟩, ⟨by repeat (first | (with_reducible first | exact HB.out | apply pA | apply pN | apply p1_ | refine bS ?_ GE266.out | refine bS ?_ GE282.out) | exact HB.out)⟩⟩
                              · rw [if_neg c35] at H
                                have c35b0 : (t291 == t294) = false := beq_eq_false_iff_ne.mpr c35
                                have c35b1 : (t291 != t294) = true := bne_iff_ne.mpr c35
                                obtain rfl := Option.some.inj H
                                try go_wp2
                                have n0_ := Aside0.mk (Kd.R_drew HO_8.out)
                                have n1_ := Aside0.mk (bD BK266.out)
                                have n2_ := Aside0.mk (bD BK282.out)
                                have n3_ := Aside0.mk (p1_ HB.out)
                                clear HO_8
                                clear BK266
                                clear BK282
                                clear HB
                                have HO_8 := n0_
                                have BK266 := n1_
                                have BK282 := n2_
                                have HB := n3_
                                clear n0_ n1_ n2_ n3_
                                have p283 : 0 ≤ (x11_3 : Int) := of_decide_eq_true (by first | (with_reducible assumption) | assumption)
                                have q283 : x11_3 < (l0.length : Int) := of_decide_eq_true (by first | (with_reducible assumption) | assumption)
                                obtain ⟨ad283, e283, hx283_0⟩ := Kd.at_int HR0.out x11_3 p283 q283
                                have hw283_0 := hx283_0
                                cases e283
                                replace hx283_0 := (HB.out.cell (World.block_lt_of_cell? w _ hx283_0)).trans hx283_0
                                replace p283 := eq_true p283
                                replace q283 := eq_true q283
                                have p284 : 0 ≤ (x11_3 : Int) := of_decide_eq_true (by first | (with_reducible assumption) | assumption)
                                have q284 : x11_3 < (l0.length : Int) := of_decide_eq_true (by first | (with_reducible assumption) | assumption)
                                obtain ⟨ad284, e284, hx284_0⟩ := Kd.at_int HR0.out x11_3 p284 q284
                                have hw284_0 := hx284_0
                                obtain rfl : ad283 = ad284 := (by injection e284)
                                replace hx284_0 := (HB.out.cell (World.block_lt_of_cell? w _ hx284_0)).trans hx284_0
                                replace p284 := eq_true p284
                                replace q284 := eq_true q284
                                have p286 : 0 ≤ (x11_3 : Int) := of_decide_eq_true (by first | (with_reducible assumption) | assumption)
                                have q286 : x11_3 < (l0.length : Int) := of_decide_eq_true (by first | (with_reducible assumption) | assumption)
                                obtain ⟨ad286, e286, hx286_0⟩ := Kd.at_int HR0.out x11_3 p286 q286
                                have hw286_0 := hx286_0
                                obtain rfl : ad283 = ad286 := (by injection e286)
                                replace hx286_0 := (HB.out.cell (World.block_lt_of_cell? w _ hx286_0)).trans hx286_0
                                replace p286 := eq_true p286
                                replace q286 := eq_true q286
                                have p287 : 0 ≤ (x11_3 : Int) := of_decide_eq_true (by first | (with_reducible assumption) | assumption)
                                have q287 : x11_3 < (l0.length : Int) := of_decide_eq_true (by first | (with_reducible assumption) | assumption)
                                obtain ⟨ad287, e287, hx287_0⟩ := Kd.at_int HR0.out x11_3 p287 q287
                                have hw287_0 := hx287_0
                                obtain rfl : ad283 = ad287 := (by injection e287)
                                replace hx287_0 := (HB.out.cell (World.block_lt_of_cell? w _ hx287_0)).trans hx287_0
                                replace p287 := eq_true p287
                                replace q287 := eq_true q287
                                have p289 : 0 ≤ (x11_3 : Int) := of_decide_eq_true (by first | (with_reducible assumption) | assumption)
                                have q289 : x11_3 < (l0.length : Int) := of_decide_eq_true (by first | (with_reducible assumption) | assumption)
                                obtain ⟨ad289, e289, hx289_0⟩ := Kd.at_int HR0.out x11_3 p289 q289
                                have hw289_0 := hx289_0
                                obtain rfl : ad283 = ad289 := (by injection e289)
                                replace hx289_0 := (HB.out.cell (World.block_lt_of_cell? w _ hx289_0)).trans hx289_0
                                replace p289 := eq_true p289
                                replace q289 := eq_true q289
                                have p290 : 0 ≤ (x11_3 : Int) := of_decide_eq_true (by first | (with_reducible assumption) | assumption)
                                have q290 : x11_3 < (l0.length : Int) := of_decide_eq_true (by first | (with_reducible assumption) | assumption)
                                obtain ⟨ad290, e290, hx290_0⟩ := Kd.at_int HR0.out x11_3 p290 q290
                                have hw290_0 := hx290_0
                                obtain rfl : ad283 = ad290 := (by injection e290)
                                replace hx290_0 := (HB.out.cell (World.block_lt_of_cell? w _ hx290_0)).trans hx290_0
                                replace p290 := eq_true p290
                                replace q290 := eq_true q290
                                have p292 : 0 ≤ (x11_3 : Int) := of_decide_eq_true (by first | (with_reducible assumption) | assumption)
                                have q292 : x11_3 < (l0.length : Int) := of_decide_eq_true (by first | (with_reducible assumption) | assumption)
                                obtain ⟨ad292, e292, hx292_0⟩ := Kd.at_int HR0.out x11_3 p292 q292
                                have hw292_0 := hx292_0
                                obtain rfl : ad283 = ad292 := (by injection e292)
                                replace hx292_0 := (HB.out.cell (World.block_lt_of_cell? w _ hx292_0)).trans hx292_0
                                replace p292 := eq_true p292
                                replace q292 := eq_true q292
                                have p293 : 0 ≤ (x11_3 : Int) := of_decide_eq_true (by first | (with_reducible assumption) | assumption)
                                have q293 : x11_3 < (l0.length : Int) := of_decide_eq_true (by first | (with_reducible assumption) | assumption)
                                obtain ⟨ad293, e293, hx293_0⟩ := Kd.at_int HR0.out x11_3 p293 q293
                                have hw293_0 := hx293_0
                                obtain rfl : ad283 = ad293 := (by injection e293)
                                replace hx293_0 := (HB.out.cell (World.block_lt_of_cell? w _ hx293_0)).trans hx293_0
                                replace p293 := eq_true p293
                                replace q293 := eq_true q293
                                refine start_ (n := 54) (S := fun w' => w'.cell? ⟨gb282, 0, none⟩ = some (.bool t275) ∧ w'.cell? ⟨gb282, 1, none⟩ = some (.int .i64 t276) ∧ w'.cell? ⟨gb282, 2, none⟩ = some (.int .i64 t277) ∧ w'.cell? ⟨gb282, 3, none⟩ = some (.int .i64 t278) ∧ w'.cell? ⟨gb282, 4, none⟩ = some (.int .i64 t279) ∧ w'.cell? ⟨gb282, 5, none⟩ = some (.int .i64 t280) ∧ w'.cell? ⟨gb282, 6, none⟩ = some (.int .i64 t281) ∧ w'.cell? (ad283.add (x11_3).toNat) = some (.int .i64 (rd l0 x11_3)) ∧ w'.cell? (ad283.add (x11_3).toNat) = some (.int .i64 (rd l0 x11_3)) ∧ w'.cell? (ad283.add (x11_3).toNat) = some (.int .i64 (rd l0 x11_3)) ∧ w'.cell? (ad283.add (x11_3).toNat) = some (.int .i64 (rd l0 x11_3)) ∧ w'.cell? (ad283.add (x11_3).toNat) = some (.int .i64 (rd l0 x11_3)) ∧ w'.cell? (ad283.add (x11_3).toNat) = some (.int .i64 (rd l0 x11_3)) ∧ w'.cell? (ad283.add (x11_3).toNat) = some (.int .i64 (rd l0 x11_3)) ∧ w'.cell? (ad283.add (x11_3).toNat) = some (.int .i64 (rd l0 x11_3))) (ds := []) #[false, false, false, false, false, false, false, false, false, false, false, false, false, false, false, false, false, false, false, false, false, false, false, false, false, false, false, false, false, false, false, false, false, false, false, false, false, false, false, false, false, false, false, false, false, false, false, false, false, false, false, false, false, false] (by kernel_rfl) rfl rfl ⟨(bC BK282.out 0).trans rfl, (bC BK282.out 1).trans rfl, (bC BK282.out 2).trans rfl, (bC BK282.out 3).trans rfl, (bC BK282.out 4).trans rfl, (bC BK282.out 5).trans rfl, (bC BK282.out 6).trans rfl, ((HB.out.cell (World.block_lt_of_cell? w _ hw283_0)).trans hw283_0), ((HB.out.cell (World.block_lt_of_cell? w _ hw284_0)).trans hw284_0), ((HB.out.cell (World.block_lt_of_cell? w _ hw286_0)).trans hw286_0), ((HB.out.cell (World.block_lt_of_cell? w _ hw287_0)).trans hw287_0), ((HB.out.cell (World.block_lt_of_cell? w _ hw289_0)).trans hw289_0), ((HB.out.cell (World.block_lt_of_cell? w _ hw290_0)).trans hw290_0), ((HB.out.cell (World.block_lt_of_cell? w _ hw292_0)).trans hw292_0), ((HB.out.cell (World.block_lt_of_cell? w _ hw293_0)).trans hw293_0)⟩ (fun hHeld => ?_); refine with_tabW w22_CMatchesReference.tab15 w22_CMatchesReference.bits15 (fun HT_ HW_ => ?_)
                                generalize wc.drew = w41 at HO_8 BK266 BK282 HB hx283_0 hx284_0 hx286_0 hx287_0 hx289_0 hx290_0 hx292_0 hx293_0 hHeld ⊢
                                refine pure_ (i := 1) (N := some 57) (v := ?_) (a' := ?_) #[false, true, false, false, false, false, false, false, false, false, false, false, false, false, false, false, false, false, false, false, false, false, false, false, false, false, false, false, false, false, false, false, false, false, false, false, false, false, false, false, false, false, false, false, false, false, false, false, false, false, false, false, false, false] rfl rfl (any_of HT_.out (by kernel_rfl)) (fun _ _ _ h => h) (Or.inl ⟨by rfl, ?_⟩) ?_ ?_
                                rotate_left
                                · intro w'
                                  go_simp
                                  with_reducible rfl
                                rotate_left
                                · simp only [Act.put, sI, sZ, sS, i64_w, i32_w]
                                  rfl
                                refine pure_ (i := 2) (N := some 58) (v := ?_) (a' := ?_) #[false, true, true, false, false, false, false, false, false, false, false, false, false, false, false, false, false, false, false, false, false, false, false, false, false, false, false, false, false, false, false, false, false, false, false, false, false, false, false, false, false, false, false, false, false, false, false, false, false, false, false, false, false, false] rfl rfl (any_of HT_.out (by kernel_rfl)) (fun _ _ _ h => h) (Or.inl ⟨by rfl, ?_⟩) ?_ ?_
                                rotate_left
                                · intro w'
                                  go_simp
                                  with_reducible rfl
                                rotate_left
                                · simp only [Act.put, sI, sZ, sS, i64_w, i32_w]
                                  rfl
                                refine pure_ (i := 3) (N := some 59) (v := ?_) (a' := ?_) #[false, true, true, true, false, false, false, false, false, false, false, false, false, false, false, false, false, false, false, false, false, false, false, false, false, false, false, false, false, false, false, false, false, false, false, false, false, false, false, false, false, false, false, false, false, false, false, false, false, false, false, false, false, false] rfl rfl (any_of HT_.out (by kernel_rfl)) (fun _ _ _ h => h) (Or.inl ⟨by rfl, ?_⟩) ?_ ?_
                                rotate_left
                                · intro w'
                                  go_simp
                                  with_reducible rfl
                                rotate_left
                                · simp only [Act.put, sI, sZ, sS, i64_w, i32_w]
                                  rfl
                                refine pure_ (i := 5) (N := some 61) (v := ?_) (a' := ?_) #[false, true, true, true, false, true, false, false, false, false, false, false, false, false, false, false, false, false, false, false, false, false, false, false, false, false, false, false, false, false, false, false, false, false, false, false, false, false, false, false, false, false, false, false, false, false, false, false, false, false, false, false, false, false] rfl rfl (any_of HT_.out (by kernel_rfl)) (fun _ _ _ h => h) (Or.inl ⟨by rfl, ?_⟩) ?_ ?_
                                rotate_left
                                · intro w'
                                  go_simp
                                  with_reducible rfl
                                rotate_left
                                · simp only [Act.put, sI, sZ, sS, i64_w, i32_w]
                                  rfl
                                refine pure_ (i := 6) (N := some 62) (v := ?_) (a' := ?_) #[false, true, true, true, false, true, true, false, false, false, false, false, false, false, false, false, false, false, false, false, false, false, false, false, false, false, false, false, false, false, false, false, false, false, false, false, false, false, false, false, false, false, false, false, false, false, false, false, false, false, false, false, false, false] rfl rfl (any_of HT_.out (by kernel_rfl)) (fun _ _ _ h => h) (Or.inl ⟨by rfl, ?_⟩) ?_ ?_
                                rotate_left
                                · intro w'
                                  go_simp
                                  with_reducible rfl
                                rotate_left
                                · simp only [Act.put, sI, sZ, sS, i64_w, i32_w]
                                  rfl
                                refine pure_ (i := 7) (N := some 63) (v := ?_) (a' := ?_) #[false, true, true, true, false, true, true, true, false, false, false, false, false, false, false, false, false, false, false, false, false, false, false, false, false, false, false, false, false, false, false, false, false, false, false, false, false, false, false, false, false, false, false, false, false, false, false, false, false, false, false, false, false, false] rfl rfl (any_of HT_.out (by kernel_rfl)) (fun _ _ _ h => h) (Or.inl ⟨by rfl, ?_⟩) ?_ ?_
                                rotate_left
                                · intro w'
                                  go_simp
                                  with_reducible rfl
                                rotate_left
                                · simp only [Act.put, sI, sZ, sS, i64_w, i32_w]
                                  rfl
                                refine pure_ (i := 12) (N := some 68) (v := ?_) (a' := ?_) #[false, true, true, true, false, true, true, true, false, false, false, false, true, false, false, false, false, false, false, false, false, false, false, false, false, false, false, false, false, false, false, false, false, false, false, false, false, false, false, false, false, false, false, false, false, false, false, false, false, false, false, false, false, false] rfl rfl (any_of HT_.out (by kernel_rfl)) (fun _ _ _ h => h) (Or.inl ⟨by rfl, ?_⟩) ?_ ?_
                                rotate_left
                                · intro w'
                                  go_simp
                                  with_reducible rfl
                                rotate_left
                                · simp only [Act.put, sI, sZ, sS, i64_w, i32_w]
                                  rfl
                                refine pure_ (i := 13) (N := some 69) (v := ?_) (a' := ?_) #[false, true, true, true, false, true, true, true, false, false, false, false, true, true, false, false, false, false, false, false, false, false, false, false, false, false, false, false, false, false, false, false, false, false, false, false, false, false, false, false, false, false, false, false, false, false, false, false, false, false, false, false, false, false] rfl rfl (any_of HT_.out (by kernel_rfl)) (fun _ _ _ h => h) (Or.inl ⟨by rfl, ?_⟩) ?_ ?_
                                rotate_left
                                · intro w'
                                  go_simp
                                  with_reducible rfl
                                rotate_left
                                · simp only [Act.put, sI, sZ, sS, i64_w, i32_w]
                                  rfl
                                refine pure_ (i := 14) (N := some 70) (v := ?_) (a' := ?_) #[false, true, true, true, false, true, true, true, false, false, false, false, true, true, true, false, false, false, false, false, false, false, false, false, false, false, false, false, false, false, false, false, false, false, false, false, false, false, false, false, false, false, false, false, false, false, false, false, false, false, false, false, false, false] rfl rfl (any_of HT_.out (by kernel_rfl)) (fun _ _ _ h => h) (Or.inl ⟨by rfl, ?_⟩) ?_ ?_
                                rotate_left
                                · intro w'
                                  go_simp
                                  with_reducible rfl
                                rotate_left
                                · simp only [Act.put, sI, sZ, sS, i64_w, i32_w]
                                  rfl
                                refine pure_ (i := 16) (N := some 72) (v := ?_) (a' := ?_) #[false, true, true, true, false, true, true, true, false, false, false, false, true, true, true, false, true, false, false, false, false, false, false, false, false, false, false, false, false, false, false, false, false, false, false, false, false, false, false, false, false, false, false, false, false, false, false, false, false, false, false, false, false, false] rfl rfl (any_of HT_.out (by kernel_rfl)) (fun _ _ _ h => h) (Or.inl ⟨by rfl, ?_⟩) ?_ ?_
                                rotate_left
                                · intro w'
                                  go_simp
                                  with_reducible rfl
                                rotate_left
                                · simp only [Act.put, sI, sZ, sS, i64_w, i32_w]
                                  rfl
                                refine pure_ (i := 17) (N := some 73) (v := ?_) (a' := ?_) #[false, true, true, true, false, true, true, true, false, false, false, false, true, true, true, false, true, true, false, false, false, false, false, false, false, false, false, false, false, false, false, false, false, false, false, false, false, false, false, false, false, false, false, false, false, false, false, false, false, false, false, false, false, false] rfl rfl (any_of HT_.out (by kernel_rfl)) (fun _ _ _ h => h) (Or.inl ⟨by rfl, ?_⟩) ?_ ?_
                                rotate_left
                                · intro w'
                                  go_simp
                                  with_reducible rfl
                                rotate_left
                                · simp only [Act.put, sI, sZ, sS, i64_w, i32_w]
                                  rfl
                                refine pure_ (i := 18) (N := some 74) (v := ?_) (a' := ?_) #[false, true, true, true, false, true, true, true, false, false, false, false, true, true, true, false, true, true, true, false, false, false, false, false, false, false, false, false, false, false, false, false, false, false, false, false, false, false, false, false, false, false, false, false, false, false, false, false, false, false, false, false, false, false] rfl rfl (any_of HT_.out (by kernel_rfl)) (fun _ _ _ h => h) (Or.inl ⟨by rfl, ?_⟩) ?_ ?_
                                rotate_left
                                · intro w'
                                  go_simp
                                  with_reducible rfl
                                rotate_left
                                · simp only [Act.put, sI, sZ, sS, i64_w, i32_w]
                                  rfl
                                refine take_ (i := 0) (N := some 56) (v := ?_) (a' := ?_) #[true, true, true, true, false, true, true, true, false, false, false, false, true, true, true, false, true, true, true, false, false, false, false, false, false, false, false, false, false, false, false, false, false, false, false, false, false, false, false, false, false, false, false, false, false, false, false, false, false, false, false, false, false, false] rfl rfl (take_ofW HT_.out HW_.out (by kernel_rfl)) (fun _ _ _ h => h) (Or.inl ⟨by rfl, ?_⟩) hHeld ?_ ?_
                                rotate_left
                                · rintro w' ⟨s0, s1, s2, s3, s4, s5, s6, s7, s8, s9, s10, s11, s12, s13, s14⟩
                                  go_simp
                                  with_reducible rfl
                                rotate_left
                                · simp only [Act.put, sI, sZ, sS, i64_w, i32_w]
                                  rfl
                                refine take_ (i := 4) (N := some 60) (v := ?_) (a' := ?_) #[true, true, true, true, true, true, true, true, false, false, false, false, true, true, true, false, true, true, true, false, false, false, false, false, false, false, false, false, false, false, false, false, false, false, false, false, false, false, false, false, false, false, false, false, false, false, false, false, false, false, false, false, false, false] rfl rfl (take_ofW HT_.out HW_.out (by kernel_rfl)) (fun _ _ _ h => h) (Or.inl ⟨by rfl, ?_⟩) hHeld ?_ ?_
                                rotate_left
                                · rintro w' ⟨s0, s1, s2, s3, s4, s5, s6, s7, s8, s9, s10, s11, s12, s13, s14⟩
                                  go_simp
                                  with_reducible rfl
                                rotate_left
                                · simp only [Act.put, sI, sZ, sS, i64_w, i32_w]
                                  rfl
                                refine take_ (i := 8) (N := some 64) (v := ?_) (a' := ?_) #[true, true, true, true, true, true, true, true, true, false, false, false, true, true, true, false, true, true, true, false, false, false, false, false, false, false, false, false, false, false, false, false, false, false, false, false, false, false, false, false, false, false, false, false, false, false, false, false, false, false, false, false, false, false] rfl rfl (take_ofW HT_.out HW_.out (by kernel_rfl)) (fun _ _ _ h => h) (Or.inl ⟨by rfl, ?_⟩) hHeld ?_ ?_
                                rotate_left
                                · rintro w' ⟨s0, s1, s2, s3, s4, s5, s6, s7, s8, s9, s10, s11, s12, s13, s14⟩
                                  go_simp
                                  with_reducible rfl
                                rotate_left
                                · simp only [Act.put, sI, sZ, sS, i64_w, i32_w]
                                  rfl
                                refine pure_ (i := 9) (N := some 65) (v := ?_) (a' := ?_) #[true, true, true, true, true, true, true, true, true, true, false, false, true, true, true, false, true, true, true, false, false, false, false, false, false, false, false, false, false, false, false, false, false, false, false, false, false, false, false, false, false, false, false, false, false, false, false, false, false, false, false, false, false, false] rfl rfl (any_of HT_.out (by kernel_rfl)) (fun _ _ _ h => h) (Or.inl ⟨by rfl, ?_⟩) ?_ ?_
                                rotate_left
                                · intro w'
                                  go_simp
                                  with_reducible rfl
                                rotate_left
                                · simp only [Act.put, sI, sZ, sS, i64_w, i32_w]
                                  rfl
                                refine take_ (i := 11) (N := some 67) (v := ?_) (a' := ?_) #[true, true, true, true, true, true, true, true, true, true, false, true, true, true, true, false, true, true, true, false, false, false, false, false, false, false, false, false, false, false, false, false, false, false, false, false, false, false, false, false, false, false, false, false, false, false, false, false, false, false, false, false, false, false] rfl rfl (take_ofW HT_.out HW_.out (by kernel_rfl)) (fun _ _ _ h => h) (Or.inl ⟨by rfl, ?_⟩) hHeld ?_ ?_
                                rotate_left
                                · rintro w' ⟨s0, s1, s2, s3, s4, s5, s6, s7, s8, s9, s10, s11, s12, s13, s14⟩
                                  go_simp
                                  with_reducible rfl
                                rotate_left
                                · simp only [Act.put, sI, sZ, sS, i64_w, i32_w]
                                  rfl
                                refine take_ (i := 15) (N := some 71) (v := ?_) (a' := ?_) #[true, true, true, true, true, true, true, true, true, true, false, true, true, true, true, true, true, true, true, false, false, false, false, false, false, false, false, false, false, false, false, false, false, false, false, false, false, false, false, false, false, false, false, false, false, false, false, false, false, false, false, false, false, false] rfl rfl (take_ofW HT_.out HW_.out (by kernel_rfl)) (fun _ _ _ h => h) (Or.inl ⟨by rfl, ?_⟩) hHeld ?_ ?_
                                rotate_left
                                · rintro w' ⟨s0, s1, s2, s3, s4, s5, s6, s7, s8, s9, s10, s11, s12, s13, s14⟩
                                  go_simp
                                  with_reducible rfl
                                rotate_left
                                · simp only [Act.put, sI, sZ, sS, i64_w, i32_w]
                                  rfl
                                refine take_ (i := 19) (N := some 75) (v := ?_) (a' := ?_) #[true, true, true, true, true, true, true, true, true, true, false, true, true, true, true, true, true, true, true, true, false, false, false, false, false, false, false, false, false, false, false, false, false, false, false, false, false, false, false, false, false, false, false, false, false, false, false, false, false, false, false, false, false, false] rfl rfl (take_ofW HT_.out HW_.out (by kernel_rfl)) (fun _ _ _ h => h) (Or.inl ⟨by rfl, ?_⟩) hHeld ?_ ?_
                                rotate_left
                                · rintro w' ⟨s0, s1, s2, s3, s4, s5, s6, s7, s8, s9, s10, s11, s12, s13, s14⟩
                                  go_simp
                                  with_reducible rfl
                                rotate_left
                                · simp only [Act.put, sI, sZ, sS, i64_w, i32_w]
                                  rfl
                                refine pure_ (i := 20) (N := some 76) (v := ?_) (a' := ?_) #[true, true, true, true, true, true, true, true, true, true, false, true, true, true, true, true, true, true, true, true, true, false, false, false, false, false, false, false, false, false, false, false, false, false, false, false, false, false, false, false, false, false, false, false, false, false, false, false, false, false, false, false, false, false] rfl rfl (any_of HT_.out (by kernel_rfl)) (fun _ _ _ h => h) (Or.inl ⟨by rfl, ?_⟩) ?_ ?_
                                rotate_left
                                · intro w'
                                  go_simp
                                  with_reducible rfl
                                rotate_left
                                · simp only [Act.put, sI, sZ, sS, i64_w, i32_w]
                                  rfl
                                refine one_ (i := 10) (N := some 66) #[true, true, true, true, true, true, true, true, true, true, true, true, true, true, true, true, true, true, true, true, true, false, false, false, false, false, false, false, false, false, false, false, false, false, false, false, false, false, false, false, false, false, false, false, false, false, false, false, false, false, false, false, false, false] rfl rfl (one_of HT_.out (by kernel_rfl)) (by decide) (fun K hK => ?_)
                                refine goes_ Tryd.func11 (by kernel_rfl) rfl #[.agg #[.bool t275, .int .i64 t276, .int .i64 t277, .int .i64 t278, .int .i64 t279, .int .i64 t280, .int .i64 t281], .int .i64 (rd l0 x11_3), .int .u64 (IntKind.u64.wrap (rd l0 x11_3))] (by rfl) rfl rfl (by (try simp only [List.map_toArray, List.map_cons, List.map_nil]); first | done | rfl | (simp only [List.length_drop, List.length_take]; rfl)) ?_
                                with_reducible refine (coalesce_Static.calls t275 t276 t277 t278 t279 t280 t281 (rd l0 x11_3) (IntKind.u64.wrap (rd l0 x11_3)) t285 _ A30.out).mono ?_
                                rintro e w42 ⟨rfl, hb⟩
                                refine ⟨_, rfl, ?_⟩
                                have n0_ := Aside0.mk (Kd.R_below (by (with_reducible repeat (first | apply Kd.R_alloc | apply Kd.R_drewN | apply Kd.R_drew)); exact HO_8.out) hb)
                                have n1_ := Aside0.mk (bB (g := gb266) (o := .cells #[.bool a2_0, .int .i16 a2_1, .int .i16 a2_2, .int .i16 a2_3, .int .i32 a2_4, .int .u16 a2_5, .int .u16 a2_6, .bool a2_7] 27 (0, 0)) (by (with_reducible repeat (first | refine bN ?_ _ | refine bD ?_ | refine bA ?_ _)); exact BK266.out) hb)
                                have n2_ := Aside0.mk (bB (g := gb282) (o := .cells #[.bool t275, .int .i64 t276, .int .i64 t277, .int .i64 t278, .int .i64 t279, .int .i64 t280, .int .i64 t281] 35 (0, 0)) (by (with_reducible repeat (first | refine bN ?_ _ | refine bD ?_ | refine bA ?_ _)); exact BK282.out) hb)
                                have n3_ := Aside0.mk (below_step (by repeat (first | (with_reducible first | exact HB.out | apply pA | apply pN | apply p1_ | refine bS ?_ GE266.out | refine bS ?_ GE282.out) | exact HB.out)) hb)
                                clear HO_8
                                clear BK266
                                clear BK282
                                clear HB
                                have HO_8 := n0_
                                have BK266 := n1_
                                have BK282 := n2_
                                have HB := n3_
                                clear n0_ n1_ n2_ n3_
                                (try clear hb)
                                (try clear hb2)
                                (try clear hk)
                                (try clear hi)
                                refine hK.out _ _ ⟨(bC BK282.out 0).trans rfl, (bC BK282.out 1).trans rfl, (bC BK282.out 2).trans rfl, (bC BK282.out 3).trans rfl, (bC BK282.out 4).trans rfl, (bC BK282.out 5).trans rfl, (bC BK282.out 6).trans rfl, ((HB.out.cell (World.block_lt_of_cell? w _ hw283_0)).trans hw283_0), ((HB.out.cell (World.block_lt_of_cell? w _ hw284_0)).trans hw284_0), ((HB.out.cell (World.block_lt_of_cell? w _ hw286_0)).trans hw286_0), ((HB.out.cell (World.block_lt_of_cell? w _ hw287_0)).trans hw287_0), ((HB.out.cell (World.block_lt_of_cell? w _ hw289_0)).trans hw289_0), ((HB.out.cell (World.block_lt_of_cell? w _ hw290_0)).trans hw290_0), ((HB.out.cell (World.block_lt_of_cell? w _ hw292_0)).trans hw292_0), ((HB.out.cell (World.block_lt_of_cell? w _ hw293_0)).trans hw293_0)⟩ (fun hHeld => ?_)
                                clear hK K
                                refine norm_ (a' := ?_) ?_ ?_
                                rotate_left
                                · show Act.put _ (some 66) _ = _
                                  simp only [Act.put, sI, sZ, sS, i64_w, i32_w]
                                  rfl
                                refine one_ (i := 21) (N := some 77) #[true, true, true, true, true, true, true, true, true, true, true, true, true, true, true, true, true, true, true, true, true, true, false, false, false, false, false, false, false, false, false, false, false, false, false, false, false, false, false, false, false, false, false, false, false, false, false, false, false, false, false, false, false, false] rfl rfl (one_of HT_.out (by kernel_rfl)) (by decide) (fun K hK => ?_)
                                refine goes_ Tryd.func12 (by kernel_rfl) rfl #[.agg #[.bool t275, .int .i64 t276, .int .i64 t277, .int .i64 t278, .int .i64 t279, .int .i64 t280, .int .i64 t281], .int .i64 (rd l0 x11_3), .int .u64 (IntKind.u64.wrap (rd l0 x11_3))] (by rfl) rfl rfl (by (try simp only [List.map_toArray, List.map_cons, List.map_nil]); first | done | rfl | (simp only [List.length_drop, List.length_take]; rfl)) ?_
                                with_reducible refine (v22_Static.calls kj24 t275 t276 t277 t278 t279 t280 t281 (rd l0 x11_3) (IntKind.u64.wrap (rd l0 x11_3)) t288 _ A31.out).mono ?_
                                rintro e w43 ⟨rfl, hb⟩
                                refine ⟨_, rfl, ?_⟩
                                have n0_ := Aside0.mk (Kd.R_below (by (with_reducible repeat (first | apply Kd.R_alloc | apply Kd.R_drewN | apply Kd.R_drew)); exact HO_8.out) hb)
                                have n1_ := Aside0.mk (bB (g := gb266) (o := .cells #[.bool a2_0, .int .i16 a2_1, .int .i16 a2_2, .int .i16 a2_3, .int .i32 a2_4, .int .u16 a2_5, .int .u16 a2_6, .bool a2_7] 27 (0, 0)) (by (with_reducible repeat (first | refine bN ?_ _ | refine bD ?_ | refine bA ?_ _)); exact BK266.out) hb)
                                have n2_ := Aside0.mk (bB (g := gb282) (o := .cells #[.bool t275, .int .i64 t276, .int .i64 t277, .int .i64 t278, .int .i64 t279, .int .i64 t280, .int .i64 t281] 35 (0, 0)) (by (with_reducible repeat (first | refine bN ?_ _ | refine bD ?_ | refine bA ?_ _)); exact BK282.out) hb)
                                have n3_ := Aside0.mk (below_step (by repeat (first | (with_reducible first | exact HB.out | apply pA | apply pN | apply p1_ | refine bS ?_ GE266.out | refine bS ?_ GE282.out) | exact HB.out)) hb)
                                clear HO_8
                                clear BK266
                                clear BK282
                                clear HB
                                have HO_8 := n0_
                                have BK266 := n1_
                                have BK282 := n2_
                                have HB := n3_
                                clear n0_ n1_ n2_ n3_
                                (try clear hb)
                                (try clear hb2)
                                (try clear hk)
                                (try clear hi)
                                refine hK.out _ _ ⟨(bC BK282.out 0).trans rfl, (bC BK282.out 1).trans rfl, (bC BK282.out 2).trans rfl, (bC BK282.out 3).trans rfl, (bC BK282.out 4).trans rfl, (bC BK282.out 5).trans rfl, (bC BK282.out 6).trans rfl, ((HB.out.cell (World.block_lt_of_cell? w _ hw283_0)).trans hw283_0), ((HB.out.cell (World.block_lt_of_cell? w _ hw284_0)).trans hw284_0), ((HB.out.cell (World.block_lt_of_cell? w _ hw286_0)).trans hw286_0), ((HB.out.cell (World.block_lt_of_cell? w _ hw287_0)).trans hw287_0), ((HB.out.cell (World.block_lt_of_cell? w _ hw289_0)).trans hw289_0), ((HB.out.cell (World.block_lt_of_cell? w _ hw290_0)).trans hw290_0), ((HB.out.cell (World.block_lt_of_cell? w _ hw292_0)).trans hw292_0), ((HB.out.cell (World.block_lt_of_cell? w _ hw293_0)).trans hw293_0)⟩ (fun hHeld => ?_)
                                clear hK K
                                refine norm_ (a' := ?_) ?_ ?_
                                rotate_left
                                · show Act.put _ (some 77) _ = _
                                  simp only [Act.put, sI, sZ, sS, i64_w, i32_w]
                                  rfl
                                refine pure_ (i := 22) (N := some 78) (v := ?_) (a' := ?_) #[true, true, true, true, true, true, true, true, true, true, true, true, true, true, true, true, true, true, true, true, true, true, true, false, false, false, false, false, false, false, false, false, false, false, false, false, false, false, false, false, false, false, false, false, false, false, false, false, false, false, false, false, false, false] rfl rfl (any_of HT_.out (by kernel_rfl)) (fun _ _ _ h => h) (Or.inl ⟨by rfl, ?_⟩) ?_ ?_
                                rotate_left
                                · intro w'
                                  go_simp
                                  with_reducible rfl
                                rotate_left
                                · simp only [Act.put, sI, sZ, sS, i64_w, i32_w]
                                  rfl
                                refine pure_ (i := 23) (N := some 79) (v := ?_) (a' := ?_) #[true, true, true, true, true, true, true, true, true, true, true, true, true, true, true, true, true, true, true, true, true, true, true, true, false, false, false, false, false, false, false, false, false, false, false, false, false, false, false, false, false, false, false, false, false, false, false, false, false, false, false, false, false, false] rfl rfl (any_of HT_.out (by kernel_rfl)) (fun _ _ _ h => h) (Or.inl ⟨by rfl, ?_⟩) ?_ ?_
                                rotate_left
                                · intro w'
                                  go_simp
                                  with_reducible rfl
                                rotate_left
                                · simp only [Act.put, sI, sZ, sS, i64_w, i32_w]
                                  rfl
                                refine pure_ (i := 25) (N := some 81) (v := ?_) (a' := ?_) #[true, true, true, true, true, true, true, true, true, true, true, true, true, true, true, true, true, true, true, true, true, true, true, true, false, true, false, false, false, false, false, false, false, false, false, false, false, false, false, false, false, false, false, false, false, false, false, false, false, false, false, false, false, false] rfl rfl (any_of HT_.out (by kernel_rfl)) (fun _ _ _ h => h) (Or.inl ⟨by rfl, ?_⟩) ?_ ?_
                                rotate_left
                                · intro w'
                                  go_simp
                                  with_reducible rfl
                                rotate_left
                                · simp only [Act.put, sI, sZ, sS, i64_w, i32_w]
                                  rfl
                                refine pure_ (i := 26) (N := some 82) (v := ?_) (a' := ?_) #[true, true, true, true, true, true, true, true, true, true, true, true, true, true, true, true, true, true, true, true, true, true, true, true, false, true, true, false, false, false, false, false, false, false, false, false, false, false, false, false, false, false, false, false, false, false, false, false, false, false, false, false, false, false] rfl rfl (any_of HT_.out (by kernel_rfl)) (fun _ _ _ h => h) (Or.inl ⟨by rfl, ?_⟩) ?_ ?_
                                rotate_left
                                · intro w'
                                  go_simp
                                  with_reducible rfl
                                rotate_left
                                · simp only [Act.put, sI, sZ, sS, i64_w, i32_w]
                                  rfl
                                refine pure_ (i := 27) (N := some 83) (v := ?_) (a' := ?_) #[true, true, true, true, true, true, true, true, true, true, true, true, true, true, true, true, true, true, true, true, true, true, true, true, false, true, true, true, false, false, false, false, false, false, false, false, false, false, false, false, false, false, false, false, false, false, false, false, false, false, false, false, false, false] rfl rfl (any_of HT_.out (by kernel_rfl)) (fun _ _ _ h => h) (Or.inl ⟨by rfl, ?_⟩) ?_ ?_
                                rotate_left
                                · intro w'
                                  go_simp
                                  with_reducible rfl
                                rotate_left
                                · simp only [Act.put, sI, sZ, sS, i64_w, i32_w]
                                  rfl
                                refine pure_ (i := 31) (N := some 87) (v := ?_) (a' := ?_) #[true, true, true, true, true, true, true, true, true, true, true, true, true, true, true, true, true, true, true, true, true, true, true, true, false, true, true, true, false, false, false, true, false, false, false, false, false, false, false, false, false, false, false, false, false, false, false, false, false, false, false, false, false, false] rfl rfl (any_of HT_.out (by kernel_rfl)) (fun _ _ _ h => h) (Or.inl ⟨by rfl, ?_⟩) ?_ ?_
                                rotate_left
                                · intro w'
                                  go_simp
                                  with_reducible rfl
                                rotate_left
                                · simp only [Act.put, sI, sZ, sS, i64_w, i32_w]
                                  rfl
                                refine pure_ (i := 32) (N := some 88) (v := ?_) (a' := ?_) #[true, true, true, true, true, true, true, true, true, true, true, true, true, true, true, true, true, true, true, true, true, true, true, true, false, true, true, true, false, false, false, true, true, false, false, false, false, false, false, false, false, false, false, false, false, false, false, false, false, false, false, false, false, false] rfl rfl (any_of HT_.out (by kernel_rfl)) (fun _ _ _ h => h) (Or.inl ⟨by rfl, ?_⟩) ?_ ?_
                                rotate_left
                                · intro w'
                                  go_simp
                                  with_reducible rfl
                                rotate_left
                                · simp only [Act.put, sI, sZ, sS, i64_w, i32_w]
                                  rfl
                                refine pure_ (i := 33) (N := some 89) (v := ?_) (a' := ?_) #[true, true, true, true, true, true, true, true, true, true, true, true, true, true, true, true, true, true, true, true, true, true, true, true, false, true, true, true, false, false, false, true, true, true, false, false, false, false, false, false, false, false, false, false, false, false, false, false, false, false, false, false, false, false] rfl rfl (any_of HT_.out (by kernel_rfl)) (fun _ _ _ h => h) (Or.inl ⟨by rfl, ?_⟩) ?_ ?_
                                rotate_left
                                · intro w'
                                  go_simp
                                  with_reducible rfl
                                rotate_left
                                · simp only [Act.put, sI, sZ, sS, i64_w, i32_w]
                                  rfl
                                refine pure_ (i := 39) (N := some 95) (v := ?_) (a' := ?_) #[true, true, true, true, true, true, true, true, true, true, true, true, true, true, true, true, true, true, true, true, true, true, true, true, false, true, true, true, false, false, false, true, true, true, false, false, false, false, false, true, false, false, false, false, false, false, false, false, false, false, false, false, false, false] rfl rfl (any_of HT_.out (by kernel_rfl)) (fun _ _ _ h => h) (Or.inl ⟨by rfl, ?_⟩) ?_ ?_
                                rotate_left
                                · intro w'
                                  go_simp
                                  with_reducible rfl
                                rotate_left
                                · simp only [Act.put, sI, sZ, sS, i64_w, i32_w]
                                  rfl
                                refine pure_ (i := 40) (N := some 96) (v := ?_) (a' := ?_) #[true, true, true, true, true, true, true, true, true, true, true, true, true, true, true, true, true, true, true, true, true, true, true, true, false, true, true, true, false, false, false, true, true, true, false, false, false, false, false, true, true, false, false, false, false, false, false, false, false, false, false, false, false, false] rfl rfl (any_of HT_.out (by kernel_rfl)) (fun _ _ _ h => h) (Or.inl ⟨by rfl, ?_⟩) ?_ ?_
                                rotate_left
                                · intro w'
                                  go_simp
                                  with_reducible rfl
                                rotate_left
                                · simp only [Act.put, sI, sZ, sS, i64_w, i32_w]
                                  rfl
                                refine pure_ (i := 41) (N := some 97) (v := ?_) (a' := ?_) #[true, true, true, true, true, true, true, true, true, true, true, true, true, true, true, true, true, true, true, true, true, true, true, true, false, true, true, true, false, false, false, true, true, true, false, false, false, false, false, true, true, true, false, false, false, false, false, false, false, false, false, false, false, false] rfl rfl (any_of HT_.out (by kernel_rfl)) (fun _ _ _ h => h) (Or.inl ⟨by rfl, ?_⟩) ?_ ?_
                                rotate_left
                                · intro w'
                                  go_simp
                                  with_reducible rfl
                                rotate_left
                                · simp only [Act.put, sI, sZ, sS, i64_w, i32_w]
                                  rfl
                                refine pure_ (i := 45) (N := some 101) (v := ?_) (a' := ?_) #[true, true, true, true, true, true, true, true, true, true, true, true, true, true, true, true, true, true, true, true, true, true, true, true, false, true, true, true, false, false, false, true, true, true, false, false, false, false, false, true, true, true, false, false, false, true, false, false, false, false, false, false, false, false] rfl rfl (any_of HT_.out (by kernel_rfl)) (fun _ _ _ h => h) (Or.inl ⟨by rfl, ?_⟩) ?_ ?_
                                rotate_left
                                · intro w'
                                  go_simp
                                  with_reducible rfl
                                rotate_left
                                · simp only [Act.put, sI, sZ, sS, i64_w, i32_w]
                                  rfl
                                refine pure_ (i := 46) (N := some 102) (v := ?_) (a' := ?_) #[true, true, true, true, true, true, true, true, true, true, true, true, true, true, true, true, true, true, true, true, true, true, true, true, false, true, true, true, false, false, false, true, true, true, false, false, false, false, false, true, true, true, false, false, false, true, true, false, false, false, false, false, false, false] rfl rfl (any_of HT_.out (by kernel_rfl)) (fun _ _ _ h => h) (Or.inl ⟨by rfl, ?_⟩) ?_ ?_
                                rotate_left
                                · intro w'
                                  go_simp
                                  with_reducible rfl
                                rotate_left
                                · simp only [Act.put, sI, sZ, sS, i64_w, i32_w]
                                  rfl
                                refine pure_ (i := 47) (N := some 103) (v := ?_) (a' := ?_) #[true, true, true, true, true, true, true, true, true, true, true, true, true, true, true, true, true, true, true, true, true, true, true, true, false, true, true, true, false, false, false, true, true, true, false, false, false, false, false, true, true, true, false, false, false, true, true, true, false, false, false, false, false, false] rfl rfl (any_of HT_.out (by kernel_rfl)) (fun _ _ _ h => h) (Or.inl ⟨by rfl, ?_⟩) ?_ ?_
                                rotate_left
                                · intro w'
                                  go_simp
                                  with_reducible rfl
                                rotate_left
                                · simp only [Act.put, sI, sZ, sS, i64_w, i32_w]
                                  rfl
                                refine take_ (i := 24) (N := some 80) (v := ?_) (a' := ?_) #[true, true, true, true, true, true, true, true, true, true, true, true, true, true, true, true, true, true, true, true, true, true, true, true, true, true, true, true, false, false, false, true, true, true, false, false, false, false, false, true, true, true, false, false, false, true, true, true, false, false, false, false, false, false] rfl rfl (take_ofW HT_.out HW_.out (by kernel_rfl)) (fun _ _ _ h => h) (Or.inl ⟨by rfl, ?_⟩) hHeld ?_ ?_
                                rotate_left
                                · rintro w' ⟨s0, s1, s2, s3, s4, s5, s6, s7, s8, s9, s10, s11, s12, s13, s14⟩
                                  go_simp
                                  with_reducible rfl
                                rotate_left
                                · simp only [Act.put, sI, sZ, sS, i64_w, i32_w]
                                  rfl
                                refine take_ (i := 28) (N := some 84) (v := ?_) (a' := ?_) #[true, true, true, true, true, true, true, true, true, true, true, true, true, true, true, true, true, true, true, true, true, true, true, true, true, true, true, true, true, false, false, true, true, true, false, false, false, false, false, true, true, true, false, false, false, true, true, true, false, false, false, false, false, false] rfl rfl (take_ofW HT_.out HW_.out (by kernel_rfl)) (fun _ _ _ h => h) (Or.inl ⟨by rfl, ?_⟩) hHeld ?_ ?_
                                rotate_left
                                · rintro w' ⟨s0, s1, s2, s3, s4, s5, s6, s7, s8, s9, s10, s11, s12, s13, s14⟩
                                  go_simp
                                  with_reducible rfl
                                rotate_left
                                · simp only [Act.put, sI, sZ, sS, i64_w, i32_w]
                                  rfl
                                refine pure_ (i := 29) (N := some 85) (v := ?_) (a' := ?_) #[true, true, true, true, true, true, true, true, true, true, true, true, true, true, true, true, true, true, true, true, true, true, true, true, true, true, true, true, true, true, false, true, true, true, false, false, false, false, false, true, true, true, false, false, false, true, true, true, false, false, false, false, false, false] rfl rfl (any_of HT_.out (by kernel_rfl)) (fun _ _ _ h => h) (Or.inl ⟨by rfl, ?_⟩) ?_ ?_
                                rotate_left
                                · intro w'
                                  go_simp
                                  with_reducible rfl
                                rotate_left
                                · simp only [Act.put, sI, sZ, sS, i64_w, i32_w]
                                  rfl
                                refine pure_ (i := 30) (N := some 86) (v := ?_) (a' := ?_) #[true, true, true, true, true, true, true, true, true, true, true, true, true, true, true, true, true, true, true, true, true, true, true, true, true, true, true, true, true, true, true, true, true, true, false, false, false, false, false, true, true, true, false, false, false, true, true, true, false, false, false, false, false, false] rfl rfl (any_of HT_.out (by kernel_rfl)) (fun _ _ _ h => h) (Or.inl ⟨by rfl, ?_⟩) ?_ ?_
                                rotate_left
                                · intro w'
                                  go_simp
                                  with_reducible rfl
                                rotate_left
                                · simp only [Act.put, sI, sZ, sS, i64_w, i32_w]
                                  rfl
                                refine take_ (i := 34) (N := some 90) (v := ?_) (a' := ?_) #[true, true, true, true, true, true, true, true, true, true, true, true, true, true, true, true, true, true, true, true, true, true, true, true, true, true, true, true, true, true, true, true, true, true, true, false, false, false, false, true, true, true, false, false, false, true, true, true, false, false, false, false, false, false] rfl rfl (take_ofW HT_.out HW_.out (by kernel_rfl)) (fun _ _ _ h => h) (Or.inl ⟨by rfl, ?_⟩) hHeld ?_ ?_
                                rotate_left
                                · rintro w' ⟨s0, s1, s2, s3, s4, s5, s6, s7, s8, s9, s10, s11, s12, s13, s14⟩
                                  go_simp
                                  with_reducible rfl
                                rotate_left
                                · simp only [Act.put, sI, sZ, sS, i64_w, i32_w]
                                  rfl
                                refine pure_ (i := 35) (N := some 91) (v := ?_) (a' := ?_) #[true, true, true, true, true, true, true, true, true, true, true, true, true, true, true, true, true, true, true, true, true, true, true, true, true, true, true, true, true, true, true, true, true, true, true, true, false, false, false, true, true, true, false, false, false, true, true, true, false, false, false, false, false, false] rfl rfl (any_of HT_.out (by kernel_rfl)) (fun _ _ _ h => h) (Or.inl ⟨by rfl, ?_⟩) ?_ ?_
                                rotate_left
                                · intro w'
                                  go_simp
                                  with_reducible rfl
                                rotate_left
                                · simp only [Act.put, sI, sZ, sS, i64_w, i32_w]
                                  rfl
                                refine pure_ (i := 36) (N := some 92) (v := ?_) (a' := ?_) #[true, true, true, true, true, true, true, true, true, true, true, true, true, true, true, true, true, true, true, true, true, true, true, true, true, true, true, true, true, true, true, true, true, true, true, true, true, false, false, true, true, true, false, false, false, true, true, true, false, false, false, false, false, false] rfl rfl (any_of HT_.out (by kernel_rfl)) (fun _ _ _ h => h) (Or.inl ⟨by rfl, ?_⟩) ?_ ?_
                                rotate_left
                                · intro w'
                                  go_simp
                                  with_reducible rfl
                                rotate_left
                                · simp only [Act.put, sI, sZ, sS, i64_w, i32_w]
                                  rfl
                                refine take_ (i := 38) (N := some 94) (v := ?_) (a' := ?_) #[true, true, true, true, true, true, true, true, true, true, true, true, true, true, true, true, true, true, true, true, true, true, true, true, true, true, true, true, true, true, true, true, true, true, true, true, true, false, true, true, true, true, false, false, false, true, true, true, false, false, false, false, false, false] rfl rfl (take_ofW HT_.out HW_.out (by kernel_rfl)) (fun _ _ _ h => h) (Or.inl ⟨by rfl, ?_⟩) hHeld ?_ ?_
                                rotate_left
                                · rintro w' ⟨s0, s1, s2, s3, s4, s5, s6, s7, s8, s9, s10, s11, s12, s13, s14⟩
                                  go_simp
                                  with_reducible rfl
                                rotate_left
                                · simp only [Act.put, sI, sZ, sS, i64_w, i32_w]
                                  rfl
                                refine take_ (i := 42) (N := some 98) (v := ?_) (a' := ?_) #[true, true, true, true, true, true, true, true, true, true, true, true, true, true, true, true, true, true, true, true, true, true, true, true, true, true, true, true, true, true, true, true, true, true, true, true, true, false, true, true, true, true, true, false, false, true, true, true, false, false, false, false, false, false] rfl rfl (take_ofW HT_.out HW_.out (by kernel_rfl)) (fun _ _ _ h => h) (Or.inl ⟨by rfl, ?_⟩) hHeld ?_ ?_
                                rotate_left
                                · rintro w' ⟨s0, s1, s2, s3, s4, s5, s6, s7, s8, s9, s10, s11, s12, s13, s14⟩
                                  go_simp
                                  with_reducible rfl
                                rotate_left
                                · simp only [Act.put, sI, sZ, sS, i64_w, i32_w]
                                  rfl
                                refine pure_ (i := 43) (N := some 99) (v := ?_) (a' := ?_) #[true, true, true, true, true, true, true, true, true, true, true, true, true, true, true, true, true, true, true, true, true, true, true, true, true, true, true, true, true, true, true, true, true, true, true, true, true, false, true, true, true, true, true, true, false, true, true, true, false, false, false, false, false, false] rfl rfl (any_of HT_.out (by kernel_rfl)) (fun _ _ _ h => h) (Or.inl ⟨by rfl, ?_⟩) ?_ ?_
                                rotate_left
                                · intro w'
                                  go_simp
                                  with_reducible rfl
                                rotate_left
                                · simp only [Act.put, sI, sZ, sS, i64_w, i32_w]
                                  rfl
                                refine pure_ (i := 44) (N := some 100) (v := ?_) (a' := ?_) #[true, true, true, true, true, true, true, true, true, true, true, true, true, true, true, true, true, true, true, true, true, true, true, true, true, true, true, true, true, true, true, true, true, true, true, true, true, false, true, true, true, true, true, true, true, true, true, true, false, false, false, false, false, false] rfl rfl (any_of HT_.out (by kernel_rfl)) (fun _ _ _ h => h) (Or.inl ⟨by rfl, ?_⟩) ?_ ?_
                                rotate_left
                                · intro w'
                                  go_simp
                                  with_reducible rfl
                                rotate_left
                                · simp only [Act.put, sI, sZ, sS, i64_w, i32_w]
                                  rfl
                                refine take_ (i := 48) (N := some 104) (v := ?_) (a' := ?_) #[true, true, true, true, true, true, true, true, true, true, true, true, true, true, true, true, true, true, true, true, true, true, true, true, true, true, true, true, true, true, true, true, true, true, true, true, true, false, true, true, true, true, true, true, true, true, true, true, true, false, false, false, false, false] rfl rfl (take_ofW HT_.out HW_.out (by kernel_rfl)) (fun _ _ _ h => h) (Or.inl ⟨by rfl, ?_⟩) hHeld ?_ ?_
                                rotate_left
                                · rintro w' ⟨s0, s1, s2, s3, s4, s5, s6, s7, s8, s9, s10, s11, s12, s13, s14⟩
                                  go_simp
                                  with_reducible rfl
                                rotate_left
                                · simp only [Act.put, sI, sZ, sS, i64_w, i32_w]
                                  rfl
                                refine pure_ (i := 49) (N := some 105) (v := ?_) (a' := ?_) #[true, true, true, true, true, true, true, true, true, true, true, true, true, true, true, true, true, true, true, true, true, true, true, true, true, true, true, true, true, true, true, true, true, true, true, true, true, false, true, true, true, true, true, true, true, true, true, true, true, true, false, false, false, false] rfl rfl (any_of HT_.out (by kernel_rfl)) (fun _ _ _ h => h) (Or.inl ⟨by rfl, ?_⟩) ?_ ?_
                                rotate_left
                                · intro w'
                                  go_simp
                                  with_reducible rfl
                                rotate_left
                                · simp only [Act.put, sI, sZ, sS, i64_w, i32_w]
                                  rfl
                                refine pure_ (i := 50) (N := some 106) (v := ?_) (a' := ?_) #[true, true, true, true, true, true, true, true, true, true, true, true, true, true, true, true, true, true, true, true, true, true, true, true, true, true, true, true, true, true, true, true, true, true, true, true, true, false, true, true, true, true, true, true, true, true, true, true, true, true, true, false, false, false] rfl rfl (any_of HT_.out (by kernel_rfl)) (fun _ _ _ h => h) (Or.inl ⟨by rfl, ?_⟩) ?_ ?_
                                rotate_left
                                · intro w'
                                  go_simp
                                  with_reducible rfl
                                rotate_left
                                · simp only [Act.put, sI, sZ, sS, i64_w, i32_w]
                                  rfl
                                refine one_ (i := 37) (N := some 93) #[true, true, true, true, true, true, true, true, true, true, true, true, true, true, true, true, true, true, true, true, true, true, true, true, true, true, true, true, true, true, true, true, true, true, true, true, true, true, true, true, true, true, true, true, true, true, true, true, true, true, true, false, false, false] rfl rfl (one_of HT_.out (by kernel_rfl)) (by decide) (fun K hK => ?_)
                                refine goes_ Tryd.func11 (by kernel_rfl) rfl #[.agg #[.bool t275, .int .i64 t276, .int .i64 t277, .int .i64 t278, .int .i64 t279, .int .i64 t280, .int .i64 t281], .int .i64 (wrap64 (1 + (Go.bits .and .i64 (rd l0 x11_3) 63))), .int .u64 (Go.bits .xor .u64 18446744073709551615 (IntKind.u64.wrap (rd l0 x11_3)))] (by rfl) rfl rfl (by (try simp only [List.map_toArray, List.map_cons, List.map_nil]); first | done | rfl | (simp only [List.length_drop, List.length_take]; rfl)) ?_
                                with_reducible refine (coalesce_Static.calls t275 t276 t277 t278 t279 t280 t281 (wrap64 (1 + (Go.bits .and .i64 (rd l0 x11_3) 63))) (Go.bits .xor .u64 18446744073709551615 (IntKind.u64.wrap (rd l0 x11_3))) t291 _ A33.out).mono ?_
                                rintro e w44 ⟨rfl, hb⟩
                                refine ⟨_, rfl, ?_⟩
                                have n0_ := Aside0.mk (Kd.R_below (by (with_reducible repeat (first | apply Kd.R_alloc | apply Kd.R_drewN | apply Kd.R_drew)); exact HO_8.out) hb)
                                have n1_ := Aside0.mk (bB (g := gb266) (o := .cells #[.bool a2_0, .int .i16 a2_1, .int .i16 a2_2, .int .i16 a2_3, .int .i32 a2_4, .int .u16 a2_5, .int .u16 a2_6, .bool a2_7] 27 (0, 0)) (by (with_reducible repeat (first | refine bN ?_ _ | refine bD ?_ | refine bA ?_ _)); exact BK266.out) hb)
                                have n2_ := Aside0.mk (bB (g := gb282) (o := .cells #[.bool t275, .int .i64 t276, .int .i64 t277, .int .i64 t278, .int .i64 t279, .int .i64 t280, .int .i64 t281] 35 (0, 0)) (by (with_reducible repeat (first | refine bN ?_ _ | refine bD ?_ | refine bA ?_ _)); exact BK282.out) hb)
                                have n3_ := Aside0.mk (below_step (by repeat (first | (with_reducible first | exact HB.out | apply pA | apply pN | apply p1_ | refine bS ?_ GE266.out | refine bS ?_ GE282.out) | exact HB.out)) hb)
                                clear HO_8
                                clear BK266
                                clear BK282
                                clear HB
                                have HO_8 := n0_
                                have BK266 := n1_
                                have BK282 := n2_
                                have HB := n3_
                                clear n0_ n1_ n2_ n3_
                                (try clear hb)
                                (try clear hb2)
                                (try clear hk)
                                (try clear hi)
                                refine hK.out _ _ ⟨(bC BK282.out 0).trans rfl, (bC BK282.out 1).trans rfl, (bC BK282.out 2).trans rfl, (bC BK282.out 3).trans rfl, (bC BK282.out 4).trans rfl, (bC BK282.out 5).trans rfl, (bC BK282.out 6).trans rfl, ((HB.out.cell (World.block_lt_of_cell? w _ hw283_0)).trans hw283_0), ((HB.out.cell (World.block_lt_of_cell? w _ hw284_0)).trans hw284_0), ((HB.out.cell (World.block_lt_of_cell? w _ hw286_0)).trans hw286_0), ((HB.out.cell (World.block_lt_of_cell? w _ hw287_0)).trans hw287_0), ((HB.out.cell (World.block_lt_of_cell? w _ hw289_0)).trans hw289_0), ((HB.out.cell (World.block_lt_of_cell? w _ hw290_0)).trans hw290_0), ((HB.out.cell (World.block_lt_of_cell? w _ hw292_0)).trans hw292_0), ((HB.out.cell (World.block_lt_of_cell? w _ hw293_0)).trans hw293_0)⟩ (fun hHeld => ?_)
                                clear hK K
                                refine norm_ (a' := ?_) ?_ ?_
                                rotate_left
                                · show Act.put _ (some 93) _ = _
                                  simp only [Act.put, sI, sZ, sS, i64_w, i32_w]
                                  rfl
                                refine one_ (i := 51) (N := some 107) #[true, true, true, true, true, true, true, true, true, true, true, true, true, true, true, true, true, true, true, true, true, true, true, true, true, true, true, true, true, true, true, true, true, true, true, true, true, true, true, true, true, true, true, true, true, true, true, true, true, true, true, true, false, false] rfl rfl (one_of HT_.out (by kernel_rfl)) (by decide) (fun K hK => ?_)
                                refine goes_ Tryd.func12 (by kernel_rfl) rfl #[.agg #[.bool t275, .int .i64 t276, .int .i64 t277, .int .i64 t278, .int .i64 t279, .int .i64 t280, .int .i64 t281], .int .i64 (wrap64 (1 + (Go.bits .and .i64 (rd l0 x11_3) 63))), .int .u64 (Go.bits .xor .u64 18446744073709551615 (IntKind.u64.wrap (rd l0 x11_3)))] (by rfl) rfl rfl (by (try simp only [List.map_toArray, List.map_cons, List.map_nil]); first | done | rfl | (simp only [List.length_drop, List.length_take]; rfl)) ?_
                                with_reducible refine (v22_Static.calls kj24 t275 t276 t277 t278 t279 t280 t281 (wrap64 (1 + (Go.bits .and .i64 (rd l0 x11_3) 63))) (Go.bits .xor .u64 18446744073709551615 (IntKind.u64.wrap (rd l0 x11_3))) t294 _ A34.out).mono ?_
                                rintro e w45 ⟨rfl, hb⟩
                                refine ⟨_, rfl, ?_⟩
                                have n0_ := Aside0.mk (Kd.R_below (by (with_reducible repeat (first | apply Kd.R_alloc | apply Kd.R_drewN | apply Kd.R_drew)); exact HO_8.out) hb)
                                have n1_ := Aside0.mk (bB (g := gb266) (o := .cells #[.bool a2_0, .int .i16 a2_1, .int .i16 a2_2, .int .i16 a2_3, .int .i32 a2_4, .int .u16 a2_5, .int .u16 a2_6, .bool a2_7] 27 (0, 0)) (by (with_reducible repeat (first | refine bN ?_ _ | refine bD ?_ | refine bA ?_ _)); exact BK266.out) hb)
                                have n2_ := Aside0.mk (bB (g := gb282) (o := .cells #[.bool t275, .int .i64 t276, .int .i64 t277, .int .i64 t278, .int .i64 t279, .int .i64 t280, .int .i64 t281] 35 (0, 0)) (by (with_reducible repeat (first | refine bN ?_ _ | refine bD ?_ | refine bA ?_ _)); exact BK282.out) hb)
                                have n3_ := Aside0.mk (below_step (by repeat (first | (with_reducible first | exact HB.out | apply pA | apply pN | apply p1_ | refine bS ?_ GE266.out | refine bS ?_ GE282.out) | exact HB.out)) hb)
                                clear HO_8
                                clear BK266
                                clear BK282
                                clear HB
                                have HO_8 := n0_
                                have BK266 := n1_
                                have BK282 := n2_
                                have HB := n3_
                                clear n0_ n1_ n2_ n3_
                                (try clear hb)
                                (try clear hb2)
                                (try clear hk)
                                (try clear hi)
                                refine hK.out _ _ ⟨(bC BK282.out 0).trans rfl, (bC BK282.out 1).trans rfl, (bC BK282.out 2).trans rfl, (bC BK282.out 3).trans rfl, (bC BK282.out 4).trans rfl, (bC BK282.out 5).trans rfl, (bC BK282.out 6).trans rfl, ((HB.out.cell (World.block_lt_of_cell? w _ hw283_0)).trans hw283_0), ((HB.out.cell (World.block_lt_of_cell? w _ hw284_0)).trans hw284_0), ((HB.out.cell (World.block_lt_of_cell? w _ hw286_0)).trans hw286_0), ((HB.out.cell (World.block_lt_of_cell? w _ hw287_0)).trans hw287_0), ((HB.out.cell (World.block_lt_of_cell? w _ hw289_0)).trans hw289_0), ((HB.out.cell (World.block_lt_of_cell? w _ hw290_0)).trans hw290_0), ((HB.out.cell (World.block_lt_of_cell? w _ hw292_0)).trans hw292_0), ((HB.out.cell (World.block_lt_of_cell? w _ hw293_0)).trans hw293_0)⟩ (fun hHeld => ?_)
                                clear hK K
                                refine norm_ (a' := ?_) ?_ ?_
                                rotate_left
                                · show Act.put _ (some 107) _ = _
                                  simp only [Act.put, sI, sZ, sS, i64_w, i32_w]
                                  rfl
                                refine pure_ (i := 52) (N := some 108) (v := ?_) (a' := ?_) #[true, true, true, true, true, true, true, true, true, true, true, true, true, true, true, true, true, true, true, true, true, true, true, true, true, true, true, true, true, true, true, true, true, true, true, true, true, true, true, true, true, true, true, true, true, true, true, true, true, true, true, true, true, false] rfl rfl (any_of HT_.out (by kernel_rfl)) (fun _ _ _ h => h) (Or.inl ⟨by rfl, ?_⟩) ?_ ?_
                                rotate_left
                                · intro w'
                                  go_simp
                                  with_reducible rfl
                                rotate_left
                                · simp only [Act.put, sI, sZ, sS, i64_w, i32_w]
                                  rfl
                                refine pure_ (i := 53) (N := some 109) (v := ?_) (a' := ?_) #[true, true, true, true, true, true, true, true, true, true, true, true, true, true, true, true, true, true, true, true, true, true, true, true, true, true, true, true, true, true, true, true, true, true, true, true, true, true, true, true, true, true, true, true, true, true, true, true, true, true, true, true, true, true] rfl rfl (any_of HT_.out (by kernel_rfl)) (fun _ _ _ h => h) (Or.inl ⟨by rfl, ?_⟩) ?_ ?_
                                rotate_left
                                · intro w'
                                  go_simp
                                  with_reducible rfl
                                rotate_left
                                · simp only [Act.put, sI, sZ, sS, i64_w, i32_w]
                                  rfl
                                refine done_ (done_of HT_.out (by kernel_rfl)) ?_
                                try go_wp2
                                go_ret
                                exact ⟨by first | rfl | (simp [errW_none, errW_some] <;> rfl) | (simp [*, errW_none, errW_some] <;> rfl), by repeat (first | (with_reducible first | exact HB.out | apply pA | apply pN | apply p1_ | refine bS ?_ GE266.out | refine bS ?_ GE282.out) | exact HB.out)⟩
                            · rw [if_neg c32] at H
                              have c32b0 : (t285 == t288) = false := beq_eq_false_iff_ne.mpr c32
                              have c32b1 : (t285 != t288) = true := bne_iff_ne.mpr c32
                              obtain rfl := Option.some.inj H
                              try go_wp2
                              have n0_ := Aside0.mk (Kd.R_drew HO_8.out)
                              have n1_ := Aside0.mk (bD BK266.out)
                              have n2_ := Aside0.mk (bD BK282.out)
                              have n3_ := Aside0.mk (p1_ HB.out)
                              clear HO_8
                              clear BK266
                              clear BK282
                              clear HB
                              have HO_8 := n0_
                              have BK266 := n1_
                              have BK282 := n2_
                              have HB := n3_
                              clear n0_ n1_ n2_ n3_
                              have p283 : 0 ≤ (x11_3 : Int) := of_decide_eq_true (by first | (with_reducible assumption) | assumption)
                              have q283 : x11_3 < (l0.length : Int) := of_decide_eq_true (by first | (with_reducible assumption) | assumption)
                              obtain ⟨ad283, e283, hx283_0⟩ := Kd.at_int HR0.out x11_3 p283 q283
                              have hw283_0 := hx283_0
                              cases e283
                              replace hx283_0 := (HB.out.cell (World.block_lt_of_cell? w _ hx283_0)).trans hx283_0
                              replace p283 := eq_true p283
                              replace q283 := eq_true q283
                              have p284 : 0 ≤ (x11_3 : Int) := of_decide_eq_true (by first | (with_reducible assumption) | assumption)
                              have q284 : x11_3 < (l0.length : Int) := of_decide_eq_true (by first | (with_reducible assumption) | assumption)
                              obtain ⟨ad284, e284, hx284_0⟩ := Kd.at_int HR0.out x11_3 p284 q284
                              have hw284_0 := hx284_0
                              obtain rfl : ad283 = ad284 := (by injection e284)
                              replace hx284_0 := (HB.out.cell (World.block_lt_of_cell? w _ hx284_0)).trans hx284_0
                              replace p284 := eq_true p284
                              replace q284 := eq_true q284
                              have p286 : 0 ≤ (x11_3 : Int) := of_decide_eq_true (by first | (with_reducible assumption) | assumption)
                              have q286 : x11_3 < (l0.length : Int) := of_decide_eq_true (by first | (with_reducible assumption) | assumption)
                              obtain ⟨ad286, e286, hx286_0⟩ := Kd.at_int HR0.out x11_3 p286 q286
                              have hw286_0 := hx286_0
                              obtain rfl : ad283 = ad286 := (by injection e286)
                              replace hx286_0 := (HB.out.cell (World.block_lt_of_cell? w _ hx286_0)).trans hx286_0
                              replace p286 := eq_true p286
                              replace q286 := eq_true q286
                              have p287 : 0 ≤ (x11_3 : Int) := of_decide_eq_true (by first | (with_reducible assumption) | assumption)
                              have q287 : x11_3 < (l0.length : Int) := of_decide_eq_true (by first | (with_reducible assumption) | assumption)
                              obtain ⟨ad287, e287, hx287_0⟩ := Kd.at_int HR0.out x11_3 p287 q287
                              have hw287_0 := hx287_0
                              obtain rfl : ad283 = ad287 := (by injection e287)
                              replace hx287_0 := (HB.out.cell (World.block_lt_of_cell? w _ hx287_0)).trans hx287_0
                              replace p287 := eq_true p287
                              replace q287 := eq_true q287
                              refine start_ (n := 54) (S := fun w' => w'.cell? ⟨gb282, 0, none⟩ = some (.bool t275) ∧ w'.cell? ⟨gb282, 1, none⟩ = some (.int .i64 t276) ∧ w'.cell? ⟨gb282, 2, none⟩ = some (.int .i64 t277) ∧ w'.cell? ⟨gb282, 3, none⟩ = some (.int .i64 t278) ∧ w'.cell? ⟨gb282, 4, none⟩ = some (.int .i64 t279) ∧ w'.cell? ⟨gb282, 5, none⟩ = some (.int .i64 t280) ∧ w'.cell? ⟨gb282, 6, none⟩ = some (.int .i64 t281) ∧ w'.cell? (ad283.add (x11_3).toNat) = some (.int .i64 (rd l0 x11_3)) ∧ w'.cell? (ad283.add (x11_3).toNat) = some (.int .i64 (rd l0 x11_3)) ∧ w'.cell? (ad283.add (x11_3).toNat) = some (.int .i64 (rd l0 x11_3)) ∧ w'.cell? (ad283.add (x11_3).toNat) = some (.int .i64 (rd l0 x11_3))) (ds := []) #[false, false, false, false, false, false, false, false, false, false, false, false, false, false, false, false, false, false, false, false, false, false, false, false, false, false, false, false, false, false, false, false, false, false, false, false, false, false, false, false, false, false, false, false, false, false, false, false, false, false, false, false, false, false] (by kernel_rfl) rfl rfl ⟨(bC BK282.out 0).trans rfl, (bC BK282.out 1).trans rfl, (bC BK282.out 2).trans rfl, (bC BK282.out 3).trans rfl, (bC BK282.out 4).trans rfl, (bC BK282.out 5).trans rfl, (bC BK282.out 6).trans rfl, ((HB.out.cell (World.block_lt_of_cell? w _ hw283_0)).trans hw283_0), ((HB.out.cell (World.block_lt_of_cell? w _ hw284_0)).trans hw284_0), ((HB.out.cell (World.block_lt_of_cell? w _ hw286_0)).trans hw286_0), ((HB.out.cell (World.block_lt_of_cell? w _ hw287_0)).trans hw287_0)⟩ (fun hHeld => ?_); refine with_tabW w22_CMatchesReference.tab15 w22_CMatchesReference.bits15 (fun HT_ HW_ => ?_)
                              generalize wc.drew = w46 at HO_8 BK266 BK282 HB hx283_0 hx284_0 hx286_0 hx287_0 hHeld ⊢
                              refine pure_ (i := 1) (N := some 57) (v := ?_) (a' := ?_) #[false, true, false, false, false, false, false, false, false, false, false, false, false, false, false, false, false, false, false, false, false, false, false, false, false, false, false, false, false, false, false, false, false, false, false, false, false, false, false, false, false, false, false, false, false, false, false, false, false, false, false, false, false, false] rfl rfl (any_of HT_.out (by kernel_rfl)) (fun _ _ _ h => h) (Or.inl ⟨by rfl, ?_⟩) ?_ ?_
                              rotate_left
                              · intro w'
                                go_simp
                                with_reducible rfl
                              rotate_left
                              · simp only [Act.put, sI, sZ, sS, i64_w, i32_w]
                                rfl
                              refine pure_ (i := 2) (N := some 58) (v := ?_) (a' := ?_) #[false, true, true, false, false, false, false, false, false, false, false, false, false, false, false, false, false, false, false, false, false, false, false, false, false, false, false, false, false, false, false, false, false, false, false, false, false, false, false, false, false, false, false, false, false, false, false, false, false, false, false, false, false, false] rfl rfl (any_of HT_.out (by kernel_rfl)) (fun _ _ _ h => h) (Or.inl ⟨by rfl, ?_⟩) ?_ ?_
                              rotate_left
                              · intro w'
                                go_simp
                                with_reducible rfl
                              rotate_left
                              · simp only [Act.put, sI, sZ, sS, i64_w, i32_w]
                                rfl
                              refine pure_ (i := 3) (N := some 59) (v := ?_) (a' := ?_) #[false, true, true, true, false, false, false, false, false, false, false, false, false, false, false, false, false, false, false, false, false, false, false, false, false, false, false, false, false, false, false, false, false, false, false, false, false, false, false, false, false, false, false, false, false, false, false, false, false, false, false, false, false, false] rfl rfl (any_of HT_.out (by kernel_rfl)) (fun _ _ _ h => h) (Or.inl ⟨by rfl, ?_⟩) ?_ ?_
                              rotate_left
                              · intro w'
                                go_simp
                                with_reducible rfl
                              rotate_left
                              · simp only [Act.put, sI, sZ, sS, i64_w, i32_w]
                                rfl
                              refine pure_ (i := 5) (N := some 61) (v := ?_) (a' := ?_) #[false, true, true, true, false, true, false, false, false, false, false, false, false, false, false, false, false, false, false, false, false, false, false, false, false, false, false, false, false, false, false, false, false, false, false, false, false, false, false, false, false, false, false, false, false, false, false, false, false, false, false, false, false, false] rfl rfl (any_of HT_.out (by kernel_rfl)) (fun _ _ _ h => h) (Or.inl ⟨by rfl, ?_⟩) ?_ ?_
                              rotate_left
                              · intro w'
                                go_simp
                                with_reducible rfl
                              rotate_left
                              · simp only [Act.put, sI, sZ, sS, i64_w, i32_w]
                                rfl
                              refine pure_ (i := 6) (N := some 62) (v := ?_) (a' := ?_) #[false, true, true, true, false, true, true, false, false, false, false, false, false, false, false, false, false, false, false, false, false, false, false, false, false, false, false, false, false, false, false, false, false, false, false, false, false, false, false, false, false, false, false, false, false, false, false, false, false, false, false, false, false, false] rfl rfl (any_of HT_.out (by kernel_rfl)) (fun _ _ _ h => h) (Or.inl ⟨by rfl, ?_⟩) ?_ ?_
                              rotate_left
                              · intro w'
                                go_simp
                                with_reducible rfl
                              rotate_left
                              · simp only [Act.put, sI, sZ, sS, i64_w, i32_w]
                                rfl
                              refine pure_ (i := 7) (N := some 63) (v := ?_) (a' := ?_) #[false, true, true, true, false, true, true, true, false, false, false, false, false, false, false, false, false, false, false, false, false, false, false, false, false, false, false, false, false, false, false, false, false, false, false, false, false, false, false, false, false, false, false, false, false, false, false, false, false, false, false, false, false, false] rfl rfl (any_of HT_.out (by kernel_rfl)) (fun _ _ _ h => h) (Or.inl ⟨by rfl, ?_⟩) ?_ ?_
                              rotate_left
                              · intro w'
                                go_simp
                                with_reducible rfl
                              rotate_left
                              · simp only [Act.put, sI, sZ, sS, i64_w, i32_w]
                                rfl
                              refine pure_ (i := 12) (N := some 68) (v := ?_) (a' := ?_) #[false, true, true, true, false, true, true, true, false, false, false, false, true, false, false, false, false, false, false, false, false, false, false, false, false, false, false, false, false, false, false, false, false, false, false, false, false, false, false, false, false, false, false, false, false, false, false, false, false, false, false, false, false, false] rfl rfl (any_of HT_.out (by kernel_rfl)) (fun _ _ _ h => h) (Or.inl ⟨by rfl, ?_⟩) ?_ ?_
                              rotate_left
                              · intro w'
                                go_simp
                                with_reducible rfl
                              rotate_left
                              · simp only [Act.put, sI, sZ, sS, i64_w, i32_w]
                                rfl
                              refine pure_ (i := 13) (N := some 69) (v := ?_) (a' := ?_) #[false, true, true, true, false, true, true, true, false, false, false, false, true, true, false, false, false, false, false, false, false, false, false, false, false, false, false, false, false, false, false, false, false, false, false, false, false, false, false, false, false, false, false, false, false, false, false, false, false, false, false, false, false, false] rfl rfl (any_of HT_.out (by kernel_rfl)) (fun _ _ _ h => h) (Or.inl ⟨by rfl, ?_⟩) ?_ ?_
                              rotate_left
                              · intro w'
                                go_simp
                                with_reducible rfl
                              rotate_left
                              · simp only [Act.put, sI, sZ, sS, i64_w, i32_w]
                                rfl
                              refine pure_ (i := 14) (N := some 70) (v := ?_) (a' := ?_) #[false, true, true, true, false, true, true, true, false, false, false, false, true, true, true, false, false, false, false, false, false, false, false, false, false, false, false, false, false, false, false, false, false, false, false, false, false, false, false, false, false, false, false, false, false, false, false, false, false, false, false, false, false, false] rfl rfl (any_of HT_.out (by kernel_rfl)) (fun _ _ _ h => h) (Or.inl ⟨by rfl, ?_⟩) ?_ ?_
                              rotate_left
                              · intro w'
                                go_simp
                                with_reducible rfl
                              rotate_left
                              · simp only [Act.put, sI, sZ, sS, i64_w, i32_w]
                                rfl
                              refine pure_ (i := 16) (N := some 72) (v := ?_) (a' := ?_) #[false, true, true, true, false, true, true, true, false, false, false, false, true, true, true, false, true, false, false, false, false, false, false, false, false, false, false, false, false, false, false, false, false, false, false, false, false, false, false, false, false, false, false, false, false, false, false, false, false, false, false, false, false, false] rfl rfl (any_of HT_.out (by kernel_rfl)) (fun _ _ _ h => h) (Or.inl ⟨by rfl, ?_⟩) ?_ ?_
                              rotate_left
                              · intro w'
                                go_simp
                                with_reducible rfl
                              rotate_left
                              · simp only [Act.put, sI, sZ, sS, i64_w, i32_w]
                                rfl
                              refine pure_ (i := 17) (N := some 73) (v := ?_) (a' := ?_) #[false, true, true, true, false, true, true, true, false, false, false, false, true, true, true, false, true, true, false, false, false, false, false, false, false, false, false, false, false, false, false, false, false, false, false, false, false, false, false, false, false, false, false, false, false, false, false, false, false, false, false, false, false, false] rfl rfl (any_of HT_.out (by kernel_rfl)) (fun _ _ _ h => h) (Or.inl ⟨by rfl, ?_⟩) ?_ ?_
                              rotate_left
                              · intro w'
                                go_simp
                                with_reducible rfl
                              rotate_left
                              · simp only [Act.put, sI, sZ, sS, i64_w, i32_w]
                                rfl
                              refine pure_ (i := 18) (N := some 74) (v := ?_) (a' := ?_) #[false, true, true, true, false, true, true, true, false, false, false, false, true, true, true, false, true, true, true, false, false, false, false, false, false, false, false, false, false, false, false, false, false, false, false, false, false, false, false, false, false, false, false, false, false, false, false, false, false, false, false, false, false, false] rfl rfl (any_of HT_.out (by kernel_rfl)) (fun _ _ _ h => h) (Or.inl ⟨by rfl, ?_⟩) ?_ ?_
                              rotate_left
                              · intro w'
                                go_simp
                                with_reducible rfl
                              rotate_left
                              · simp only [Act.put, sI, sZ, sS, i64_w, i32_w]
                                rfl
                              refine take_ (i := 0) (N := some 56) (v := ?_) (a' := ?_) #[true, true, true, true, false, true, true, true, false, false, false, false, true, true, true, false, true, true, true, false, false, false, false, false, false, false, false, false, false, false, false, false, false, false, false, false, false, false, false, false, false, false, false, false, false, false, false, false, false, false, false, false, false, false] rfl rfl (take_ofW HT_.out HW_.out (by kernel_rfl)) (fun _ _ _ h => h) (Or.inl ⟨by rfl, ?_⟩) hHeld ?_ ?_
                              rotate_left
                              · rintro w' ⟨s0, s1, s2, s3, s4, s5, s6, s7, s8, s9, s10⟩
                                go_simp
                                with_reducible rfl
                              rotate_left
                              · simp only [Act.put, sI, sZ, sS, i64_w, i32_w]
                                rfl
                              refine take_ (i := 4) (N := some 60) (v := ?_) (a' := ?_) #[true, true, true, true, true, true, true, true, false, false, false, false, true, true, true, false, true, true, true, false, false, false, false, false, false, false, false, false, false, false, false, false, false, false, false, false, false, false, false, false, false, false, false, false, false, false, false, false, false, false, false, false, false, false] rfl rfl (take_ofW HT_.out HW_.out (by kernel_rfl)) (fun _ _ _ h => h) (Or.inl ⟨by rfl, ?_⟩) hHeld ?_ ?_
                              rotate_left
                              · rintro w' ⟨s0, s1, s2, s3, s4, s5, s6, s7, s8, s9, s10⟩
                                go_simp
                                with_reducible rfl
                              rotate_left
                              · simp only [Act.put, sI, sZ, sS, i64_w, i32_w]
                                rfl
                              refine take_ (i := 8) (N := some 64) (v := ?_) (a' := ?_) #[true, true, true, true, true, true, true, true, true, false, false, false, true, true, true, false, true, true, true, false, false, false, false, false, false, false, false, false, false, false, false, false, false, false, false, false, false, false, false, false, false, false, false, false, false, false, false, false, false, false, false, false, false, false] rfl rfl (take_ofW HT_.out HW_.out (by kernel_rfl)) (fun _ _ _ h => h) (Or.inl ⟨by rfl, ?_⟩) hHeld ?_ ?_
                              rotate_left
                              · rintro w' ⟨s0, s1, s2, s3, s4, s5, s6, s7, s8, s9, s10⟩
                                go_simp
                                with_reducible rfl
                              rotate_left
                              · simp only [Act.put, sI, sZ, sS, i64_w, i32_w]
                                rfl
                              refine pure_ (i := 9) (N := some 65) (v := ?_) (a' := ?_) #[true, true, true, true, true, true, true, true, true, true, false, false, true, true, true, false, true, true, true, false, false, false, false, false, false, false, false, false, false, false, false, false, false, false, false, false, false, false, false, false, false, false, false, false, false, false, false, false, false, false, false, false, false, false] rfl rfl (any_of HT_.out (by kernel_rfl)) (fun _ _ _ h => h) (Or.inl ⟨by rfl, ?_⟩) ?_ ?_
                              rotate_left
                              · intro w'
                                go_simp
                                with_reducible rfl
                              rotate_left
                              · simp only [Act.put, sI, sZ, sS, i64_w, i32_w]
                                rfl
                              refine take_ (i := 11) (N := some 67) (v := ?_) (a' := ?_) #[true, true, true, true, true, true, true, true, true, true, false, true, true, true, true, false, true, true, true, false, false, false, false, false, false, false, false, false, false, false, false, false, false, false, false, false, false, false, false, false, false, false, false, false, false, false, false, false, false, false, false, false, false, false] rfl rfl (take_ofW HT_.out HW_.out (by kernel_rfl)) (fun _ _ _ h => h) (Or.inl ⟨by rfl, ?_⟩) hHeld ?_ ?_
                              rotate_left
                              · rintro w' ⟨s0, s1, s2, s3, s4, s5, s6, s7, s8, s9, s10⟩
                                go_simp
                                with_reducible rfl
                              rotate_left
                              · simp only [Act.put, sI, sZ, sS, i64_w, i32_w]
                                rfl
                              refine take_ (i := 15) (N := some 71) (v := ?_) (a' := ?_) #[true, true, true, true, true, true, true, true, true, true, false, true, true, true, true, true, true, true, true, false, false, false, false, false, false, false, false, false, false, false, false, false, false, false, false, false, false, false, false, false, false, false, false, false, false, false, false, false, false, false, false, false, false, false] rfl rfl (take_ofW HT_.out HW_.out (by kernel_rfl)) (fun _ _ _ h => h) (Or.inl ⟨by rfl, ?_⟩) hHeld ?_ ?_
                              rotate_left
                              · rintro w' ⟨s0, s1, s2, s3, s4, s5, s6, s7, s8, s9, s10⟩
                                go_simp
                                with_reducible rfl
                              rotate_left
                              · simp only [Act.put, sI, sZ, sS, i64_w, i32_w]
                                rfl
                              refine take_ (i := 19) (N := some 75) (v := ?_) (a' := ?_) #[true, true, true, true, true, true, true, true, true, true, false, true, true, true, true, true, true, true, true, true, false, false, false, false, false, false, false, false, false, false, false, false, false, false, false, false, false, false, false, false, false, false, false, false, false, false, false, false, false, false, false, false, false, false] rfl rfl (take_ofW HT_.out HW_.out (by kernel_rfl)) (fun _ _ _ h => h) (Or.inl ⟨by rfl, ?_⟩) hHeld ?_ ?_
                              rotate_left
                              · rintro w' ⟨s0, s1, s2, s3, s4, s5, s6, s7, s8, s9, s10⟩
                                go_simp
                                with_reducible rfl
                              rotate_left
                              · simp only [Act.put, sI, sZ, sS, i64_w, i32_w]
                                rfl
                              refine pure_ (i := 20) (N := some 76) (v := ?_) (a' := ?_) #[true, true, true, true, true, true, true, true, true, true, false, true, true, true, true, true, true, true, true, true, true, false, false, false, false, false, false, false, false, false, false, false, false, false, false, false, false, false, false, false, false, false, false, false, false, false, false, false, false, false, false, false, false, false] rfl rfl (any_of HT_.out (by kernel_rfl)) (fun _ _ _ h => h) (Or.inl ⟨by rfl, ?_⟩) ?_ ?_
                              rotate_left
                              · intro w'
                                go_simp
                                with_reducible rfl
                              rotate_left
                              · simp only [Act.put, sI, sZ, sS, i64_w, i32_w]
                                rfl
                              refine one_ (i := 10) (N := some 66) #[true, true, true, true, true, true, true, true, true, true, true, true, true, true, true, true, true, true, true, true, true, false, false, false, false, false, false, false, false, false, false, false, false, false, false, false, false, false, false, false, false, false, false, false, false, false, false, false, false, false, false, false, false, false] rfl rfl (one_of HT_.out (by kernel_rfl)) (by decide) (fun K hK => ?_)
                              refine goes_ Tryd.func11 (by kernel_rfl) rfl #[.agg #[.bool t275, .int .i64 t276, .int .i64 t277, .int .i64 t278, .int .i64 t279, .int .i64 t280, .int .i64 t281], .int .i64 (rd l0 x11_3), .int .u64 (IntKind.u64.wrap (rd l0 x11_3))] (by rfl) rfl rfl (by (try simp only [List.map_toArray, List.map_cons, List.map_nil]); first | done | rfl | (simp only [List.length_drop, List.length_take]; rfl)) ?_
                              with_reducible refine (coalesce_Static.calls t275 t276 t277 t278 t279 t280 t281 (rd l0 x11_3) (IntKind.u64.wrap (rd l0 x11_3)) t285 _ A30.out).mono ?_
                              rintro e w47 ⟨rfl, hb⟩
                              refine ⟨_, rfl, ?_⟩
                              have n0_ := Aside0.mk (Kd.R_below (by (with_reducible repeat (first | apply Kd.R_alloc | apply Kd.R_drewN | apply Kd.R_drew)); exact HO_8.out) hb)
                              have n1_ := Aside0.mk (bB (g := gb266) (o := .cells #[.bool a2_0, .int .i16 a2_1, .int .i16 a2_2, .int .i16 a2_3, .int .i32 a2_4, .int .u16 a2_5, .int .u16 a2_6, .bool a2_7] 27 (0, 0)) (by (with_reducible repeat (first | refine bN ?_ _ | refine bD ?_ | refine bA ?_ _)); exact BK266.out) hb)
                              have n2_ := Aside0.mk (bB (g := gb282) (o := .cells #[.bool t275, .int .i64 t276, .int .i64 t277, .int .i64 t278, .int .i64 t279, .int .i64 t280, .int .i64 t281] 35 (0, 0)) (by (with_reducible repeat (first | refine bN ?_ _ | refine bD ?_ | refine bA ?_ _)); exact BK282.out) hb)
                              have n3_ := Aside0.mk (below_step (by repeat (first | (with_reducible first | exact HB.out | apply pA | apply pN | apply p1_ | refine bS ?_ GE266.out | refine bS ?_ GE282.out) | exact HB.out)) hb)
                              clear HO_8
                              clear BK266
                              clear BK282
                              clear HB
                              have HO_8 := n0_
                              have BK266 := n1_
                              have BK282 := n2_
                              have HB := n3_
                              clear n0_ n1_ n2_ n3_
                              (try clear hb)
                              (try clear hb2)
                              (try clear hk)
                              (try clear hi)
                              refine hK.out _ _ ⟨(bC BK282.out 0).trans rfl, (bC BK282.out 1).trans rfl, (bC BK282.out 2).trans rfl, (bC BK282.out 3).trans rfl, (bC BK282.out 4).trans rfl, (bC BK282.out 5).trans rfl, (bC BK282.out 6).trans rfl, ((HB.out.cell (World.block_lt_of_cell? w _ hw283_0)).trans hw283_0), ((HB.out.cell (World.block_lt_of_cell? w _ hw284_0)).trans hw284_0), ((HB.out.cell (World.block_lt_of_cell? w _ hw286_0)).trans hw286_0), ((HB.out.cell (World.block_lt_of_cell? w _ hw287_0)).trans hw287_0)⟩ (fun hHeld => ?_)
                              clear hK K
                              refine norm_ (a' := ?_) ?_ ?_
                              rotate_left
                              · show Act.put _ (some 66) _ = _
                                simp only [Act.put, sI, sZ, sS, i64_w, i32_w]
                                rfl
                              refine one_ (i := 21) (N := some 77) #[true, true, true, true, true, true, true, true, true, true, true, true, true, true, true, true, true, true, true, true, true, true, false, false, false, false, false, false, false, false, false, false, false, false, false, false, false, false, false, false, false, false, false, false, false, false, false, false, false, false, false, false, false, false] rfl rfl (one_of HT_.out (by kernel_rfl)) (by decide) (fun K hK => ?_)
                              refine goes_ Tryd.func12 (by kernel_rfl) rfl #[.agg #[.bool t275, .int .i64 t276, .int .i64 t277, .int .i64 t278, .int .i64 t279, .int .i64 t280, .int .i64 t281], .int .i64 (rd l0 x11_3), .int .u64 (IntKind.u64.wrap (rd l0 x11_3))] (by rfl) rfl rfl (by (try simp only [List.map_toArray, List.map_cons, List.map_nil]); first | done | rfl | (simp only [List.length_drop, List.length_take]; rfl)) ?_
                              with_reducible refine (v22_Static.calls kj24 t275 t276 t277 t278 t279 t280 t281 (rd l0 x11_3) (IntKind.u64.wrap (rd l0 x11_3)) t288 _ A31.out).mono ?_
                              rintro e w48 ⟨rfl, hb⟩
                              refine ⟨_, rfl, ?_⟩
                              have n0_ := Aside0.mk (Kd.R_below (by (with_reducible repeat (first | apply Kd.R_alloc | apply Kd.R_drewN | apply Kd.R_drew)); exact HO_8.out) hb)
                              have n1_ := Aside0.mk (bB (g := gb266) (o := .cells #[.bool a2_0, .int .i16 a2_1, .int .i16 a2_2, .int .i16 a2_3, .int .i32 a2_4, .int .u16 a2_5, .int .u16 a2_6, .bool a2_7] 27 (0, 0)) (by (with_reducible repeat (first | refine bN ?_ _ | refine bD ?_ | refine bA ?_ _)); exact BK266.out) hb)
                              have n2_ := Aside0.mk (bB (g := gb282) (o := .cells #[.bool t275, .int .i64 t276, .int .i64 t277, .int .i64 t278, .int .i64 t279, .int .i64 t280, .int .i64 t281] 35 (0, 0)) (by (with_reducible repeat (first | refine bN ?_ _ | refine bD ?_ | refine bA ?_ _)); exact BK282.out) hb)
                              have n3_ := Aside0.mk (below_step (by repeat (first | (with_reducible first | exact HB.out | apply pA | apply pN | apply p1_ | refine bS ?_ GE266.out | refine bS ?_ GE282.out) | exact HB.out)) hb)
                              clear HO_8
                              clear BK266
                              clear BK282
                              clear HB
                              have HO_8 := n0_
                              have BK266 := n1_
                              have BK282 := n2_
                              have HB := n3_
                              clear n0_ n1_ n2_ n3_
                              (try clear hb)
                              (try clear hb2)
                              (try clear hk)
                              (try clear hi)
                              refine hK.out _ _ ⟨(bC BK282.out 0).trans rfl, (bC BK282.out 1).trans rfl, (bC BK282.out 2).trans rfl, (bC BK282.out 3).trans rfl, (bC BK282.out 4).trans rfl, (bC BK282.out 5).trans rfl, (bC BK282.out 6).trans rfl, ((HB.out.cell (World.block_lt_of_cell? w _ hw283_0)).trans hw283_0), ((HB.out.cell (World.block_lt_of_cell? w _ hw284_0)).trans hw284_0), ((HB.out.cell (World.block_lt_of_cell? w _ hw286_0)).trans hw286_0), ((HB.out.cell (World.block_lt_of_cell? w _ hw287_0)).trans hw287_0)⟩ (fun hHeld => ?_)
                              clear hK K
                              refine norm_ (a' := ?_) ?_ ?_
                              rotate_left
                              · show Act.put _ (some 77) _ = _
                                simp only [Act.put, sI, sZ, sS, i64_w, i32_w]
                                rfl
                              refine pure_ (i := 22) (N := some 78) (v := ?_) (a' := ?_) #[true, true, true, true, true, true, true, true, true, true, true, true, true, true, true, true, true, true, true, true, true, true, true, false, false, false, false, false, false, false, false, false, false, false, false, false, false, false, false, false, false, false, false, false, false, false, false, false, false, false, false, false, false, false] rfl rfl (any_of HT_.out (by kernel_rfl)) (fun _ _ _ h => h) (Or.inl ⟨by rfl, ?_⟩) ?_ ?_
                              rotate_left
                              · intro w'
                                go_simp
                                with_reducible rfl
                              rotate_left
                              · simp only [Act.put, sI, sZ, sS, i64_w, i32_w]
                                rfl
                              refine pure_ (i := 23) (N := some 79) (v := ?_) (a' := ?_) #[true, true, true, true, true, true, true, true, true, true, true, true, true, true, true, true, true, true, true, true, true, true, true, true, false, false, false, false, false, false, false, false, false, false, false, false, false, false, false, false, false, false, false, false, false, false, false, false, false, false, false, false, false, false] rfl rfl (any_of HT_.out (by kernel_rfl)) (fun _ _ _ h => h) (Or.inl ⟨by rfl, ?_⟩) ?_ ?_
                              rotate_left
                              · intro w'
                                go_simp
                                with_reducible rfl
                              rotate_left
                              · simp only [Act.put, sI, sZ, sS, i64_w, i32_w]
                                rfl
                              refine pure_ (i := 24) (N := some 80) (v := undef) (a' := ?_) #[true, true, true, true, true, true, true, true, true, true, true, true, true, true, true, true, true, true, true, true, true, true, true, true, true, false, false, false, false, false, false, false, false, false, false, false, false, false, false, false, false, false, false, false, false, false, false, false, false, false, false, false, false, false] rfl rfl (any_of HT_.out (by kernel_rfl)) (fun _ _ _ h => h) (Or.inr ⟨by rfl, rfl⟩) ?_ ?_
                              rotate_left
                              · simp only [Act.put, sI, sZ, sS, i64_w, i32_w]
                                rfl
                              refine pure_ (i := 25) (N := some 81) (v := undef) (a' := ?_) #[true, true, true, true, true, true, true, true, true, true, true, true, true, true, true, true, true, true, true, true, true, true, true, true, true, true, false, false, false, false, false, false, false, false, false, false, false, false, false, false, false, false, false, false, false, false, false, false, false, false, false, false, false, false] rfl rfl (any_of HT_.out (by kernel_rfl)) (fun _ _ _ h => h) (Or.inr ⟨by rfl, rfl⟩) ?_ ?_
                              rotate_left
                              · simp only [Act.put, sI, sZ, sS, i64_w, i32_w]
                                rfl
                              refine pure_ (i := 26) (N := some 82) (v := undef) (a' := ?_) #[true, true, true, true, true, true, true, true, true, true, true, true, true, true, true, true, true, true, true, true, true, true, true, true, true, true, true, false, false, false, false, false, false, false, false, false, false, false, false, false, false, false, false, false, false, false, false, false, false, false, false, false, false, false] rfl rfl (any_of HT_.out (by kernel_rfl)) (fun _ _ _ h => h) (Or.inr ⟨by rfl, rfl⟩) ?_ ?_
                              rotate_left
                              · simp only [Act.put, sI, sZ, sS, i64_w, i32_w]
                                rfl
                              refine pure_ (i := 27) (N := some 83) (v := undef) (a' := ?_) #[true, true, true, true, true, true, true, true, true, true, true, true, true, true, true, true, true, true, true, true, true, true, true, true, true, true, true, true, false, false, false, false, false, false, false, false, false, false, false, false, false, false, false, false, false, false, false, false, false, false, false, false, false, false] rfl rfl (any_of HT_.out (by kernel_rfl)) (fun _ _ _ h => h) (Or.inr ⟨by rfl, rfl⟩) ?_ ?_
                              rotate_left
                              · simp only [Act.put, sI, sZ, sS, i64_w, i32_w]
                                rfl
                              refine pure_ (i := 28) (N := some 84) (v := undef) (a' := ?_) #[true, true, true, true, true, true, true, true, true, true, true, true, true, true, true, true, true, true, true, true, true, true, true, true, true, true, true, true, true, false, false, false, false, false, false, false, false, false, false, false, false, false, false, false, false, false, false, false, false, false, false, false, false, false] rfl rfl (any_of HT_.out (by kernel_rfl)) (fun _ _ _ h => h) (Or.inr ⟨by rfl, rfl⟩) ?_ ?_
                              rotate_left
                              · simp only [Act.put, sI, sZ, sS, i64_w, i32_w]
                                rfl
                              refine pure_ (i := 29) (N := some 85) (v := undef) (a' := ?_) #[true, true, true, true, true, true, true, true, true, true, true, true, true, true, true, true, true, true, true, true, true, true, true, true, true, true, true, true, true, true, false, false, false, false, false, false, false, false, false, false, false, false, false, false, false, false, false, false, false, false, false, false, false, false] rfl rfl (any_of HT_.out (by kernel_rfl)) (fun _ _ _ h => h) (Or.inr ⟨by rfl, rfl⟩) ?_ ?_
                              rotate_left
                              · simp only [Act.put, sI, sZ, sS, i64_w, i32_w]
                                rfl
                              refine pure_ (i := 30) (N := some 86) (v := undef) (a' := ?_) #[true, true, true, true, true, true, true, true, true, true, true, true, true, true, true, true, true, true, true, true, true, true, true, true, true, true, true, true, true, true, true, false, false, false, false, false, false, false, false, false, false, false, false, false, false, false, false, false, false, false, false, false, false, false] rfl rfl (any_of HT_.out (by kernel_rfl)) (fun _ _ _ h => h) (Or.inr ⟨by rfl, rfl⟩) ?_ ?_
                              rotate_left
                              · simp only [Act.put, sI, sZ, sS, i64_w, i32_w]
                                rfl
                              refine pure_ (i := 31) (N := some 87) (v := undef) (a' := ?_) #[true, true, true, true, true, true, true, true, true, true, true, true, true, true, true, true, true, true, true, true, true, true, true, true, true, true, true, true, true, true, true, true, false, false, false, false, false, false, false, false, false, false, false, false, false, false, false, false, false, false, false, false, false, false] rfl rfl (any_of HT_.out (by kernel_rfl)) (fun _ _ _ h => h) (Or.inr ⟨by rfl, rfl⟩) ?_ ?_
                              rotate_left
                              · simp only [Act.put, sI, sZ, sS, i64_w, i32_w]
                                rfl
                              refine pure_ (i := 32) (N := some 88) (v := undef) (a' := ?_) #[true, true, true, true, true, true, true, true, true, true, true, true, true, true, true, true, true, true, true, true, true, true, true, true, true, true, true, true, true, true, true, true, true, false, false, false, false, false, false, false, false, false, false, false, false, false, false, false, false, false, false, false, false, false] rfl rfl (any_of HT_.out (by kernel_rfl)) (fun _ _ _ h => h) (Or.inr ⟨by rfl, rfl⟩) ?_ ?_
                              rotate_left
                              · simp only [Act.put, sI, sZ, sS, i64_w, i32_w]
                                rfl
                              refine pure_ (i := 33) (N := some 89) (v := undef) (a' := ?_) #[true, true, true, true, true, true, true, true, true, true, true, true, true, true, true, true, true, true, true, true, true, true, true, true, true, true, true, true, true, true, true, true, true, true, false, false, false, false, false, false, false, false, false, false, false, false, false, false, false, false, false, false, false, false] rfl rfl (any_of HT_.out (by kernel_rfl)) (fun _ _ _ h => h) (Or.inr ⟨by rfl, rfl⟩) ?_ ?_
                              rotate_left
                              · simp only [Act.put, sI, sZ, sS, i64_w, i32_w]
                                rfl
                              refine pure_ (i := 34) (N := some 90) (v := undef) (a' := ?_) #[true, true, true, true, true, true, true, true, true, true, true, true, true, true, true, true, true, true, true, true, true, true, true, true, true, true, true, true, true, true, true, true, true, true, true, false, false, false, false, false, false, false, false, false, false, false, false, false, false, false, false, false, false, false] rfl rfl (any_of HT_.out (by kernel_rfl)) (fun _ _ _ h => h) (Or.inr ⟨by rfl, rfl⟩) ?_ ?_
                              rotate_left
                              · simp only [Act.put, sI, sZ, sS, i64_w, i32_w]
                                rfl
                              refine pure_ (i := 35) (N := some 91) (v := undef) (a' := ?_) #[true, true, true, true, true, true, true, true, true, true, true, true, true, true, true, true, true, true, true, true, true, true, true, true, true, true, true, true, true, true, true, true, true, true, true, true, false, false, false, false, false, false, false, false, false, false, false, false, false, false, false, false, false, false] rfl rfl (any_of HT_.out (by kernel_rfl)) (fun _ _ _ h => h) (Or.inr ⟨by rfl, rfl⟩) ?_ ?_
                              rotate_left
                              · simp only [Act.put, sI, sZ, sS, i64_w, i32_w]
                                rfl
                              refine pure_ (i := 36) (N := some 92) (v := undef) (a' := ?_) #[true, true, true, true, true, true, true, true, true, true, true, true, true, true, true, true, true, true, true, true, true, true, true, true, true, true, true, true, true, true, true, true, true, true, true, true, true, false, false, false, false, false, false, false, false, false, false, false, false, false, false, false, false, false] rfl rfl (any_of HT_.out (by kernel_rfl)) (fun _ _ _ h => h) (Or.inr ⟨by rfl, rfl⟩) ?_ ?_
                              rotate_left
                              · simp only [Act.put, sI, sZ, sS, i64_w, i32_w]
                                rfl
                              refine pure_ (i := 37) (N := some 93) (v := undef) (a' := ?_) #[true, true, true, true, true, true, true, true, true, true, true, true, true, true, true, true, true, true, true, true, true, true, true, true, true, true, true, true, true, true, true, true, true, true, true, true, true, true, false, false, false, false, false, false, false, false, false, false, false, false, false, false, false, false] rfl rfl (any_of HT_.out (by kernel_rfl)) (fun _ _ _ h => h) (Or.inr ⟨by rfl, rfl⟩) ?_ ?_
                              rotate_left
                              · simp only [Act.put, sI, sZ, sS, i64_w, i32_w]
                                rfl
                              refine pure_ (i := 38) (N := some 94) (v := undef) (a' := ?_) #[true, true, true, true, true, true, true, true, true, true, true, true, true, true, true, true, true, true, true, true, true, true, true, true, true, true, true, true, true, true, true, true, true, true, true, true, true, true, true, false, false, false, false, false, false, false, false, false, false, false, false, false, false, false] rfl rfl (any_of HT_.out (by kernel_rfl)) (fun _ _ _ h => h) (Or.inr ⟨by rfl, rfl⟩) ?_ ?_
                              rotate_left
                              · simp only [Act.put, sI, sZ, sS, i64_w, i32_w]
                                rfl
                              refine pure_ (i := 39) (N := some 95) (v := undef) (a' := ?_) #[true, true, true, true, true, true, true, true, true, true, true, true, true, true, true, true, true, true, true, true, true, true, true, true, true, true, true, true, true, true, true, true, true, true, true, true, true, true, true, true, false, false, false, false, false, false, false, false, false, false, false, false, false, false] rfl rfl (any_of HT_.out (by kernel_rfl)) (fun _ _ _ h => h) (Or.inr ⟨by rfl, rfl⟩) ?_ ?_
                              rotate_left
                              · simp only [Act.put, sI, sZ, sS, i64_w, i32_w]
                                rfl
                              refine pure_ (i := 40) (N := some 96) (v := undef) (a' := ?_) #[true, true, true, true, true, true, true, true, true, true, true, true, true, true, true, true, true, true, true, true, true, true, true, true, true, true, true, true, true, true, true, true, true, true, true, true, true, true, true, true, true, false, false, false, false, false, false, false, false, false, false, false, false, false] rfl rfl (any_of HT_.out (by kernel_rfl)) (fun _ _ _ h => h) (Or.inr ⟨by rfl, rfl⟩) ?_ ?_
                              rotate_left
                              · simp only [Act.put, sI, sZ, sS, i64_w, i32_w]
                                rfl
                              refine pure_ (i := 41) (N := some 97) (v := undef) (a' := ?_) #[true, true, true, true, true, true, true, true, true, true, true, true, true, true, true, true, true, true, true, true, true, true, true, true, true, true, true, true, true, true, true, true, true, true, true, true, true, true, true, true, true, true, false, false, false, false, false, false, false, false, false, false, false, false] rfl rfl (any_of HT_.out (by kernel_rfl)) (fun _ _ _ h => h) (Or.inr ⟨by rfl, rfl⟩) ?_ ?_
                              rotate_left
                              · simp only [Act.put, sI, sZ, sS, i64_w, i32_w]
                                rfl
                              refine pure_ (i := 42) (N := some 98) (v := undef) (a' := ?_) #[true, true, true, true, true, true, true, true, true, true, true, true, true, true, true, true, true, true, true, true, true, true, true, true, true, true, true, true, true, true, true, true, true, true, true, true, true, true, true, true, true, true, true, false, false, false, false, false, false, false, false, false, false, false] rfl rfl (any_of HT_.out (by kernel_rfl)) (fun _ _ _ h => h) (Or.inr ⟨by rfl, rfl⟩) ?_ ?_
                              rotate_left
                              · simp only [Act.put, sI, sZ, sS, i64_w, i32_w]
                                rfl
                              refine pure_ (i := 43) (N := some 99) (v := undef) (a' := ?_) #[true, true, true, true, true, true, true, true, true, true, true, true, true, true, true, true, true, true, true, true, true, true, true, true, true, true, true, true, true, true, true, true, true, true, true, true, true, true, true, true, true, true, true, true, false, false, false, false, false, false, false, false, false, false] rfl rfl (any_of HT_.out (by kernel_rfl)) (fun _ _ _ h => h) (Or.inr ⟨by rfl, rfl⟩) ?_ ?_
                              rotate_left
                              · simp only [Act.put, sI, sZ, sS, i64_w, i32_w]
                                rfl
                              refine pure_ (i := 44) (N := some 100) (v := undef) (a' := ?_) #[true, true, true, true, true, true, true, true, true, true, true, true, true, true, true, true, true, true, true, true, true, true, true, true, true, true, true, true, true, true, true, true, true, true, true, true, true, true, true, true, true, true, true, true, true, false, false, false, false, false, false, false, false, false] rfl rfl (any_of HT_.out (by kernel_rfl)) (fun _ _ _ h => h) (Or.inr ⟨by rfl, rfl⟩) ?_ ?_
                              rotate_left
                              · simp only [Act.put, sI, sZ, sS, i64_w, i32_w]
                                rfl
                              refine pure_ (i := 45) (N := some 101) (v := undef) (a' := ?_) #[true, true, true, true, true, true, true, true, true, true, true, true, true, true, true, true, true, true, true, true, true, true, true, true, true, true, true, true, true, true, true, true, true, true, true, true, true, true, true, true, true, true, true, true, true, true, false, false, false, false, false, false, false, false] rfl rfl (any_of HT_.out (by kernel_rfl)) (fun _ _ _ h => h) (Or.inr ⟨by rfl, rfl⟩) ?_ ?_
                              rotate_left
                              · simp only [Act.put, sI, sZ, sS, i64_w, i32_w]
                                rfl
                              refine pure_ (i := 46) (N := some 102) (v := undef) (a' := ?_) #[true, true, true, true, true, true, true, true, true, true, true, true, true, true, true, true, true, true, true, true, true, true, true, true, true, true, true, true, true, true, true, true, true, true, true, true, true, true, true, true, true, true, true, true, true, true, true, false, false, false, false, false, false, false] rfl rfl (any_of HT_.out (by kernel_rfl)) (fun _ _ _ h => h) (Or.inr ⟨by rfl, rfl⟩) ?_ ?_
                              rotate_left
                              · simp only [Act.put, sI, sZ, sS, i64_w, i32_w]
                                rfl
                              refine pure_ (i := 47) (N := some 103) (v := undef) (a' := ?_) #[true, true, true, true, true, true, true, true, true, true, true, true, true, true, true, true, true, true, true, true, true, true, true, true, true, true, true, true, true, true, true, true, true, true, true, true, true, true, true, true, true, true, true, true, true, true, true, true, false, false, false, false, false, false] rfl rfl (any_of HT_.out (by kernel_rfl)) (fun _ _ _ h => h) (Or.inr ⟨by rfl, rfl⟩) ?_ ?_
                              rotate_left
                              · simp only [Act.put, sI, sZ, sS, i64_w, i32_w]
                                rfl
                              refine pure_ (i := 48) (N := some 104) (v := undef) (a' := ?_) #[true, true, true, true, true, true, true, true, true, true, true, true, true, true, true, true, true, true, true, true, true, true, true, true, true, true, true, true, true, true, true, true, true, true, true, true, true, true, true, true, true, true, true, true, true, true, true, true, true, false, false, false, false, false] rfl rfl (any_of HT_.out (by kernel_rfl)) (fun _ _ _ h => h) (Or.inr ⟨by rfl, rfl⟩) ?_ ?_
                              rotate_left
                              · simp only [Act.put, sI, sZ, sS, i64_w, i32_w]
                                rfl
                              refine pure_ (i := 49) (N := some 105) (v := undef) (a' := ?_) #[true, true, true, true, true, true, true, true, true, true, true, true, true, true, true, true, true, true, true, true, true, true, true, true, true, true, true, true, true, true, true, true, true, true, true, true, true, true, true, true, true, true, true, true, true, true, true, true, true, true, false, false, false, false] rfl rfl (any_of HT_.out (by kernel_rfl)) (fun _ _ _ h => h) (Or.inr ⟨by rfl, rfl⟩) ?_ ?_
                              rotate_left
                              · simp only [Act.put, sI, sZ, sS, i64_w, i32_w]
                                rfl
                              refine pure_ (i := 50) (N := some 106) (v := undef) (a' := ?_) #[true, true, true, true, true, true, true, true, true, true, true, true, true, true, true, true, true, true, true, true, true, true, true, true, true, true, true, true, true, true, true, true, true, true, true, true, true, true, true, true, true, true, true, true, true, true, true, true, true, true, true, false, false, false] rfl rfl (any_of HT_.out (by kernel_rfl)) (fun _ _ _ h => h) (Or.inr ⟨by rfl, rfl⟩) ?_ ?_
                              rotate_left
                              · simp only [Act.put, sI, sZ, sS, i64_w, i32_w]
                                rfl
                              refine pure_ (i := 51) (N := some 107) (v := undef) (a' := ?_) #[true, true, true, true, true, true, true, true, true, true, true, true, true, true, true, true, true, true, true, true, true, true, true, true, true, true, true, true, true, true, true, true, true, true, true, true, true, true, true, true, true, true, true, true, true, true, true, true, true, true, true, true, false, false] rfl rfl (any_of HT_.out (by kernel_rfl)) (fun _ _ _ h => h) (Or.inr ⟨by rfl, rfl⟩) ?_ ?_
                              rotate_left
                              · simp only [Act.put, sI, sZ, sS, i64_w, i32_w]
                                rfl
                              refine pure_ (i := 52) (N := some 108) (v := undef) (a' := ?_) #[true, true, true, true, true, true, true, true, true, true, true, true, true, true, true, true, true, true, true, true, true, true, true, true, true, true, true, true, true, true, true, true, true, true, true, true, true, true, true, true, true, true, true, true, true, true, true, true, true, true, true, true, true, false] rfl rfl (any_of HT_.out (by kernel_rfl)) (fun _ _ _ h => h) (Or.inr ⟨by rfl, rfl⟩) ?_ ?_
                              rotate_left
                              · simp only [Act.put, sI, sZ, sS, i64_w, i32_w]
                                rfl
                              refine pure_ (i := 53) (N := some 109) (v := ?_) (a' := ?_) #[true, true, true, true, true, true, true, true, true, true, true, true, true, true, true, true, true, true, true, true, true, true, true, true, true, true, true, true, true, true, true, true, true, true, true, true, true, true, true, true, true, true, true, true, true, true, true, true, true, true, true, true, true, true] rfl rfl (any_of HT_.out (by kernel_rfl)) (fun _ _ _ h => h) (Or.inl ⟨by rfl, ?_⟩) ?_ ?_
                              rotate_left
                              · intro w'
                                go_simp
                                with_reducible rfl
                              rotate_left
                              · simp only [Act.put, sI, sZ, sS, i64_w, i32_w]
                                rfl
                              refine done_ (done_of HT_.out (by kernel_rfl)) ?_
                              try go_wp2
                              go_ret
                              exact ⟨by first | rfl | (simp [errW_none, errW_some] <;> rfl) | (simp [*, errW_none, errW_some] <;> rfl), by repeat (first | (with_reducible first | exact HB.out | apply pA | apply pN | apply p1_ | refine bS ?_ GE266.out | refine bS ?_ GE282.out) | exact HB.out)⟩
                          · rw [if_neg c29] at H
                            exact absurd H (by simp)
                        · rw [if_neg c28] at H
                          exact absurd H (by simp)
                      · replace c27 := Bool.eq_false_iff.mpr c27
                        subst c27
                        have H1 : ((coalesce_Segments.f l0).bind fun t295 => ((v22_Segments.f kj24 l0).bind fun t298 => ((v22_SameInts.f kj24 t295 t298).bind fun t301 => (if t301 = true then ((coalesce_Moves.f l1 x8_10).bind fun t302 => ((v22_Moves.f kj24 l1 x8_10).bind fun t303 => (if t302 = t303 then (some true) else (some false)))) else (some false))))) = some r := by rw [if_neg (show ¬ (false = true) by decide)] at H; exact H
                        clear H
                        have H := H1
                        clear H1
                        replace H := Option.bind_eq_some_iff.mp H
                        obtain ⟨t295, A490, H⟩ := H
                        replace H : ((v22_Segments.f kj24 l0).bind fun t298 => ((v22_SameInts.f kj24 t295 t298).bind fun t301 => (if t301 = true then ((coalesce_Moves.f l1 x8_10).bind fun t302 => ((v22_Moves.f kj24 l1 x8_10).bind fun t303 => (if t302 = t303 then (some true) else (some false)))) else (some false)))) = some r := H
                        have A49 := Aside0.mk A490
                        clear A490
                        replace H := Option.bind_eq_some_iff.mp H
                        obtain ⟨t298, A500, H⟩ := H
                        replace H : ((v22_SameInts.f kj24 t295 t298).bind fun t301 => (if t301 = true then ((coalesce_Moves.f l1 x8_10).bind fun t302 => ((v22_Moves.f kj24 l1 x8_10).bind fun t303 => (if t302 = t303 then (some true) else (some false)))) else (some false))) = some r := H
                        have A50 := Aside0.mk A500
                        clear A500
                        replace H := Option.bind_eq_some_iff.mp H
                        obtain ⟨t301, A510, H⟩ := H
                        replace H : (if t301 = true then ((coalesce_Moves.f l1 x8_10).bind fun t302 => ((v22_Moves.f kj24 l1 x8_10).bind fun t303 => (if t302 = t303 then (some true) else (some false)))) else (some false)) = some r := H
                        have A51 := Aside0.mk A510
                        clear A510
                        by_cases c52 : t301 = true
                        · subst c52
                          have H1 : ((coalesce_Moves.f l1 x8_10).bind fun t302 => ((v22_Moves.f kj24 l1 x8_10).bind fun t303 => (if t302 = t303 then (some true) else (some false)))) = some r := by rw [if_pos rfl] at H; exact H
                          clear H
                          have H := H1
                          clear H1
                          replace H := Option.bind_eq_some_iff.mp H
                          obtain ⟨t302, A530, H⟩ := H
                          replace H : ((v22_Moves.f kj24 l1 x8_10).bind fun t303 => (if t302 = t303 then (some true) else (some false))) = some r := H
                          have A53 := Aside0.mk A530
                          clear A530
                          replace H := Option.bind_eq_some_iff.mp H
                          obtain ⟨t303, A540, H⟩ := H
                          replace H : (if t302 = t303 then (some true) else (some false)) = some r := H
                          have A54 := Aside0.mk A540
                          clear A540
                          by_cases c55 : t302 = t303
                          · rw [if_pos c55] at H
                            have c55b0 : (t302 == t303) = true := beq_iff_eq.mpr c55
                            have c55b1 : (t302 != t303) = false := bne_eq_false_iff_eq.mpr c55
                            clear c55
                            obtain rfl := Option.some.inj H
                            go_wp2_with (first | ((with_reducible refine gate_callee (f := 14) rfl ?_); refine goesL_ (some 111) rfl rfl Tryd.func14 (by kernel_rfl) rfl #[.slice A0 l0.length c0] rfl (by (try simp only [List.map_toArray, List.map_cons, List.map_nil]); first | done | rfl | (simp only [List.length_drop, List.length_take]; rfl)) ?_; (with_reducible refine (coalesce_Segments.calls _ _ l0 t295 _ ?side1 ?side2 A49.out).mono ?_); (case side1 => repeat (first | exact (Kd.C_below HR0.out HB.out) | (with_reducible refine Kd.C_alloc ?_ _) | (with_reducible refine Kd.C_drewN ?_ _) | (with_reducible refine Kd.C_drew ?_))); (case side2 => exact HC0.out); rintro e w56 ⟨v296, rfl, ho0, hb⟩; refine ⟨_, rfl, ?_⟩; have n0_ := Aside0.mk (Kd.R_below (by (with_reducible repeat (first | apply Kd.R_alloc | apply Kd.R_drewN | apply Kd.R_drew)); exact HO_8.out) hb); have n1_ := Aside0.mk (Kd.R_lower ho0 (below_size (by repeat (first | (with_reducible first | exact HB.out | apply pA | apply pN | apply p1_ | refine bS ?_ GE266.out | refine bS ?_ GE282.out) | exact HB.out)))); have n2_ := Aside0.mk (bB (g := gb266) (o := .cells #[.bool a2_0, .int .i16 a2_1, .int .i16 a2_2, .int .i16 a2_3, .int .i32 a2_4, .int .u16 a2_5, .int .u16 a2_6, .bool a2_7] 27 (0, 0)) (by (with_reducible repeat (first | refine bN ?_ _ | refine bD ?_ | refine bA ?_ _)); exact BK266.out) hb); have n3_ := Aside0.mk (bB (g := gb282) (o := .cells #[.bool t275, .int .i64 t276, .int .i64 t277, .int .i64 t278, .int .i64 t279, .int .i64 t280, .int .i64 t281] 35 (0, 0)) (by (with_reducible repeat (first | refine bN ?_ _ | refine bD ?_ | refine bA ?_ _)); exact BK282.out) hb); have n4_ := Aside0.mk (below_step (by repeat (first | (with_reducible first | exact HB.out | apply pA | apply pN | apply p1_ | refine bS ?_ GE266.out | refine bS ?_ GE282.out) | exact HB.out)) hb); clear HO_8; clear BK266; clear BK282; clear HB; have HO_8 := n0_; have HO297 := n1_; have BK266 := n2_; have BK282 := n3_; have HB := n4_; clear n0_ n1_ n2_ n3_ n4_; (try clear hb); (try clear hb2); (try clear hk); (try clear hi); (try clear ho0)) | ((with_reducible refine gate_callee (f := 15) rfl ?_); refine goesL_ (some 113) rfl rfl Tryd.func15 (by kernel_rfl) rfl #[.slice A0 l0.length c0] rfl (by (try simp only [List.map_toArray, List.map_cons, List.map_nil]); first | done | rfl | (simp only [List.length_drop, List.length_take]; rfl)) ?_; (with_reducible refine (v22_Segments.calls kj24 _ _ l0 t298 _ ?side1 ?side2 A50.out).mono ?_); (case side1 => repeat (first | exact (Kd.C_below HR0.out HB.out) | (with_reducible refine Kd.C_alloc ?_ _) | (with_reducible refine Kd.C_drewN ?_ _) | (with_reducible refine Kd.C_drew ?_))); (case side2 => exact HC0.out); rintro e w57 ⟨v299, rfl, ho0, hb⟩; refine ⟨_, rfl, ?_⟩; have n0_ := Aside0.mk (Kd.R_below (by (with_reducible repeat (first | apply Kd.R_alloc | apply Kd.R_drewN | apply Kd.R_drew)); exact HO_8.out) hb); have n1_ := Aside0.mk (Kd.R_elder' (by (with_reducible repeat (first | apply Kd.R_alloc | apply Kd.R_drewN | apply Kd.R_drew)); exact HO297.out) (Kd.R_base ho0) hb); have n2_ := Aside0.mk (Kd.R_lower (Kd.R_new' ho0 (Kd.R_lt (by (with_reducible repeat (first | apply Kd.R_alloc | apply Kd.R_drewN | apply Kd.R_drew)); exact HO297.out))) (below_size (by repeat (first | (with_reducible first | exact HB.out | apply pA | apply pN | apply p1_ | refine bS ?_ GE266.out | refine bS ?_ GE282.out) | exact HB.out)))); have n3_ := Aside0.mk (bB (g := gb266) (o := .cells #[.bool a2_0, .int .i16 a2_1, .int .i16 a2_2, .int .i16 a2_3, .int .i32 a2_4, .int .u16 a2_5, .int .u16 a2_6, .bool a2_7] 27 (0, 0)) (by (with_reducible repeat (first | refine bN ?_ _ | refine bD ?_ | refine bA ?_ _)); exact BK266.out) hb); have n4_ := Aside0.mk (bB (g := gb282) (o := .cells #[.bool t275, .int .i64 t276, .int .i64 t277, .int .i64 t278, .int .i64 t279, .int .i64 t280, .int .i64 t281] 35 (0, 0)) (by (with_reducible repeat (first | refine bN ?_ _ | refine bD ?_ | refine bA ?_ _)); exact BK282.out) hb); have n5_ := Aside0.mk (below_step (by repeat (first | (with_reducible first | exact HB.out | apply pA | apply pN | apply p1_ | refine bS ?_ GE266.out | refine bS ?_ GE282.out) | exact HB.out)) hb); clear HO_8; clear HO297; clear BK266; clear BK282; clear HB; have HO_8 := n0_; have HO297 := n1_; have HO300 := n2_; have BK266 := n3_; have BK282 := n4_; have HB := n5_; clear n0_ n1_ n2_ n3_ n4_ n5_; (try clear hb); (try clear hb2); (try clear hk); (try clear hi); (try clear ho0); obtain ⟨Ao58, co58, eo58⟩ := Kd.R_slice HO297.out; subst eo58; obtain ⟨Ao59, co59, eo59⟩ := Kd.R_slice HO300.out; subst eo59) | ((with_reducible refine gate_callee (f := 13) rfl ?_); refine goesL_ (some 114) rfl rfl Tryd.func13 (by kernel_rfl) rfl #[.slice Ao58 t295.length co58, .slice Ao59 t298.length co59] rfl (by (try simp only [List.map_toArray, List.map_cons, List.map_nil]); first | done | rfl | (simp only [List.length_drop, List.length_take]; rfl)) ?_; (with_reducible refine (v22_SameInts.calls kj24 _ _ t295 _ _ t298 true _ ?side1 ?side2 ?side3 ?side4 A51.out).mono ?_); (case side1 => repeat (first | exact (Kd.R_reads' HO297.out).2.2 | (with_reducible refine Kd.C_alloc ?_ _) | (with_reducible refine Kd.C_drewN ?_ _) | (with_reducible refine Kd.C_drew ?_))); (case side2 => exact (Kd.R_reads' HO297.out).2.1); (case side3 => repeat (first | exact (Kd.R_reads' HO300.out).2.2 | (with_reducible refine Kd.C_alloc ?_ _) | (with_reducible refine Kd.C_drewN ?_ _) | (with_reducible refine Kd.C_drew ?_))); (case side4 => exact (Kd.R_reads' HO300.out).2.1); rintro e w' ⟨rfl, ⟨nd, rfl⟩⟩; refine ⟨_, rfl, ?_⟩; obtain ⟨Ao60, co60, eo60⟩ := Kd.R_slice HO_8.out; subst eo60) | (go_at_call 16; (with_reducible refine (coalesce_Moves.calls _ _ l1 _ _ x8_10 t302 _ ?side1 ?side2 ?side3 ?side4 A53.out).mono ?_); (case side1 => repeat (first | exact (Kd.C_below HR1.out (by repeat (first | (with_reducible first | exact HB.out | apply pA | apply pN | apply p1_ | refine bS ?_ GE266.out | refine bS ?_ GE282.out) | exact HB.out))) | (with_reducible refine Kd.C_alloc ?_ _) | (with_reducible refine Kd.C_drewN ?_ _) | (with_reducible refine Kd.C_drew ?_))); (case side2 => exact HC1.out); (case side3 => repeat (first | exact (Kd.R_reads' HO_8.out).2.2 | (with_reducible refine Kd.C_alloc ?_ _) | (with_reducible refine Kd.C_drewN ?_ _) | (with_reducible refine Kd.C_drew ?_))); (case side4 => exact (Kd.R_reads' HO_8.out).2.1); rintro e w61 ⟨rfl, hb⟩; have n0_ := Aside0.mk (Kd.R_below (by (with_reducible repeat (first | apply Kd.R_alloc | apply Kd.R_drewN | apply Kd.R_drew)); exact HO_8.out) hb); have n1_ := Aside0.mk (Kd.R_below (by (with_reducible repeat (first | apply Kd.R_alloc | apply Kd.R_drewN | apply Kd.R_drew)); exact HO297.out) hb); have n2_ := Aside0.mk (Kd.R_below (by (with_reducible repeat (first | apply Kd.R_alloc | apply Kd.R_drewN | apply Kd.R_drew)); exact HO300.out) hb); have n3_ := Aside0.mk (bB (g := gb266) (o := .cells #[.bool a2_0, .int .i16 a2_1, .int .i16 a2_2, .int .i16 a2_3, .int .i32 a2_4, .int .u16 a2_5, .int .u16 a2_6, .bool a2_7] 27 (0, 0)) (by (with_reducible repeat (first | refine bN ?_ _ | refine bD ?_ | refine bA ?_ _)); exact BK266.out) hb); have n4_ := Aside0.mk (bB (g := gb282) (o := .cells #[.bool t275, .int .i64 t276, .int .i64 t277, .int .i64 t278, .int .i64 t279, .int .i64 t280, .int .i64 t281] 35 (0, 0)) (by (with_reducible repeat (first | refine bN ?_ _ | refine bD ?_ | refine bA ?_ _)); exact BK282.out) hb); have n5_ := Aside0.mk (below_step (by repeat (first | (with_reducible first | exact HB.out | apply pA | apply pN | apply p1_ | refine bS ?_ GE266.out | refine bS ?_ GE282.out) | exact HB.out)) hb); clear HO_8; clear HO297; clear HO300; clear BK266; clear BK282; clear HB; have HO_8 := n0_; have HO297 := n1_; have HO300 := n2_; have BK266 := n3_; have BK282 := n4_; have HB := n5_; clear n0_ n1_ n2_ n3_ n4_ n5_; (try clear hb); (try clear hb2); (try clear hk); (try clear hi)) | (go_at_call 17; (with_reducible refine (v22_Moves.calls kj24 _ _ l1 _ _ x8_10 t303 _ ?side1 ?side2 ?side3 ?side4 A54.out).mono ?_); (case side1 => repeat (first | exact (Kd.C_below HR1.out HB.out) | (with_reducible refine Kd.C_alloc ?_ _) | (with_reducible refine Kd.C_drewN ?_ _) | (with_reducible refine Kd.C_drew ?_))); (case side2 => exact HC1.out); (case side3 => repeat (first | exact (Kd.R_reads' HO_8.out).2.2 | (with_reducible refine Kd.C_alloc ?_ _) | (with_reducible refine Kd.C_drewN ?_ _) | (with_reducible refine Kd.C_drew ?_))); (case side4 => exact (Kd.R_reads' HO_8.out).2.1); rintro e w62 ⟨rfl, hb⟩; have n0_ := Aside0.mk (Kd.R_below (by (with_reducible repeat (first | apply Kd.R_alloc | apply Kd.R_drewN | apply Kd.R_drew)); exact HO_8.out) hb); have n1_ := Aside0.mk (Kd.R_below (by (with_reducible repeat (first | apply Kd.R_alloc | apply Kd.R_drewN | apply Kd.R_drew)); exact HO297.out) hb); have n2_ := Aside0.mk (Kd.R_below (by (with_reducible repeat (first | apply Kd.R_alloc | apply Kd.R_drewN | apply Kd.R_drew)); exact HO300.out) hb); have n3_ := Aside0.mk (bB (g := gb266) (o := .cells #[.bool a2_0, .int .i16 a2_1, .int .i16 a2_2, .int .i16 a2_3, .int .i32 a2_4, .int .u16 a2_5, .int .u16 a2_6, .bool a2_7] 27 (0, 0)) (by (with_reducible repeat (first | refine bN ?_ _ | refine bD ?_ | refine bA ?_ _)); exact BK266.out) hb); have n4_ := Aside0.mk (bB (g := gb282) (o := .cells #[.bool t275, .int .i64 t276, .int .i64 t277, .int .i64 t278, .int .i64 t279, .int .i64 t280, .int .i64 t281] 35 (0, 0)) (by (with_reducible repeat (first | refine bN ?_ _ | refine bD ?_ | refine bA ?_ _)); exact BK282.out) hb); have n5_ := Aside0.mk (below_step (by repeat (first | (with_reducible first | exact HB.out | apply pA | apply pN | apply p1_ | refine bS ?_ GE266.out | refine bS ?_ GE282.out) | exact HB.out)) hb); clear HO_8; clear HO297; clear HO300; clear BK266; clear BK282; clear HB; have HO_8 := n0_; have HO297 := n1_; have HO300 := n2_; have BK266 := n3_; have BK282 := n4_; have HB := n5_; clear n0_ n1_ n2_ n3_ n4_ n5_; (try clear hb); (try clear hb2); (try clear hk); (try clear hi)))
                            go_ret
                            exact ⟨by first | rfl | (simp [errW_none, errW_some] <;> rfl) | (simp [*, errW_none, errW_some] <;> rfl), by repeat (first | (with_reducible first | exact HB.out | apply pA | apply pN | apply p1_ | refine bS ?_ GE266.out | refine bS ?_ GE282.out) | exact HB.out)⟩
                          · rw [if_neg c55] at H
                            have c55b0 : (t302 == t303) = false := beq_eq_false_iff_ne.mpr c55
                            have c55b1 : (t302 != t303) = true := bne_iff_ne.mpr c55
                            obtain rfl := Option.some.inj H
                            go_wp2_with (first | ((with_reducible refine gate_callee (f := 14) rfl ?_); refine goesL_ (some 111) rfl rfl Tryd.func14 (by kernel_rfl) rfl #[.slice A0 l0.length c0] rfl (by (try simp only [List.map_toArray, List.map_cons, List.map_nil]); first | done | rfl | (simp only [List.length_drop, List.length_take]; rfl)) ?_; (with_reducible refine (coalesce_Segments.calls _ _ l0 t295 _ ?side1 ?side2 A49.out).mono ?_); (case side1 => repeat (first | exact (Kd.C_below HR0.out HB.out) | (with_reducible refine Kd.C_alloc ?_ _) | (with_reducible refine Kd.C_drewN ?_ _) | (with_reducible refine Kd.C_drew ?_))); (case side2 => exact HC0.out); rintro e w63 ⟨v296, rfl, ho0, hb⟩; refine ⟨_, rfl, ?_⟩; have n0_ := Aside0.mk (Kd.R_below (by (with_reducible repeat (first | apply Kd.R_alloc | apply Kd.R_drewN | apply Kd.R_drew)); exact HO_8.out) hb); have n1_ := Aside0.mk (Kd.R_lower ho0 (below_size (by repeat (first | (with_reducible first | exact HB.out | apply pA | apply pN | apply p1_ | refine bS ?_ GE266.out | refine bS ?_ GE282.out) | exact HB.out)))); have n2_ := Aside0.mk (bB (g := gb266) (o := .cells #[.bool a2_0, .int .i16 a2_1, .int .i16 a2_2, .int .i16 a2_3, .int .i32 a2_4, .int .u16 a2_5, .int .u16 a2_6, .bool a2_7] 27 (0, 0)) (by (with_reducible repeat (first | refine bN ?_ _ | refine bD ?_ | refine bA ?_ _)); exact BK266.out) hb); have n3_ := Aside0.mk (bB (g := gb282) (o := .cells #[.bool t275, .int .i64 t276, .int .i64 t277, .int .i64 t278, .int .i64 t279, .int .i64 t280, .int .i64 t281] 35 (0, 0)) (by (with_reducible repeat (first | refine bN ?_ _ | refine bD ?_ | refine bA ?_ _)); exact BK282.out) hb); have n4_ := Aside0.mk (below_step (by repeat (first | (with_reducible first | exact HB.out | apply pA | apply pN | apply p1_ | refine bS ?_ GE266.out | refine bS ?_ GE282.out) | exact HB.out)) hb); clear HO_8; clear BK266; clear BK282; clear HB; have HO_8 := n0_; have HO297 := n1_; have BK266 := n2_; have BK282 := n3_; have HB := n4_; clear n0_ n1_ n2_ n3_ n4_; (try clear hb); (try clear hb2); (try clear hk); (try clear hi); (try clear ho0)) | ((with_reducible refine gate_callee (f := 15) rfl ?_); refine goesL_ (some 113) rfl rfl Tryd.func15 (by kernel_rfl) rfl #[.slice A0 l0.length c0] rfl (by (try simp only [List.map_toArray, List.map_cons, List.map_nil]); first | done | rfl | (simp only [List.length_drop, List.length_take]; rfl)) ?_; (with_reducible refine (v22_Segments.calls kj24 _ _ l0 t298 _ ?side1 ?side2 A50.out).mono ?_); (case side1 => repeat (first | exact (Kd.C_below HR0.out HB.out) | (with_reducible refine Kd.C_alloc ?_ _) | (with_reducible refine Kd.C_drewN ?_ _) | (with_reducible refine Kd.C_drew ?_))); (case side2 => exact HC0.out); rintro e w64 ⟨v299, rfl, ho0, hb⟩; refine ⟨_, rfl, ?_⟩; have n0_ := Aside0.mk (Kd.R_below (by (with_reducible repeat (first | apply Kd.R_alloc | apply Kd.R_drewN | apply Kd.R_drew)); exact HO_8.out) hb); have n1_ := Aside0.mk (Kd.R_elder' (by (with_reducible repeat (first | apply Kd.R_alloc | apply Kd.R_drewN | apply Kd.R_drew)); exact HO297.out) (Kd.R_base ho0) hb); have n2_ := Aside0.mk (Kd.R_lower (Kd.R_new' ho0 (Kd.R_lt (by (with_reducible repeat (first | apply Kd.R_alloc | apply Kd.R_drewN | apply Kd.R_drew)); exact HO297.out))) (below_size (by repeat (first | (with_reducible first | exact HB.out | apply pA | apply pN | apply p1_ | refine bS ?_ GE266.out | refine bS ?_ GE282.out) | exact HB.out)))); have n3_ := Aside0.mk (bB (g := gb266) (o := .cells #[.bool a2_0, .int .i16 a2_1, .int .i16 a2_2, .int .i16 a2_3, .int .i32 a2_4, .int .u16 a2_5, .int .u16 a2_6, .bool a2_7] 27 (0, 0)) (by (with_reducible repeat (first | refine bN ?_ _ | refine bD ?_ | refine bA ?_ _)); exact BK266.out) hb); have n4_ := Aside0.mk (bB (g := gb282) (o := .cells #[.bool t275, .int .i64 t276, .int .i64 t277, .int .i64 t278, .int .i64 t279, .int .i64 t280, .int .i64 t281] 35 (0, 0)) (by (with_reducible repeat (first | refine bN ?_ _ | refine bD ?_ | refine bA ?_ _)); exact BK282.out) hb); have n5_ := Aside0.mk (below_step (by repeat (first | (with_reducible first | exact HB.out | apply pA | apply pN | apply p1_ | refine bS ?_ GE266.out | refine bS ?_ GE282.out) | exact HB.out)) hb); clear HO_8; clear HO297; clear BK266; clear BK282; clear HB; have HO_8 := n0_; have HO297 := n1_; have HO300 := n2_; have BK266 := n3_; have BK282 := n4_; have HB := n5_; clear n0_ n1_ n2_ n3_ n4_ n5_; (try clear hb); (try clear hb2); (try clear hk); (try clear hi); (try clear ho0); obtain ⟨Ao65, co65, eo65⟩ := Kd.R_slice HO297.out; subst eo65; obtain ⟨Ao66, co66, eo66⟩ := Kd.R_slice HO300.out; subst eo66) | ((with_reducible refine gate_callee (f := 13) rfl ?_); refine goesL_ (some 114) rfl rfl Tryd.func13 (by kernel_rfl) rfl #[.slice Ao65 t295.length co65, .slice Ao66 t298.length co66] rfl (by (try simp only [List.map_toArray, List.map_cons, List.map_nil]); first | done | rfl | (simp only [List.length_drop, List.length_take]; rfl)) ?_; (with_reducible refine (v22_SameInts.calls kj24 _ _ t295 _ _ t298 true _ ?side1 ?side2 ?side3 ?side4 A51.out).mono ?_); (case side1 => repeat (first | exact (Kd.R_reads' HO297.out).2.2 | (with_reducible refine Kd.C_alloc ?_ _) | (with_reducible refine Kd.C_drewN ?_ _) | (with_reducible refine Kd.C_drew ?_))); (case side2 => exact (Kd.R_reads' HO297.out).2.1); (case side3 => repeat (first | exact (Kd.R_reads' HO300.out).2.2 | (with_reducible refine Kd.C_alloc ?_ _) | (with_reducible refine Kd.C_drewN ?_ _) | (with_reducible refine Kd.C_drew ?_))); (case side4 => exact (Kd.R_reads' HO300.out).2.1); rintro e w' ⟨rfl, ⟨nd, rfl⟩⟩; refine ⟨_, rfl, ?_⟩; obtain ⟨Ao67, co67, eo67⟩ := Kd.R_slice HO_8.out; subst eo67) | (go_at_call 16; (with_reducible refine (coalesce_Moves.calls _ _ l1 _ _ x8_10 t302 _ ?side1 ?side2 ?side3 ?side4 A53.out).mono ?_); (case side1 => repeat (first | exact (Kd.C_below HR1.out (by repeat (first | (with_reducible first | exact HB.out | apply pA | apply pN | apply p1_ | refine bS ?_ GE266.out | refine bS ?_ GE282.out) | exact HB.out))) | (with_reducible refine Kd.C_alloc ?_ _) | (with_reducible refine Kd.C_drewN ?_ _) | (with_reducible refine Kd.C_drew ?_))); (case side2 => exact HC1.out); (case side3 => repeat (first | exact (Kd.R_reads' HO_8.out).2.2 | (with_reducible refine Kd.C_alloc ?_ _) | (with_reducible refine Kd.C_drewN ?_ _) | (with_reducible refine Kd.C_drew ?_))); (case side4 => exact (Kd.R_reads' HO_8.out).2.1); rintro e w68 ⟨rfl, hb⟩; have n0_ := Aside0.mk (Kd.R_below (by (with_reducible repeat (first | apply Kd.R_alloc | apply Kd.R_drewN | apply Kd.R_drew)); exact HO_8.out) hb); have n1_ := Aside0.mk (Kd.R_below (by (with_reducible repeat (first | apply Kd.R_alloc | apply Kd.R_drewN | apply Kd.R_drew)); exact HO297.out) hb); have n2_ := Aside0.mk (Kd.R_below (by (with_reducible repeat (first | apply Kd.R_alloc | apply Kd.R_drewN | apply Kd.R_drew)); exact HO300.out) hb); have n3_ := Aside0.mk (bB (g := gb266) (o := .cells #[.bool a2_0, .int .i16 a2_1, .int .i16 a2_2, .int .i16 a2_3, .int .i32 a2_4, .int .u16 a2_5, .int .u16 a2_6, .bool a2_7] 27 (0, 0)) (by (with_reducible repeat (first | refine bN ?_ _ | refine bD ?_ | refine bA ?_ _)); exact BK266.out) hb); have n4_ := Aside0.mk (bB (g := gb282) (o := .cells #[.bool t275, .int .i64 t276, .int .i64 t277, .int .i64 t278, .int .i64 t279, .int .i64 t280, .int .i64 t281] 35 (0, 0)) (by (with_reducible repeat (first | refine bN ?_ _ | refine bD ?_ | refine bA ?_ _)); exact BK282.out) hb); have n5_ := Aside0.mk (below_step (by repeat (first | (with_reducible first | exact HB.out | apply pA | apply pN | apply p1_ | refine bS ?_ GE266.out | refine bS ?_ GE282.out) | exact HB.out)) hb); clear HO_8; clear HO297; clear HO300; clear BK266; clear BK282; clear HB; have HO_8 := n0_; have HO297 := n1_; have HO300 := n2_; have BK266 := n3_; have BK282 := n4_; have HB := n5_; clear n0_ n1_ n2_ n3_ n4_ n5_; (try clear hb); (try clear hb2); (try clear hk); (try clear hi)) | (go_at_call 17; (with_reducible refine (v22_Moves.calls kj24 _ _ l1 _ _ x8_10 t303 _ ?side1 ?side2 ?side3 ?side4 A54.out).mono ?_); (case side1 => repeat (first | exact (Kd.C_below HR1.out HB.out) | (with_reducible refine Kd.C_alloc ?_ _) | (with_reducible refine Kd.C_drewN ?_ _) | (with_reducible refine Kd.C_drew ?_))); (case side2 => exact HC1.out); (case side3 => repeat (first | exact (Kd.R_reads' HO_8.out).2.2 | (with_reducible refine Kd.C_alloc ?_ _) | (with_reducible refine Kd.C_drewN ?_ _) | (with_reducible refine Kd.C_drew ?_))); (case side4 => exact (Kd.R_reads' HO_8.out).2.1); rintro e w69 ⟨rfl, hb⟩; have n0_ := Aside0.mk (Kd.R_below (by (with_reducible repeat (first | apply Kd.R_alloc | apply Kd.R_drewN | apply Kd.R_drew)); exact HO_8.out) hb); have n1_ := Aside0.mk (Kd.R_below (by (with_reducible repeat (first | apply Kd.R_alloc | apply Kd.R_drewN | apply Kd.R_drew)); exact HO297.out) hb); have n2_ := Aside0.mk (Kd.R_below (by (with_reducible repeat (first | apply Kd.R_alloc | apply Kd.R_drewN | apply Kd.R_drew)); exact HO300.out) hb); have n3_ := Aside0.mk (bB (g := gb266) (o := .cells #[.bool a2_0, .int .i16 a2_1, .int .i16 a2_2, .int .i16 a2_3, .int .i32 a2_4, .int .u16 a2_5, .int .u16 a2_6, .bool a2_7] 27 (0, 0)) (by (with_reducible repeat (first | refine bN ?_ _ | refine bD ?_ | refine bA ?_ _)); exact BK266.out) hb); have n4_ := Aside0.mk (bB (g := gb282) (o := .cells #[.bool t275, .int .i64 t276, .int .i64 t277, .int .i64 t278, .int .i64 t279, .int .i64 t280, .int .i64 t281] 35 (0, 0)) (by (with_reducible repeat (first | refine bN ?_ _ | refine bD ?_ | refine bA ?_ _)); exact BK282.out) hb); have n5_ := Aside0.mk (below_step (by repeat (first | (with_reducible first | exact HB.out | apply pA | apply pN | apply p1_ | refine bS ?_ GE266.out | refine bS ?_ GE282.out) | exact HB.out)) hb); clear HO_8; clear HO297; clear HO300; clear BK266; clear BK282; clear HB; have HO_8 := n0_; have HO297 := n1_; have HO300 := n2_; have BK266 := n3_; have BK282 := n4_; have HB := n5_; clear n0_ n1_ n2_ n3_ n4_ n5_; (try clear hb); (try clear hb2); (try clear hk); (try clear hi)))
                            go_ret
                            exact ⟨by first | rfl | (simp [errW_none, errW_some] <;> rfl) | (simp [*, errW_none, errW_some] <;> rfl), by repeat (first | (with_reducible first | exact HB.out | apply pA | apply pN | apply p1_ | refine bS ?_ GE266.out | refine bS ?_ GE282.out) | exact HB.out)⟩
                        · replace c52 := Bool.eq_false_iff.mpr c52
                          subst c52
                          have H1 : (some false) = some r := by rw [if_neg (show ¬ (false = true) by decide)] at H; exact H
                          clear H
                          have H := H1
                          clear H1
                          obtain rfl := Option.some.inj H
                          go_wp2_with (first | ((with_reducible refine gate_callee (f := 14) rfl ?_); refine goesL_ (some 111) rfl rfl Tryd.func14 (by kernel_rfl) rfl #[.slice A0 l0.length c0] rfl (by (try simp only [List.map_toArray, List.map_cons, List.map_nil]); first | done | rfl | (simp only [List.length_drop, List.length_take]; rfl)) ?_; (with_reducible refine (coalesce_Segments.calls _ _ l0 t295 _ ?side1 ?side2 A49.out).mono ?_); (case side1 => repeat (first | exact (Kd.C_below HR0.out HB.out) | (with_reducible refine Kd.C_alloc ?_ _) | (with_reducible refine Kd.C_drewN ?_ _) | (with_reducible refine Kd.C_drew ?_))); (case side2 => exact HC0.out); rintro e w70 ⟨v296, rfl, ho0, hb⟩; refine ⟨_, rfl, ?_⟩; have n0_ := Aside0.mk (Kd.R_below (by (with_reducible repeat (first | apply Kd.R_alloc | apply Kd.R_drewN | apply Kd.R_drew)); exact HO_8.out) hb); have n1_ := Aside0.mk (Kd.R_lower ho0 (below_size (by repeat (first | (with_reducible first | exact HB.out | apply pA | apply pN | apply p1_ | refine bS ?_ GE266.out | refine bS ?_ GE282.out) | exact HB.out)))); have n2_ := Aside0.mk (bB (g := gb266) (o := .cells #[.bool a2_0, .int .i16 a2_1, .int .i16 a2_2, .int .i16 a2_3, .int .i32 a2_4, .int .u16 a2_5, .int .u16 a2_6, .bool a2_7] 27 (0, 0)) (by (with_reducible repeat (first | refine bN ?_ _ | refine bD ?_ | refine bA ?_ _)); exact BK266.out) hb); have n3_ := Aside0.mk (bB (g := gb282) (o := .cells #[.bool t275, .int .i64 t276, .int .i64 t277, .int .i64 t278, .int .i64 t279, .int .i64 t280, .int .i64 t281] 35 (0, 0)) (by (with_reducible repeat (first | refine bN ?_ _ | refine bD ?_ | refine bA ?_ _)); exact BK282.out) hb); have n4_ := Aside0.mk (below_step (by repeat (first | (with_reducible first | exact HB.out | apply pA | apply pN | apply p1_ | refine bS ?_ GE266.out | refine bS ?_ GE282.out) | exact HB.out)) hb); clear HO_8; clear BK266; clear BK282; clear HB; have HO_8 := n0_; have HO297 := n1_; have BK266 := n2_; have BK282 := n3_; have HB := n4_; clear n0_ n1_ n2_ n3_ n4_; (try clear hb); (try clear hb2); (try clear hk); (try clear hi); (try clear ho0)) | ((with_reducible refine gate_callee (f := 15) rfl ?_); refine goesL_ (some 113) rfl rfl Tryd.func15 (by kernel_rfl) rfl #[.slice A0 l0.length c0] rfl (by (try simp only [List.map_toArray, List.map_cons, List.map_nil]); first | done | rfl | (simp only [List.length_drop, List.length_take]; rfl)) ?_; (with_reducible refine (v22_Segments.calls kj24 _ _ l0 t298 _ ?side1 ?side2 A50.out).mono ?_); (case side1 => repeat (first | exact (Kd.C_below HR0.out HB.out) | (with_reducible refine Kd.C_alloc ?_ _) | (with_reducible refine Kd.C_drewN ?_ _) | (with_reducible refine Kd.C_drew ?_))); (case side2 => exact HC0.out); rintro e w71 ⟨v299, rfl, ho0, hb⟩; refine ⟨_, rfl, ?_⟩; have n0_ := Aside0.mk (Kd.R_below (by (with_reducible repeat (first | apply Kd.R_alloc | apply Kd.R_drewN | apply Kd.R_drew)); exact HO_8.out) hb); have n1_ := Aside0.mk (Kd.R_elder' (by (with_reducible repeat (first | apply Kd.R_alloc | apply Kd.R_drewN | apply Kd.R_drew)); exact HO297.out) (Kd.R_base ho0) hb); have n2_ := Aside0.mk (Kd.R_lower (Kd.R_new' ho0 (Kd.R_lt (by (with_reducible repeat (first | apply Kd.R_alloc | apply Kd.R_drewN | apply Kd.R_drew)); exact HO297.out))) (below_size (by repeat (first | (with_reducible first | exact HB.out | apply pA | apply pN | apply p1_ | refine bS ?_ GE266.out | refine bS ?_ GE282.out) | exact HB.out)))); have n3_ := Aside0.mk (bB (g := gb266) (o := .cells #[.bool a2_0, .int .i16 a2_1, .int .i16 a2_2, .int .i16 a2_3, .int .i32 a2_4, .int .u16 a2_5, .int .u16 a2_6, .bool a2_7] 27 (0, 0)) (by (with_reducible repeat (first | refine bN ?_ _ | refine bD ?_ | refine bA ?_ _)); exact BK266.out) hb); have n4_ := Aside0.mk (bB (g := gb282) (o := .cells #[.bool t275, .int .i64 t276, .int .i64 t277, .int .i64 t278, .int .i64 t279, .int .i64 t280, .int .i64 t281] 35 (0, 0)) (by (with_reducible repeat (first | refine bN ?_ _ | refine bD ?_ | refine bA ?_ _)); exact BK282.out) hb); have n5_ := Aside0.mk (below_step (by repeat (first | (with_reducible first | exact HB.out | apply pA | apply pN | apply p1_ | refine bS ?_ GE266.out | refine bS ?_ GE282.out) | exact HB.out)) hb); clear HO_8; clear HO297; clear BK266; clear BK282; clear HB; have HO_8 := n0_; have HO297 := n1_; have HO300 := n2_; have BK266 := n3_; have BK282 := n4_; have HB := n5_; clear n0_ n1_ n2_ n3_ n4_ n5_; (try clear hb); (try clear hb2); (try clear hk); (try clear hi); (try clear ho0); obtain ⟨Ao72, co72, eo72⟩ := Kd.R_slice HO297.out; subst eo72; obtain ⟨Ao73, co73, eo73⟩ := Kd.R_slice HO300.out; subst eo73) | ((with_reducible refine gate_callee (f := 13) rfl ?_); refine goesL_ (some 114) rfl rfl Tryd.func13 (by kernel_rfl) rfl #[.slice Ao72 t295.length co72, .slice Ao73 t298.length co73] rfl (by (try simp only [List.map_toArray, List.map_cons, List.map_nil]); first | done | rfl | (simp only [List.length_drop, List.length_take]; rfl)) ?_; (with_reducible refine (v22_SameInts.calls kj24 _ _ t295 _ _ t298 false _ ?side1 ?side2 ?side3 ?side4 A51.out).mono ?_); (case side1 => repeat (first | exact (Kd.R_reads' HO297.out).2.2 | (with_reducible refine Kd.C_alloc ?_ _) | (with_reducible refine Kd.C_drewN ?_ _) | (with_reducible refine Kd.C_drew ?_))); (case side2 => exact (Kd.R_reads' HO297.out).2.1); (case side3 => repeat (first | exact (Kd.R_reads' HO300.out).2.2 | (with_reducible refine Kd.C_alloc ?_ _) | (with_reducible refine Kd.C_drewN ?_ _) | (with_reducible refine Kd.C_drew ?_))); (case side4 => exact (Kd.R_reads' HO300.out).2.1); rintro e w' ⟨rfl, ⟨nd, rfl⟩⟩; refine ⟨_, rfl, ?_⟩))
                          go_ret
                          exact ⟨by first | rfl | (simp [errW_none, errW_some] <;> rfl) | (simp [*, errW_none, errW_some] <;> rfl), by repeat (first | (with_reducible first | exact HB.out | apply pA | apply pN | apply p1_ | refine bS ?_ GE266.out | refine bS ?_ GE282.out) | exact HB.out)⟩
  · replace c5 := Bool.eq_false_iff.mpr c5
    subst c5
    have H1 : (some false) = some r := by rw [if_neg (show ¬ (false = true) by decide)] at H; exact H
    clear H
    have H := H1
    clear H1
    obtain rfl := Option.some.inj H
    go_enter Tryd.func3, Tryd.ntmps3
    go_wp2_with (first | ((with_reducible refine gate_dst (N := 5) rfl ?_); (try (refine gate_guard (by rfl) ?_; dsimp only)); refine box_event ?hg (N := 5) ?hd (cs := #[.bool a2_0, .int .i16 a2_1, .int .i16 a2_2, .int .i16 a2_3, .int .i32 a2_4, .int .u16 a2_5, .int .u16 a2_6, .bool a2_7]) (t := 27) ?hr ?_; (case hd => rfl); (case hg => rfl); (case hr => first | (go_simp; done) | (go_simp; rfl)); intro gb266 hg w74 hbox hb; have n0_ := Aside0.mk (below_step (by repeat (first | (with_reducible first | exact HB.out | apply pA | apply pN | apply p1_) | exact HB.out)) hb); have n1_ := Aside0.mk (hbox); have n2_ := Aside0.mk ((by rw [hg]; exact (below_size (by repeat (first | (with_reducible first | exact HB.out | apply pA | apply pN | apply p1_) | exact HB.out))) : w.heap.size ≤ gb266)); have n3_ := Aside0.mk ((by rw [hg]; exact (below_size (by repeat (first | (with_reducible first | exact HB.out | apply pA | apply pN | apply p1_) | exact HB.out))) : w.heap.size ≤ gb266)); clear HB; have HB := n0_; have BK266 := n1_; have GW266 := n2_; have GE266 := n3_; clear n0_ n1_ n2_ n3_; clear hb hbox hg) | ((with_reducible refine gate_callee (f := 9) rfl ?_); refine goesL_ (some 12) rfl rfl Tryd.func9 (by kernel_rfl) rfl #[] rfl (by (try simp only [List.map_toArray, List.map_cons, List.map_nil]); first | done | rfl | (simp only [List.length_drop, List.length_take]; rfl)) ?_; (with_reducible refine (w22_examples.calls k  false _ A4.out).mono ?_); rintro e w75 ⟨rfl, hb⟩; refine ⟨_, rfl, ?_⟩; have n0_ := Aside0.mk (bB (g := gb266) (o := .cells #[.bool a2_0, .int .i16 a2_1, .int .i16 a2_2, .int .i16 a2_3, .int .i32 a2_4, .int .u16 a2_5, .int .u16 a2_6, .bool a2_7] 27 (0, 0)) (by (with_reducible repeat (first | refine bN ?_ _ | refine bD ?_ | refine bA ?_ _)); exact BK266.out) hb); have n1_ := Aside0.mk (below_step (by repeat (first | (with_reducible first | exact HB.out | apply pA | apply pN | apply p1_ | refine bS ?_ GE266.out) | exact HB.out)) hb); clear BK266; clear HB; have BK266 := n0_; have HB := n1_; clear n0_ n1_; (try clear hb); (try clear hb2); (try clear hk); (try clear hi)))
    go_ret
    exact ⟨by first | rfl | (simp [errW_none, errW_some] <;> rfl) | (simp [*, errW_none, errW_some] <;> rfl), by repeat (first | (with_reducible first | exact HB.out | apply pA | apply pN | apply p1_ | refine bS ?_ GE266.out) | exact HB.out)⟩

end Go.Proofs.YtnjeliicnbfclaaDoor.P
