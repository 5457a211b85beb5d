-- Written by wip/myprint.py, a program of this session's own over the kit's print: functions and their contracts.
import Derived.Test.YtnjeliicnbfclaaDoorPx0
import Derived.Test.YtnjeliicnbfclaaDoorPx1e
import Derived.Test.YtnjeliicnbfclaaDoorG1
namespace Go.Proofs.YtnjeliicnbfclaaDoor.P
open Go.RowKit Go.Proofs.YtnjeliicnbfclaaDoorW.PrintWords Go.Proofs.YtnjeliicnbfclaaDoorW.PrintLast Go.Proofs.YtnjeliicnbfclaaDoorW.PrintMore
attribute [local go_sem] max2_int min2_int max_two min_two max_three min_three max_four min_four   -- for this text's walks alone
set_option linter.unusedVariables false
set_option linter.unusedSimpArgs false

/-! ### w22_CSegments: function 4 -/
mutual
def w22_CSegments.j1 : Nat → Int → Bool → List Int → List Int → List Int → Option (Bool)
  | 0, _, _, _, _, _ => none
  | k + 1, x1, x5, x6, x7, x8 => w22_CSegments.l1 k x1 x5 x6 x7 x8 0
def w22_CSegments.l1 : Nat → Int → Bool → List Int → List Int → List Int → Int → Option (Bool)
  | 0, _, _, _, _, _, _ => none
  | k + 1, x1, x5, x6, x7, x8, x11 => if x11 < (wrap64 (2 * (x6.length : Int))) then (if (x6.length : Int) = 0 then (none) else (if 0 ≤ (Int.tmod (wrap64 (x11 + (wrap64 (x1)))) (x6.length : Int)) then (if (Int.tmod (wrap64 (x11 + (wrap64 (x1)))) (x6.length : Int)) < (x6.length : Int) then (if x7.length < 17592186044416 then (w22_CSegments.l1 k x1 x5 x6 (x7 ++ [rd x6 (Int.tmod (wrap64 (x11 + (wrap64 (x1)))) (x6.length : Int))]) x8 (wrap64 (x11 + 1))) else (none)) else (none)) else (none))) else ((coalesce_Segments.f x6).bind fun t325 => ((coalesce_Segments.f x8).bind fun t328 => (if (t325.length : Int) = (t328.length : Int) then ((coalesce_Segments.f x7).bind fun t331 => ((v22_SameInts.f k t325 t331).bind fun t334 => (w22_CSegments.j3 k x5 x6 t325 t328 (!t334)))) else (w22_CSegments.j3 k x5 x6 t325 t328 true))))
def w22_CSegments.j3 : Nat → Bool → List Int → List Int → List Int → Bool → Option (Bool)
  | 0, _, _, _, _, _ => none
  | k + 1, x5, x6, x12, x13, x85 => if x85 = true then (some false) else (w22_CSegments.l2 k x5 x6 x12 x13 0)
def w22_CSegments.l2 : Nat → Bool → List Int → List Int → List Int → Int → Option (Bool)
  | 0, _, _, _, _, _ => none
  | k + 1, x5, x6, x12, x13, x14 => if x14 < (x12.length : Int) then (w22_CSegments.l3 k x5 x6 x12 x13 x14 false 0) else (w22_CSegments.l4 k x5 x6 x12 0)
def w22_CSegments.l3 : Nat → Bool → List Int → List Int → List Int → Int → Bool → Int → Option (Bool)
  | 0, _, _, _, _, _, _, _ => none
  | k + 1, x5, x6, x12, x13, x14, x15, x16 => if x16 < (x6.length : Int) then (if x15 = true then (w22_CSegments.l3 k x5 x6 x12 x13 x14 true (wrap64 (x16 + 1))) else (if 0 ≤ x16 then (if 0 ≤ x14 then (if x14 < (x12.length : Int) then (if (rd x6 x16) ≥ (wrap64 (16 * (rd x12 x14))) then (w22_CSegments.l3 k x5 x6 x12 x13 x14 (decide ((rd x6 x16) < (wrap64 ((wrap64 (16 * (rd x12 x14))) + 16)))) (wrap64 (x16 + 1))) else (w22_CSegments.l3 k x5 x6 x12 x13 x14 false (wrap64 (x16 + 1)))) else (none)) else (none)) else (none))) else (if x15 = true then (if 0 ≤ x14 then (if x14 < (x13.length : Int) then (if x14 < (x12.length : Int) then (if (rd x13 x14) = (wrap64 ((rd x12 x14) + 1)) then (if x14 > 0 then (if 0 ≤ (wrap64 (x14 - 1)) then (if (wrap64 (x14 - 1)) < (x12.length : Int) then (if (rd x12 (wrap64 (x14 - 1))) ≥ (rd x12 x14) then (some false) else (w22_CSegments.l2 k x5 x6 x12 x13 (wrap64 (x14 + 1)))) else (none)) else (none)) else (w22_CSegments.l2 k x5 x6 x12 x13 (wrap64 (x14 + 1)))) else (some false)) else (none)) else (none)) else (none)) else (some false))
def w22_CSegments.l4 : Nat → Bool → List Int → List Int → Int → Option (Bool)
  | 0, _, _, _, _ => none
  | k + 1, x5, x6, x12, x17 => if x17 < (x6.length : Int) then (w22_CSegments.l5 k x5 x6 x12 x17 false 0) else (some x5)
def w22_CSegments.l5 : Nat → Bool → List Int → List Int → Int → Bool → Int → Option (Bool)
  | 0, _, _, _, _, _, _ => none
  | k + 1, x5, x6, x12, x17, x18, x19 => if x19 < (x12.length : Int) then (if x18 = true then (w22_CSegments.l5 k x5 x6 x12 x17 true (wrap64 (x19 + 1))) else (if 0 ≤ x17 then (if x17 < (x6.length : Int) then (if 0 ≤ x19 then (if (rd x6 x17) ≥ (wrap64 (16 * (rd x12 x19))) then (w22_CSegments.l5 k x5 x6 x12 x17 (decide ((rd x6 x17) < (wrap64 ((wrap64 (16 * (rd x12 x19))) + 16)))) (wrap64 (x19 + 1))) else (w22_CSegments.l5 k x5 x6 x12 x17 false (wrap64 (x19 + 1)))) else (none)) else (none)) else (none))) else (if x18 = true then (w22_CSegments.l4 k x5 x6 x12 (wrap64 (x17 + 1))) else (some false))
def w22_CSegments.l0 : Nat → List Int → Int → Bool → List Int → List Int → List Int → Int → Option (Bool)
  | 0, _, _, _, _, _, _, _ => none
  | k + 1, x0, x1, x5, x6, x7, x8, x9 => if x9 < (x0.length : Int) then (if x9 < 60 then (if 0 ≤ x9 then (if x6.length < 17592186044416 then (if x8.length < 17592186044416 then (w22_CSegments.l0 k x0 x1 x5 (x6 ++ [Int.tmod (rd x0 x9) 1099511627776]) x7 (x8 ++ [wrap64 ((Int.tmod (rd x0 x9) 1099511627776) + 16)]) (wrap64 (x9 + 1))) else (none)) else (none)) else (none)) else (w22_CSegments.j1 k x1 x5 x6 x7 x8)) else (w22_CSegments.j1 k x1 x5 x6 x7 x8)
end
def w22_CSegments.f (k : Nat) (l0 : List Int) (a1 : Int) : Option (Bool) := (w22_examples.f k).bind fun t304 => (if t304 = true then (w22_CSegments.l0 k l0 a1 t304 (([] : List Int)) (([] : List Int)) (([] : List Int)) 0) else (some false))
theorem w22_CSegments.mono_l : ∀ k, (∀ y0 y1 y2 y3 y4, LeO (w22_CSegments.j1 k y0 y1 y2 y3 y4) (w22_CSegments.j1 (k + 1) y0 y1 y2 y3 y4)) ∧ (∀ y0 y1 y2 y3 y4 y5, LeO (w22_CSegments.l1 k y0 y1 y2 y3 y4 y5) (w22_CSegments.l1 (k + 1) y0 y1 y2 y3 y4 y5)) ∧ (∀ y0 y1 y2 y3 y4, LeO (w22_CSegments.j3 k y0 y1 y2 y3 y4) (w22_CSegments.j3 (k + 1) y0 y1 y2 y3 y4)) ∧ (∀ y0 y1 y2 y3 y4, LeO (w22_CSegments.l2 k y0 y1 y2 y3 y4) (w22_CSegments.l2 (k + 1) y0 y1 y2 y3 y4)) ∧ (∀ y0 y1 y2 y3 y4 y5 y6, LeO (w22_CSegments.l3 k y0 y1 y2 y3 y4 y5 y6) (w22_CSegments.l3 (k + 1) y0 y1 y2 y3 y4 y5 y6)) ∧ (∀ y0 y1 y2 y3, LeO (w22_CSegments.l4 k y0 y1 y2 y3) (w22_CSegments.l4 (k + 1) y0 y1 y2 y3)) ∧ (∀ y0 y1 y2 y3 y4 y5, LeO (w22_CSegments.l5 k y0 y1 y2 y3 y4 y5) (w22_CSegments.l5 (k + 1) y0 y1 y2 y3 y4 y5)) ∧ (∀ y0 y1 y2 y3 y4 y5 y6, LeO (w22_CSegments.l0 k y0 y1 y2 y3 y4 y5 y6) (w22_CSegments.l0 (k + 1) y0 y1 y2 y3 y4 y5 y6))
  | 0 => ⟨fun _ _ _ _ _ r h => by simp [w22_CSegments.j1] at h, fun _ _ _ _ _ _ r h => by simp [w22_CSegments.l1] at h, fun _ _ _ _ _ r h => by simp [w22_CSegments.j3] at h, fun _ _ _ _ _ r h => by simp [w22_CSegments.l2] at h, fun _ _ _ _ _ _ _ r h => by simp [w22_CSegments.l3] at h, fun _ _ _ _ r h => by simp [w22_CSegments.l4] at h, fun _ _ _ _ _ _ r h => by simp [w22_CSegments.l5] at h, fun _ _ _ _ _ _ _ r h => by simp [w22_CSegments.l0] at h⟩
  | k + 1 => by
    obtain ⟨ih0, ih1, ih2, ih3, ih4, ih5, ih6, ih7⟩ := w22_CSegments.mono_l k
    refine ⟨?_, ?_, ?_, ?_, ?_, ?_, ?_, ?_⟩
    · intro y0 y1 y2 y3 y4
      unfold w22_CSegments.j1
      repeat' first
      | (with_reducible exact ih0 _ _ _ _ _)
      | (with_reducible exact ih1 _ _ _ _ _ _)
      | (with_reducible exact ih2 _ _ _ _ _)
      | (with_reducible exact ih3 _ _ _ _ _)
      | (with_reducible exact ih4 _ _ _ _ _ _ _)
      | (with_reducible exact ih5 _ _ _ _)
      | (with_reducible exact ih6 _ _ _ _ _ _)
      | (with_reducible exact ih7 _ _ _ _ _ _ _)
      | (with_reducible exact v22_SameInts.mono _ _ _)
      | (with_reducible exact w22_examples.mono _)
      | (with_reducible exact LeO.refl _)
      | (with_reducible exact LeO.none _)
      | (with_reducible refine LeO.ite ?_ ?_)
      | (with_reducible refine LeO.bind ?_ (fun _ => ?_))
      | exact ih0 _ _ _ _ _
      | exact ih1 _ _ _ _ _ _
      | exact ih2 _ _ _ _ _
      | exact ih3 _ _ _ _ _
      | exact ih4 _ _ _ _ _ _ _
      | exact ih5 _ _ _ _
      | exact ih6 _ _ _ _ _ _
      | exact ih7 _ _ _ _ _ _ _
      | exact v22_SameInts.mono _ _ _
      | exact w22_examples.mono _
      | exact LeO.none _
      | refine LeO.ite ?_ ?_
      | refine LeO.bind ?_ (fun _ => ?_)
    · intro y0 y1 y2 y3 y4 y5
      unfold w22_CSegments.l1
      repeat' first
      | (with_reducible exact ih0 _ _ _ _ _)
      | (with_reducible exact ih1 _ _ _ _ _ _)
      | (with_reducible exact ih2 _ _ _ _ _)
      | (with_reducible exact ih3 _ _ _ _ _)
      | (with_reducible exact ih4 _ _ _ _ _ _ _)
      | (with_reducible exact ih5 _ _ _ _)
      | (with_reducible exact ih6 _ _ _ _ _ _)
      | (with_reducible exact ih7 _ _ _ _ _ _ _)
      | (with_reducible exact v22_SameInts.mono _ _ _)
      | (with_reducible exact w22_examples.mono _)
      | (with_reducible exact LeO.refl _)
      | (with_reducible exact LeO.none _)
      | (with_reducible refine LeO.ite ?_ ?_)
      | (with_reducible refine LeO.bind ?_ (fun _ => ?_))
      | exact ih0 _ _ _ _ _
      | exact ih1 _ _ _ _ _ _
      | exact ih2 _ _ _ _ _
      | exact ih3 _ _ _ _ _
      | exact ih4 _ _ _ _ _ _ _
      | exact ih5 _ _ _ _
      | exact ih6 _ _ _ _ _ _
      | exact ih7 _ _ _ _ _ _ _
      | exact v22_SameInts.mono _ _ _
      | exact w22_examples.mono _
      | exact LeO.none _
      | refine LeO.ite ?_ ?_
      | refine LeO.bind ?_ (fun _ => ?_)
    · intro y0 y1 y2 y3 y4
      unfold w22_CSegments.j3
      repeat' first
      | (with_reducible exact ih0 _ _ _ _ _)
      | (with_reducible exact ih1 _ _ _ _ _ _)
      | (with_reducible exact ih2 _ _ _ _ _)
      | (with_reducible exact ih3 _ _ _ _ _)
      | (with_reducible exact ih4 _ _ _ _ _ _ _)
      | (with_reducible exact ih5 _ _ _ _)
      | (with_reducible exact ih6 _ _ _ _ _ _)
      | (with_reducible exact ih7 _ _ _ _ _ _ _)
      | (with_reducible exact v22_SameInts.mono _ _ _)
      | (with_reducible exact w22_examples.mono _)
      | (with_reducible exact LeO.refl _)
      | (with_reducible exact LeO.none _)
      | (with_reducible refine LeO.ite ?_ ?_)
      | (with_reducible refine LeO.bind ?_ (fun _ => ?_))
      | exact ih0 _ _ _ _ _
      | exact ih1 _ _ _ _ _ _
      | exact ih2 _ _ _ _ _
      | exact ih3 _ _ _ _ _
      | exact ih4 _ _ _ _ _ _ _
      | exact ih5 _ _ _ _
      | exact ih6 _ _ _ _ _ _
      | exact ih7 _ _ _ _ _ _ _
      | exact v22_SameInts.mono _ _ _
      | exact w22_examples.mono _
      | exact LeO.none _
      | refine LeO.ite ?_ ?_
      | refine LeO.bind ?_ (fun _ => ?_)
    · intro y0 y1 y2 y3 y4
      unfold w22_CSegments.l2
      repeat' first
      | (with_reducible exact ih0 _ _ _ _ _)
      | (with_reducible exact ih1 _ _ _ _ _ _)
      | (with_reducible exact ih2 _ _ _ _ _)
      | (with_reducible exact ih3 _ _ _ _ _)
      | (with_reducible exact ih4 _ _ _ _ _ _ _)
      | (with_reducible exact ih5 _ _ _ _)
      | (with_reducible exact ih6 _ _ _ _ _ _)
      | (with_reducible exact ih7 _ _ _ _ _ _ _)
      | (with_reducible exact v22_SameInts.mono _ _ _)
      | (with_reducible exact w22_examples.mono _)
      | (with_reducible exact LeO.refl _)
      | (with_reducible exact LeO.none _)
      | (with_reducible refine LeO.ite ?_ ?_)
      | (with_reducible refine LeO.bind ?_ (fun _ => ?_))
      | exact ih0 _ _ _ _ _
      | exact ih1 _ _ _ _ _ _
      | exact ih2 _ _ _ _ _
      | exact ih3 _ _ _ _ _
      | exact ih4 _ _ _ _ _ _ _
      | exact ih5 _ _ _ _
      | exact ih6 _ _ _ _ _ _
      | exact ih7 _ _ _ _ _ _ _
      | exact v22_SameInts.mono _ _ _
      | exact w22_examples.mono _
      | exact LeO.none _
      | refine LeO.ite ?_ ?_
      | refine LeO.bind ?_ (fun _ => ?_)
    · intro y0 y1 y2 y3 y4 y5 y6
      unfold w22_CSegments.l3
      repeat' first
      | (with_reducible exact ih0 _ _ _ _ _)
      | (with_reducible exact ih1 _ _ _ _ _ _)
      | (with_reducible exact ih2 _ _ _ _ _)
      | (with_reducible exact ih3 _ _ _ _ _)
      | (with_reducible exact ih4 _ _ _ _ _ _ _)
      | (with_reducible exact ih5 _ _ _ _)
      | (with_reducible exact ih6 _ _ _ _ _ _)
      | (with_reducible exact ih7 _ _ _ _ _ _ _)
      | (with_reducible exact v22_SameInts.mono _ _ _)
      | (with_reducible exact w22_examples.mono _)
      | (with_reducible exact LeO.refl _)
      | (with_reducible exact LeO.none _)
      | (with_reducible refine LeO.ite ?_ ?_)
      | (with_reducible refine LeO.bind ?_ (fun _ => ?_))
      | exact ih0 _ _ _ _ _
      | exact ih1 _ _ _ _ _ _
      | exact ih2 _ _ _ _ _
      | exact ih3 _ _ _ _ _
      | exact ih4 _ _ _ _ _ _ _
      | exact ih5 _ _ _ _
      | exact ih6 _ _ _ _ _ _
      | exact ih7 _ _ _ _ _ _ _
      | exact v22_SameInts.mono _ _ _
      | exact w22_examples.mono _
      | exact LeO.none _
      | refine LeO.ite ?_ ?_
      | refine LeO.bind ?_ (fun _ => ?_)
    · intro y0 y1 y2 y3
      unfold w22_CSegments.l4
      repeat' first
      | (with_reducible exact ih0 _ _ _ _ _)
      | (with_reducible exact ih1 _ _ _ _ _ _)
      | (with_reducible exact ih2 _ _ _ _ _)
      | (with_reducible exact ih3 _ _ _ _ _)
      | (with_reducible exact ih4 _ _ _ _ _ _ _)
      | (with_reducible exact ih5 _ _ _ _)
      | (with_reducible exact ih6 _ _ _ _ _ _)
      | (with_reducible exact ih7 _ _ _ _ _ _ _)
      | (with_reducible exact v22_SameInts.mono _ _ _)
      | (with_reducible exact w22_examples.mono _)
      | (with_reducible exact LeO.refl _)
      | (with_reducible exact LeO.none _)
      | (with_reducible refine LeO.ite ?_ ?_)
      | (with_reducible refine LeO.bind ?_ (fun _ => ?_))
      | exact ih0 _ _ _ _ _
      | exact ih1 _ _ _ _ _ _
      | exact ih2 _ _ _ _ _
      | exact ih3 _ _ _ _ _
      | exact ih4 _ _ _ _ _ _ _
      | exact ih5 _ _ _ _
      | exact ih6 _ _ _ _ _ _
      | exact ih7 _ _ _ _ _ _ _
      | exact v22_SameInts.mono _ _ _
      | exact w22_examples.mono _
      | exact LeO.none _
      | refine LeO.ite ?_ ?_
      | refine LeO.bind ?_ (fun _ => ?_)
    · intro y0 y1 y2 y3 y4 y5
      unfold w22_CSegments.l5
      repeat' first
      | (with_reducible exact ih0 _ _ _ _ _)
      | (with_reducible exact ih1 _ _ _ _ _ _)
      | (with_reducible exact ih2 _ _ _ _ _)
      | (with_reducible exact ih3 _ _ _ _ _)
      | (with_reducible exact ih4 _ _ _ _ _ _ _)
      | (with_reducible exact ih5 _ _ _ _)
      | (with_reducible exact ih6 _ _ _ _ _ _)
      | (with_reducible exact ih7 _ _ _ _ _ _ _)
      | (with_reducible exact v22_SameInts.mono _ _ _)
      | (with_reducible exact w22_examples.mono _)
      | (with_reducible exact LeO.refl _)
      | (with_reducible exact LeO.none _)
      | (with_reducible refine LeO.ite ?_ ?_)
      | (with_reducible refine LeO.bind ?_ (fun _ => ?_))
      | exact ih0 _ _ _ _ _
      | exact ih1 _ _ _ _ _ _
      | exact ih2 _ _ _ _ _
      | exact ih3 _ _ _ _ _
      | exact ih4 _ _ _ _ _ _ _
      | exact ih5 _ _ _ _
      | exact ih6 _ _ _ _ _ _
      | exact ih7 _ _ _ _ _ _ _
      | exact v22_SameInts.mono _ _ _
      | exact w22_examples.mono _
      | exact LeO.none _
      | refine LeO.ite ?_ ?_
      | refine LeO.bind ?_ (fun _ => ?_)
    · intro y0 y1 y2 y3 y4 y5 y6
      unfold w22_CSegments.l0
      repeat' first
      | (with_reducible exact ih0 _ _ _ _ _)
      | (with_reducible exact ih1 _ _ _ _ _ _)
      | (with_reducible exact ih2 _ _ _ _ _)
      | (with_reducible exact ih3 _ _ _ _ _)
      | (with_reducible exact ih4 _ _ _ _ _ _ _)
      | (with_reducible exact ih5 _ _ _ _)
      | (with_reducible exact ih6 _ _ _ _ _ _)
      | (with_reducible exact ih7 _ _ _ _ _ _ _)
      | (with_reducible exact v22_SameInts.mono _ _ _)
      | (with_reducible exact w22_examples.mono _)
      | (with_reducible exact LeO.refl _)
      | (with_reducible exact LeO.none _)
      | (with_reducible refine LeO.ite ?_ ?_)
      | (with_reducible refine LeO.bind ?_ (fun _ => ?_))
      | exact ih0 _ _ _ _ _
      | exact ih1 _ _ _ _ _ _
      | exact ih2 _ _ _ _ _
      | exact ih3 _ _ _ _ _
      | exact ih4 _ _ _ _ _ _ _
      | exact ih5 _ _ _ _
      | exact ih6 _ _ _ _ _ _
      | exact ih7 _ _ _ _ _ _ _
      | exact v22_SameInts.mono _ _ _
      | exact w22_examples.mono _
      | exact LeO.none _
      | refine LeO.ite ?_ ?_
      | refine LeO.bind ?_ (fun _ => ?_)
theorem w22_CSegments.mono : ∀ a0 a1 k, LeO (w22_CSegments.f k a0 a1) (w22_CSegments.f (k + 1) a0 a1) := by
  intro a0 a1 k
  obtain ⟨ih0, ih1, ih2, ih3, ih4, ih5, ih6, ih7⟩ := w22_CSegments.mono_l k
  unfold w22_CSegments.f
  repeat' first
      | (with_reducible exact ih0 _ _ _ _ _)
      | (with_reducible exact ih1 _ _ _ _ _ _)
      | (with_reducible exact ih2 _ _ _ _ _)
      | (with_reducible exact ih3 _ _ _ _ _)
      | (with_reducible exact ih4 _ _ _ _ _ _ _)
      | (with_reducible exact ih5 _ _ _ _)
      | (with_reducible exact ih6 _ _ _ _ _ _)
      | (with_reducible exact ih7 _ _ _ _ _ _ _)
      | (with_reducible exact v22_SameInts.mono _ _ _)
      | (with_reducible exact w22_examples.mono _)
      | (with_reducible exact LeO.refl _)
      | (with_reducible exact LeO.none _)
      | (with_reducible refine LeO.ite ?_ ?_)
      | (with_reducible refine LeO.bind ?_ (fun _ => ?_))
      | exact ih0 _ _ _ _ _
      | exact ih1 _ _ _ _ _ _
      | exact ih2 _ _ _ _ _
      | exact ih3 _ _ _ _ _
      | exact ih4 _ _ _ _ _ _ _
      | exact ih5 _ _ _ _
      | exact ih6 _ _ _ _ _ _
      | exact ih7 _ _ _ _ _ _ _
      | exact v22_SameInts.mono _ _ _
      | exact w22_examples.mono _
      | exact LeO.none _
      | refine LeO.ite ?_ ?_
      | refine LeO.bind ?_ (fun _ => ?_)
set_option maxHeartbeats 8000000 in
set_option maxRecDepth 100000 in
theorem w22_CSegments.calls (k : Nat) (A0 : Option Addr) (c0 : Nat) (l0 : List Int) (a1 : Int) (r : Bool) (w : World) (hr0 : Kd.C (Kd.int .i64) w A0 l0.length l0) (hc0 : l0.length ≤ c0) (h : w22_CSegments.f k l0 a1 = some r) (HT : Tab w := by exact Tab.below HT (by repeat (first | (with_reducible first | exact HB.out | apply pA | apply pN | apply p1_) | exact HB.out))) :
    Calls Tryd.prog 4 #[.slice A0 l0.length c0, .int .u8 a1] w fun e w' => e = .returned (.bool r) ∧ Below w.heap.size w w' := by
  have HR0 := Aside0.mk hr0
  have HC0 := Aside0.mk hc0
  clear hr0 hc0
  have HB := Aside0.mk (Below.refl w.heap.size w)
  have H : ((w22_examples.f k).bind fun t304 => (if t304 = true then (w22_CSegments.l0 k l0 a1 t304 (([] : List Int)) (([] : List Int)) (([] : List Int)) 0) else (some false))) = some r := h
  clear h
  replace H := Option.bind_eq_some_iff.mp H
  obtain ⟨t304, A30, H⟩ := H
  replace H : (if t304 = true then (w22_CSegments.l0 k l0 a1 t304 (([] : List Int)) (([] : List Int)) (([] : List Int)) 0) else (some false)) = some r := H
  have A3 := Aside0.mk A30
  clear A30
  by_cases c4 : t304 = true
  · subst c4
    have H1 : (w22_CSegments.l0 k l0 a1 true (([] : List Int)) (([] : List Int)) (([] : List Int)) 0) = some r := by rw [if_pos rfl] at H; exact H
    clear H
    have H := H1
    clear H1
    obtain ⟨y305, hy305⟩ : ∃ y_ : List Int, y_ = (([] : List Int)) := ⟨_, rfl⟩
    replace H : (w22_CSegments.l0 k l0 a1 true y305 (([] : List Int)) (([] : List Int)) 0) = some r := by first | (rw [hy305]; with_reducible exact H) | (have H2_ := (Option.bind_some _ _).symm.trans H; rw [hy305]; with_reducible exact H2_) | (have H2_ := (Option.bind_some _ _).symm.trans H; with_reducible exact H2_) | with_reducible exact H | (rw [hy305]; exact H) | exact H
    have Ny305 := Aside0.mk hy305
    clear hy305
    obtain ⟨y308, hy308⟩ : ∃ y_ : List Int, y_ = (([] : List Int)) := ⟨_, rfl⟩
    replace H : (w22_CSegments.l0 k l0 a1 true y305 y308 (([] : List Int)) 0) = some r := by first | (rw [hy308]; with_reducible exact H) | (have H2_ := (Option.bind_some _ _).symm.trans H; rw [hy308]; with_reducible exact H2_) | (have H2_ := (Option.bind_some _ _).symm.trans H; with_reducible exact H2_) | with_reducible exact H | (rw [hy308]; exact H) | exact H
    have Ny308 := Aside0.mk hy308
    clear hy308
    obtain ⟨y311, hy311⟩ : ∃ y_ : List Int, y_ = (([] : List Int)) := ⟨_, rfl⟩
    replace H : (w22_CSegments.l0 k l0 a1 true y305 y308 y311 0) = some r := by first | (rw [hy311]; with_reducible exact H) | (have H2_ := (Option.bind_some _ _).symm.trans H; rw [hy311]; with_reducible exact H2_) | (have H2_ := (Option.bind_some _ _).symm.trans H; with_reducible exact H2_) | with_reducible exact H | (rw [hy311]; exact H) | exact H
    have Ny311 := Aside0.mk hy311
    clear hy311
    have HC5 := Aside0.mk H
    clear H
    go_enter Tryd.func4, Tryd.ntmps4
    go_upto_block 0 with (first | (go_at_call 9; (with_reducible refine (w22_examples.calls k  true _ A3.out).mono ?_); rintro e w6 ⟨rfl, hb⟩; have n0_ := Aside0.mk (below_step (by repeat (first | (with_reducible first | exact HB.out | apply pA | apply pN | apply p1_) | exact HB.out)) hb); clear HB; have HB := n0_; clear n0_; (try clear hb); (try clear hb2); (try clear hk); (try clear hi)) | ((with_reducible refine gate_dst (N := 23) rfl ?_); refine Kd.R_lit (Kd.int .i64) _ 3 ?hg (N := 23) ?hd (xs := ([] : List Int)) (inner := []) (ok := fun _ => True) (okp := fun _ => True) ?hr ?hp (fun _ hk => hk) trivial (Below.refl _ _) (Nat.le_refl _) (by simp) ?_; (case hd => rfl); (case hg => rfl); (case hr => first | (go_simp; done) | (go_simp; rfl)); (case hp => exact (Reps.none _ _)); intro v306 w7 ho8 hb hg_ hnew_; clear hg_ hnew_; (first | rw [← Ny305.out] at ho8 | (simp only [Int.reduceToNat] at ho8; rw [← Ny305.out] at ho8)); have n0_ := Aside0.mk (Kd.R_lower ho8 (below_size (by repeat (first | (with_reducible first | exact HB.out | apply pA | apply pN | apply p1_) | exact HB.out)))); have n1_ := Aside0.mk (below_step (by repeat (first | (with_reducible first | exact HB.out | apply pA | apply pN | apply p1_) | exact HB.out)) hb); clear HB; have HO307 := n0_; have HB := n1_; clear n0_ n1_; clear hb ho8) | ((with_reducible refine gate_dst (N := 24) rfl ?_); refine Kd.R_lit (Kd.int .i64) _ 3 ?hg (N := 24) ?hd (xs := ([] : List Int)) (inner := []) (ok := fun _ => True) (okp := fun _ => True) ?hr ?hp (fun _ hk => hk) trivial (Below.refl _ _) (Nat.le_refl _) (by simp) ?_; (case hd => rfl); (case hg => rfl); (case hr => first | (go_simp; done) | (go_simp; rfl)); (case hp => exact (Reps.none _ _)); intro v309 w9 ho10 hb hg_ hnew_; clear hg_ hnew_; (first | rw [← Ny308.out] at ho10 | (simp only [Int.reduceToNat] at ho10; rw [← Ny308.out] at ho10)); have n0_ := Aside0.mk (Kd.R_elder' (by (with_reducible repeat (first | apply Kd.R_alloc | apply Kd.R_drewN | apply Kd.R_drew)); exact HO307.out) (Kd.R_base ho10) hb); have n1_ := Aside0.mk (Kd.R_lower (Kd.R_new' ho10 (Kd.R_lt (by (with_reducible repeat (first | apply Kd.R_alloc | apply Kd.R_drewN | apply Kd.R_drew)); exact HO307.out))) (below_size (by repeat (first | (with_reducible first | exact HB.out | apply pA | apply pN | apply p1_) | exact HB.out)))); have n2_ := Aside0.mk (below_step (by repeat (first | (with_reducible first | exact HB.out | apply pA | apply pN | apply p1_) | exact HB.out)) hb); clear HO307; clear HB; have HO307 := n0_; have HO310 := n1_; have HB := n2_; clear n0_ n1_ n2_; clear hb ho10) | ((with_reducible refine gate_dst (N := 25) rfl ?_); refine Kd.R_lit (Kd.int .i64) _ 3 ?hg (N := 25) ?hd (xs := ([] : List Int)) (inner := []) (ok := fun _ => True) (okp := fun _ => True) ?hr ?hp (fun _ hk => hk) trivial (Below.refl _ _) (Nat.le_refl _) (by simp) ?_; (case hd => rfl); (case hg => rfl); (case hr => first | (go_simp; done) | (go_simp; rfl)); (case hp => exact (Reps.none _ _)); intro v312 w11 ho12 hb hg_ hnew_; clear hg_ hnew_; (first | rw [← Ny311.out] at ho12 | (simp only [Int.reduceToNat] at ho12; rw [← Ny311.out] at ho12)); have n0_ := Aside0.mk (Kd.R_elder' (by (with_reducible repeat (first | apply Kd.R_alloc | apply Kd.R_drewN | apply Kd.R_drew)); exact HO307.out) (Kd.R_base ho12) hb); have n1_ := Aside0.mk (Kd.R_elder' (by (with_reducible repeat (first | apply Kd.R_alloc | apply Kd.R_drewN | apply Kd.R_drew)); exact HO310.out) (Kd.R_base ho12) hb); have n2_ := Aside0.mk (Kd.R_lower (Kd.R_new' (Kd.R_new' ho12 (Kd.R_lt (by (with_reducible repeat (first | apply Kd.R_alloc | apply Kd.R_drewN | apply Kd.R_drew)); exact HO307.out))) (Kd.R_lt (by (with_reducible repeat (first | apply Kd.R_alloc | apply Kd.R_drewN | apply Kd.R_drew)); exact HO310.out))) (below_size (by repeat (first | (with_reducible first | exact HB.out | apply pA | apply pN | apply p1_) | exact HB.out)))); have n3_ := Aside0.mk (below_step (by repeat (first | (with_reducible first | exact HB.out | apply pA | apply pN | apply p1_) | exact HB.out)) hb); clear HO307; clear HO310; clear HB; have HO307 := n0_; have HO310 := n1_; have HO313 := n2_; have HB := n3_; clear n0_ n1_ n2_ n3_; clear hb ho12))
    repeat (go_quiet (first | (go_at_call 9; (with_reducible refine (w22_examples.calls k  true _ A3.out).mono ?_); rintro e w6 ⟨rfl, hb⟩; have n0_ := Aside0.mk (below_step (by repeat (first | (with_reducible first | exact HB.out | apply pA | apply pN | apply p1_) | exact HB.out)) hb); clear HB; have HB := n0_; clear n0_; (try clear hb); (try clear hb2); (try clear hk); (try clear hi)) | ((with_reducible refine gate_dst (N := 23) rfl ?_); refine Kd.R_lit (Kd.int .i64) _ 3 ?hg (N := 23) ?hd (xs := ([] : List Int)) (inner := []) (ok := fun _ => True) (okp := fun _ => True) ?hr ?hp (fun _ hk => hk) trivial (Below.refl _ _) (Nat.le_refl _) (by simp) ?_; (case hd => rfl); (case hg => rfl); (case hr => first | (go_simp; done) | (go_simp; rfl)); (case hp => exact (Reps.none _ _)); intro v306 w7 ho8 hb hg_ hnew_; clear hg_ hnew_; (first | rw [← Ny305.out] at ho8 | (simp only [Int.reduceToNat] at ho8; rw [← Ny305.out] at ho8)); have n0_ := Aside0.mk (Kd.R_lower ho8 (below_size (by repeat (first | (with_reducible first | exact HB.out | apply pA | apply pN | apply p1_) | exact HB.out)))); have n1_ := Aside0.mk (below_step (by repeat (first | (with_reducible first | exact HB.out | apply pA | apply pN | apply p1_) | exact HB.out)) hb); clear HB; have HO307 := n0_; have HB := n1_; clear n0_ n1_; clear hb ho8) | ((with_reducible refine gate_dst (N := 24) rfl ?_); refine Kd.R_lit (Kd.int .i64) _ 3 ?hg (N := 24) ?hd (xs := ([] : List Int)) (inner := []) (ok := fun _ => True) (okp := fun _ => True) ?hr ?hp (fun _ hk => hk) trivial (Below.refl _ _) (Nat.le_refl _) (by simp) ?_; (case hd => rfl); (case hg => rfl); (case hr => first | (go_simp; done) | (go_simp; rfl)); (case hp => exact (Reps.none _ _)); intro v309 w9 ho10 hb hg_ hnew_; clear hg_ hnew_; (first | rw [← Ny308.out] at ho10 | (simp only [Int.reduceToNat] at ho10; rw [← Ny308.out] at ho10)); have n0_ := Aside0.mk (Kd.R_elder' (by (with_reducible repeat (first | apply Kd.R_alloc | apply Kd.R_drewN | apply Kd.R_drew)); exact HO307.out) (Kd.R_base ho10) hb); have n1_ := Aside0.mk (Kd.R_lower (Kd.R_new' ho10 (Kd.R_lt (by (with_reducible repeat (first | apply Kd.R_alloc | apply Kd.R_drewN | apply Kd.R_drew)); exact HO307.out))) (below_size (by repeat (first | (with_reducible first | exact HB.out | apply pA | apply pN | apply p1_) | exact HB.out)))); have n2_ := Aside0.mk (below_step (by repeat (first | (with_reducible first | exact HB.out | apply pA | apply pN | apply p1_) | exact HB.out)) hb); clear HO307; clear HB; have HO307 := n0_; have HO310 := n1_; have HB := n2_; clear n0_ n1_ n2_; clear hb ho10) | ((with_reducible refine gate_dst (N := 25) rfl ?_); refine Kd.R_lit (Kd.int .i64) _ 3 ?hg (N := 25) ?hd (xs := ([] : List Int)) (inner := []) (ok := fun _ => True) (okp := fun _ => True) ?hr ?hp (fun _ hk => hk) trivial (Below.refl _ _) (Nat.le_refl _) (by simp) ?_; (case hd => rfl); (case hg => rfl); (case hr => first | (go_simp; done) | (go_simp; rfl)); (case hp => exact (Reps.none _ _)); intro v312 w11 ho12 hb hg_ hnew_; clear hg_ hnew_; (first | rw [← Ny311.out] at ho12 | (simp only [Int.reduceToNat] at ho12; rw [← Ny311.out] at ho12)); have n0_ := Aside0.mk (Kd.R_elder' (by (with_reducible repeat (first | apply Kd.R_alloc | apply Kd.R_drewN | apply Kd.R_drew)); exact HO307.out) (Kd.R_base ho12) hb); have n1_ := Aside0.mk (Kd.R_elder' (by (with_reducible repeat (first | apply Kd.R_alloc | apply Kd.R_drewN | apply Kd.R_drew)); exact HO310.out) (Kd.R_base ho12) hb); have n2_ := Aside0.mk (Kd.R_lower (Kd.R_new' (Kd.R_new' ho12 (Kd.R_lt (by (with_reducible repeat (first | apply Kd.R_alloc | apply Kd.R_drewN | apply Kd.R_drew)); exact HO307.out))) (Kd.R_lt (by (with_reducible repeat (first | apply Kd.R_alloc | apply Kd.R_drewN | apply Kd.R_drew)); exact HO310.out))) (below_size (by repeat (first | (with_reducible first | exact HB.out | apply pA | apply pN | apply p1_) | exact HB.out)))); have n3_ := Aside0.mk (below_step (by repeat (first | (with_reducible first | exact HB.out | apply pA | apply pN | apply p1_) | exact HB.out)) hb); clear HO307; clear HO310; clear HB; have HO307 := n0_; have HO310 := n1_; have HO313 := n2_; have HB := n3_; clear n0_ n1_ n2_ n3_; clear hb ho12)); go_upto_block 0 with (first | (go_at_call 9; (with_reducible refine (w22_examples.calls k  true _ A3.out).mono ?_); rintro e w6 ⟨rfl, hb⟩; have n0_ := Aside0.mk (below_step (by repeat (first | (with_reducible first | exact HB.out | apply pA | apply pN | apply p1_) | exact HB.out)) hb); clear HB; have HB := n0_; clear n0_; (try clear hb); (try clear hb2); (try clear hk); (try clear hi)) | ((with_reducible refine gate_dst (N := 23) rfl ?_); refine Kd.R_lit (Kd.int .i64) _ 3 ?hg (N := 23) ?hd (xs := ([] : List Int)) (inner := []) (ok := fun _ => True) (okp := fun _ => True) ?hr ?hp (fun _ hk => hk) trivial (Below.refl _ _) (Nat.le_refl _) (by simp) ?_; (case hd => rfl); (case hg => rfl); (case hr => first | (go_simp; done) | (go_simp; rfl)); (case hp => exact (Reps.none _ _)); intro v306 w7 ho8 hb hg_ hnew_; clear hg_ hnew_; (first | rw [← Ny305.out] at ho8 | (simp only [Int.reduceToNat] at ho8; rw [← Ny305.out] at ho8)); have n0_ := Aside0.mk (Kd.R_lower ho8 (below_size (by repeat (first | (with_reducible first | exact HB.out | apply pA | apply pN | apply p1_) | exact HB.out)))); have n1_ := Aside0.mk (below_step (by repeat (first | (with_reducible first | exact HB.out | apply pA | apply pN | apply p1_) | exact HB.out)) hb); clear HB; have HO307 := n0_; have HB := n1_; clear n0_ n1_; clear hb ho8) | ((with_reducible refine gate_dst (N := 24) rfl ?_); refine Kd.R_lit (Kd.int .i64) _ 3 ?hg (N := 24) ?hd (xs := ([] : List Int)) (inner := []) (ok := fun _ => True) (okp := fun _ => True) ?hr ?hp (fun _ hk => hk) trivial (Below.refl _ _) (Nat.le_refl _) (by simp) ?_; (case hd => rfl); (case hg => rfl); (case hr => first | (go_simp; done) | (go_simp; rfl)); (case hp => exact (Reps.none _ _)); intro v309 w9 ho10 hb hg_ hnew_; clear hg_ hnew_; (first | rw [← Ny308.out] at ho10 | (simp only [Int.reduceToNat] at ho10; rw [← Ny308.out] at ho10)); have n0_ := Aside0.mk (Kd.R_elder' (by (with_reducible repeat (first | apply Kd.R_alloc | apply Kd.R_drewN | apply Kd.R_drew)); exact HO307.out) (Kd.R_base ho10) hb); have n1_ := Aside0.mk (Kd.R_lower (Kd.R_new' ho10 (Kd.R_lt (by (with_reducible repeat (first | apply Kd.R_alloc | apply Kd.R_drewN | apply Kd.R_drew)); exact HO307.out))) (below_size (by repeat (first | (with_reducible first | exact HB.out | apply pA | apply pN | apply p1_) | exact HB.out)))); have n2_ := Aside0.mk (below_step (by repeat (first | (with_reducible first | exact HB.out | apply pA | apply pN | apply p1_) | exact HB.out)) hb); clear HO307; clear HB; have HO307 := n0_; have HO310 := n1_; have HB := n2_; clear n0_ n1_ n2_; clear hb ho10) | ((with_reducible refine gate_dst (N := 25) rfl ?_); refine Kd.R_lit (Kd.int .i64) _ 3 ?hg (N := 25) ?hd (xs := ([] : List Int)) (inner := []) (ok := fun _ => True) (okp := fun _ => True) ?hr ?hp (fun _ hk => hk) trivial (Below.refl _ _) (Nat.le_refl _) (by simp) ?_; (case hd => rfl); (case hg => rfl); (case hr => first | (go_simp; done) | (go_simp; rfl)); (case hp => exact (Reps.none _ _)); intro v312 w11 ho12 hb hg_ hnew_; clear hg_ hnew_; (first | rw [← Ny311.out] at ho12 | (simp only [Int.reduceToNat] at ho12; rw [← Ny311.out] at ho12)); have n0_ := Aside0.mk (Kd.R_elder' (by (with_reducible repeat (first | apply Kd.R_alloc | apply Kd.R_drewN | apply Kd.R_drew)); exact HO307.out) (Kd.R_base ho12) hb); have n1_ := Aside0.mk (Kd.R_elder' (by (with_reducible repeat (first | apply Kd.R_alloc | apply Kd.R_drewN | apply Kd.R_drew)); exact HO310.out) (Kd.R_base ho12) hb); have n2_ := Aside0.mk (Kd.R_lower (Kd.R_new' (Kd.R_new' ho12 (Kd.R_lt (by (with_reducible repeat (first | apply Kd.R_alloc | apply Kd.R_drewN | apply Kd.R_drew)); exact HO307.out))) (Kd.R_lt (by (with_reducible repeat (first | apply Kd.R_alloc | apply Kd.R_drewN | apply Kd.R_drew)); exact HO310.out))) (below_size (by repeat (first | (with_reducible first | exact HB.out | apply pA | apply pN | apply p1_) | exact HB.out)))); have n3_ := Aside0.mk (below_step (by repeat (first | (with_reducible first | exact HB.out | apply pA | apply pN | apply p1_) | exact HB.out)) hb); clear HO307; clear HO310; clear HB; have HO307 := n0_; have HO310 := n1_; have HO313 := n2_; have HB := n3_; clear n0_ n1_ n2_ n3_; clear hb ho12)))
    (try simp only [Act.put, sI, sZ, sS])
    go_cut [6, 8] (fun v6 v8 wc => ∃ (kq : Nat) (x6_4 : List Int) (x8_4 : List Int), Aside0 (w22_CSegments.j1 kq a1 true x6_4 y308 x8_4 = some r) ∧ Aside0 (kq ≤ k) ∧ Aside0 (Kd.R (Kd.int .i64) 3 wc w.heap.size (fun k_ => some k_ ≠ (v309 : Value).ownBlock ∧ some k_ ≠ (v8 : Value).ownBlock) v6 x6_4) ∧ Aside0 (Kd.R (Kd.int .i64) 3 wc w.heap.size (fun k_ => some k_ ≠ (v6 : Value).ownBlock ∧ some k_ ≠ (v8 : Value).ownBlock) v309 y308) ∧ Aside0 (Kd.R (Kd.int .i64) 3 wc w.heap.size (fun k_ => some k_ ≠ (v6 : Value).ownBlock ∧ some k_ ≠ (v309 : Value).ownBlock) v8 x8_4) ∧ Aside0 (Below w.heap.size w wc))
    case first =>
      have H := HC5.out
      clear HC5
      have H' := Aside0.mk H
      clear H
      go_wp2
      repeat (go_quiet (fail); try go_wp2)
      go_loopg [6, 8, 9] k (fun kq v6 v8 v9 w' => ∃ (x6_1 : List Int) (x8_1 : List Int) (x9_1 : Int), v9 = .int .i64 x9_1 ∧ Aside0 (w22_CSegments.l0 kq l0 a1 true x6_1 y308 x8_1 x9_1 = some r) ∧ Aside0 (kq ≤ k) ∧ Aside0 (Kd.R (Kd.int .i64) 3 w' w.heap.size (fun k_ => some k_ ≠ (v309 : Value).ownBlock ∧ some k_ ≠ (v8 : Value).ownBlock) v6 x6_1) ∧ Aside0 (Kd.R (Kd.int .i64) 3 w' w.heap.size (fun k_ => some k_ ≠ (v6 : Value).ownBlock ∧ some k_ ≠ (v8 : Value).ownBlock) v309 y308) ∧ Aside0 (Kd.R (Kd.int .i64) 3 w' w.heap.size (fun k_ => some k_ ≠ (v6 : Value).ownBlock ∧ some k_ ≠ (v309 : Value).ownBlock) v8 x8_1) ∧ Aside0 (Below w.heap.size w w'))
      case atStart => exact ⟨(y305), (y311), (0), (by first | rfl | (simp; done) | (simp [*]; done)), H', ⟨Nat.le_refl _⟩, ⟨by (with_reducible repeat (first | apply Kd.R_alloc | apply Kd.R_drewN | apply Kd.R_drew)); exact Kd.R_mono HO307.out (fun _ hk => ⟨hk.1.2, hk.2⟩)⟩, ⟨by (with_reducible repeat (first | apply Kd.R_alloc | apply Kd.R_drewN | apply Kd.R_drew)); exact Kd.R_mono HO310.out (fun _ hk => ⟨hk.1.2, hk.2⟩)⟩, ⟨by (with_reducible repeat (first | apply Kd.R_alloc | apply Kd.R_drewN | apply Kd.R_drew)); exact Kd.R_mono HO313.out (fun _ hk => ⟨hk.1.2, hk.2⟩)⟩, ⟨by repeat (first | (with_reducible first | exact HB.out | apply pA | apply pN | apply p1_) | exact HB.out)⟩⟩
      case round =>
        clear H'
        try clear p2
        try clear c4
        obtain ⟨x6_1, x8_1, x9_1, rfl, HA, HK1, HO_6, HO_7, HO_8, HB⟩ := hrel
        cases gk with
        | zero => exact absurd HA.out (by simp [w22_CSegments.l0])
        | succ k1 =>
          have H := HA.out
          clear HA
          simp only [w22_CSegments.l0] at H
          by_cases c13 : x9_1 < (l0.length : Int)
          · rw [if_pos c13] at H
            have c13b0 : decide (x9_1 < (l0.length : Int)) = true := decide_eq_true c13
            clear c13
            (first | rw [c13b0] | (simp only [i64_w, i32_w]; rw [c13b0]) | skip)
            by_cases c14 : x9_1 < 60
            · rw [if_pos c14] at H
              have c14b0 : decide (x9_1 < 60) = true := decide_eq_true c14
              clear c14
              by_cases c15 : 0 ≤ x9_1
              · rw [if_pos c15] at H
                have c15b0 : decide (0 ≤ x9_1) = true := decide_eq_true c15
                clear c15
                by_cases c16 : x6_1.length < 17592186044416
                · rw [if_pos c16] at H
                  have LMc16 := Aside0.mk c16
                  clear c16
                  obtain ⟨y315, hy315⟩ : ∃ y_ : List Int, y_ = (x6_1 ++ [Int.tmod (rd l0 x9_1) 1099511627776]) := ⟨_, rfl⟩
                  replace H : (if x8_1.length < 17592186044416 then (w22_CSegments.l0 k1 l0 a1 true y315 y308 (x8_1 ++ [wrap64 ((Int.tmod (rd l0 x9_1) 1099511627776) + 16)]) (wrap64 (x9_1 + 1))) else (none)) = some r := by first | (rw [hy315]; with_reducible exact H) | (have H2_ := (Option.bind_some _ _).symm.trans H; rw [hy315]; with_reducible exact H2_) | (have H2_ := (Option.bind_some _ _).symm.trans H; with_reducible exact H2_) | with_reducible exact H | (rw [hy315]; exact H) | exact H
                  have Ny315 := Aside0.mk hy315
                  clear hy315
                  by_cases c17 : x8_1.length < 17592186044416
                  · rw [if_pos c17] at H
                    have LMc17 := Aside0.mk c17
                    clear c17
                    obtain ⟨y318, hy318⟩ : ∃ y_ : List Int, y_ = (x8_1 ++ [wrap64 ((Int.tmod (rd l0 x9_1) 1099511627776) + 16)]) := ⟨_, rfl⟩
                    replace H : (w22_CSegments.l0 k1 l0 a1 true y315 y308 y318 (wrap64 (x9_1 + 1))) = some r := by first | (rw [hy318]; with_reducible exact H) | (have H2_ := (Option.bind_some _ _).symm.trans H; rw [hy318]; with_reducible exact H2_) | (have H2_ := (Option.bind_some _ _).symm.trans H; with_reducible exact H2_) | with_reducible exact H | (rw [hy318]; exact H) | exact H
                    have Ny318 := Aside0.mk hy318
                    clear hy318
                    have H' := Aside0.mk H
                    clear H
                    have p314 : 0 ≤ (x9_1 : Int) := of_decide_eq_true (by first | (with_reducible assumption) | assumption)
                    have q314 : x9_1 < (l0.length : Int) := of_decide_eq_true (by first | (with_reducible assumption) | assumption)
                    obtain ⟨ad314, e314, hx314_0⟩ := Kd.at_int HR0.out x9_1 p314 q314
                    cases e314
                    replace hx314_0 := (HB.out.cell (World.block_lt_of_cell? w _ hx314_0)).trans hx314_0
                    replace p314 := eq_true p314
                    replace q314 := eq_true q314
                    go_wp2_with (first | ((with_reducible refine gate_builtin (b := .append) (xs := #[.tmp 41, .tmp 43]) rfl ?_); at_builtin; refine Kd.R_append (Kd.int .i64) (w0 := w) w.heap.size rfl (.tmp 41) (.tmp 43) 22 3 (.int .i64 0) 8 rfl Tryd.underlying22 info3 rfl (by decide) (by omega) u6 x6_1 (Int.tmod (rd l0 x9_1) 1099511627776) [.int .i64 (Int.tmod (rd l0 x9_1) 1099511627776)] (fun k_ => some k_ ≠ (v309 : Value).ownBlock ∧ some k_ ≠ (u8 : Value).ownBlock) (fun _ => False) rfl rfl ?aP (fun _ hk => hk.elim) ?aF ?aO ?aB ?aS ?aL ?_; (case aP => exact rfl); (case aB => exact (by repeat (first | (with_reducible first | exact HB.out | apply pA | apply pN | apply p1_) | exact HB.out))); (case aF => exact (fun k_ hk => ⟨Kd.fresh' (Kd.R_lt (by (with_reducible repeat (first | apply Kd.R_alloc | apply Kd.R_drewN | apply Kd.R_drew)); exact HO_7.out)) k_ hk, Kd.fresh' (Kd.R_lt (by (with_reducible repeat (first | apply Kd.R_alloc | apply Kd.R_drewN | apply Kd.R_drew)); exact HO_8.out)) k_ hk⟩)); (case aO => exact (by (with_reducible repeat (first | apply Kd.R_alloc | apply Kd.R_drewN | apply Kd.R_drew)); exact HO_6.out)); (case aS => exact (below_size (by repeat (first | (with_reducible first | exact HB.out | apply pA | apply pN | apply p1_) | exact HB.out)))); (case aL => have := LMc16.out; omega); intro v316 w18 ho hb hg hat; rw [← Ny315.out] at ho; have n0_ := Aside0.mk (Kd.R_after (ok := (fun k_ => some k_ ≠ (u8 : Value).ownBlock)) (by (with_reducible repeat (first | apply Kd.R_alloc | apply Kd.R_drewN | apply Kd.R_drew)); exact Kd.R_mono HO_7.out (fun _ hk => ⟨hk.2, hk.1⟩)) hg hat); have n1_ := Aside0.mk (Kd.R_after (ok := (fun k_ => some k_ ≠ (v309 : Value).ownBlock)) (by (with_reducible repeat (first | apply Kd.R_alloc | apply Kd.R_drewN | apply Kd.R_drew)); exact Kd.R_mono HO_8.out (fun _ hk => ⟨hk.2, hk.1⟩)) hg hat); have n2_ := Aside0.mk (hb); have n3_ := Aside0.mk (ho); clear HO_7; clear HO_8; clear HB; clear HO_6; have HO_7 := n0_; have HO_8 := n1_; have HB := n2_; have HO317 := n3_; clear n0_ n1_ n2_ n3_; clear ho hb hg hat) | ((with_reducible refine gate_builtin (b := .append) (xs := #[.tmp 45, .tmp 48]) rfl ?_); at_builtin; refine Kd.R_append (Kd.int .i64) (w0 := w) w.heap.size rfl (.tmp 45) (.tmp 48) 22 3 (.int .i64 0) 8 rfl Tryd.underlying22 info3 rfl (by decide) (by omega) u8 x8_1 (wrap64 ((Int.tmod (rd l0 x9_1) 1099511627776) + 16)) [.int .i64 (wrap64 ((Int.tmod (rd l0 x9_1) 1099511627776) + 16))] (fun k_ => some k_ ≠ (v309 : Value).ownBlock ∧ some k_ ≠ (v316 : Value).ownBlock) (fun _ => False) rfl rfl ?aP (fun _ hk => hk.elim) ?aF ?aO ?aB ?aS ?aL ?_; (case aP => exact rfl); (case aB => exact (by repeat (first | (with_reducible first | exact HB.out | apply pA | apply pN | apply p1_) | exact HB.out))); (case aF => exact (fun k_ hk => ⟨Kd.fresh' (Kd.R_lt (by (with_reducible repeat (first | apply Kd.R_alloc | apply Kd.R_drewN | apply Kd.R_drew)); exact HO_7.out)) k_ hk, Kd.fresh' (Kd.R_lt (by (with_reducible repeat (first | apply Kd.R_alloc | apply Kd.R_drewN | apply Kd.R_drew)); exact HO317.out)) k_ hk⟩)); (case aO => exact (by (with_reducible repeat (first | apply Kd.R_alloc | apply Kd.R_drewN | apply Kd.R_drew)); exact HO_8.out)); (case aS => exact (below_size (by repeat (first | (with_reducible first | exact HB.out | apply pA | apply pN | apply p1_) | exact HB.out)))); (case aL => have := LMc17.out; omega); intro v319 w19 ho hb hg hat; rw [← Ny318.out] at ho; have n0_ := Aside0.mk (Kd.R_after (ok := (fun k_ => some k_ ≠ (v316 : Value).ownBlock)) (by (with_reducible repeat (first | apply Kd.R_alloc | apply Kd.R_drewN | apply Kd.R_drew)); exact Kd.R_mono HO_7.out (fun _ hk => ⟨hk.2, hk.1⟩)) hg hat); have n1_ := Aside0.mk (Kd.R_after (ok := (fun k_ => some k_ ≠ (v309 : Value).ownBlock)) (by (with_reducible repeat (first | apply Kd.R_alloc | apply Kd.R_drewN | apply Kd.R_drew)); exact HO317.out) hg hat); have n2_ := Aside0.mk (hb); have n3_ := Aside0.mk (ho); clear HO_7; clear HO317; clear HB; clear HO_8; have HO_7 := n0_; have HO317 := n1_; have HB := n2_; have HO320 := n3_; clear n0_ n1_ n2_ n3_; clear ho hb hg hat))
                    repeat (go_quiet (first | ((with_reducible refine gate_builtin (b := .append) (xs := #[.tmp 41, .tmp 43]) rfl ?_); at_builtin; refine Kd.R_append (Kd.int .i64) (w0 := w) w.heap.size rfl (.tmp 41) (.tmp 43) 22 3 (.int .i64 0) 8 rfl Tryd.underlying22 info3 rfl (by decide) (by omega) u6 x6_1 (Int.tmod (rd l0 x9_1) 1099511627776) [.int .i64 (Int.tmod (rd l0 x9_1) 1099511627776)] (fun k_ => some k_ ≠ (v309 : Value).ownBlock ∧ some k_ ≠ (u8 : Value).ownBlock) (fun _ => False) rfl rfl ?aP (fun _ hk => hk.elim) ?aF ?aO ?aB ?aS ?aL ?_; (case aP => exact rfl); (case aB => exact (by repeat (first | (with_reducible first | exact HB.out | apply pA | apply pN | apply p1_) | exact HB.out))); (case aF => exact (fun k_ hk => ⟨Kd.fresh' (Kd.R_lt (by (with_reducible repeat (first | apply Kd.R_alloc | apply Kd.R_drewN | apply Kd.R_drew)); exact HO_7.out)) k_ hk, Kd.fresh' (Kd.R_lt (by (with_reducible repeat (first | apply Kd.R_alloc | apply Kd.R_drewN | apply Kd.R_drew)); exact HO_8.out)) k_ hk⟩)); (case aO => exact (by (with_reducible repeat (first | apply Kd.R_alloc | apply Kd.R_drewN | apply Kd.R_drew)); exact HO_6.out)); (case aS => exact (below_size (by repeat (first | (with_reducible first | exact HB.out | apply pA | apply pN | apply p1_) | exact HB.out)))); (case aL => have := LMc16.out; omega); intro v316 w18 ho hb hg hat; rw [← Ny315.out] at ho; have n0_ := Aside0.mk (Kd.R_after (ok := (fun k_ => some k_ ≠ (u8 : Value).ownBlock)) (by (with_reducible repeat (first | apply Kd.R_alloc | apply Kd.R_drewN | apply Kd.R_drew)); exact Kd.R_mono HO_7.out (fun _ hk => ⟨hk.2, hk.1⟩)) hg hat); have n1_ := Aside0.mk (Kd.R_after (ok := (fun k_ => some k_ ≠ (v309 : Value).ownBlock)) (by (with_reducible repeat (first | apply Kd.R_alloc | apply Kd.R_drewN | apply Kd.R_drew)); exact Kd.R_mono HO_8.out (fun _ hk => ⟨hk.2, hk.1⟩)) hg hat); have n2_ := Aside0.mk (hb); have n3_ := Aside0.mk (ho); clear HO_7; clear HO_8; clear HB; clear HO_6; have HO_7 := n0_; have HO_8 := n1_; have HB := n2_; have HO317 := n3_; clear n0_ n1_ n2_ n3_; clear ho hb hg hat) | ((with_reducible refine gate_builtin (b := .append) (xs := #[.tmp 45, .tmp 48]) rfl ?_); at_builtin; refine Kd.R_append (Kd.int .i64) (w0 := w) w.heap.size rfl (.tmp 45) (.tmp 48) 22 3 (.int .i64 0) 8 rfl Tryd.underlying22 info3 rfl (by decide) (by omega) u8 x8_1 (wrap64 ((Int.tmod (rd l0 x9_1) 1099511627776) + 16)) [.int .i64 (wrap64 ((Int.tmod (rd l0 x9_1) 1099511627776) + 16))] (fun k_ => some k_ ≠ (v309 : Value).ownBlock ∧ some k_ ≠ (v316 : Value).ownBlock) (fun _ => False) rfl rfl ?aP (fun _ hk => hk.elim) ?aF ?aO ?aB ?aS ?aL ?_; (case aP => exact rfl); (case aB => exact (by repeat (first | (with_reducible first | exact HB.out | apply pA | apply pN | apply p1_) | exact HB.out))); (case aF => exact (fun k_ hk => ⟨Kd.fresh' (Kd.R_lt (by (with_reducible repeat (first | apply Kd.R_alloc | apply Kd.R_drewN | apply Kd.R_drew)); exact HO_7.out)) k_ hk, Kd.fresh' (Kd.R_lt (by (with_reducible repeat (first | apply Kd.R_alloc | apply Kd.R_drewN | apply Kd.R_drew)); exact HO317.out)) k_ hk⟩)); (case aO => exact (by (with_reducible repeat (first | apply Kd.R_alloc | apply Kd.R_drewN | apply Kd.R_drew)); exact HO_8.out)); (case aS => exact (below_size (by repeat (first | (with_reducible first | exact HB.out | apply pA | apply pN | apply p1_) | exact HB.out)))); (case aL => have := LMc17.out; omega); intro v319 w19 ho hb hg hat; rw [← Ny318.out] at ho; have n0_ := Aside0.mk (Kd.R_after (ok := (fun k_ => some k_ ≠ (v316 : Value).ownBlock)) (by (with_reducible repeat (first | apply Kd.R_alloc | apply Kd.R_drewN | apply Kd.R_drew)); exact Kd.R_mono HO_7.out (fun _ hk => ⟨hk.2, hk.1⟩)) hg hat); have n1_ := Aside0.mk (Kd.R_after (ok := (fun k_ => some k_ ≠ (v309 : Value).ownBlock)) (by (with_reducible repeat (first | apply Kd.R_alloc | apply Kd.R_drewN | apply Kd.R_drew)); exact HO317.out) hg hat); have n2_ := Aside0.mk (hb); have n3_ := Aside0.mk (ho); clear HO_7; clear HO317; clear HB; clear HO_8; have HO_7 := n0_; have HO317 := n1_; have HB := n2_; have HO320 := n3_; clear n0_ n1_ n2_ n3_; clear ho hb hg hat)); try go_wp2_with (first | ((with_reducible refine gate_builtin (b := .append) (xs := #[.tmp 41, .tmp 43]) rfl ?_); at_builtin; refine Kd.R_append (Kd.int .i64) (w0 := w) w.heap.size rfl (.tmp 41) (.tmp 43) 22 3 (.int .i64 0) 8 rfl Tryd.underlying22 info3 rfl (by decide) (by omega) u6 x6_1 (Int.tmod (rd l0 x9_1) 1099511627776) [.int .i64 (Int.tmod (rd l0 x9_1) 1099511627776)] (fun k_ => some k_ ≠ (v309 : Value).ownBlock ∧ some k_ ≠ (u8 : Value).ownBlock) (fun _ => False) rfl rfl ?aP (fun _ hk => hk.elim) ?aF ?aO ?aB ?aS ?aL ?_; (case aP => exact rfl); (case aB => exact (by repeat (first | (with_reducible first | exact HB.out | apply pA | apply pN | apply p1_) | exact HB.out))); (case aF => exact (fun k_ hk => ⟨Kd.fresh' (Kd.R_lt (by (with_reducible repeat (first | apply Kd.R_alloc | apply Kd.R_drewN | apply Kd.R_drew)); exact HO_7.out)) k_ hk, Kd.fresh' (Kd.R_lt (by (with_reducible repeat (first | apply Kd.R_alloc | apply Kd.R_drewN | apply Kd.R_drew)); exact HO_8.out)) k_ hk⟩)); (case aO => exact (by (with_reducible repeat (first | apply Kd.R_alloc | apply Kd.R_drewN | apply Kd.R_drew)); exact HO_6.out)); (case aS => exact (below_size (by repeat (first | (with_reducible first | exact HB.out | apply pA | apply pN | apply p1_) | exact HB.out)))); (case aL => have := LMc16.out; omega); intro v316 w18 ho hb hg hat; rw [← Ny315.out] at ho; have n0_ := Aside0.mk (Kd.R_after (ok := (fun k_ => some k_ ≠ (u8 : Value).ownBlock)) (by (with_reducible repeat (first | apply Kd.R_alloc | apply Kd.R_drewN | apply Kd.R_drew)); exact Kd.R_mono HO_7.out (fun _ hk => ⟨hk.2, hk.1⟩)) hg hat); have n1_ := Aside0.mk (Kd.R_after (ok := (fun k_ => some k_ ≠ (v309 : Value).ownBlock)) (by (with_reducible repeat (first | apply Kd.R_alloc | apply Kd.R_drewN | apply Kd.R_drew)); exact Kd.R_mono HO_8.out (fun _ hk => ⟨hk.2, hk.1⟩)) hg hat); have n2_ := Aside0.mk (hb); have n3_ := Aside0.mk (ho); clear HO_7; clear HO_8; clear HB; clear HO_6; have HO_7 := n0_; have HO_8 := n1_; have HB := n2_; have HO317 := n3_; clear n0_ n1_ n2_ n3_; clear ho hb hg hat) | ((with_reducible refine gate_builtin (b := .append) (xs := #[.tmp 45, .tmp 48]) rfl ?_); at_builtin; refine Kd.R_append (Kd.int .i64) (w0 := w) w.heap.size rfl (.tmp 45) (.tmp 48) 22 3 (.int .i64 0) 8 rfl Tryd.underlying22 info3 rfl (by decide) (by omega) u8 x8_1 (wrap64 ((Int.tmod (rd l0 x9_1) 1099511627776) + 16)) [.int .i64 (wrap64 ((Int.tmod (rd l0 x9_1) 1099511627776) + 16))] (fun k_ => some k_ ≠ (v309 : Value).ownBlock ∧ some k_ ≠ (v316 : Value).ownBlock) (fun _ => False) rfl rfl ?aP (fun _ hk => hk.elim) ?aF ?aO ?aB ?aS ?aL ?_; (case aP => exact rfl); (case aB => exact (by repeat (first | (with_reducible first | exact HB.out | apply pA | apply pN | apply p1_) | exact HB.out))); (case aF => exact (fun k_ hk => ⟨Kd.fresh' (Kd.R_lt (by (with_reducible repeat (first | apply Kd.R_alloc | apply Kd.R_drewN | apply Kd.R_drew)); exact HO_7.out)) k_ hk, Kd.fresh' (Kd.R_lt (by (with_reducible repeat (first | apply Kd.R_alloc | apply Kd.R_drewN | apply Kd.R_drew)); exact HO317.out)) k_ hk⟩)); (case aO => exact (by (with_reducible repeat (first | apply Kd.R_alloc | apply Kd.R_drewN | apply Kd.R_drew)); exact HO_8.out)); (case aS => exact (below_size (by repeat (first | (with_reducible first | exact HB.out | apply pA | apply pN | apply p1_) | exact HB.out)))); (case aL => have := LMc17.out; omega); intro v319 w19 ho hb hg hat; rw [← Ny318.out] at ho; have n0_ := Aside0.mk (Kd.R_after (ok := (fun k_ => some k_ ≠ (v316 : Value).ownBlock)) (by (with_reducible repeat (first | apply Kd.R_alloc | apply Kd.R_drewN | apply Kd.R_drew)); exact Kd.R_mono HO_7.out (fun _ hk => ⟨hk.2, hk.1⟩)) hg hat); have n1_ := Aside0.mk (Kd.R_after (ok := (fun k_ => some k_ ≠ (v309 : Value).ownBlock)) (by (with_reducible repeat (first | apply Kd.R_alloc | apply Kd.R_drewN | apply Kd.R_drew)); exact HO317.out) hg hat); have n2_ := Aside0.mk (hb); have n3_ := Aside0.mk (ho); clear HO_7; clear HO317; clear HB; clear HO_8; have HO_7 := n0_; have HO317 := n1_; have HB := n2_; have HO320 := n3_; clear n0_ n1_ n2_ n3_; clear ho hb hg hat)))
                    go_roundg k1
                    case measure => have := HK1.out; omega
                    case rel => exact ⟨(y315), (y318), (wrap64 (x9_1 + 1)), (by first | rfl | (simp; done) | (simp [*]; done)), H', ⟨by have := HK1.out; omega⟩, ⟨by (with_reducible repeat (first | apply Kd.R_alloc | apply Kd.R_drewN | apply Kd.R_drew)); exact HO317.out⟩, ⟨by (with_reducible repeat (first | apply Kd.R_alloc | apply Kd.R_drewN | apply Kd.R_drew)); exact HO_7.out⟩, ⟨by (with_reducible repeat (first | apply Kd.R_alloc | apply Kd.R_drewN | apply Kd.R_drew)); exact Kd.R_mono HO320.out (fun _ hk => ⟨hk.2, hk.1⟩)⟩, ⟨by repeat (first | (with_reducible first | exact HB.out | apply pA | apply pN | apply p1_) | exact HB.out)⟩⟩
                  · rw [if_neg c17] at H
                    exact absurd H (by simp)
                · rw [if_neg c16] at H
                  exact absurd H (by simp)
              · rw [if_neg c15] at H
                exact absurd H (by simp)
            · rw [if_neg c14] at H
              have c14b0 : decide (x9_1 < 60) = false := decide_eq_false c14
              clear c14
              have H' := Aside0.mk H
              clear H
              go_wp2
              repeat (go_quiet (fail); try go_wp2)
              go_meet
              case rel => exact ⟨_, (x6_1), (x8_1), H', ⟨by have := HK1.out; first | omega | exact Nat.le_refl _⟩, ⟨by (with_reducible repeat (first | apply Kd.R_alloc | apply Kd.R_drewN | apply Kd.R_drew)); exact HO_6.out⟩, ⟨by (with_reducible repeat (first | apply Kd.R_alloc | apply Kd.R_drewN | apply Kd.R_drew)); exact HO_7.out⟩, ⟨by (with_reducible repeat (first | apply Kd.R_alloc | apply Kd.R_drewN | apply Kd.R_drew)); exact HO_8.out⟩, ⟨by repeat (first | (with_reducible first | exact HB.out | apply pA | apply pN | apply p1_) | exact HB.out)⟩⟩
          · rw [if_neg c13] at H
            have c13b0 : decide (x9_1 < (l0.length : Int)) = false := decide_eq_false c13
            clear c13
            (first | rw [c13b0] | (simp only [i64_w, i32_w]; rw [c13b0]) | skip)
            have H' := Aside0.mk H
            clear H
            go_wp2
            repeat (go_quiet (fail); try go_wp2)
            go_meet
            case rel => exact ⟨_, (x6_1), (x8_1), H', ⟨by have := HK1.out; first | omega | exact Nat.le_refl _⟩, ⟨by (with_reducible repeat (first | apply Kd.R_alloc | apply Kd.R_drewN | apply Kd.R_drew)); exact HO_6.out⟩, ⟨by (with_reducible repeat (first | apply Kd.R_alloc | apply Kd.R_drewN | apply Kd.R_drew)); exact HO_7.out⟩, ⟨by (with_reducible repeat (first | apply Kd.R_alloc | apply Kd.R_drewN | apply Kd.R_drew)); exact HO_8.out⟩, ⟨by repeat (first | (with_reducible first | exact HB.out | apply pA | apply pN | apply p1_) | exact HB.out)⟩⟩
    case rest =>
      clear HC5
      try clear c1
      try clear p2
      try clear p3
      try clear q3
      try clear hx3
      try clear c4
      try clear p6
      try clear c13
      try clear c13b0
      try clear c14
      try clear c14b0
      try clear c15
      try clear c15b0
      try clear c16
      try clear c17
      try clear hx314_0
      try clear p2
      try clear p314
      try clear q314
      obtain ⟨kq, x6_4, x8_4, HA, HJ4, HO_6, HO_7, HO_8, HB⟩ := hcut
      cases kq with
      | zero => exact absurd HA.out (by simp [w22_CSegments.j1])
      | succ kj4 =>
        have H := HA.out
        clear HA
        simp only [w22_CSegments.j1] at H
        have H' := Aside0.mk H
        clear H
        go_wp2
        repeat (go_quiet (fail); try go_wp2)
        go_loopg [7, 11] kj4 (fun kq v7 v11 w' => ∃ (x7_2 : List Int) (x11_2 : Int), v11 = .int .i64 x11_2 ∧ Aside0 (w22_CSegments.l1 kq a1 true x6_4 x7_2 x8_4 x11_2 = some r) ∧ Aside0 (kq ≤ kj4) ∧ Aside0 (Kd.R (Kd.int .i64) 3 w' w.heap.size (fun k_ => some k_ ≠ (v7 : Value).ownBlock ∧ some k_ ≠ (u8 : Value).ownBlock) u6 x6_4) ∧ Aside0 (Kd.R (Kd.int .i64) 3 w' w.heap.size (fun k_ => some k_ ≠ (u6 : Value).ownBlock ∧ some k_ ≠ (u8 : Value).ownBlock) v7 x7_2) ∧ Aside0 (Kd.R (Kd.int .i64) 3 w' w.heap.size (fun k_ => some k_ ≠ (u6 : Value).ownBlock ∧ some k_ ≠ (v7 : Value).ownBlock) u8 x8_4) ∧ Aside0 (Below w.heap.size w w'))
        case atStart => exact ⟨(y308), (0), (by first | rfl | (simp; done) | (simp [*]; done)), H', ⟨Nat.le_refl _⟩, ⟨by (with_reducible repeat (first | apply Kd.R_alloc | apply Kd.R_drewN | apply Kd.R_drew)); exact HO_6.out⟩, ⟨by (with_reducible repeat (first | apply Kd.R_alloc | apply Kd.R_drewN | apply Kd.R_drew)); exact HO_7.out⟩, ⟨by (with_reducible repeat (first | apply Kd.R_alloc | apply Kd.R_drewN | apply Kd.R_drew)); exact HO_8.out⟩, ⟨by repeat (first | (with_reducible first | exact HB.out | apply pA | apply pN | apply p1_) | exact HB.out)⟩⟩
        case round =>
          clear H'
          try clear c1
          try clear p2
          try clear p3
          try clear q3
          try clear hx3
          try clear c4
          try clear p6
          try clear c13
          try clear c13b0
          try clear c14
          try clear c14b0
          try clear c15
          try clear c15b0
          try clear c16
          try clear c17
          try clear hx314_0
          try clear p2
          try clear p3
          try clear p314
          try clear p6
          try clear q3
          try clear q314
          obtain ⟨x7_2, x11_2, rfl, HA, HK2, HO_6, HO_7, HO_8, HB⟩ := hrel
          cases gk with
          | zero => exact absurd HA.out (by simp [w22_CSegments.l1])
          | succ k2 =>
            have H := HA.out
            clear HA
            simp only [w22_CSegments.l1] at H
            by_cases c20 : x11_2 < (wrap64 (2 * (x6_4.length : Int)))
            · rw [if_pos c20] at H
              have c20b0 : decide (x11_2 < (wrap64 (2 * (x6_4.length : Int)))) = true := decide_eq_true c20
              clear c20
              by_cases c21 : (x6_4.length : Int) = 0
              · rw [if_pos c21] at H
                exact absurd H (by simp)
              · rw [if_neg c21] at H
                have c21b0 : ((x6_4.length : Int) == 0) = false := beq_eq_false_iff_ne.mpr c21
                have c21b1 : ((x6_4.length : Int) != 0) = true := bne_iff_ne.mpr c21
                have c21b2 : ¬ (x6_4 = []) := fun h_ => c21 (by rw [h_]; rfl)
                obtain ⟨ji22, hji22⟩ : ∃ j_ : Int, (Int.tmod (wrap64 (x11_2 + (wrap64 (a1)))) (x6_4.length : Int)) = j_ := ⟨_, rfl⟩
                replace H : (if 0 ≤ (ji22) then (if (ji22) < (x6_4.length : Int) then (if x7_2.length < 17592186044416 then (w22_CSegments.l1 k2 a1 true x6_4 (x7_2 ++ [rd x6_4 (ji22)]) x8_4 (wrap64 (x11_2 + 1))) else (none)) else (none)) else (none)) = some r := by first | (rw [hji22] at H; exact H) | (simp only [hji22] at H ⊢; exact H)
                by_cases c23 : 0 ≤ (ji22)
                · rw [if_pos c23] at H
                  have c23b0 : decide (0 ≤ (ji22)) = true := decide_eq_true c23
                  clear c23
                  by_cases c24 : (ji22) < (x6_4.length : Int)
                  · rw [if_pos c24] at H
                    have c24b0 : decide ((ji22) < (x6_4.length : Int)) = true := decide_eq_true c24
                    clear c24
                    by_cases c25 : x7_2.length < 17592186044416
                    · rw [if_pos c25] at H
                      have LMc25 := Aside0.mk c25
                      clear c25
                      obtain ⟨y322, hy322⟩ : ∃ y_ : List Int, y_ = (x7_2 ++ [rd x6_4 (ji22)]) := ⟨_, rfl⟩
                      replace H : (w22_CSegments.l1 k2 a1 true x6_4 y322 x8_4 (wrap64 (x11_2 + 1))) = some r := by first | (rw [hy322]; with_reducible exact H) | (have H2_ := (Option.bind_some _ _).symm.trans H; rw [hy322]; with_reducible exact H2_) | (have H2_ := (Option.bind_some _ _).symm.trans H; with_reducible exact H2_) | with_reducible exact H | (rw [hy322]; exact H) | exact H
                      have Ny322 := Aside0.mk hy322
                      clear hy322
                      have H' := Aside0.mk H
                      clear H
                      obtain ⟨Ao26, co26, eo26⟩ := Kd.R_slice HO_6.out
                      subst eo26
                      have p321 : 0 ≤ ((ji22) : Int) := of_decide_eq_true (by first | (with_reducible assumption) | assumption)
                      have q321 : (ji22) < (x6_4.length : Int) := of_decide_eq_true (by first | (with_reducible assumption) | assumption)
                      obtain ⟨ad321, e321, hx321_0⟩ := Kd.at_int (Kd.R_reads' HO_6.out).2.2 (ji22) p321 q321
                      cases e321
                      replace p321 := eq_true p321
                      replace q321 := eq_true q321
                      go_wp2_with (first | ((with_reducible refine gate_builtin (b := .append) (xs := #[.tmp 57, .tmp 68]) rfl ?_); at_builtin; refine Kd.R_append (Kd.int .i64) (w0 := w) w.heap.size rfl (.tmp 57) (.tmp 68) 22 3 (.int .i64 0) 8 rfl Tryd.underlying22 info3 rfl (by decide) (by omega) u7 x7_2 (rd x6_4 (ji22)) [.int .i64 (rd x6_4 (ji22))] (fun k_ => some k_ ≠ (.slice (some ad321) x6_4.length co26 : Value).ownBlock ∧ some k_ ≠ (u8 : Value).ownBlock) (fun _ => False) rfl rfl ?aP (fun _ hk => hk.elim) ?aF ?aO ?aB ?aS ?aL ?_; (case aP => exact rfl); (case aB => exact (by repeat (first | (with_reducible first | exact HB.out | apply pA | apply pN | apply p1_) | exact HB.out))); (case aF => exact (fun k_ hk => ⟨Kd.fresh' (Kd.R_lt (by (with_reducible repeat (first | apply Kd.R_alloc | apply Kd.R_drewN | apply Kd.R_drew)); exact HO_6.out)) k_ hk, Kd.fresh' (Kd.R_lt (by (with_reducible repeat (first | apply Kd.R_alloc | apply Kd.R_drewN | apply Kd.R_drew)); exact HO_8.out)) k_ hk⟩)); (case aO => exact (by (with_reducible repeat (first | apply Kd.R_alloc | apply Kd.R_drewN | apply Kd.R_drew)); exact HO_7.out)); (case aS => exact (below_size (by repeat (first | (with_reducible first | exact HB.out | apply pA | apply pN | apply p1_) | exact HB.out)))); (case aL => have := LMc25.out; omega); intro v323 w27 ho hb hg hat; rw [← Ny322.out] at ho; have n0_ := Aside0.mk (Kd.R_after (ok := (fun k_ => some k_ ≠ (u8 : Value).ownBlock)) (by (with_reducible repeat (first | apply Kd.R_alloc | apply Kd.R_drewN | apply Kd.R_drew)); exact Kd.R_mono HO_6.out (fun _ hk => ⟨hk.2, hk.1⟩)) hg hat); have n1_ := Aside0.mk (Kd.R_after (ok := (fun k_ => some k_ ≠ (.slice (some ad321) x6_4.length co26 : Value).ownBlock)) (by (with_reducible repeat (first | apply Kd.R_alloc | apply Kd.R_drewN | apply Kd.R_drew)); exact HO_8.out) hg hat); have n2_ := Aside0.mk (hb); have n3_ := Aside0.mk (ho); clear HO_6; clear HO_8; clear HB; clear HO_7; have HO_6 := n0_; have HO_8 := n1_; have HB := n2_; have HO324 := n3_; clear n0_ n1_ n2_ n3_; clear ho hb hg hat))
                      repeat (go_quiet (first | ((with_reducible refine gate_builtin (b := .append) (xs := #[.tmp 57, .tmp 68]) rfl ?_); at_builtin; refine Kd.R_append (Kd.int .i64) (w0 := w) w.heap.size rfl (.tmp 57) (.tmp 68) 22 3 (.int .i64 0) 8 rfl Tryd.underlying22 info3 rfl (by decide) (by omega) u7 x7_2 (rd x6_4 (ji22)) [.int .i64 (rd x6_4 (ji22))] (fun k_ => some k_ ≠ (.slice (some ad321) x6_4.length co26 : Value).ownBlock ∧ some k_ ≠ (u8 : Value).ownBlock) (fun _ => False) rfl rfl ?aP (fun _ hk => hk.elim) ?aF ?aO ?aB ?aS ?aL ?_; (case aP => exact rfl); (case aB => exact (by repeat (first | (with_reducible first | exact HB.out | apply pA | apply pN | apply p1_) | exact HB.out))); (case aF => exact (fun k_ hk => ⟨Kd.fresh' (Kd.R_lt (by (with_reducible repeat (first | apply Kd.R_alloc | apply Kd.R_drewN | apply Kd.R_drew)); exact HO_6.out)) k_ hk, Kd.fresh' (Kd.R_lt (by (with_reducible repeat (first | apply Kd.R_alloc | apply Kd.R_drewN | apply Kd.R_drew)); exact HO_8.out)) k_ hk⟩)); (case aO => exact (by (with_reducible repeat (first | apply Kd.R_alloc | apply Kd.R_drewN | apply Kd.R_drew)); exact HO_7.out)); (case aS => exact (below_size (by repeat (first | (with_reducible first | exact HB.out | apply pA | apply pN | apply p1_) | exact HB.out)))); (case aL => have := LMc25.out; omega); intro v323 w27 ho hb hg hat; rw [← Ny322.out] at ho; have n0_ := Aside0.mk (Kd.R_after (ok := (fun k_ => some k_ ≠ (u8 : Value).ownBlock)) (by (with_reducible repeat (first | apply Kd.R_alloc | apply Kd.R_drewN | apply Kd.R_drew)); exact Kd.R_mono HO_6.out (fun _ hk => ⟨hk.2, hk.1⟩)) hg hat); have n1_ := Aside0.mk (Kd.R_after (ok := (fun k_ => some k_ ≠ (.slice (some ad321) x6_4.length co26 : Value).ownBlock)) (by (with_reducible repeat (first | apply Kd.R_alloc | apply Kd.R_drewN | apply Kd.R_drew)); exact HO_8.out) hg hat); have n2_ := Aside0.mk (hb); have n3_ := Aside0.mk (ho); clear HO_6; clear HO_8; clear HB; clear HO_7; have HO_6 := n0_; have HO_8 := n1_; have HB := n2_; have HO324 := n3_; clear n0_ n1_ n2_ n3_; clear ho hb hg hat)); try go_wp2_with (first | ((with_reducible refine gate_builtin (b := .append) (xs := #[.tmp 57, .tmp 68]) rfl ?_); at_builtin; refine Kd.R_append (Kd.int .i64) (w0 := w) w.heap.size rfl (.tmp 57) (.tmp 68) 22 3 (.int .i64 0) 8 rfl Tryd.underlying22 info3 rfl (by decide) (by omega) u7 x7_2 (rd x6_4 (ji22)) [.int .i64 (rd x6_4 (ji22))] (fun k_ => some k_ ≠ (.slice (some ad321) x6_4.length co26 : Value).ownBlock ∧ some k_ ≠ (u8 : Value).ownBlock) (fun _ => False) rfl rfl ?aP (fun _ hk => hk.elim) ?aF ?aO ?aB ?aS ?aL ?_; (case aP => exact rfl); (case aB => exact (by repeat (first | (with_reducible first | exact HB.out | apply pA | apply pN | apply p1_) | exact HB.out))); (case aF => exact (fun k_ hk => ⟨Kd.fresh' (Kd.R_lt (by (with_reducible repeat (first | apply Kd.R_alloc | apply Kd.R_drewN | apply Kd.R_drew)); exact HO_6.out)) k_ hk, Kd.fresh' (Kd.R_lt (by (with_reducible repeat (first | apply Kd.R_alloc | apply Kd.R_drewN | apply Kd.R_drew)); exact HO_8.out)) k_ hk⟩)); (case aO => exact (by (with_reducible repeat (first | apply Kd.R_alloc | apply Kd.R_drewN | apply Kd.R_drew)); exact HO_7.out)); (case aS => exact (below_size (by repeat (first | (with_reducible first | exact HB.out | apply pA | apply pN | apply p1_) | exact HB.out)))); (case aL => have := LMc25.out; omega); intro v323 w27 ho hb hg hat; rw [← Ny322.out] at ho; have n0_ := Aside0.mk (Kd.R_after (ok := (fun k_ => some k_ ≠ (u8 : Value).ownBlock)) (by (with_reducible repeat (first | apply Kd.R_alloc | apply Kd.R_drewN | apply Kd.R_drew)); exact Kd.R_mono HO_6.out (fun _ hk => ⟨hk.2, hk.1⟩)) hg hat); have n1_ := Aside0.mk (Kd.R_after (ok := (fun k_ => some k_ ≠ (.slice (some ad321) x6_4.length co26 : Value).ownBlock)) (by (with_reducible repeat (first | apply Kd.R_alloc | apply Kd.R_drewN | apply Kd.R_drew)); exact HO_8.out) hg hat); have n2_ := Aside0.mk (hb); have n3_ := Aside0.mk (ho); clear HO_6; clear HO_8; clear HB; clear HO_7; have HO_6 := n0_; have HO_8 := n1_; have HB := n2_; have HO324 := n3_; clear n0_ n1_ n2_ n3_; clear ho hb hg hat)))
                      go_roundg k2
                      case measure => have := HJ4.out; have := HK2.out; omega
                      case rel => exact ⟨(y322), (wrap64 (x11_2 + 1)), (by first | rfl | (simp; done) | (simp [*]; done)), H', ⟨by have := HJ4.out; have := HK2.out; omega⟩, ⟨by (with_reducible repeat (first | apply Kd.R_alloc | apply Kd.R_drewN | apply Kd.R_drew)); exact Kd.R_mono HO_6.out (fun _ hk => ⟨hk.2, hk.1⟩)⟩, ⟨by (with_reducible repeat (first | apply Kd.R_alloc | apply Kd.R_drewN | apply Kd.R_drew)); exact HO324.out⟩, ⟨by (with_reducible repeat (first | apply Kd.R_alloc | apply Kd.R_drewN | apply Kd.R_drew)); exact HO_8.out⟩, ⟨by repeat (first | (with_reducible first | exact HB.out | apply pA | apply pN | apply p1_) | exact HB.out)⟩⟩
                    · rw [if_neg c25] at H
                      exact absurd H (by simp)
                  · rw [if_neg c24] at H
                    exact absurd H (by simp)
                · rw [if_neg c23] at H
                  exact absurd H (by simp)
            · rw [if_neg c20] at H
              have c20b0 : decide (x11_2 < (wrap64 (2 * (x6_4.length : Int)))) = false := decide_eq_false c20
              clear c20
              replace H := Option.bind_eq_some_iff.mp H
              obtain ⟨t325, A280, H⟩ := H
              replace H : ((coalesce_Segments.f x8_4).bind fun t328 => (if (t325.length : Int) = (t328.length : Int) then ((coalesce_Segments.f x7_2).bind fun t331 => ((v22_SameInts.f k2 t325 t331).bind fun t334 => (w22_CSegments.j3 k2 true x6_4 t325 t328 (!t334)))) else (w22_CSegments.j3 k2 true x6_4 t325 t328 true))) = some r := H
              have A28 := Aside0.mk A280
              clear A280
              replace H := Option.bind_eq_some_iff.mp H
              obtain ⟨t328, A290, H⟩ := H
              replace H : (if (t325.length : Int) = (t328.length : Int) then ((coalesce_Segments.f x7_2).bind fun t331 => ((v22_SameInts.f k2 t325 t331).bind fun t334 => (w22_CSegments.j3 k2 true x6_4 t325 t328 (!t334)))) else (w22_CSegments.j3 k2 true x6_4 t325 t328 true)) = some r := H
              have A29 := Aside0.mk A290
              clear A290
              have HC30 := Aside0.mk H
              clear H
              obtain ⟨Ao31, co31, eo31⟩ := Kd.R_slice HO_6.out
              subst eo31
              go_upto_region 16 with (first | (go_at_call 14; (with_reducible refine (coalesce_Segments.calls _ _ x6_4 t325 _ ?side1 ?side2 A28.out).mono ?_); (case side1 => repeat (first | exact (Kd.R_reads' HO_6.out).2.2 | (with_reducible refine Kd.C_alloc ?_ _) | (with_reducible refine Kd.C_drewN ?_ _) | (with_reducible refine Kd.C_drew ?_))); (case side2 => exact (Kd.R_reads' HO_6.out).2.1); rintro e w32 ⟨v326, rfl, ho0, hb⟩; have n0_ := Aside0.mk (Kd.R_elder' (by (with_reducible repeat (first | apply Kd.R_alloc | apply Kd.R_drewN | apply Kd.R_drew)); exact HO_6.out) (Kd.R_base ho0) hb); have n1_ := Aside0.mk (Kd.R_elder' (by (with_reducible repeat (first | apply Kd.R_alloc | apply Kd.R_drewN | apply Kd.R_drew)); exact HO_7.out) (Kd.R_base ho0) hb); have n2_ := Aside0.mk (Kd.R_elder' (by (with_reducible repeat (first | apply Kd.R_alloc | apply Kd.R_drewN | apply Kd.R_drew)); exact HO_8.out) (Kd.R_base ho0) hb); have n3_ := Aside0.mk (Kd.R_lower (Kd.R_new' (Kd.R_new' (Kd.R_new' ho0 (Kd.R_lt (by (with_reducible repeat (first | apply Kd.R_alloc | apply Kd.R_drewN | apply Kd.R_drew)); exact HO_6.out))) (Kd.R_lt (by (with_reducible repeat (first | apply Kd.R_alloc | apply Kd.R_drewN | apply Kd.R_drew)); exact HO_7.out))) (Kd.R_lt (by (with_reducible repeat (first | apply Kd.R_alloc | apply Kd.R_drewN | apply Kd.R_drew)); exact HO_8.out))) (below_size (by repeat (first | (with_reducible first | exact HB.out | apply pA | apply pN | apply p1_) | exact HB.out)))); have n4_ := Aside0.mk (below_step (by repeat (first | (with_reducible first | exact HB.out | apply pA | apply pN | apply p1_) | exact HB.out)) hb); clear HO_6; clear HO_7; clear HO_8; clear HB; have HO_6 := n0_; have HO_7 := n1_; have HO_8 := n2_; have HO327 := n3_; have HB := n4_; clear n0_ n1_ n2_ n3_ n4_; (try clear hb); (try clear hb2); (try clear hk); (try clear hi); (try clear ho0); obtain ⟨Ao33, co33, eo33⟩ := Kd.R_slice HO_8.out; subst eo33) | (go_at_call 14; (with_reducible refine (coalesce_Segments.calls _ _ x8_4 t328 _ ?side1 ?side2 A29.out).mono ?_); (case side1 => repeat (first | exact (Kd.R_reads' HO_8.out).2.2 | (with_reducible refine Kd.C_alloc ?_ _) | (with_reducible refine Kd.C_drewN ?_ _) | (with_reducible refine Kd.C_drew ?_))); (case side2 => exact (Kd.R_reads' HO_8.out).2.1); rintro e w34 ⟨v329, rfl, ho0, hb⟩; have n0_ := Aside0.mk (Kd.R_elder' (by (with_reducible repeat (first | apply Kd.R_alloc | apply Kd.R_drewN | apply Kd.R_drew)); exact HO_6.out) (Kd.R_base ho0) hb); have n1_ := Aside0.mk (Kd.R_elder' (by (with_reducible repeat (first | apply Kd.R_alloc | apply Kd.R_drewN | apply Kd.R_drew)); exact HO_7.out) (Kd.R_base ho0) hb); have n2_ := Aside0.mk (Kd.R_elder' (by (with_reducible repeat (first | apply Kd.R_alloc | apply Kd.R_drewN | apply Kd.R_drew)); exact HO_8.out) (Kd.R_base ho0) hb); have n3_ := Aside0.mk (Kd.R_elder' (by (with_reducible repeat (first | apply Kd.R_alloc | apply Kd.R_drewN | apply Kd.R_drew)); exact HO327.out) (Kd.R_base ho0) hb); have n4_ := Aside0.mk (Kd.R_lower (Kd.R_new' (Kd.R_new' (Kd.R_new' (Kd.R_new' ho0 (Kd.R_lt (by (with_reducible repeat (first | apply Kd.R_alloc | apply Kd.R_drewN | apply Kd.R_drew)); exact HO_6.out))) (Kd.R_lt (by (with_reducible repeat (first | apply Kd.R_alloc | apply Kd.R_drewN | apply Kd.R_drew)); exact HO_7.out))) (Kd.R_lt (by (with_reducible repeat (first | apply Kd.R_alloc | apply Kd.R_drewN | apply Kd.R_drew)); exact HO_8.out))) (Kd.R_lt (by (with_reducible repeat (first | apply Kd.R_alloc | apply Kd.R_drewN | apply Kd.R_drew)); exact HO327.out))) (below_size (by repeat (first | (with_reducible first | exact HB.out | apply pA | apply pN | apply p1_) | exact HB.out)))); have n5_ := Aside0.mk (below_step (by repeat (first | (with_reducible first | exact HB.out | apply pA | apply pN | apply p1_) | exact HB.out)) hb); clear HO_6; clear HO_7; clear HO_8; clear HO327; clear HB; have HO_6 := n0_; have HO_7 := n1_; have HO_8 := n2_; have HO327 := n3_; have HO330 := n4_; have HB := n5_; clear n0_ n1_ n2_ n3_ n4_ n5_; (try clear hb); (try clear hb2); (try clear hk); (try clear hi); (try clear ho0)))
              repeat (go_quiet (first | (go_at_call 14; (with_reducible refine (coalesce_Segments.calls _ _ x6_4 t325 _ ?side1 ?side2 A28.out).mono ?_); (case side1 => repeat (first | exact (Kd.R_reads' HO_6.out).2.2 | (with_reducible refine Kd.C_alloc ?_ _) | (with_reducible refine Kd.C_drewN ?_ _) | (with_reducible refine Kd.C_drew ?_))); (case side2 => exact (Kd.R_reads' HO_6.out).2.1); rintro e w32 ⟨v326, rfl, ho0, hb⟩; have n0_ := Aside0.mk (Kd.R_elder' (by (with_reducible repeat (first | apply Kd.R_alloc | apply Kd.R_drewN | apply Kd.R_drew)); exact HO_6.out) (Kd.R_base ho0) hb); have n1_ := Aside0.mk (Kd.R_elder' (by (with_reducible repeat (first | apply Kd.R_alloc | apply Kd.R_drewN | apply Kd.R_drew)); exact HO_7.out) (Kd.R_base ho0) hb); have n2_ := Aside0.mk (Kd.R_elder' (by (with_reducible repeat (first | apply Kd.R_alloc | apply Kd.R_drewN | apply Kd.R_drew)); exact HO_8.out) (Kd.R_base ho0) hb); have n3_ := Aside0.mk (Kd.R_lower (Kd.R_new' (Kd.R_new' (Kd.R_new' ho0 (Kd.R_lt (by (with_reducible repeat (first | apply Kd.R_alloc | apply Kd.R_drewN | apply Kd.R_drew)); exact HO_6.out))) (Kd.R_lt (by (with_reducible repeat (first | apply Kd.R_alloc | apply Kd.R_drewN | apply Kd.R_drew)); exact HO_7.out))) (Kd.R_lt (by (with_reducible repeat (first | apply Kd.R_alloc | apply Kd.R_drewN | apply Kd.R_drew)); exact HO_8.out))) (below_size (by repeat (first | (with_reducible first | exact HB.out | apply pA | apply pN | apply p1_) | exact HB.out)))); have n4_ := Aside0.mk (below_step (by repeat (first | (with_reducible first | exact HB.out | apply pA | apply pN | apply p1_) | exact HB.out)) hb); clear HO_6; clear HO_7; clear HO_8; clear HB; have HO_6 := n0_; have HO_7 := n1_; have HO_8 := n2_; have HO327 := n3_; have HB := n4_; clear n0_ n1_ n2_ n3_ n4_; (try clear hb); (try clear hb2); (try clear hk); (try clear hi); (try clear ho0); obtain ⟨Ao33, co33, eo33⟩ := Kd.R_slice HO_8.out; subst eo33) | (go_at_call 14; (with_reducible refine (coalesce_Segments.calls _ _ x8_4 t328 _ ?side1 ?side2 A29.out).mono ?_); (case side1 => repeat (first | exact (Kd.R_reads' HO_8.out).2.2 | (with_reducible refine Kd.C_alloc ?_ _) | (with_reducible refine Kd.C_drewN ?_ _) | (with_reducible refine Kd.C_drew ?_))); (case side2 => exact (Kd.R_reads' HO_8.out).2.1); rintro e w34 ⟨v329, rfl, ho0, hb⟩; have n0_ := Aside0.mk (Kd.R_elder' (by (with_reducible repeat (first | apply Kd.R_alloc | apply Kd.R_drewN | apply Kd.R_drew)); exact HO_6.out) (Kd.R_base ho0) hb); have n1_ := Aside0.mk (Kd.R_elder' (by (with_reducible repeat (first | apply Kd.R_alloc | apply Kd.R_drewN | apply Kd.R_drew)); exact HO_7.out) (Kd.R_base ho0) hb); have n2_ := Aside0.mk (Kd.R_elder' (by (with_reducible repeat (first | apply Kd.R_alloc | apply Kd.R_drewN | apply Kd.R_drew)); exact HO_8.out) (Kd.R_base ho0) hb); have n3_ := Aside0.mk (Kd.R_elder' (by (with_reducible repeat (first | apply Kd.R_alloc | apply Kd.R_drewN | apply Kd.R_drew)); exact HO327.out) (Kd.R_base ho0) hb); have n4_ := Aside0.mk (Kd.R_lower (Kd.R_new' (Kd.R_new' (Kd.R_new' (Kd.R_new' ho0 (Kd.R_lt (by (with_reducible repeat (first | apply Kd.R_alloc | apply Kd.R_drewN | apply Kd.R_drew)); exact HO_6.out))) (Kd.R_lt (by (with_reducible repeat (first | apply Kd.R_alloc | apply Kd.R_drewN | apply Kd.R_drew)); exact HO_7.out))) (Kd.R_lt (by (with_reducible repeat (first | apply Kd.R_alloc | apply Kd.R_drewN | apply Kd.R_drew)); exact HO_8.out))) (Kd.R_lt (by (with_reducible repeat (first | apply Kd.R_alloc | apply Kd.R_drewN | apply Kd.R_drew)); exact HO327.out))) (below_size (by repeat (first | (with_reducible first | exact HB.out | apply pA | apply pN | apply p1_) | exact HB.out)))); have n5_ := Aside0.mk (below_step (by repeat (first | (with_reducible first | exact HB.out | apply pA | apply pN | apply p1_) | exact HB.out)) hb); clear HO_6; clear HO_7; clear HO_8; clear HO327; clear HB; have HO_6 := n0_; have HO_7 := n1_; have HO_8 := n2_; have HO327 := n3_; have HO330 := n4_; have HB := n5_; clear n0_ n1_ n2_ n3_ n4_ n5_; (try clear hb); (try clear hb2); (try clear hk); (try clear hi); (try clear ho0))); go_upto_region 16 with (first | (go_at_call 14; (with_reducible refine (coalesce_Segments.calls _ _ x6_4 t325 _ ?side1 ?side2 A28.out).mono ?_); (case side1 => repeat (first | exact (Kd.R_reads' HO_6.out).2.2 | (with_reducible refine Kd.C_alloc ?_ _) | (with_reducible refine Kd.C_drewN ?_ _) | (with_reducible refine Kd.C_drew ?_))); (case side2 => exact (Kd.R_reads' HO_6.out).2.1); rintro e w32 ⟨v326, rfl, ho0, hb⟩; have n0_ := Aside0.mk (Kd.R_elder' (by (with_reducible repeat (first | apply Kd.R_alloc | apply Kd.R_drewN | apply Kd.R_drew)); exact HO_6.out) (Kd.R_base ho0) hb); have n1_ := Aside0.mk (Kd.R_elder' (by (with_reducible repeat (first | apply Kd.R_alloc | apply Kd.R_drewN | apply Kd.R_drew)); exact HO_7.out) (Kd.R_base ho0) hb); have n2_ := Aside0.mk (Kd.R_elder' (by (with_reducible repeat (first | apply Kd.R_alloc | apply Kd.R_drewN | apply Kd.R_drew)); exact HO_8.out) (Kd.R_base ho0) hb); have n3_ := Aside0.mk (Kd.R_lower (Kd.R_new' (Kd.R_new' (Kd.R_new' ho0 (Kd.R_lt (by (with_reducible repeat (first | apply Kd.R_alloc | apply Kd.R_drewN | apply Kd.R_drew)); exact HO_6.out))) (Kd.R_lt (by (with_reducible repeat (first | apply Kd.R_alloc | apply Kd.R_drewN | apply Kd.R_drew)); exact HO_7.out))) (Kd.R_lt (by (with_reducible repeat (first | apply Kd.R_alloc | apply Kd.R_drewN | apply Kd.R_drew)); exact HO_8.out))) (below_size (by repeat (first | (with_reducible first | exact HB.out | apply pA | apply pN | apply p1_) | exact HB.out)))); have n4_ := Aside0.mk (below_step (by repeat (first | (with_reducible first | exact HB.out | apply pA | apply pN | apply p1_) | exact HB.out)) hb); clear HO_6; clear HO_7; clear HO_8; clear HB; have HO_6 := n0_; have HO_7 := n1_; have HO_8 := n2_; have HO327 := n3_; have HB := n4_; clear n0_ n1_ n2_ n3_ n4_; (try clear hb); (try clear hb2); (try clear hk); (try clear hi); (try clear ho0); obtain ⟨Ao33, co33, eo33⟩ := Kd.R_slice HO_8.out; subst eo33) | (go_at_call 14; (with_reducible refine (coalesce_Segments.calls _ _ x8_4 t328 _ ?side1 ?side2 A29.out).mono ?_); (case side1 => repeat (first | exact (Kd.R_reads' HO_8.out).2.2 | (with_reducible refine Kd.C_alloc ?_ _) | (with_reducible refine Kd.C_drewN ?_ _) | (with_reducible refine Kd.C_drew ?_))); (case side2 => exact (Kd.R_reads' HO_8.out).2.1); rintro e w34 ⟨v329, rfl, ho0, hb⟩; have n0_ := Aside0.mk (Kd.R_elder' (by (with_reducible repeat (first | apply Kd.R_alloc | apply Kd.R_drewN | apply Kd.R_drew)); exact HO_6.out) (Kd.R_base ho0) hb); have n1_ := Aside0.mk (Kd.R_elder' (by (with_reducible repeat (first | apply Kd.R_alloc | apply Kd.R_drewN | apply Kd.R_drew)); exact HO_7.out) (Kd.R_base ho0) hb); have n2_ := Aside0.mk (Kd.R_elder' (by (with_reducible repeat (first | apply Kd.R_alloc | apply Kd.R_drewN | apply Kd.R_drew)); exact HO_8.out) (Kd.R_base ho0) hb); have n3_ := Aside0.mk (Kd.R_elder' (by (with_reducible repeat (first | apply Kd.R_alloc | apply Kd.R_drewN | apply Kd.R_drew)); exact HO327.out) (Kd.R_base ho0) hb); have n4_ := Aside0.mk (Kd.R_lower (Kd.R_new' (Kd.R_new' (Kd.R_new' (Kd.R_new' ho0 (Kd.R_lt (by (with_reducible repeat (first | apply Kd.R_alloc | apply Kd.R_drewN | apply Kd.R_drew)); exact HO_6.out))) (Kd.R_lt (by (with_reducible repeat (first | apply Kd.R_alloc | apply Kd.R_drewN | apply Kd.R_drew)); exact HO_7.out))) (Kd.R_lt (by (with_reducible repeat (first | apply Kd.R_alloc | apply Kd.R_drewN | apply Kd.R_drew)); exact HO_8.out))) (Kd.R_lt (by (with_reducible repeat (first | apply Kd.R_alloc | apply Kd.R_drewN | apply Kd.R_drew)); exact HO327.out))) (below_size (by repeat (first | (with_reducible first | exact HB.out | apply pA | apply pN | apply p1_) | exact HB.out)))); have n5_ := Aside0.mk (below_step (by repeat (first | (with_reducible first | exact HB.out | apply pA | apply pN | apply p1_) | exact HB.out)) hb); clear HO_6; clear HO_7; clear HO_8; clear HO327; clear HB; have HO_6 := n0_; have HO_7 := n1_; have HO_8 := n2_; have HO327 := n3_; have HO330 := n4_; have HB := n5_; clear n0_ n1_ n2_ n3_ n4_ n5_; (try clear hb); (try clear hb2); (try clear hk); (try clear hi); (try clear ho0))))
              (try simp only [Act.put, sI, sZ, sS])
              go_cut [85] (fun v85 wc => ∃ (kq : Nat) (x85_29 : Bool), v85 = .bool x85_29 ∧ Aside0 (w22_CSegments.j3 kq true x6_4 t325 t328 x85_29 = some r) ∧ Aside0 (kq ≤ k2) ∧ Aside0 (Kd.R (Kd.int .i64) 3 wc w.heap.size (fun k_ => some k_ ≠ (v326 : Value).ownBlock ∧ some k_ ≠ (v329 : Value).ownBlock) (.slice Ao31 x6_4.length co31) x6_4) ∧ Aside0 (Kd.R (Kd.int .i64) 3 wc w.heap.size (fun k_ => some k_ ≠ ((.slice Ao31 x6_4.length co31) : Value).ownBlock ∧ some k_ ≠ (v329 : Value).ownBlock) v326 t325) ∧ Aside0 (Kd.R (Kd.int .i64) 3 wc w.heap.size (fun k_ => some k_ ≠ ((.slice Ao31 x6_4.length co31) : Value).ownBlock ∧ some k_ ≠ (v326 : Value).ownBlock) v329 t328) ∧ Aside0 (Below w.heap.size w wc))
              case first =>
                have H := HC30.out
                clear HC30
                by_cases c35 : (t325.length : Int) = (t328.length : Int)
                · rw [if_pos c35] at H
                  have c35b0 : ((t325.length : Int) == (t328.length : Int)) = true := beq_iff_eq.mpr c35
                  have c35b1 : ((t325.length : Int) != (t328.length : Int)) = false := bne_eq_false_iff_eq.mpr c35
                  have c35b2 : (t325.length == t328.length) = true := by first | simpa using c35 | (simp at c35 ⊢; omega)
                  clear c35
                  (first | rw [c35b0] | (simp only [i64_w, i32_w]; rw [c35b0]) | skip)
                  replace H := Option.bind_eq_some_iff.mp H
                  obtain ⟨t331, A360, H⟩ := H
                  replace H : ((v22_SameInts.f k2 t325 t331).bind fun t334 => (w22_CSegments.j3 k2 true x6_4 t325 t328 (!t334))) = some r := H
                  have A36 := Aside0.mk A360
                  clear A360
                  replace H := Option.bind_eq_some_iff.mp H
                  obtain ⟨t334, A370, H⟩ := H
                  replace H : (w22_CSegments.j3 k2 true x6_4 t325 t328 (!t334)) = some r := H
                  have A37 := Aside0.mk A370
                  clear A370
                  have H' := Aside0.mk H
                  clear H
                  obtain ⟨Ao38, co38, eo38⟩ := Kd.R_slice HO327.out
                  subst eo38
                  obtain ⟨Ao39, co39, eo39⟩ := Kd.R_slice HO330.out
                  subst eo39
                  obtain ⟨Ao40, co40, eo40⟩ := Kd.R_slice HO_7.out
                  subst eo40
                  go_wp2_with (first | (go_at_call 14; (with_reducible refine (coalesce_Segments.calls _ _ x7_2 t331 _ ?side1 ?side2 A36.out).mono ?_); (case side1 => repeat (first | exact (Kd.R_reads' HO_7.out).2.2 | (with_reducible refine Kd.C_alloc ?_ _) | (with_reducible refine Kd.C_drewN ?_ _) | (with_reducible refine Kd.C_drew ?_))); (case side2 => exact (Kd.R_reads' HO_7.out).2.1); rintro e w41 ⟨v332, rfl, ho0, hb⟩; have n0_ := Aside0.mk (Kd.R_elder' (by (with_reducible repeat (first | apply Kd.R_alloc | apply Kd.R_drewN | apply Kd.R_drew)); exact HO_6.out) (Kd.R_base ho0) hb); have n1_ := Aside0.mk (Kd.R_elder' (by (with_reducible repeat (first | apply Kd.R_alloc | apply Kd.R_drewN | apply Kd.R_drew)); exact HO_7.out) (Kd.R_base ho0) hb); have n2_ := Aside0.mk (Kd.R_elder' (by (with_reducible repeat (first | apply Kd.R_alloc | apply Kd.R_drewN | apply Kd.R_drew)); exact HO_8.out) (Kd.R_base ho0) hb); have n3_ := Aside0.mk (Kd.R_elder' (by (with_reducible repeat (first | apply Kd.R_alloc | apply Kd.R_drewN | apply Kd.R_drew)); exact HO327.out) (Kd.R_base ho0) hb); have n4_ := Aside0.mk (Kd.R_elder' (by (with_reducible repeat (first | apply Kd.R_alloc | apply Kd.R_drewN | apply Kd.R_drew)); exact HO330.out) (Kd.R_base ho0) hb); have n5_ := Aside0.mk (Kd.R_lower (Kd.R_new' (Kd.R_new' (Kd.R_new' (Kd.R_new' (Kd.R_new' ho0 (Kd.R_lt (by (with_reducible repeat (first | apply Kd.R_alloc | apply Kd.R_drewN | apply Kd.R_drew)); exact HO_6.out))) (Kd.R_lt (by (with_reducible repeat (first | apply Kd.R_alloc | apply Kd.R_drewN | apply Kd.R_drew)); exact HO_7.out))) (Kd.R_lt (by (with_reducible repeat (first | apply Kd.R_alloc | apply Kd.R_drewN | apply Kd.R_drew)); exact HO_8.out))) (Kd.R_lt (by (with_reducible repeat (first | apply Kd.R_alloc | apply Kd.R_drewN | apply Kd.R_drew)); exact HO327.out))) (Kd.R_lt (by (with_reducible repeat (first | apply Kd.R_alloc | apply Kd.R_drewN | apply Kd.R_drew)); exact HO330.out))) (below_size (by repeat (first | (with_reducible first | exact HB.out | apply pA | apply pN | apply p1_) | exact HB.out)))); have n6_ := Aside0.mk (below_step (by repeat (first | (with_reducible first | exact HB.out | apply pA | apply pN | apply p1_) | exact HB.out)) hb); clear HO_6; clear HO_7; clear HO_8; clear HO327; clear HO330; clear HB; have HO_6 := n0_; have HO_7 := n1_; have HO_8 := n2_; have HO327 := n3_; have HO330 := n4_; have HO333 := n5_; have HB := n6_; clear n0_ n1_ n2_ n3_ n4_ n5_ n6_; (try clear hb); (try clear hb2); (try clear hk); (try clear hi); (try clear ho0); obtain ⟨Ao42, co42, eo42⟩ := Kd.R_slice HO333.out; subst eo42) | (go_at_call 13; (with_reducible refine (v22_SameInts.calls k2 _ _ t325 _ _ t331 t334 _ ?side1 ?side2 ?side3 ?side4 A37.out).mono ?_); (case side1 => repeat (first | exact (Kd.R_reads' HO327.out).2.2 | (with_reducible refine Kd.C_alloc ?_ _) | (with_reducible refine Kd.C_drewN ?_ _) | (with_reducible refine Kd.C_drew ?_))); (case side2 => exact (Kd.R_reads' HO327.out).2.1); (case side3 => repeat (first | exact (Kd.R_reads' HO333.out).2.2 | (with_reducible refine Kd.C_alloc ?_ _) | (with_reducible refine Kd.C_drewN ?_ _) | (with_reducible refine Kd.C_drew ?_))); (case side4 => exact (Kd.R_reads' HO333.out).2.1); rintro e w' ⟨rfl, ⟨nd, rfl⟩⟩; (try first | exact ⟨rfl, _, World.drewN_drewN _ _ _⟩ | exact ⟨rfl, _, Eq.trans (World.drewN_drewN _ _ _) (congrArg (World.drewN _) (Nat.add_assoc _ _ _))⟩)))
                  repeat (go_quiet (first | (go_at_call 14; (with_reducible refine (coalesce_Segments.calls _ _ x7_2 t331 _ ?side1 ?side2 A36.out).mono ?_); (case side1 => repeat (first | exact (Kd.R_reads' HO_7.out).2.2 | (with_reducible refine Kd.C_alloc ?_ _) | (with_reducible refine Kd.C_drewN ?_ _) | (with_reducible refine Kd.C_drew ?_))); (case side2 => exact (Kd.R_reads' HO_7.out).2.1); rintro e w41 ⟨v332, rfl, ho0, hb⟩; have n0_ := Aside0.mk (Kd.R_elder' (by (with_reducible repeat (first | apply Kd.R_alloc | apply Kd.R_drewN | apply Kd.R_drew)); exact HO_6.out) (Kd.R_base ho0) hb); have n1_ := Aside0.mk (Kd.R_elder' (by (with_reducible repeat (first | apply Kd.R_alloc | apply Kd.R_drewN | apply Kd.R_drew)); exact HO_7.out) (Kd.R_base ho0) hb); have n2_ := Aside0.mk (Kd.R_elder' (by (with_reducible repeat (first | apply Kd.R_alloc | apply Kd.R_drewN | apply Kd.R_drew)); exact HO_8.out) (Kd.R_base ho0) hb); have n3_ := Aside0.mk (Kd.R_elder' (by (with_reducible repeat (first | apply Kd.R_alloc | apply Kd.R_drewN | apply Kd.R_drew)); exact HO327.out) (Kd.R_base ho0) hb); have n4_ := Aside0.mk (Kd.R_elder' (by (with_reducible repeat (first | apply Kd.R_alloc | apply Kd.R_drewN | apply Kd.R_drew)); exact HO330.out) (Kd.R_base ho0) hb); have n5_ := Aside0.mk (Kd.R_lower (Kd.R_new' (Kd.R_new' (Kd.R_new' (Kd.R_new' (Kd.R_new' ho0 (Kd.R_lt (by (with_reducible repeat (first | apply Kd.R_alloc | apply Kd.R_drewN | apply Kd.R_drew)); exact HO_6.out))) (Kd.R_lt (by (with_reducible repeat (first | apply Kd.R_alloc | apply Kd.R_drewN | apply Kd.R_drew)); exact HO_7.out))) (Kd.R_lt (by (with_reducible repeat (first | apply Kd.R_alloc | apply Kd.R_drewN | apply Kd.R_drew)); exact HO_8.out))) (Kd.R_lt (by (with_reducible repeat (first | apply Kd.R_alloc | apply Kd.R_drewN | apply Kd.R_drew)); exact HO327.out))) (Kd.R_lt (by (with_reducible repeat (first | apply Kd.R_alloc | apply Kd.R_drewN | apply Kd.R_drew)); exact HO330.out))) (below_size (by repeat (first | (with_reducible first | exact HB.out | apply pA | apply pN | apply p1_) | exact HB.out)))); have n6_ := Aside0.mk (below_step (by repeat (first | (with_reducible first | exact HB.out | apply pA | apply pN | apply p1_) | exact HB.out)) hb); clear HO_6; clear HO_7; clear HO_8; clear HO327; clear HO330; clear HB; have HO_6 := n0_; have HO_7 := n1_; have HO_8 := n2_; have HO327 := n3_; have HO330 := n4_; have HO333 := n5_; have HB := n6_; clear n0_ n1_ n2_ n3_ n4_ n5_ n6_; (try clear hb); (try clear hb2); (try clear hk); (try clear hi); (try clear ho0); obtain ⟨Ao42, co42, eo42⟩ := Kd.R_slice HO333.out; subst eo42) | (go_at_call 13; (with_reducible refine (v22_SameInts.calls k2 _ _ t325 _ _ t331 t334 _ ?side1 ?side2 ?side3 ?side4 A37.out).mono ?_); (case side1 => repeat (first | exact (Kd.R_reads' HO327.out).2.2 | (with_reducible refine Kd.C_alloc ?_ _) | (with_reducible refine Kd.C_drewN ?_ _) | (with_reducible refine Kd.C_drew ?_))); (case side2 => exact (Kd.R_reads' HO327.out).2.1); (case side3 => repeat (first | exact (Kd.R_reads' HO333.out).2.2 | (with_reducible refine Kd.C_alloc ?_ _) | (with_reducible refine Kd.C_drewN ?_ _) | (with_reducible refine Kd.C_drew ?_))); (case side4 => exact (Kd.R_reads' HO333.out).2.1); rintro e w' ⟨rfl, ⟨nd, rfl⟩⟩; (try first | exact ⟨rfl, _, World.drewN_drewN _ _ _⟩ | exact ⟨rfl, _, Eq.trans (World.drewN_drewN _ _ _) (congrArg (World.drewN _) (Nat.add_assoc _ _ _))⟩))); try go_wp2_with (first | (go_at_call 14; (with_reducible refine (coalesce_Segments.calls _ _ x7_2 t331 _ ?side1 ?side2 A36.out).mono ?_); (case side1 => repeat (first | exact (Kd.R_reads' HO_7.out).2.2 | (with_reducible refine Kd.C_alloc ?_ _) | (with_reducible refine Kd.C_drewN ?_ _) | (with_reducible refine Kd.C_drew ?_))); (case side2 => exact (Kd.R_reads' HO_7.out).2.1); rintro e w41 ⟨v332, rfl, ho0, hb⟩; have n0_ := Aside0.mk (Kd.R_elder' (by (with_reducible repeat (first | apply Kd.R_alloc | apply Kd.R_drewN | apply Kd.R_drew)); exact HO_6.out) (Kd.R_base ho0) hb); have n1_ := Aside0.mk (Kd.R_elder' (by (with_reducible repeat (first | apply Kd.R_alloc | apply Kd.R_drewN | apply Kd.R_drew)); exact HO_7.out) (Kd.R_base ho0) hb); have n2_ := Aside0.mk (Kd.R_elder' (by (with_reducible repeat (first | apply Kd.R_alloc | apply Kd.R_drewN | apply Kd.R_drew)); exact HO_8.out) (Kd.R_base ho0) hb); have n3_ := Aside0.mk (Kd.R_elder' (by (with_reducible repeat (first | apply Kd.R_alloc | apply Kd.R_drewN | apply Kd.R_drew)); exact HO327.out) (Kd.R_base ho0) hb); have n4_ := Aside0.mk (Kd.R_elder' (by (with_reducible repeat (first | apply Kd.R_alloc | apply Kd.R_drewN | apply Kd.R_drew)); exact HO330.out) (Kd.R_base ho0) hb); have n5_ := Aside0.mk (Kd.R_lower (Kd.R_new' (Kd.R_new' (Kd.R_new' (Kd.R_new' (Kd.R_new' ho0 (Kd.R_lt (by (with_reducible repeat (first | apply Kd.R_alloc | apply Kd.R_drewN | apply Kd.R_drew)); exact HO_6.out))) (Kd.R_lt (by (with_reducible repeat (first | apply Kd.R_alloc | apply Kd.R_drewN | apply Kd.R_drew)); exact HO_7.out))) (Kd.R_lt (by (with_reducible repeat (first | apply Kd.R_alloc | apply Kd.R_drewN | apply Kd.R_drew)); exact HO_8.out))) (Kd.R_lt (by (with_reducible repeat (first | apply Kd.R_alloc | apply Kd.R_drewN | apply Kd.R_drew)); exact HO327.out))) (Kd.R_lt (by (with_reducible repeat (first | apply Kd.R_alloc | apply Kd.R_drewN | apply Kd.R_drew)); exact HO330.out))) (below_size (by repeat (first | (with_reducible first | exact HB.out | apply pA | apply pN | apply p1_) | exact HB.out)))); have n6_ := Aside0.mk (below_step (by repeat (first | (with_reducible first | exact HB.out | apply pA | apply pN | apply p1_) | exact HB.out)) hb); clear HO_6; clear HO_7; clear HO_8; clear HO327; clear HO330; clear HB; have HO_6 := n0_; have HO_7 := n1_; have HO_8 := n2_; have HO327 := n3_; have HO330 := n4_; have HO333 := n5_; have HB := n6_; clear n0_ n1_ n2_ n3_ n4_ n5_ n6_; (try clear hb); (try clear hb2); (try clear hk); (try clear hi); (try clear ho0); obtain ⟨Ao42, co42, eo42⟩ := Kd.R_slice HO333.out; subst eo42) | (go_at_call 13; (with_reducible refine (v22_SameInts.calls k2 _ _ t325 _ _ t331 t334 _ ?side1 ?side2 ?side3 ?side4 A37.out).mono ?_); (case side1 => repeat (first | exact (Kd.R_reads' HO327.out).2.2 | (with_reducible refine Kd.C_alloc ?_ _) | (with_reducible refine Kd.C_drewN ?_ _) | (with_reducible refine Kd.C_drew ?_))); (case side2 => exact (Kd.R_reads' HO327.out).2.1); (case side3 => repeat (first | exact (Kd.R_reads' HO333.out).2.2 | (with_reducible refine Kd.C_alloc ?_ _) | (with_reducible refine Kd.C_drewN ?_ _) | (with_reducible refine Kd.C_drew ?_))); (case side4 => exact (Kd.R_reads' HO333.out).2.1); rintro e w' ⟨rfl, ⟨nd, rfl⟩⟩; (try first | exact ⟨rfl, _, World.drewN_drewN _ _ _⟩ | exact ⟨rfl, _, Eq.trans (World.drewN_drewN _ _ _) (congrArg (World.drewN _) (Nat.add_assoc _ _ _))⟩))))
                  go_meet
                  case rel => exact ⟨_, (!t334), (by first | rfl | (simp; done) | (simp [*]; done)), H', ⟨by have := HJ4.out; have := HK2.out; first | omega | exact Nat.le_refl _⟩, ⟨by (with_reducible repeat (first | apply Kd.R_alloc | apply Kd.R_drewN | apply Kd.R_drew)); exact Kd.R_mono HO_6.out (fun _ hk => ⟨hk.1.1.2, hk.1.2⟩)⟩, ⟨by (with_reducible repeat (first | apply Kd.R_alloc | apply Kd.R_drewN | apply Kd.R_drew)); exact Kd.R_mono HO327.out (fun _ hk => ⟨hk.1.1.1.1.2, hk.1.2⟩)⟩, ⟨by (with_reducible repeat (first | apply Kd.R_alloc | apply Kd.R_drewN | apply Kd.R_drew)); exact Kd.R_mono HO330.out (fun _ hk => ⟨hk.1.1.1.1.2, hk.1.2⟩)⟩, ⟨by repeat (first | (with_reducible first | exact HB.out | apply pA | apply pN | apply p1_) | exact HB.out)⟩⟩
                · rw [if_neg c35] at H
                  have c35b0 : ((t325.length : Int) == (t328.length : Int)) = false := beq_eq_false_iff_ne.mpr c35
                  have c35b1 : ((t325.length : Int) != (t328.length : Int)) = true := bne_iff_ne.mpr c35
                  have c35b2 : (t325.length == t328.length) = false := by first | simpa using c35 | (simp at c35 ⊢; omega)
                  (first | rw [c35b0] | (simp only [i64_w, i32_w]; rw [c35b0]) | skip)
                  have H' := Aside0.mk H
                  clear H
                  obtain ⟨Ao43, co43, eo43⟩ := Kd.R_slice HO327.out
                  subst eo43
                  obtain ⟨Ao44, co44, eo44⟩ := Kd.R_slice HO330.out
                  subst eo44
                  go_wp2
                  repeat (go_quiet (fail); try go_wp2)
                  go_meet
                  case rel => exact ⟨_, (true), (by first | rfl | (simp; done) | (simp [*]; done)), H', ⟨by have := HJ4.out; have := HK2.out; first | omega | exact Nat.le_refl _⟩, ⟨by (with_reducible repeat (first | apply Kd.R_alloc | apply Kd.R_drewN | apply Kd.R_drew)); exact Kd.R_mono HO_6.out (fun _ hk => ⟨hk.1.2, hk.2⟩)⟩, ⟨by (with_reducible repeat (first | apply Kd.R_alloc | apply Kd.R_drewN | apply Kd.R_drew)); exact Kd.R_mono HO327.out (fun _ hk => ⟨hk.1.1.1.2, hk.2⟩)⟩, ⟨by (with_reducible repeat (first | apply Kd.R_alloc | apply Kd.R_drewN | apply Kd.R_drew)); exact Kd.R_mono HO330.out (fun _ hk => ⟨hk.1.1.1.2, hk.2⟩)⟩, ⟨by repeat (first | (with_reducible first | exact HB.out | apply pA | apply pN | apply p1_) | exact HB.out)⟩⟩
              case rest =>
                clear HC30
                try clear c1
                try clear c2
                try clear p2
                try clear c3
                try clear p3
                try clear q3
                try clear hx3
                try clear c4
                try clear p6
                try clear c13
                try clear c13b0
                try clear c14
                try clear c14b0
                try clear c15
                try clear c15b0
                try clear c16
                try clear c17
                try clear c20
                try clear c20b0
                try clear c21
                try clear c21b0
                try clear c21b1
                try clear c21b2
                try clear c23
                try clear c23b0
                try clear c24
                try clear c24b0
                try clear c25
                try clear p31
                try clear q31
                try clear hx31
                try clear p32
                try clear q32
                try clear hx32
                try clear c35
                try clear c35b0
                try clear c35b1
                try clear c35b2
                try clear hx314_0
                try clear hx321_0
                try clear p2
                try clear p3
                try clear p314
                try clear p321
                try clear p6
                try clear q3
                try clear q314
                try clear q321
                obtain ⟨kq, x85_29, rfl, HA, HJ29, HO_6, HO_12, HO_13, HB⟩ := hcut
                cases kq with
                | zero => exact absurd HA.out (by simp [w22_CSegments.j3])
                | succ kj29 =>
                  have H := HA.out
                  clear HA
                  simp only [w22_CSegments.j3] at H
                  by_cases c45 : x85_29 = true
                  · subst c45
                    have H1 : (some false) = some r := by rw [if_pos rfl] at H; exact H
                    clear H
                    have H := H1
                    clear H1
                    obtain rfl := Option.some.inj H
                    go_wp2
                    repeat (go_quiet (fail); try go_wp2)
                    go_ret
                    exact ⟨by first | rfl | (simp [errW_none, errW_some] <;> rfl) | (simp [*, errW_none, errW_some] <;> rfl), by repeat (first | (with_reducible first | exact HB.out | apply pA | apply pN | apply p1_) | exact HB.out)⟩
                  · replace c45 := Bool.eq_false_iff.mpr c45
                    subst c45
                    have H1 : (w22_CSegments.l2 kj29 true x6_4 t325 t328 0) = some r := by rw [if_neg (show ¬ (false = true) by decide)] at H; exact H
                    clear H
                    have H := H1
                    clear H1
                    have H' := Aside0.mk H
                    clear H
                    go_wp2
                    repeat (go_quiet (fail); try go_wp2)
                    go_loopg [14] kj29 (fun kq v14 w' => ∃ (x14_4 : Int), v14 = .int .i64 x14_4 ∧ Aside0 (w22_CSegments.l2 kq true x6_4 t325 t328 x14_4 = some r) ∧ Aside0 (kq ≤ kj29) ∧ Aside0 (Kd.R (Kd.int .i64) 3 w' w.heap.size (fun k_ => some k_ ≠ (v326 : Value).ownBlock ∧ some k_ ≠ (v329 : Value).ownBlock) (.slice Ao31 x6_4.length co31) x6_4) ∧ Aside0 (Kd.R (Kd.int .i64) 3 w' w.heap.size (fun k_ => some k_ ≠ ((.slice Ao31 x6_4.length co31) : Value).ownBlock ∧ some k_ ≠ (v329 : Value).ownBlock) v326 t325) ∧ Aside0 (Kd.R (Kd.int .i64) 3 w' w.heap.size (fun k_ => some k_ ≠ ((.slice Ao31 x6_4.length co31) : Value).ownBlock ∧ some k_ ≠ (v326 : Value).ownBlock) v329 t328) ∧ Aside0 (Below w.heap.size w w'))
                    case atStart => exact ⟨(0), (by first | rfl | (simp; done) | (simp [*]; done)), H', ⟨Nat.le_refl _⟩, ⟨by (with_reducible repeat (first | apply Kd.R_alloc | apply Kd.R_drewN | apply Kd.R_drew)); exact HO_6.out⟩, ⟨by (with_reducible repeat (first | apply Kd.R_alloc | apply Kd.R_drewN | apply Kd.R_drew)); exact HO_12.out⟩, ⟨by (with_reducible repeat (first | apply Kd.R_alloc | apply Kd.R_drewN | apply Kd.R_drew)); exact HO_13.out⟩, ⟨by repeat (first | (with_reducible first | exact HB.out | apply pA | apply pN | apply p1_) | exact HB.out)⟩⟩
                    case round =>
                      clear H'
                      try clear c1
                      try clear c2
                      try clear p2
                      try clear c3
                      try clear p3
                      try clear q3
                      try clear hx3
                      try clear c4
                      try clear p6
                      try clear c13
                      try clear c13b0
                      try clear c14
                      try clear c14b0
                      try clear c15
                      try clear c15b0
                      try clear c16
                      try clear c17
                      try clear c20
                      try clear c20b0
                      try clear c21
                      try clear c21b0
                      try clear c21b1
                      try clear c21b2
                      try clear c23
                      try clear c23b0
                      try clear c24
                      try clear c24b0
                      try clear c25
                      try clear p31
                      try clear q31
                      try clear hx31
                      try clear p32
                      try clear q32
                      try clear hx32
                      try clear c35
                      try clear c35b0
                      try clear c35b1
                      try clear c35b2
                      try clear c45
                      try clear hx314_0
                      try clear hx321_0
                      try clear p2
                      try clear p3
                      try clear p31
                      try clear p314
                      try clear p32
                      try clear p321
                      try clear p6
                      try clear q3
                      try clear q31
                      try clear q314
                      try clear q32
                      try clear q321
                      obtain ⟨x14_4, rfl, HA, HK4, HO_6, HO_12, HO_13, HB⟩ := hrel
                      cases gk with
                      | zero => exact absurd HA.out (by simp [w22_CSegments.l2])
                      | succ k4 =>
                        have H := HA.out
                        clear HA
                        simp only [w22_CSegments.l2] at H
                        by_cases c46 : x14_4 < (t325.length : Int)
                        · rw [if_pos c46] at H
                          have c46b0 : decide (x14_4 < (t325.length : Int)) = true := decide_eq_true c46
                          clear c46
                          have H' := Aside0.mk H
                          clear H
                          obtain ⟨Ao47, co47, eo47⟩ := Kd.R_slice HO_12.out
                          subst eo47
                          go_wp2
                          repeat (go_quiet (fail); try go_wp2)
                          go_loopg [15, 16] k4 (fun kq v15 v16 w' => ∃ (x15_5 : Bool) (x16_5 : Int), v15 = .bool x15_5 ∧ v16 = .int .i64 x16_5 ∧ Aside0 (w22_CSegments.l3 kq true x6_4 t325 t328 x14_4 x15_5 x16_5 = some r) ∧ Aside0 (kq ≤ k4) ∧ Aside0 (Kd.R (Kd.int .i64) 3 w' w.heap.size (fun k_ => some k_ ≠ ((.slice Ao47 t325.length co47) : Value).ownBlock ∧ some k_ ≠ (v329 : Value).ownBlock) (.slice Ao31 x6_4.length co31) x6_4) ∧ Aside0 (Kd.R (Kd.int .i64) 3 w' w.heap.size (fun k_ => some k_ ≠ ((.slice Ao31 x6_4.length co31) : Value).ownBlock ∧ some k_ ≠ (v329 : Value).ownBlock) (.slice Ao47 t325.length co47) t325) ∧ Aside0 (Kd.R (Kd.int .i64) 3 w' w.heap.size (fun k_ => some k_ ≠ ((.slice Ao31 x6_4.length co31) : Value).ownBlock ∧ some k_ ≠ ((.slice Ao47 t325.length co47) : Value).ownBlock) v329 t328) ∧ Aside0 (Below w.heap.size w w'))
                          case atStart => exact ⟨(false), (0), (by first | rfl | (simp; done) | (simp [*]; done)), (by first | rfl | (simp; done) | (simp [*]; done)), H', ⟨Nat.le_refl _⟩, ⟨by (with_reducible repeat (first | apply Kd.R_alloc | apply Kd.R_drewN | apply Kd.R_drew)); exact HO_6.out⟩, ⟨by (with_reducible repeat (first | apply Kd.R_alloc | apply Kd.R_drewN | apply Kd.R_drew)); exact HO_12.out⟩, ⟨by (with_reducible repeat (first | apply Kd.R_alloc | apply Kd.R_drewN | apply Kd.R_drew)); exact HO_13.out⟩, ⟨by repeat (first | (with_reducible first | exact HB.out | apply pA | apply pN | apply p1_) | exact HB.out)⟩⟩
                          case round =>
                            clear H'
                            try clear c1
                            try clear c2
                            try clear p2
                            try clear c3
                            try clear p3
                            try clear q3
                            try clear hx3
                            try clear c4
                            try clear p6
                            try clear c13
                            try clear c13b0
                            try clear c14
                            try clear c14b0
                            try clear c15
                            try clear c15b0
                            try clear c16
                            try clear c17
                            try clear c20
                            try clear c20b0
                            try clear c21
                            try clear c21b0
                            try clear c21b1
                            try clear c21b2
                            try clear c23
                            try clear c23b0
                            try clear c24
                            try clear c24b0
                            try clear c25
                            try clear p31
                            try clear q31
                            try clear hx31
                            try clear p32
                            try clear q32
                            try clear hx32
                            try clear c35
                            try clear c35b0
                            try clear c35b1
                            try clear c35b2
                            try clear c45
                            try clear c46
                            try clear c46b0
                            try clear hx314_0
                            try clear hx321_0
                            try clear p2
                            try clear p3
                            try clear p31
                            try clear p314
                            try clear p32
                            try clear p321
                            try clear p6
                            try clear q3
                            try clear q31
                            try clear q314
                            try clear q32
                            try clear q321
                            obtain ⟨x15_5, x16_5, rfl, rfl, HA, HK5, HO_6, HO_12, HO_13, HB⟩ := hrel
                            cases gk with
                            | zero => exact absurd HA.out (by simp [w22_CSegments.l3])
                            | succ k5 =>
                              have H := HA.out
                              clear HA
                              simp only [w22_CSegments.l3] at H
                              by_cases c48 : x16_5 < (x6_4.length : Int)
                              · rw [if_pos c48] at H
                                have c48b0 : decide (x16_5 < (x6_4.length : Int)) = true := decide_eq_true c48
                                clear c48
                                by_cases c49 : x15_5 = true
                                · subst c49
                                  have H1 : (w22_CSegments.l3 k5 true x6_4 t325 t328 x14_4 true (wrap64 (x16_5 + 1))) = some r := by rw [if_pos rfl] at H; exact H
                                  clear H
                                  have H := H1
                                  clear H1
                                  have H' := Aside0.mk H
                                  clear H
                                  go_wp2
                                  repeat (go_quiet (fail); try go_wp2)
                                  go_roundg k5
                                  case measure => have := HJ4.out; have := HK2.out; have := HJ29.out; have := HK4.out; have := HK5.out; omega
                                  case rel => exact ⟨(true), (wrap64 (x16_5 + 1)), (by first | rfl | (simp; done) | (simp [*]; done)), (by first | rfl | (simp; done) | (simp [*]; done)), H', ⟨by have := HJ4.out; have := HK2.out; have := HJ29.out; have := HK4.out; have := HK5.out; omega⟩, ⟨by (with_reducible repeat (first | apply Kd.R_alloc | apply Kd.R_drewN | apply Kd.R_drew)); exact HO_6.out⟩, ⟨by (with_reducible repeat (first | apply Kd.R_alloc | apply Kd.R_drewN | apply Kd.R_drew)); exact HO_12.out⟩, ⟨by (with_reducible repeat (first | apply Kd.R_alloc | apply Kd.R_drewN | apply Kd.R_drew)); exact HO_13.out⟩, ⟨by repeat (first | (with_reducible first | exact HB.out | apply pA | apply pN | apply p1_) | exact HB.out)⟩⟩
                                · replace c49 := Bool.eq_false_iff.mpr c49
                                  subst c49
                                  have H1 : (if 0 ≤ x16_5 then (if 0 ≤ x14_4 then (if x14_4 < (t325.length : Int) then (if (rd x6_4 x16_5) ≥ (wrap64 (16 * (rd t325 x14_4))) then (w22_CSegments.l3 k5 true x6_4 t325 t328 x14_4 (decide ((rd x6_4 x16_5) < (wrap64 ((wrap64 (16 * (rd t325 x14_4))) + 16)))) (wrap64 (x16_5 + 1))) else (w22_CSegments.l3 k5 true x6_4 t325 t328 x14_4 false (wrap64 (x16_5 + 1)))) else (none)) else (none)) else (none)) = some r := by rw [if_neg (show ¬ (false = true) by decide)] at H; exact H
                                  clear H
                                  have H := H1
                                  clear H1
                                  by_cases c50 : 0 ≤ x16_5
                                  · rw [if_pos c50] at H
                                    have c50b0 : decide (0 ≤ x16_5) = true := decide_eq_true c50
                                    clear c50
                                    by_cases c51 : 0 ≤ x14_4
                                    · rw [if_pos c51] at H
                                      have c51b0 : decide (0 ≤ x14_4) = true := decide_eq_true c51
                                      clear c51
                                      by_cases c52 : x14_4 < (t325.length : Int)
                                      · rw [if_pos c52] at H
                                        have c52b0 : decide (x14_4 < (t325.length : Int)) = true := decide_eq_true c52
                                        clear c52
                                        by_cases c53 : (rd x6_4 x16_5) ≥ (wrap64 (16 * (rd t325 x14_4)))
                                        · rw [if_pos c53] at H
                                          have c53b0 : decide ((wrap64 (16 * (rd t325 x14_4))) ≤ (rd x6_4 x16_5)) = true := decide_eq_true c53
                                          clear c53
                                          have H' := Aside0.mk H
                                          clear H
                                          have p335 : 0 ≤ (x16_5 : Int) := of_decide_eq_true (by first | (with_reducible assumption) | assumption)
                                          have q335 : x16_5 < (x6_4.length : Int) := of_decide_eq_true (by first | (with_reducible assumption) | assumption)
                                          obtain ⟨ad335, e335, hx335_0⟩ := Kd.at_int (Kd.R_reads' HO_6.out).2.2 x16_5 p335 q335
                                          cases e335
                                          replace p335 := eq_true p335
                                          replace q335 := eq_true q335
                                          have p336 : 0 ≤ (x14_4 : Int) := of_decide_eq_true (by first | (with_reducible assumption) | assumption)
                                          have q336 : x14_4 < (t325.length : Int) := of_decide_eq_true (by first | (with_reducible assumption) | assumption)
                                          obtain ⟨ad336, e336, hx336_0⟩ := Kd.at_int (Kd.R_reads' HO_12.out).2.2 x14_4 p336 q336
                                          cases e336
                                          replace p336 := eq_true p336
                                          replace q336 := eq_true q336
                                          have p337 : 0 ≤ (x16_5 : Int) := of_decide_eq_true (by first | (with_reducible assumption) | assumption)
                                          have q337 : x16_5 < (x6_4.length : Int) := of_decide_eq_true (by first | (with_reducible assumption) | assumption)
                                          obtain ⟨ad337, e337, hx337_0⟩ := Kd.at_int (Kd.R_reads' HO_6.out).2.2 x16_5 p337 q337
                                          obtain rfl : ad335 = ad337 := (by injection e337)
                                          replace p337 := eq_true p337
                                          replace q337 := eq_true q337
                                          have p338 : 0 ≤ (x14_4 : Int) := of_decide_eq_true (by first | (with_reducible assumption) | assumption)
                                          have q338 : x14_4 < (t325.length : Int) := of_decide_eq_true (by first | (with_reducible assumption) | assumption)
                                          obtain ⟨ad338, e338, hx338_0⟩ := Kd.at_int (Kd.R_reads' HO_12.out).2.2 x14_4 p338 q338
                                          obtain rfl : ad336 = ad338 := (by injection e338)
                                          replace p338 := eq_true p338
                                          replace q338 := eq_true q338
                                          go_wp2
                                          repeat (go_quiet (fail); try go_wp2)
                                          go_roundg k5
                                          case measure => have := HJ4.out; have := HK2.out; have := HJ29.out; have := HK4.out; have := HK5.out; omega
                                          case rel => exact ⟨(decide ((rd x6_4 x16_5) < (wrap64 ((wrap64 (16 * (rd t325 x14_4))) + 16)))), (wrap64 (x16_5 + 1)), (by first | rfl | (simp; done) | (simp [*]; done)), (by first | rfl | (simp; done) | (simp [*]; done)), H', ⟨by have := HJ4.out; have := HK2.out; have := HJ29.out; have := HK4.out; have := HK5.out; omega⟩, ⟨by (with_reducible repeat (first | apply Kd.R_alloc | apply Kd.R_drewN | apply Kd.R_drew)); exact HO_6.out⟩, ⟨by (with_reducible repeat (first | apply Kd.R_alloc | apply Kd.R_drewN | apply Kd.R_drew)); exact HO_12.out⟩, ⟨by (with_reducible repeat (first | apply Kd.R_alloc | apply Kd.R_drewN | apply Kd.R_drew)); exact HO_13.out⟩, ⟨by repeat (first | (with_reducible first | exact HB.out | apply pA | apply pN | apply p1_) | exact HB.out)⟩⟩
                                        · rw [if_neg c53] at H
                                          have c53b0 : decide ((wrap64 (16 * (rd t325 x14_4))) ≤ (rd x6_4 x16_5)) = false := decide_eq_false c53
                                          clear c53
                                          have H' := Aside0.mk H
                                          clear H
                                          have p335 : 0 ≤ (x16_5 : Int) := of_decide_eq_true (by first | (with_reducible assumption) | assumption)
                                          have q335 : x16_5 < (x6_4.length : Int) := of_decide_eq_true (by first | (with_reducible assumption) | assumption)
                                          obtain ⟨ad335, e335, hx335_0⟩ := Kd.at_int (Kd.R_reads' HO_6.out).2.2 x16_5 p335 q335
                                          cases e335
                                          replace p335 := eq_true p335
                                          replace q335 := eq_true q335
                                          have p336 : 0 ≤ (x14_4 : Int) := of_decide_eq_true (by first | (with_reducible assumption) | assumption)
                                          have q336 : x14_4 < (t325.length : Int) := of_decide_eq_true (by first | (with_reducible assumption) | assumption)
                                          obtain ⟨ad336, e336, hx336_0⟩ := Kd.at_int (Kd.R_reads' HO_12.out).2.2 x14_4 p336 q336
                                          cases e336
                                          replace p336 := eq_true p336
                                          replace q336 := eq_true q336
                                          go_wp2
                                          repeat (go_quiet (fail); try go_wp2)
                                          go_roundg k5
                                          case measure => have := HJ4.out; have := HK2.out; have := HJ29.out; have := HK4.out; have := HK5.out; omega
                                          case rel => exact ⟨(false), (wrap64 (x16_5 + 1)), (by first | rfl | (simp; done) | (simp [*]; done)), (by first | rfl | (simp; done) | (simp [*]; done)), H', ⟨by have := HJ4.out; have := HK2.out; have := HJ29.out; have := HK4.out; have := HK5.out; omega⟩, ⟨by (with_reducible repeat (first | apply Kd.R_alloc | apply Kd.R_drewN | apply Kd.R_drew)); exact HO_6.out⟩, ⟨by (with_reducible repeat (first | apply Kd.R_alloc | apply Kd.R_drewN | apply Kd.R_drew)); exact HO_12.out⟩, ⟨by (with_reducible repeat (first | apply Kd.R_alloc | apply Kd.R_drewN | apply Kd.R_drew)); exact HO_13.out⟩, ⟨by repeat (first | (with_reducible first | exact HB.out | apply pA | apply pN | apply p1_) | exact HB.out)⟩⟩
                                      · rw [if_neg c52] at H
                                        exact absurd H (by simp)
                                    · rw [if_neg c51] at H
                                      exact absurd H (by simp)
                                  · rw [if_neg c50] at H
                                    exact absurd H (by simp)
                              · rw [if_neg c48] at H
                                have c48b0 : decide (x16_5 < (x6_4.length : Int)) = false := decide_eq_false c48
                                clear c48
                                by_cases c54 : x15_5 = true
                                · subst c54
                                  have H1 : (if 0 ≤ x14_4 then (if x14_4 < (t328.length : Int) then (if x14_4 < (t325.length : Int) then (if (rd t328 x14_4) = (wrap64 ((rd t325 x14_4) + 1)) then (if x14_4 > 0 then (if 0 ≤ (wrap64 (x14_4 - 1)) then (if (wrap64 (x14_4 - 1)) < (t325.length : Int) then (if (rd t325 (wrap64 (x14_4 - 1))) ≥ (rd t325 x14_4) then (some false) else (w22_CSegments.l2 k5 true x6_4 t325 t328 (wrap64 (x14_4 + 1)))) else (none)) else (none)) else (w22_CSegments.l2 k5 true x6_4 t325 t328 (wrap64 (x14_4 + 1)))) else (some false)) else (none)) else (none)) else (none)) = some r := by rw [if_pos rfl] at H; exact H
                                  clear H
                                  have H := H1
                                  clear H1
                                  by_cases c55 : 0 ≤ x14_4
                                  · rw [if_pos c55] at H
                                    have c55b0 : decide (0 ≤ x14_4) = true := decide_eq_true c55
                                    clear c55
                                    by_cases c56 : x14_4 < (t328.length : Int)
                                    · rw [if_pos c56] at H
                                      have c56b0 : decide (x14_4 < (t328.length : Int)) = true := decide_eq_true c56
                                      clear c56
                                      by_cases c57 : x14_4 < (t325.length : Int)
                                      · rw [if_pos c57] at H
                                        have c57b0 : decide (x14_4 < (t325.length : Int)) = true := decide_eq_true c57
                                        clear c57
                                        by_cases c58 : (rd t328 x14_4) = (wrap64 ((rd t325 x14_4) + 1))
                                        · rw [if_pos c58] at H
                                          have c58b0 : ((rd t328 x14_4) == (wrap64 ((rd t325 x14_4) + 1))) = true := beq_iff_eq.mpr c58
                                          have c58b1 : ((rd t328 x14_4) != (wrap64 ((rd t325 x14_4) + 1))) = false := bne_eq_false_iff_eq.mpr c58
                                          clear c58
                                          by_cases c59 : x14_4 > 0
                                          · rw [if_pos c59] at H
                                            have c59b0 : decide (0 < x14_4) = true := decide_eq_true c59
                                            clear c59
                                            obtain ⟨ji60, hji60⟩ : ∃ j_ : Int, (wrap64 (x14_4 - 1)) = j_ := ⟨_, rfl⟩
                                            replace H : (if 0 ≤ (ji60) then (if (ji60) < (t325.length : Int) then (if (rd t325 (ji60)) ≥ (rd t325 x14_4) then (some false) else (w22_CSegments.l2 k5 true x6_4 t325 t328 (wrap64 (x14_4 + 1)))) else (none)) else (none)) = some r := by first | (rw [hji60] at H; exact H) | (simp only [hji60] at H ⊢; exact H)
                                            have hji60w : (IntKind.i64.wrap (x14_4 - 1)) = ji60 := (i64_w _).trans hji60
                                            by_cases c61 : 0 ≤ (ji60)
                                            · rw [if_pos c61] at H
                                              have c61b0 : decide (0 ≤ (ji60)) = true := decide_eq_true c61
                                              clear c61
                                              by_cases c62 : (ji60) < (t325.length : Int)
                                              · rw [if_pos c62] at H
                                                have c62b0 : decide ((ji60) < (t325.length : Int)) = true := decide_eq_true c62
                                                clear c62
                                                by_cases c63 : (rd t325 (ji60)) ≥ (rd t325 x14_4)
                                                · rw [if_pos c63] at H
                                                  have c63b0 : decide ((rd t325 x14_4) ≤ (rd t325 (ji60))) = true := decide_eq_true c63
                                                  clear c63
                                                  obtain rfl := Option.some.inj H
                                                  obtain ⟨Ao64, co64, eo64⟩ := Kd.R_slice HO_13.out
                                                  subst eo64
                                                  have p339 : 0 ≤ (x14_4 : Int) := of_decide_eq_true (by first | (with_reducible assumption) | assumption)
                                                  have q339 : x14_4 < (t328.length : Int) := of_decide_eq_true (by first | (with_reducible assumption) | assumption)
                                                  obtain ⟨ad339, e339, hx339_0⟩ := Kd.at_int (Kd.R_reads' HO_13.out).2.2 x14_4 p339 q339
                                                  cases e339
                                                  replace p339 := eq_true p339
                                                  replace q339 := eq_true q339
                                                  have p340 : 0 ≤ (x14_4 : Int) := of_decide_eq_true (by first | (with_reducible assumption) | assumption)
                                                  have q340 : x14_4 < (t325.length : Int) := of_decide_eq_true (by first | (with_reducible assumption) | assumption)
                                                  obtain ⟨ad340, e340, hx340_0⟩ := Kd.at_int (Kd.R_reads' HO_12.out).2.2 x14_4 p340 q340
                                                  cases e340
                                                  replace p340 := eq_true p340
                                                  replace q340 := eq_true q340
                                                  have p341 : 0 ≤ ((ji60) : Int) := of_decide_eq_true (by first | (with_reducible assumption) | assumption)
                                                  have q341 : (ji60) < (t325.length : Int) := of_decide_eq_true (by first | (with_reducible assumption) | assumption)
                                                  obtain ⟨ad341, e341, hx341_0⟩ := Kd.at_int (Kd.R_reads' HO_12.out).2.2 (ji60) p341 q341
                                                  obtain rfl : ad340 = ad341 := (by injection e341)
                                                  replace p341 := eq_true p341
                                                  replace q341 := eq_true q341
                                                  have p342 : 0 ≤ (x14_4 : Int) := of_decide_eq_true (by first | (with_reducible assumption) | assumption)
                                                  have q342 : x14_4 < (t325.length : Int) := of_decide_eq_true (by first | (with_reducible assumption) | assumption)
                                                  obtain ⟨ad342, e342, hx342_0⟩ := Kd.at_int (Kd.R_reads' HO_12.out).2.2 x14_4 p342 q342
                                                  obtain rfl : ad340 = ad342 := (by injection e342)
                                                  replace p342 := eq_true p342
                                                  replace q342 := eq_true q342
                                                  go_wp2
                                                  repeat (go_quiet (fail); try go_wp2)
                                                  go_ret
                                                  exact ⟨by first | rfl | (simp [errW_none, errW_some] <;> rfl) | (simp only [← hji60]; first | rfl | (simp [errW_none, errW_some] <;> rfl)) | (simp [*, errW_none, errW_some] <;> rfl), by repeat (first | (with_reducible first | exact HB.out | apply pA | apply pN | apply p1_) | exact HB.out)⟩
                                                · rw [if_neg c63] at H
                                                  have c63b0 : decide ((rd t325 x14_4) ≤ (rd t325 (ji60))) = false := decide_eq_false c63
                                                  clear c63
                                                  have H' := Aside0.mk H
                                                  clear H
                                                  obtain ⟨Ao65, co65, eo65⟩ := Kd.R_slice HO_13.out
                                                  subst eo65
                                                  have p339 : 0 ≤ (x14_4 : Int) := of_decide_eq_true (by first | (with_reducible assumption) | assumption)
                                                  have q339 : x14_4 < (t328.length : Int) := of_decide_eq_true (by first | (with_reducible assumption) | assumption)
                                                  obtain ⟨ad339, e339, hx339_0⟩ := Kd.at_int (Kd.R_reads' HO_13.out).2.2 x14_4 p339 q339
                                                  cases e339
                                                  replace p339 := eq_true p339
                                                  replace q339 := eq_true q339
                                                  have p340 : 0 ≤ (x14_4 : Int) := of_decide_eq_true (by first | (with_reducible assumption) | assumption)
                                                  have q340 : x14_4 < (t325.length : Int) := of_decide_eq_true (by first | (with_reducible assumption) | assumption)
                                                  obtain ⟨ad340, e340, hx340_0⟩ := Kd.at_int (Kd.R_reads' HO_12.out).2.2 x14_4 p340 q340
                                                  cases e340
                                                  replace p340 := eq_true p340
                                                  replace q340 := eq_true q340
                                                  have p341 : 0 ≤ ((ji60) : Int) := of_decide_eq_true (by first | (with_reducible assumption) | assumption)
                                                  have q341 : (ji60) < (t325.length : Int) := of_decide_eq_true (by first | (with_reducible assumption) | assumption)
                                                  obtain ⟨ad341, e341, hx341_0⟩ := Kd.at_int (Kd.R_reads' HO_12.out).2.2 (ji60) p341 q341
                                                  obtain rfl : ad340 = ad341 := (by injection e341)
                                                  replace p341 := eq_true p341
                                                  replace q341 := eq_true q341
                                                  have p342 : 0 ≤ (x14_4 : Int) := of_decide_eq_true (by first | (with_reducible assumption) | assumption)
                                                  have q342 : x14_4 < (t325.length : Int) := of_decide_eq_true (by first | (with_reducible assumption) | assumption)
                                                  obtain ⟨ad342, e342, hx342_0⟩ := Kd.at_int (Kd.R_reads' HO_12.out).2.2 x14_4 p342 q342
                                                  obtain rfl : ad340 = ad342 := (by injection e342)
                                                  replace p342 := eq_true p342
                                                  replace q342 := eq_true q342
                                                  go_wp2
                                                  repeat (go_quiet (fail); try go_wp2)
                                                  go_roundg k5
                                                  case measure => have := HJ4.out; have := HK2.out; have := HJ29.out; have := HK4.out; have := HK5.out; omega
                                                  case rel => exact ⟨(wrap64 (x14_4 + 1)), (by first | rfl | (simp; done) | (simp [*]; done)), H', ⟨by have := HJ4.out; have := HK2.out; have := HJ29.out; have := HK4.out; have := HK5.out; omega⟩, ⟨by (with_reducible repeat (first | apply Kd.R_alloc | apply Kd.R_drewN | apply Kd.R_drew)); exact HO_6.out⟩, ⟨by (with_reducible repeat (first | apply Kd.R_alloc | apply Kd.R_drewN | apply Kd.R_drew)); exact HO_12.out⟩, ⟨by (with_reducible repeat (first | apply Kd.R_alloc | apply Kd.R_drewN | apply Kd.R_drew)); exact HO_13.out⟩, ⟨by repeat (first | (with_reducible first | exact HB.out | apply pA | apply pN | apply p1_) | exact HB.out)⟩⟩
                                              · rw [if_neg c62] at H
                                                exact absurd H (by simp)
                                            · rw [if_neg c61] at H
                                              exact absurd H (by simp)
                                          · rw [if_neg c59] at H
                                            have c59b0 : decide (0 < x14_4) = false := decide_eq_false c59
                                            clear c59
                                            have H' := Aside0.mk H
                                            clear H
                                            obtain ⟨Ao66, co66, eo66⟩ := Kd.R_slice HO_13.out
                                            subst eo66
                                            have p339 : 0 ≤ (x14_4 : Int) := of_decide_eq_true (by first | (with_reducible assumption) | assumption)
                                            have q339 : x14_4 < (t328.length : Int) := of_decide_eq_true (by first | (with_reducible assumption) | assumption)
                                            obtain ⟨ad339, e339, hx339_0⟩ := Kd.at_int (Kd.R_reads' HO_13.out).2.2 x14_4 p339 q339
                                            cases e339
                                            replace p339 := eq_true p339
                                            replace q339 := eq_true q339
                                            have p340 : 0 ≤ (x14_4 : Int) := of_decide_eq_true (by first | (with_reducible assumption) | assumption)
                                            have q340 : x14_4 < (t325.length : Int) := of_decide_eq_true (by first | (with_reducible assumption) | assumption)
                                            obtain ⟨ad340, e340, hx340_0⟩ := Kd.at_int (Kd.R_reads' HO_12.out).2.2 x14_4 p340 q340
                                            cases e340
                                            replace p340 := eq_true p340
                                            replace q340 := eq_true q340
                                            go_wp2
                                            repeat (go_quiet (fail); try go_wp2)
                                            go_roundg k5
                                            case measure => have := HJ4.out; have := HK2.out; have := HJ29.out; have := HK4.out; have := HK5.out; omega
                                            case rel => exact ⟨(wrap64 (x14_4 + 1)), (by first | rfl | (simp; done) | (simp [*]; done)), H', ⟨by have := HJ4.out; have := HK2.out; have := HJ29.out; have := HK4.out; have := HK5.out; omega⟩, ⟨by (with_reducible repeat (first | apply Kd.R_alloc | apply Kd.R_drewN | apply Kd.R_drew)); exact HO_6.out⟩, ⟨by (with_reducible repeat (first | apply Kd.R_alloc | apply Kd.R_drewN | apply Kd.R_drew)); exact HO_12.out⟩, ⟨by (with_reducible repeat (first | apply Kd.R_alloc | apply Kd.R_drewN | apply Kd.R_drew)); exact HO_13.out⟩, ⟨by repeat (first | (with_reducible first | exact HB.out | apply pA | apply pN | apply p1_) | exact HB.out)⟩⟩
                                        · rw [if_neg c58] at H
                                          have c58b0 : ((rd t328 x14_4) == (wrap64 ((rd t325 x14_4) + 1))) = false := beq_eq_false_iff_ne.mpr c58
                                          have c58b1 : ((rd t328 x14_4) != (wrap64 ((rd t325 x14_4) + 1))) = true := bne_iff_ne.mpr c58
                                          obtain rfl := Option.some.inj H
                                          obtain ⟨Ao67, co67, eo67⟩ := Kd.R_slice HO_13.out
                                          subst eo67
                                          have p339 : 0 ≤ (x14_4 : Int) := of_decide_eq_true (by first | (with_reducible assumption) | assumption)
                                          have q339 : x14_4 < (t328.length : Int) := of_decide_eq_true (by first | (with_reducible assumption) | assumption)
                                          obtain ⟨ad339, e339, hx339_0⟩ := Kd.at_int (Kd.R_reads' HO_13.out).2.2 x14_4 p339 q339
                                          cases e339
                                          replace p339 := eq_true p339
                                          replace q339 := eq_true q339
                                          have p340 : 0 ≤ (x14_4 : Int) := of_decide_eq_true (by first | (with_reducible assumption) | assumption)
                                          have q340 : x14_4 < (t325.length : Int) := of_decide_eq_true (by first | (with_reducible assumption) | assumption)
                                          obtain ⟨ad340, e340, hx340_0⟩ := Kd.at_int (Kd.R_reads' HO_12.out).2.2 x14_4 p340 q340
                                          cases e340
                                          replace p340 := eq_true p340
                                          replace q340 := eq_true q340
                                          go_wp2
                                          repeat (go_quiet (fail); try go_wp2)
                                          go_ret
                                          exact ⟨by first | rfl | (simp [errW_none, errW_some] <;> rfl) | (simp [*, errW_none, errW_some] <;> rfl), by repeat (first | (with_reducible first | exact HB.out | apply pA | apply pN | apply p1_) | exact HB.out)⟩
                                      · rw [if_neg c57] at H
                                        exact absurd H (by simp)
                                    · rw [if_neg c56] at H
                                      exact absurd H (by simp)
                                  · rw [if_neg c55] at H
                                    exact absurd H (by simp)
                                · replace c54 := Bool.eq_false_iff.mpr c54
                                  subst c54
                                  have H1 : (some false) = some r := by rw [if_neg (show ¬ (false = true) by decide)] at H; exact H
                                  clear H
                                  have H := H1
                                  clear H1
                                  obtain rfl := Option.some.inj H
                                  go_wp2
                                  repeat (go_quiet (fail); try go_wp2)
                                  go_ret
                                  exact ⟨by first | rfl | (simp [errW_none, errW_some] <;> rfl) | (simp [*, errW_none, errW_some] <;> rfl), by repeat (first | (with_reducible first | exact HB.out | apply pA | apply pN | apply p1_) | exact HB.out)⟩
                        · rw [if_neg c46] at H
                          have c46b0 : decide (x14_4 < (t325.length : Int)) = false := decide_eq_false c46
                          clear c46
                          have H' := Aside0.mk H
                          clear H
                          obtain ⟨Ao68, co68, eo68⟩ := Kd.R_slice HO_12.out
                          subst eo68
                          go_wp2
                          repeat (go_quiet (fail); try go_wp2)
                          go_loopg [17] k4 (fun kq v17 w' => ∃ (x17_5 : Int), v17 = .int .i64 x17_5 ∧ Aside0 (w22_CSegments.l4 kq true x6_4 t325 x17_5 = some r) ∧ Aside0 (kq ≤ k4) ∧ Aside0 (Kd.R (Kd.int .i64) 3 w' w.heap.size (fun k_ => some k_ ≠ ((.slice Ao68 t325.length co68) : Value).ownBlock) (.slice Ao31 x6_4.length co31) x6_4) ∧ Aside0 (Kd.R (Kd.int .i64) 3 w' w.heap.size (fun k_ => some k_ ≠ ((.slice Ao31 x6_4.length co31) : Value).ownBlock) (.slice Ao68 t325.length co68) t325) ∧ Aside0 (Below w.heap.size w w'))
                          case atStart => exact ⟨(0), (by first | rfl | (simp; done) | (simp [*]; done)), H', ⟨Nat.le_refl _⟩, ⟨by (with_reducible repeat (first | apply Kd.R_alloc | apply Kd.R_drewN | apply Kd.R_drew)); exact Kd.R_mono HO_6.out (fun _ hk => hk.1)⟩, ⟨by (with_reducible repeat (first | apply Kd.R_alloc | apply Kd.R_drewN | apply Kd.R_drew)); exact Kd.R_mono HO_12.out (fun _ hk => hk.1)⟩, ⟨by repeat (first | (with_reducible first | exact HB.out | apply pA | apply pN | apply p1_) | exact HB.out)⟩⟩
                          case round =>
                            clear H'
                            try clear c1
                            try clear c2
                            try clear p2
                            try clear c3
                            try clear p3
                            try clear q3
                            try clear hx3
                            try clear c4
                            try clear c5
                            try clear c6
                            try clear p6
                            try clear c13
                            try clear c13b0
                            try clear c14
                            try clear c14b0
                            try clear c15
                            try clear c15b0
                            try clear c16
                            try clear c17
                            try clear c20
                            try clear c20b0
                            try clear c21
                            try clear c21b0
                            try clear c21b1
                            try clear c21b2
                            try clear c23
                            try clear c23b0
                            try clear c24
                            try clear c24b0
                            try clear c25
                            try clear p31
                            try clear q31
                            try clear hx31
                            try clear p32
                            try clear q32
                            try clear hx32
                            try clear p33
                            try clear q33
                            try clear hx33
                            try clear p34
                            try clear q34
                            try clear hx34
                            try clear c35
                            try clear c35b0
                            try clear c35b1
                            try clear c35b2
                            try clear c45
                            try clear c46
                            try clear c46b0
                            try clear c48
                            try clear c48b0
                            try clear c49
                            try clear c50
                            try clear c50b0
                            try clear c51
                            try clear c51b0
                            try clear c52
                            try clear c52b0
                            try clear c53
                            try clear c53b0
                            try clear c54
                            try clear c55
                            try clear c55b0
                            try clear c56
                            try clear c56b0
                            try clear c57
                            try clear c57b0
                            try clear c58
                            try clear c58b0
                            try clear c58b1
                            try clear c59
                            try clear c59b0
                            try clear c61
                            try clear c61b0
                            try clear c62
                            try clear c62b0
                            try clear c63
                            try clear c63b0
                            try clear p64
                            try clear hx314_0
                            try clear hx321_0
                            try clear hx335_0
                            try clear hx336_0
                            try clear hx337_0
                            try clear hx338_0
                            try clear hx339_0
                            try clear hx340_0
                            try clear hx341_0
                            try clear hx342_0
                            try clear p2
                            try clear p3
                            try clear p31
                            try clear p314
                            try clear p32
                            try clear p321
                            try clear p335
                            try clear p336
                            try clear p337
                            try clear p338
                            try clear p339
                            try clear p340
                            try clear p341
                            try clear p342
                            try clear p6
                            try clear q3
                            try clear q31
                            try clear q314
                            try clear q32
                            try clear q321
                            try clear q335
                            try clear q336
                            try clear q337
                            try clear q338
                            try clear q339
                            try clear q340
                            try clear q341
                            try clear q342
                            obtain ⟨x17_5, rfl, HA, HK5, HO_6, HO_12, HB⟩ := hrel
                            cases gk with
                            | zero => exact absurd HA.out (by simp [w22_CSegments.l4])
                            | succ k5 =>
                              have H := HA.out
                              clear HA
                              simp only [w22_CSegments.l4] at H
                              by_cases c69 : x17_5 < (x6_4.length : Int)
                              · rw [if_pos c69] at H
                                have c69b0 : decide (x17_5 < (x6_4.length : Int)) = true := decide_eq_true c69
                                clear c69
                                have H' := Aside0.mk H
                                clear H
                                go_wp2
                                repeat (go_quiet (fail); try go_wp2)
                                go_loopg [18, 19] k5 (fun kq v18 v19 w' => ∃ (x18_6 : Bool) (x19_6 : Int), v18 = .bool x18_6 ∧ v19 = .int .i64 x19_6 ∧ Aside0 (w22_CSegments.l5 kq true x6_4 t325 x17_5 x18_6 x19_6 = some r) ∧ Aside0 (kq ≤ k5) ∧ Aside0 (Kd.R (Kd.int .i64) 3 w' w.heap.size (fun k_ => some k_ ≠ ((.slice Ao68 t325.length co68) : Value).ownBlock) (.slice Ao31 x6_4.length co31) x6_4) ∧ Aside0 (Kd.R (Kd.int .i64) 3 w' w.heap.size (fun k_ => some k_ ≠ ((.slice Ao31 x6_4.length co31) : Value).ownBlock) (.slice Ao68 t325.length co68) t325) ∧ Aside0 (Below w.heap.size w w'))
                                case atStart => exact ⟨(false), (0), (by first | rfl | (simp; done) | (simp [*]; done)), (by first | rfl | (simp; done) | (simp [*]; done)), H', ⟨Nat.le_refl _⟩, ⟨by (with_reducible repeat (first | apply Kd.R_alloc | apply Kd.R_drewN | apply Kd.R_drew)); exact HO_6.out⟩, ⟨by (with_reducible repeat (first | apply Kd.R_alloc | apply Kd.R_drewN | apply Kd.R_drew)); exact HO_12.out⟩, ⟨by repeat (first | (with_reducible first | exact HB.out | apply pA | apply pN | apply p1_) | exact HB.out)⟩⟩
                                case round =>
                                  clear H'
                                  try clear c1
                                  try clear c2
                                  try clear p2
                                  try clear c3
                                  try clear p3
                                  try clear q3
                                  try clear hx3
                                  try clear c4
                                  try clear c5
                                  try clear c6
                                  try clear p6
                                  try clear c13
                                  try clear c13b0
                                  try clear c14
                                  try clear c14b0
                                  try clear c15
                                  try clear c15b0
                                  try clear c16
                                  try clear c17
                                  try clear c20
                                  try clear c20b0
                                  try clear c21
                                  try clear c21b0
                                  try clear c21b1
                                  try clear c21b2
                                  try clear c23
                                  try clear c23b0
                                  try clear c24
                                  try clear c24b0
                                  try clear c25
                                  try clear p31
                                  try clear q31
                                  try clear hx31
                                  try clear p32
                                  try clear q32
                                  try clear hx32
                                  try clear p33
                                  try clear q33
                                  try clear hx33
                                  try clear p34
                                  try clear q34
                                  try clear hx34
                                  try clear c35
                                  try clear c35b0
                                  try clear c35b1
                                  try clear c35b2
                                  try clear c45
                                  try clear c46
                                  try clear c46b0
                                  try clear c48
                                  try clear c48b0
                                  try clear c49
                                  try clear c50
                                  try clear c50b0
                                  try clear c51
                                  try clear c51b0
                                  try clear c52
                                  try clear c52b0
                                  try clear c53
                                  try clear c53b0
                                  try clear c54
                                  try clear c55
                                  try clear c55b0
                                  try clear c56
                                  try clear c56b0
                                  try clear c57
                                  try clear c57b0
                                  try clear c58
                                  try clear c58b0
                                  try clear c58b1
                                  try clear c59
                                  try clear c59b0
                                  try clear c61
                                  try clear c61b0
                                  try clear c62
                                  try clear c62b0
                                  try clear c63
                                  try clear c63b0
                                  try clear p64
                                  try clear c69
                                  try clear c69b0
                                  try clear hx314_0
                                  try clear hx321_0
                                  try clear hx335_0
                                  try clear hx336_0
                                  try clear hx337_0
                                  try clear hx338_0
                                  try clear hx339_0
                                  try clear hx340_0
                                  try clear hx341_0
                                  try clear hx342_0
                                  try clear p2
                                  try clear p3
                                  try clear p31
                                  try clear p314
                                  try clear p32
                                  try clear p321
                                  try clear p33
                                  try clear p335
                                  try clear p336
                                  try clear p337
                                  try clear p338
                                  try clear p339
                                  try clear p34
                                  try clear p340
                                  try clear p341
                                  try clear p342
                                  try clear p6
                                  try clear p64
                                  try clear q3
                                  try clear q31
                                  try clear q314
                                  try clear q32
                                  try clear q321
                                  try clear q33
                                  try clear q335
                                  try clear q336
                                  try clear q337
                                  try clear q338
                                  try clear q339
                                  try clear q34
                                  try clear q340
                                  try clear q341
                                  try clear q342
                                  obtain ⟨x18_6, x19_6, rfl, rfl, HA, HK6, HO_6, HO_12, HB⟩ := hrel
                                  cases gk with
                                  | zero => exact absurd HA.out (by simp [w22_CSegments.l5])
                                  | succ k6 =>
                                    have H := HA.out
                                    clear HA
                                    simp only [w22_CSegments.l5] at H
                                    by_cases c70 : x19_6 < (t325.length : Int)
                                    · rw [if_pos c70] at H
                                      have c70b0 : decide (x19_6 < (t325.length : Int)) = true := decide_eq_true c70
                                      clear c70
                                      by_cases c71 : x18_6 = true
                                      · subst c71
                                        have H1 : (w22_CSegments.l5 k6 true x6_4 t325 x17_5 true (wrap64 (x19_6 + 1))) = some r := by rw [if_pos rfl] at H; exact H
                                        clear H
                                        have H := H1
                                        clear H1
                                        have H' := Aside0.mk H
                                        clear H
                                        go_wp2
                                        repeat (go_quiet (fail); try go_wp2)
                                        go_roundg k6
                                        case measure => have := HJ4.out; have := HK2.out; have := HJ29.out; have := HK4.out; have := HK5.out; have := HK6.out; omega
                                        case rel => exact ⟨(true), (wrap64 (x19_6 + 1)), (by first | rfl | (simp; done) | (simp [*]; done)), (by first | rfl | (simp; done) | (simp [*]; done)), H', ⟨by have := HJ4.out; have := HK2.out; have := HJ29.out; have := HK4.out; have := HK5.out; have := HK6.out; omega⟩, ⟨by (with_reducible repeat (first | apply Kd.R_alloc | apply Kd.R_drewN | apply Kd.R_drew)); exact HO_6.out⟩, ⟨by (with_reducible repeat (first | apply Kd.R_alloc | apply Kd.R_drewN | apply Kd.R_drew)); exact HO_12.out⟩, ⟨by repeat (first | (with_reducible first | exact HB.out | apply pA | apply pN | apply p1_) | exact HB.out)⟩⟩
                                      · replace c71 := Bool.eq_false_iff.mpr c71
                                        subst c71
                                        have H1 : (if 0 ≤ x17_5 then (if x17_5 < (x6_4.length : Int) then (if 0 ≤ x19_6 then (if (rd x6_4 x17_5) ≥ (wrap64 (16 * (rd t325 x19_6))) then (w22_CSegments.l5 k6 true x6_4 t325 x17_5 (decide ((rd x6_4 x17_5) < (wrap64 ((wrap64 (16 * (rd t325 x19_6))) + 16)))) (wrap64 (x19_6 + 1))) else (w22_CSegments.l5 k6 true x6_4 t325 x17_5 false (wrap64 (x19_6 + 1)))) else (none)) else (none)) else (none)) = some r := by rw [if_neg (show ¬ (false = true) by decide)] at H; exact H
                                        clear H
                                        have H := H1
                                        clear H1
                                        by_cases c72 : 0 ≤ x17_5
                                        · rw [if_pos c72] at H
                                          have c72b0 : decide (0 ≤ x17_5) = true := decide_eq_true c72
                                          clear c72
                                          by_cases c73 : x17_5 < (x6_4.length : Int)
                                          · rw [if_pos c73] at H
                                            have c73b0 : decide (x17_5 < (x6_4.length : Int)) = true := decide_eq_true c73
                                            clear c73
                                            by_cases c74 : 0 ≤ x19_6
                                            · rw [if_pos c74] at H
                                              have c74b0 : decide (0 ≤ x19_6) = true := decide_eq_true c74
                                              clear c74
                                              by_cases c75 : (rd x6_4 x17_5) ≥ (wrap64 (16 * (rd t325 x19_6)))
                                              · rw [if_pos c75] at H
                                                have c75b0 : decide ((wrap64 (16 * (rd t325 x19_6))) ≤ (rd x6_4 x17_5)) = true := decide_eq_true c75
                                                clear c75
                                                have H' := Aside0.mk H
                                                clear H
                                                have p343 : 0 ≤ (x17_5 : Int) := of_decide_eq_true (by first | (with_reducible assumption) | assumption)
                                                have q343 : x17_5 < (x6_4.length : Int) := of_decide_eq_true (by first | (with_reducible assumption) | assumption)
                                                obtain ⟨ad343, e343, hx343_0⟩ := Kd.at_int (Kd.R_reads' HO_6.out).2.2 x17_5 p343 q343
                                                cases e343
                                                replace p343 := eq_true p343
                                                replace q343 := eq_true q343
                                                have p344 : 0 ≤ (x19_6 : Int) := of_decide_eq_true (by first | (with_reducible assumption) | assumption)
                                                have q344 : x19_6 < (t325.length : Int) := of_decide_eq_true (by first | (with_reducible assumption) | assumption)
                                                obtain ⟨ad344, e344, hx344_0⟩ := Kd.at_int (Kd.R_reads' HO_12.out).2.2 x19_6 p344 q344
                                                cases e344
                                                replace p344 := eq_true p344
                                                replace q344 := eq_true q344
                                                have p345 : 0 ≤ (x17_5 : Int) := of_decide_eq_true (by first | (with_reducible assumption) | assumption)
                                                have q345 : x17_5 < (x6_4.length : Int) := of_decide_eq_true (by first | (with_reducible assumption) | assumption)
                                                obtain ⟨ad345, e345, hx345_0⟩ := Kd.at_int (Kd.R_reads' HO_6.out).2.2 x17_5 p345 q345
                                                obtain rfl : ad343 = ad345 := (by injection e345)
                                                replace p345 := eq_true p345
                                                replace q345 := eq_true q345
                                                have p346 : 0 ≤ (x19_6 : Int) := of_decide_eq_true (by first | (with_reducible assumption) | assumption)
                                                have q346 : x19_6 < (t325.length : Int) := of_decide_eq_true (by first | (with_reducible assumption) | assumption)
                                                obtain ⟨ad346, e346, hx346_0⟩ := Kd.at_int (Kd.R_reads' HO_12.out).2.2 x19_6 p346 q346
                                                obtain rfl : ad344 = ad346 := (by injection e346)
                                                replace p346 := eq_true p346
                                                replace q346 := eq_true q346
                                                go_wp2
                                                repeat (go_quiet (fail); try go_wp2)
                                                go_roundg k6
                                                case measure => have := HJ4.out; have := HK2.out; have := HJ29.out; have := HK4.out; have := HK5.out; have := HK6.out; omega
                                                case rel => exact ⟨(decide ((rd x6_4 x17_5) < (wrap64 ((wrap64 (16 * (rd t325 x19_6))) + 16)))), (wrap64 (x19_6 + 1)), (by first | rfl | (simp; done) | (simp [*]; done)), (by first | rfl | (simp; done) | (simp [*]; done)), H', ⟨by have := HJ4.out; have := HK2.out; have := HJ29.out; have := HK4.out; have := HK5.out; have := HK6.out; omega⟩, ⟨by (with_reducible repeat (first | apply Kd.R_alloc | apply Kd.R_drewN | apply Kd.R_drew)); exact HO_6.out⟩, ⟨by (with_reducible repeat (first | apply Kd.R_alloc | apply Kd.R_drewN | apply Kd.R_drew)); exact HO_12.out⟩, ⟨by repeat (first | (with_reducible first | exact HB.out | apply pA | apply pN | apply p1_) | exact HB.out)⟩⟩
                                              · rw [if_neg c75] at H
                                                have c75b0 : decide ((wrap64 (16 * (rd t325 x19_6))) ≤ (rd x6_4 x17_5)) = false := decide_eq_false c75
                                                clear c75
                                                have H' := Aside0.mk H
                                                clear H
                                                have p343 : 0 ≤ (x17_5 : Int) := of_decide_eq_true (by first | (with_reducible assumption) | assumption)
                                                have q343 : x17_5 < (x6_4.length : Int) := of_decide_eq_true (by first | (with_reducible assumption) | assumption)
                                                obtain ⟨ad343, e343, hx343_0⟩ := Kd.at_int (Kd.R_reads' HO_6.out).2.2 x17_5 p343 q343
                                                cases e343
                                                replace p343 := eq_true p343
                                                replace q343 := eq_true q343
                                                have p344 : 0 ≤ (x19_6 : Int) := of_decide_eq_true (by first | (with_reducible assumption) | assumption)
                                                have q344 : x19_6 < (t325.length : Int) := of_decide_eq_true (by first | (with_reducible assumption) | assumption)
                                                obtain ⟨ad344, e344, hx344_0⟩ := Kd.at_int (Kd.R_reads' HO_12.out).2.2 x19_6 p344 q344
                                                cases e344
                                                replace p344 := eq_true p344
                                                replace q344 := eq_true q344
                                                go_wp2
                                                repeat (go_quiet (fail); try go_wp2)
                                                go_roundg k6
                                                case measure => have := HJ4.out; have := HK2.out; have := HJ29.out; have := HK4.out; have := HK5.out; have := HK6.out; omega
                                                case rel => exact ⟨(false), (wrap64 (x19_6 + 1)), (by first | rfl | (simp; done) | (simp [*]; done)), (by first | rfl | (simp; done) | (simp [*]; done)), H', ⟨by have := HJ4.out; have := HK2.out; have := HJ29.out; have := HK4.out; have := HK5.out; have := HK6.out; omega⟩, ⟨by (with_reducible repeat (first | apply Kd.R_alloc | apply Kd.R_drewN | apply Kd.R_drew)); exact HO_6.out⟩, ⟨by (with_reducible repeat (first | apply Kd.R_alloc | apply Kd.R_drewN | apply Kd.R_drew)); exact HO_12.out⟩, ⟨by repeat (first | (with_reducible first | exact HB.out | apply pA | apply pN | apply p1_) | exact HB.out)⟩⟩
                                            · rw [if_neg c74] at H
                                              exact absurd H (by simp)
                                          · rw [if_neg c73] at H
                                            exact absurd H (by simp)
                                        · rw [if_neg c72] at H
                                          exact absurd H (by simp)
                                    · rw [if_neg c70] at H
                                      have c70b0 : decide (x19_6 < (t325.length : Int)) = false := decide_eq_false c70
                                      clear c70
                                      by_cases c76 : x18_6 = true
                                      · subst c76
                                        have H1 : (w22_CSegments.l4 k6 true x6_4 t325 (wrap64 (x17_5 + 1))) = some r := by rw [if_pos rfl] at H; exact H
                                        clear H
                                        have H := H1
                                        clear H1
                                        have H' := Aside0.mk H
                                        clear H
                                        go_wp2
                                        repeat (go_quiet (fail); try go_wp2)
                                        go_roundg k6
                                        case measure => have := HJ4.out; have := HK2.out; have := HJ29.out; have := HK4.out; have := HK5.out; have := HK6.out; omega
                                        case rel => exact ⟨(wrap64 (x17_5 + 1)), (by first | rfl | (simp; done) | (simp [*]; done)), H', ⟨by have := HJ4.out; have := HK2.out; have := HJ29.out; have := HK4.out; have := HK5.out; have := HK6.out; omega⟩, ⟨by (with_reducible repeat (first | apply Kd.R_alloc | apply Kd.R_drewN | apply Kd.R_drew)); exact HO_6.out⟩, ⟨by (with_reducible repeat (first | apply Kd.R_alloc | apply Kd.R_drewN | apply Kd.R_drew)); exact HO_12.out⟩, ⟨by repeat (first | (with_reducible first | exact HB.out | apply pA | apply pN | apply p1_) | exact HB.out)⟩⟩
                                      · replace c76 := Bool.eq_false_iff.mpr c76
                                        subst c76
                                        have H1 : (some false) = some r := by rw [if_neg (show ¬ (false = true) by decide)] at H; exact H
                                        clear H
                                        have H := H1
                                        clear H1
                                        obtain rfl := Option.some.inj H
                                        go_wp2
                                        repeat (go_quiet (fail); try go_wp2)
                                        go_ret
                                        exact ⟨by first | rfl | (simp [errW_none, errW_some] <;> rfl) | (simp [*, errW_none, errW_some] <;> rfl), by repeat (first | (with_reducible first | exact HB.out | apply pA | apply pN | apply p1_) | exact HB.out)⟩
                              · rw [if_neg c69] at H
                                have c69b0 : decide (x17_5 < (x6_4.length : Int)) = false := decide_eq_false c69
                                clear c69
                                obtain rfl := Option.some.inj H
                                go_wp2
                                repeat (go_quiet (fail); try go_wp2)
                                go_ret
                                exact ⟨by first | rfl | (simp [errW_none, errW_some] <;> rfl) | (simp [*, errW_none, errW_some] <;> rfl), by repeat (first | (with_reducible first | exact HB.out | apply pA | apply pN | apply p1_) | exact HB.out)⟩
  · replace c4 := Bool.eq_false_iff.mpr c4
    subst c4
    have H1 : (some false) = some r := by rw [if_neg (show ¬ (false = true) by decide)] at H; exact H
    clear H
    have H := H1
    clear H1
    obtain rfl := Option.some.inj H
    go_enter Tryd.func4, Tryd.ntmps4
    go_wp2_with (first | (go_at_call 9; (with_reducible refine (w22_examples.calls k  false _ A3.out).mono ?_); rintro e w77 ⟨rfl, hb⟩; have n0_ := Aside0.mk (below_step (by repeat (first | (with_reducible first | exact HB.out | apply pA | apply pN | apply p1_) | exact HB.out)) hb); clear HB; have HB := n0_; clear n0_; (try clear hb); (try clear hb2); (try clear hk); (try clear hi)))
    repeat (go_quiet (first | (go_at_call 9; (with_reducible refine (w22_examples.calls k  false _ A3.out).mono ?_); rintro e w77 ⟨rfl, hb⟩; have n0_ := Aside0.mk (below_step (by repeat (first | (with_reducible first | exact HB.out | apply pA | apply pN | apply p1_) | exact HB.out)) hb); clear HB; have HB := n0_; clear n0_; (try clear hb); (try clear hb2); (try clear hk); (try clear hi))); try go_wp2_with (first | (go_at_call 9; (with_reducible refine (w22_examples.calls k  false _ A3.out).mono ?_); rintro e w77 ⟨rfl, hb⟩; have n0_ := Aside0.mk (below_step (by repeat (first | (with_reducible first | exact HB.out | apply pA | apply pN | apply p1_) | exact HB.out)) hb); clear HB; have HB := n0_; clear n0_; (try clear hb); (try clear hb2); (try clear hk); (try clear hi))))
    go_ret
    exact ⟨by first | rfl | (simp [errW_none, errW_some] <;> rfl) | (simp [*, errW_none, errW_some] <;> rfl), by repeat (first | (with_reducible first | exact HB.out | apply pA | apply pN | apply p1_) | exact HB.out)⟩

/-- THE ONE PURE STATEMENT of w22_CSegments: yours. -/
def w22_CSegments.Pure : Prop := ∀ (l0 : List Int) (a1 : Int), l0.length ≤ maxLen → l0.length * 8 ≤ 140737488351232 → (∀ x ∈ l0, (Lit.int .i64 x).wf = true) → (Lit.int .u8 a1).wf = true → ∃ k, w22_CSegments.f k l0 a1 = some true
end Go.Proofs.YtnjeliicnbfclaaDoor.P
