-- Written by wip/myprint.py, a program of this session's own over the kit's print: functions and their contracts.
import Derived.Test.YtnjeliicnbfclaaDoorPx0
import Derived.Test.YtnjeliicnbfclaaDoorPx1e
import Derived.Test.YtnjeliicnbfclaaDoorF
import Derived.Test.YtnjeliicnbfclaaDoorG3c
namespace Go.Proofs.YtnjeliicnbfclaaDoor.P
open Go.RowKit Go.Proofs.YtnjeliicnbfclaaDoorW.PrintWords Go.Proofs.YtnjeliicnbfclaaDoorW.PrintLast Go.Proofs.YtnjeliicnbfclaaDoorW.PrintMore
attribute [local go_sem] max2_int min2_int max_two min_two max_three min_three max_four min_four   -- for this text's walks alone
set_option linter.unusedVariables false
set_option linter.unusedSimpArgs false

/-! ### w22_CFewer: function 8 -/
mutual
def w22_CFewer.j0 : Nat → Int → Int → Bool → Int → Bool → Bool → Int → Int → Int → Int → Int → Int → Bool → Int → Int → Int → Int → Int → Int → Bool → Int → Int → Int → Int → Int → Int → Option (Bool)
  | 0, _, _, _, _, _, _, _, _, _, _, _, _, _, _, _, _, _, _, _, _, _, _, _, _, _, _ => none
  | k + 1, x1, x2, x7, x9, x54, x488000, x488001, x488002, x488003, x488004, x488005, x488006, x490000, x490001, x490002, x490003, x490004, x490005, x490006, x491000, x491001, x491002, x491003, x491004, x491005, x491006 => if x54 = true then (w22_CFewer.j1 k x1 x2 x7 x9 x488000 x488001 x488002 x488003 x488004 x488005 x488006 x490000 x490001 x490002 x490003 x490004 x490005 x490006 x491000 x491001 x491002 x491003 x491004 (wrap64 (x488005 - x488006)) x491006) else (w22_CFewer.j1 k x1 x2 x7 x9 x488000 x488001 x488002 x488003 x488004 x488005 x488006 x490000 x490001 x490002 x490003 x490004 x490005 x490006 x491000 x491001 x491002 x491003 x491004 x491005 x491006)
def w22_CFewer.j1 : Nat → Int → Int → Bool → Int → Bool → Int → Int → Int → Int → Int → Int → Bool → Int → Int → Int → Int → Int → Int → Bool → Int → Int → Int → Int → Int → Int → Option (Bool)
  | 0, _, _, _, _, _, _, _, _, _, _, _, _, _, _, _, _, _, _, _, _, _, _, _, _, _ => none
  | k + 1, x1, x2, x7, x9, x488000, x488001, x488002, x488003, x488004, x488005, x488006, x490000, x490001, x490002, x490003, x490004, x490005, x490006, x491000, x491001, x491002, x491003, x491004, x491005, x491006 => (coalesce_Static.f x488000 x488001 x488002 x488003 x488004 x488005 x488006 64 (Go.bits .and .u64 x1 x2)).bind fun t491 => (if t491 ≤ x9 then ((coalesce_Static.f x490000 x490001 x490002 x490003 x490004 x490005 x490006 64 x1).bind fun t492 => (if t492 = x9 then ((coalesce_Static.f x491000 x491001 x491002 x491003 x491004 x491005 x491006 64 x1).bind fun t493 => (if t493 ≤ x9 then ((coalesce_Static.f x488000 x488001 x488002 x488003 x488004 x488005 x488006 20 x1).bind fun t494 => (if t494 ≤ x9 then (some x7) else (some false))) else (some false))) else (some false))) else (some false))
end
def w22_CFewer.f (k : Nat) (a0_0 : Bool) (a0_1 : Int) (a0_2 : Int) (a0_3 : Int) (a0_4 : Int) (a0_5 : Int) (a0_6 : Int) (a0_7 : Bool) (a1 : Int) (a2 : Int) : Option (Bool) := (w22_examples.f k).bind fun t479 => (if t479 = true then ((v22_Form.f a0_0 a0_1 a0_2 a0_3 a0_4 a0_5 a0_6 a0_7).bind fun bt480 => ((coalesce_Static.f bt480.1 bt480.2.1 bt480.2.2.1 bt480.2.2.2.1 bt480.2.2.2.2.1 bt480.2.2.2.2.2.1 bt480.2.2.2.2.2.2 64 a1).bind fun t488 => (if bt480.2.2.2.2.2.2 > 0 then (w22_CFewer.j0 k a1 a2 t479 t488 (decide ((wrap64 (bt480.2.2.2.2.2.1 - bt480.2.2.2.2.2.2)) > bt480.2.2.2.2.1)) bt480.1 bt480.2.1 bt480.2.2.1 bt480.2.2.2.1 bt480.2.2.2.2.1 bt480.2.2.2.2.2.1 bt480.2.2.2.2.2.2 bt480.1 bt480.2.1 bt480.2.2.1 (wrap64 (7 - bt480.2.2.2.1)) (wrap64 (bt480.2.2.2.2.1 + 5)) (wrap64 (bt480.2.2.2.2.2.1 + 5)) bt480.2.2.2.2.2.2 bt480.1 bt480.2.1 bt480.2.2.1 bt480.2.2.2.1 bt480.2.2.2.2.1 bt480.2.2.2.2.2.1 bt480.2.2.2.2.2.2) else (w22_CFewer.j0 k a1 a2 t479 t488 false bt480.1 bt480.2.1 bt480.2.2.1 bt480.2.2.2.1 bt480.2.2.2.2.1 bt480.2.2.2.2.2.1 bt480.2.2.2.2.2.2 bt480.1 bt480.2.1 bt480.2.2.1 (wrap64 (7 - bt480.2.2.2.1)) (wrap64 (bt480.2.2.2.2.1 + 5)) (wrap64 (bt480.2.2.2.2.2.1 + 5)) bt480.2.2.2.2.2.2 bt480.1 bt480.2.1 bt480.2.2.1 bt480.2.2.2.1 bt480.2.2.2.2.1 bt480.2.2.2.2.2.1 bt480.2.2.2.2.2.2)))) else (some false))
theorem w22_CFewer.mono_l : ∀ k, (∀ y0 y1 y2 y3 y4 y5 y6 y7 y8 y9 y10 y11 y12 y13 y14 y15 y16 y17 y18 y19 y20 y21 y22 y23 y24 y25, LeO (w22_CFewer.j0 k y0 y1 y2 y3 y4 y5 y6 y7 y8 y9 y10 y11 y12 y13 y14 y15 y16 y17 y18 y19 y20 y21 y22 y23 y24 y25) (w22_CFewer.j0 (k + 1) y0 y1 y2 y3 y4 y5 y6 y7 y8 y9 y10 y11 y12 y13 y14 y15 y16 y17 y18 y19 y20 y21 y22 y23 y24 y25)) ∧ (∀ y0 y1 y2 y3 y4 y5 y6 y7 y8 y9 y10 y11 y12 y13 y14 y15 y16 y17 y18 y19 y20 y21 y22 y23 y24, LeO (w22_CFewer.j1 k y0 y1 y2 y3 y4 y5 y6 y7 y8 y9 y10 y11 y12 y13 y14 y15 y16 y17 y18 y19 y20 y21 y22 y23 y24) (w22_CFewer.j1 (k + 1) y0 y1 y2 y3 y4 y5 y6 y7 y8 y9 y10 y11 y12 y13 y14 y15 y16 y17 y18 y19 y20 y21 y22 y23 y24))
  | 0 => ⟨fun _ _ _ _ _ _ _ _ _ _ _ _ _ _ _ _ _ _ _ _ _ _ _ _ _ _ r h => by simp [w22_CFewer.j0] at h, fun _ _ _ _ _ _ _ _ _ _ _ _ _ _ _ _ _ _ _ _ _ _ _ _ _ r h => by simp [w22_CFewer.j1] at h⟩
  | k + 1 => by
    obtain ⟨ih0, ih1⟩ := w22_CFewer.mono_l k
    refine ⟨?_, ?_⟩
    · intro y0 y1 y2 y3 y4 y5 y6 y7 y8 y9 y10 y11 y12 y13 y14 y15 y16 y17 y18 y19 y20 y21 y22 y23 y24 y25
      unfold w22_CFewer.j0
      repeat' first
      | (with_reducible exact ih0 _ _ _ _ _ _ _ _ _ _ _ _ _ _ _ _ _ _ _ _ _ _ _ _ _ _)
      | (with_reducible exact ih1 _ _ _ _ _ _ _ _ _ _ _ _ _ _ _ _ _ _ _ _ _ _ _ _ _)
      | (with_reducible exact w22_examples.mono _)
      | (with_reducible exact LeO.refl _)
      | (with_reducible exact LeO.none _)
      | (with_reducible refine LeO.ite ?_ ?_)
      | (with_reducible refine LeO.bind ?_ (fun _ => ?_))
      | exact ih0 _ _ _ _ _ _ _ _ _ _ _ _ _ _ _ _ _ _ _ _ _ _ _ _ _ _
      | exact ih1 _ _ _ _ _ _ _ _ _ _ _ _ _ _ _ _ _ _ _ _ _ _ _ _ _
      | exact w22_examples.mono _
      | exact LeO.none _
      | refine LeO.ite ?_ ?_
      | refine LeO.bind ?_ (fun _ => ?_)
    · intro y0 y1 y2 y3 y4 y5 y6 y7 y8 y9 y10 y11 y12 y13 y14 y15 y16 y17 y18 y19 y20 y21 y22 y23 y24
      unfold w22_CFewer.j1
      repeat' first
      | (with_reducible exact ih0 _ _ _ _ _ _ _ _ _ _ _ _ _ _ _ _ _ _ _ _ _ _ _ _ _ _)
      | (with_reducible exact ih1 _ _ _ _ _ _ _ _ _ _ _ _ _ _ _ _ _ _ _ _ _ _ _ _ _)
      | (with_reducible exact w22_examples.mono _)
      | (with_reducible exact LeO.refl _)
      | (with_reducible exact LeO.none _)
      | (with_reducible refine LeO.ite ?_ ?_)
      | (with_reducible refine LeO.bind ?_ (fun _ => ?_))
      | exact ih0 _ _ _ _ _ _ _ _ _ _ _ _ _ _ _ _ _ _ _ _ _ _ _ _ _ _
      | exact ih1 _ _ _ _ _ _ _ _ _ _ _ _ _ _ _ _ _ _ _ _ _ _ _ _ _
      | exact w22_examples.mono _
      | exact LeO.none _
      | refine LeO.ite ?_ ?_
      | refine LeO.bind ?_ (fun _ => ?_)
theorem w22_CFewer.mono : ∀ a0 a1 a2 a3 a4 a5 a6 a7 a8 a9 k, LeO (w22_CFewer.f k a0 a1 a2 a3 a4 a5 a6 a7 a8 a9) (w22_CFewer.f (k + 1) a0 a1 a2 a3 a4 a5 a6 a7 a8 a9) := by
  intro a0 a1 a2 a3 a4 a5 a6 a7 a8 a9 k
  obtain ⟨ih0, ih1⟩ := w22_CFewer.mono_l k
  unfold w22_CFewer.f
  repeat' first
      | (with_reducible exact ih0 _ _ _ _ _ _ _ _ _ _ _ _ _ _ _ _ _ _ _ _ _ _ _ _ _ _)
      | (with_reducible exact ih1 _ _ _ _ _ _ _ _ _ _ _ _ _ _ _ _ _ _ _ _ _ _ _ _ _)
      | (with_reducible exact w22_examples.mono _)
      | (with_reducible exact LeO.refl _)
      | (with_reducible exact LeO.none _)
      | (with_reducible refine LeO.ite ?_ ?_)
      | (with_reducible refine LeO.bind ?_ (fun _ => ?_))
      | exact ih0 _ _ _ _ _ _ _ _ _ _ _ _ _ _ _ _ _ _ _ _ _ _ _ _ _ _
      | exact ih1 _ _ _ _ _ _ _ _ _ _ _ _ _ _ _ _ _ _ _ _ _ _ _ _ _
      | exact w22_examples.mono _
      | exact LeO.none _
      | refine LeO.ite ?_ ?_
      | refine LeO.bind ?_ (fun _ => ?_)
set_option maxHeartbeats 8000000 in
set_option maxRecDepth 100000 in
theorem w22_CFewer.calls (k : Nat) (a0_0 : Bool) (a0_1 : Int) (a0_2 : Int) (a0_3 : Int) (a0_4 : Int) (a0_5 : Int) (a0_6 : Int) (a0_7 : Bool) (a1 : Int) (a2 : Int) (r : Bool) (w : World) (h : w22_CFewer.f k a0_0 a0_1 a0_2 a0_3 a0_4 a0_5 a0_6 a0_7 a1 a2 = some r) (HT : Tab w := by exact Tab.below HT (by repeat (first | (with_reducible first | exact HB.out | apply pA | apply pN | apply p1_) | exact HB.out))) :
    Calls Tryd.prog 8 #[.agg #[.bool a0_0, .int .i16 a0_1, .int .i16 a0_2, .int .i16 a0_3, .int .i32 a0_4, .int .u16 a0_5, .int .u16 a0_6, .bool a0_7], .int .u64 a1, .int .u64 a2] w fun e w' => e = .returned (.bool r) ∧ Below w.heap.size w w' := by
  have hu27 := Tryd.underlying27
  have hu35 := Tryd.underlying35
  have HB := Aside0.mk (Below.refl w.heap.size w)
  have H : ((w22_examples.f k).bind fun t479 => (if t479 = true then ((v22_Form.f a0_0 a0_1 a0_2 a0_3 a0_4 a0_5 a0_6 a0_7).bind fun bt480 => ((coalesce_Static.f bt480.1 bt480.2.1 bt480.2.2.1 bt480.2.2.2.1 bt480.2.2.2.2.1 bt480.2.2.2.2.2.1 bt480.2.2.2.2.2.2 64 a1).bind fun t488 => (if bt480.2.2.2.2.2.2 > 0 then (w22_CFewer.j0 k a1 a2 t479 t488 (decide ((wrap64 (bt480.2.2.2.2.2.1 - bt480.2.2.2.2.2.2)) > bt480.2.2.2.2.1)) bt480.1 bt480.2.1 bt480.2.2.1 bt480.2.2.2.1 bt480.2.2.2.2.1 bt480.2.2.2.2.2.1 bt480.2.2.2.2.2.2 bt480.1 bt480.2.1 bt480.2.2.1 (wrap64 (7 - bt480.2.2.2.1)) (wrap64 (bt480.2.2.2.2.1 + 5)) (wrap64 (bt480.2.2.2.2.2.1 + 5)) bt480.2.2.2.2.2.2 bt480.1 bt480.2.1 bt480.2.2.1 bt480.2.2.2.1 bt480.2.2.2.2.1 bt480.2.2.2.2.2.1 bt480.2.2.2.2.2.2) else (w22_CFewer.j0 k a1 a2 t479 t488 false bt480.1 bt480.2.1 bt480.2.2.1 bt480.2.2.2.1 bt480.2.2.2.2.1 bt480.2.2.2.2.2.1 bt480.2.2.2.2.2.2 bt480.1 bt480.2.1 bt480.2.2.1 (wrap64 (7 - bt480.2.2.2.1)) (wrap64 (bt480.2.2.2.2.1 + 5)) (wrap64 (bt480.2.2.2.2.2.1 + 5)) bt480.2.2.2.2.2.2 bt480.1 bt480.2.1 bt480.2.2.1 bt480.2.2.2.1 bt480.2.2.2.2.1 bt480.2.2.2.2.2.1 bt480.2.2.2.2.2.2)))) else (some false))) = some r := h
  clear h
  replace H := Option.bind_eq_some_iff.mp H
  obtain ⟨t479, A40, H⟩ := H
  replace H : (if t479 = true then ((v22_Form.f a0_0 a0_1 a0_2 a0_3 a0_4 a0_5 a0_6 a0_7).bind fun bt480 => ((coalesce_Static.f bt480.1 bt480.2.1 bt480.2.2.1 bt480.2.2.2.1 bt480.2.2.2.2.1 bt480.2.2.2.2.2.1 bt480.2.2.2.2.2.2 64 a1).bind fun t488 => (if bt480.2.2.2.2.2.2 > 0 then (w22_CFewer.j0 k a1 a2 t479 t488 (decide ((wrap64 (bt480.2.2.2.2.2.1 - bt480.2.2.2.2.2.2)) > bt480.2.2.2.2.1)) bt480.1 bt480.2.1 bt480.2.2.1 bt480.2.2.2.1 bt480.2.2.2.2.1 bt480.2.2.2.2.2.1 bt480.2.2.2.2.2.2 bt480.1 bt480.2.1 bt480.2.2.1 (wrap64 (7 - bt480.2.2.2.1)) (wrap64 (bt480.2.2.2.2.1 + 5)) (wrap64 (bt480.2.2.2.2.2.1 + 5)) bt480.2.2.2.2.2.2 bt480.1 bt480.2.1 bt480.2.2.1 bt480.2.2.2.1 bt480.2.2.2.2.1 bt480.2.2.2.2.2.1 bt480.2.2.2.2.2.2) else (w22_CFewer.j0 k a1 a2 t479 t488 false bt480.1 bt480.2.1 bt480.2.2.1 bt480.2.2.2.1 bt480.2.2.2.2.1 bt480.2.2.2.2.2.1 bt480.2.2.2.2.2.2 bt480.1 bt480.2.1 bt480.2.2.1 (wrap64 (7 - bt480.2.2.2.1)) (wrap64 (bt480.2.2.2.2.1 + 5)) (wrap64 (bt480.2.2.2.2.2.1 + 5)) bt480.2.2.2.2.2.2 bt480.1 bt480.2.1 bt480.2.2.1 bt480.2.2.2.1 bt480.2.2.2.2.1 bt480.2.2.2.2.2.1 bt480.2.2.2.2.2.2)))) else (some false)) = some r := H
  have A4 := Aside0.mk A40
  clear A40
  by_cases c5 : t479 = true
  · subst c5
    have H1 : ((v22_Form.f a0_0 a0_1 a0_2 a0_3 a0_4 a0_5 a0_6 a0_7).bind fun bt480 => ((coalesce_Static.f bt480.1 bt480.2.1 bt480.2.2.1 bt480.2.2.2.1 bt480.2.2.2.2.1 bt480.2.2.2.2.2.1 bt480.2.2.2.2.2.2 64 a1).bind fun t488 => (if bt480.2.2.2.2.2.2 > 0 then (w22_CFewer.j0 k a1 a2 true t488 (decide ((wrap64 (bt480.2.2.2.2.2.1 - bt480.2.2.2.2.2.2)) > bt480.2.2.2.2.1)) bt480.1 bt480.2.1 bt480.2.2.1 bt480.2.2.2.1 bt480.2.2.2.2.1 bt480.2.2.2.2.2.1 bt480.2.2.2.2.2.2 bt480.1 bt480.2.1 bt480.2.2.1 (wrap64 (7 - bt480.2.2.2.1)) (wrap64 (bt480.2.2.2.2.1 + 5)) (wrap64 (bt480.2.2.2.2.2.1 + 5)) bt480.2.2.2.2.2.2 bt480.1 bt480.2.1 bt480.2.2.1 bt480.2.2.2.1 bt480.2.2.2.2.1 bt480.2.2.2.2.2.1 bt480.2.2.2.2.2.2) else (w22_CFewer.j0 k a1 a2 true t488 false bt480.1 bt480.2.1 bt480.2.2.1 bt480.2.2.2.1 bt480.2.2.2.2.1 bt480.2.2.2.2.2.1 bt480.2.2.2.2.2.2 bt480.1 bt480.2.1 bt480.2.2.1 (wrap64 (7 - bt480.2.2.2.1)) (wrap64 (bt480.2.2.2.2.1 + 5)) (wrap64 (bt480.2.2.2.2.2.1 + 5)) bt480.2.2.2.2.2.2 bt480.1 bt480.2.1 bt480.2.2.1 bt480.2.2.2.1 bt480.2.2.2.2.1 bt480.2.2.2.2.2.1 bt480.2.2.2.2.2.2)))) = some r := by rw [if_pos rfl] at H; exact H
    clear H
    have H := H1
    clear H1
    replace H := Option.bind_eq_some_iff.mp H
    obtain ⟨⟨t480, t481, t482, t483, t484, t485, t486⟩, A60, H⟩ := H
    replace H : ((coalesce_Static.f t480 t481 t482 t483 t484 t485 t486 64 a1).bind fun t488 => (if t486 > 0 then (w22_CFewer.j0 k a1 a2 true t488 (decide ((wrap64 (t485 - t486)) > t484)) t480 t481 t482 t483 t484 t485 t486 t480 t481 t482 (wrap64 (7 - t483)) (wrap64 (t484 + 5)) (wrap64 (t485 + 5)) t486 t480 t481 t482 t483 t484 t485 t486) else (w22_CFewer.j0 k a1 a2 true t488 false t480 t481 t482 t483 t484 t485 t486 t480 t481 t482 (wrap64 (7 - t483)) (wrap64 (t484 + 5)) (wrap64 (t485 + 5)) t486 t480 t481 t482 t483 t484 t485 t486))) = some r := H
    have A6 := Aside0.mk A60
    clear A60
    replace H := Option.bind_eq_some_iff.mp H
    obtain ⟨t488, A70, H⟩ := H
    replace H : (if t486 > 0 then (w22_CFewer.j0 k a1 a2 true t488 (decide ((wrap64 (t485 - t486)) > t484)) t480 t481 t482 t483 t484 t485 t486 t480 t481 t482 (wrap64 (7 - t483)) (wrap64 (t484 + 5)) (wrap64 (t485 + 5)) t486 t480 t481 t482 t483 t484 t485 t486) else (w22_CFewer.j0 k a1 a2 true t488 false t480 t481 t482 t483 t484 t485 t486 t480 t481 t482 (wrap64 (7 - t483)) (wrap64 (t484 + 5)) (wrap64 (t485 + 5)) t486 t480 t481 t482 t483 t484 t485 t486)) = some r := H
    have A7 := Aside0.mk A70
    clear A70
    have HC8 := Aside0.mk H
    clear H
    go_enter Tryd.func8, Tryd.ntmps8
    go_upto_region 11 with (first | ((with_reducible refine gate_dst (N := 3) rfl ?_); refine box_event ?hg (N := 3) ?hd (cs := #[.bool a0_0, .int .i16 a0_1, .int .i16 a0_2, .int .i16 a0_3, .int .i32 a0_4, .int .u16 a0_5, .int .u16 a0_6, .bool a0_7]) (t := 27) ?hr ?_; (case hd => rfl); (case hg => rfl); (case hr => first | (go_simp; done) | (go_simp; rfl)); intro gb478 hg w9 hbox hb; have n0_ := Aside0.mk (below_step (by repeat (first | (with_reducible first | exact HB.out | apply pA | apply pN | apply p1_) | exact HB.out)) hb); have n1_ := Aside0.mk (hbox); have n2_ := Aside0.mk ((by rw [hg]; exact (below_size (by repeat (first | (with_reducible first | exact HB.out | apply pA | apply pN | apply p1_) | exact HB.out))) : w.heap.size ≤ gb478)); have n3_ := Aside0.mk ((by rw [hg]; exact (below_size (by repeat (first | (with_reducible first | exact HB.out | apply pA | apply pN | apply p1_) | exact HB.out))) : w.heap.size ≤ gb478)); clear HB; have HB := n0_; have BK478 := n1_; have GW478 := n2_; have GE478 := n3_; clear n0_ n1_ n2_ n3_; clear hb hbox hg) | ((with_reducible refine gate_callee (f := 9) rfl ?_); refine goesL_ (some 12) rfl rfl Tryd.func9 (by kernel_rfl) rfl #[] rfl (by (try simp only [List.map_toArray, List.map_cons, List.map_nil]); first | done | rfl | (simp only [List.length_drop, List.length_take]; rfl)) ?_; (with_reducible refine (w22_examples.calls k  true _ A4.out).mono ?_); rintro e w10 ⟨rfl, hb⟩; refine ⟨_, rfl, ?_⟩; have n0_ := Aside0.mk (bB (g := gb478) (o := .cells #[.bool a0_0, .int .i16 a0_1, .int .i16 a0_2, .int .i16 a0_3, .int .i32 a0_4, .int .u16 a0_5, .int .u16 a0_6, .bool a0_7] 27 (0, 0)) (by (with_reducible repeat (first | refine bN ?_ _ | refine bD ?_ | refine bA ?_ _)); exact BK478.out) hb); have n1_ := Aside0.mk (below_step (by repeat (first | (with_reducible first | exact HB.out | apply pA | apply pN | apply p1_ | refine bS ?_ GE478.out) | exact HB.out)) hb); clear BK478; clear HB; have BK478 := n0_; have HB := n1_; clear n0_ n1_; (try clear hb); (try clear hb2); (try clear hk); (try clear hi); have hcz11_0 : w10.cell? ⟨gb478, 0, none⟩ = some (.bool a0_0) := (bC BK478.out 0).trans rfl; have hcz11_1 : w10.cell? ⟨gb478, 1, none⟩ = some (.int .i16 a0_1) := (bC BK478.out 1).trans rfl; have hcz11_2 : w10.cell? ⟨gb478, 2, none⟩ = some (.int .i16 a0_2) := (bC BK478.out 2).trans rfl; have hcz11_3 : w10.cell? ⟨gb478, 3, none⟩ = some (.int .i16 a0_3) := (bC BK478.out 3).trans rfl; have hcz11_4 : w10.cell? ⟨gb478, 4, none⟩ = some (.int .i32 a0_4) := (bC BK478.out 4).trans rfl; have hcz11_5 : w10.cell? ⟨gb478, 5, none⟩ = some (.int .u16 a0_5) := (bC BK478.out 5).trans rfl; have hcz11_6 : w10.cell? ⟨gb478, 6, none⟩ = some (.int .u16 a0_6) := (bC BK478.out 6).trans rfl; have hcz11_7 : w10.cell? ⟨gb478, 7, none⟩ = some (.bool a0_7) := (bC BK478.out 7).trans rfl; have hfz11_0 := bF BK478.out 0; have hfz11_1 := bF BK478.out 1; have hfz11_2 := bF BK478.out 2; have hfz11_3 := bF BK478.out 3; have hfz11_4 := bF BK478.out 4; have hfz11_5 := bF BK478.out 5; have hfz11_6 := bF BK478.out 6; have hfz11_7 := bF BK478.out 7) | ((with_reducible refine gate_callee (f := 10) rfl ?_); refine goesL_ (some 16) rfl rfl Tryd.func10 (by kernel_rfl) rfl #[.agg #[.bool a0_0, .int .i16 a0_1, .int .i16 a0_2, .int .i16 a0_3, .int .i32 a0_4, .int .u16 a0_5, .int .u16 a0_6, .bool a0_7]] rfl (by (try simp only [List.map_toArray, List.map_cons, List.map_nil]); first | done | rfl | (simp only [List.length_drop, List.length_take]; rfl)) ?_; (with_reducible refine (v22_Form.calls a0_0 a0_1 a0_2 a0_3 a0_4 a0_5 a0_6 a0_7 t480 t481 t482 t483 t484 t485 t486 _ A6.out).mono ?_); rintro e w12 ⟨rfl, hb⟩; refine ⟨_, rfl, ?_⟩; have n0_ := Aside0.mk (bB (g := gb478) (o := .cells #[.bool a0_0, .int .i16 a0_1, .int .i16 a0_2, .int .i16 a0_3, .int .i32 a0_4, .int .u16 a0_5, .int .u16 a0_6, .bool a0_7] 27 (0, 0)) (by (with_reducible repeat (first | refine bN ?_ _ | refine bD ?_ | refine bA ?_ _)); exact BK478.out) hb); have n1_ := Aside0.mk (below_step (by repeat (first | (with_reducible first | exact HB.out | apply pA | apply pN | apply p1_ | refine bS ?_ GE478.out) | exact HB.out)) hb); clear BK478; clear HB; have BK478 := n0_; have HB := n1_; clear n0_ n1_; (try clear hb); (try clear hb2); (try clear hk); (try clear hi)) | ((with_reducible refine gate_dst (N := 8) rfl ?_); refine box_event ?hg (N := 8) ?hd (cs := #[.bool false, .int .i64 0, .int .i64 0, .int .i64 0, .int .i64 0, .int .i64 0, .int .i64 0]) (t := 35) ?hr ?_; (case hd => rfl); (case hg => rfl); (case hr => first | (go_simp; done) | (go_simp; rfl)); intro gb487 hg w13 hbox hb; have n0_ := Aside0.mk (bB (g := gb478) (o := .cells #[.bool a0_0, .int .i16 a0_1, .int .i16 a0_2, .int .i16 a0_3, .int .i32 a0_4, .int .u16 a0_5, .int .u16 a0_6, .bool a0_7] 27 (0, 0)) (by (with_reducible repeat (first | refine bN ?_ _ | refine bD ?_ | refine bA ?_ _)); exact BK478.out) hb); have n1_ := Aside0.mk (below_step (by repeat (first | (with_reducible first | exact HB.out | apply pA | apply pN | apply p1_ | refine bS ?_ GE478.out) | exact HB.out)) hb); have n2_ := Aside0.mk (hbox); have n3_ := Aside0.mk ((by rw [hg]; exact (below_size (by repeat (first | (with_reducible first | exact HB.out | apply pA | apply pN | apply p1_ | refine bS ?_ GE478.out) | exact HB.out))) : w.heap.size ≤ gb487)); have n4_ := Aside0.mk ((by rw [hg]; exact (below_size (by repeat (first | (with_reducible first | exact HB.out | apply pA | apply pN | apply p1_ | refine bS ?_ GE478.out) | exact HB.out))) : w.heap.size ≤ gb487)); have n5_ := Aside0.mk ((by rw [hg]; exact Nat.ne_of_lt (blk_lt (g := gb478) (o := .cells #[.bool a0_0, .int .i16 a0_1, .int .i16 a0_2, .int .i16 a0_3, .int .i32 a0_4, .int .u16 a0_5, .int .u16 a0_6, .bool a0_7] 27 (0, 0)) (by (with_reducible repeat (first | refine bN ?_ _ | refine bD ?_ | refine bA ?_ _)); exact BK478.out)) : gb478 ≠ gb487)); have n6_ := Aside0.mk ((by rw [hg]; exact Nat.ne_of_gt (blk_lt (g := gb478) (o := .cells #[.bool a0_0, .int .i16 a0_1, .int .i16 a0_2, .int .i16 a0_3, .int .i32 a0_4, .int .u16 a0_5, .int .u16 a0_6, .bool a0_7] 27 (0, 0)) (by (with_reducible repeat (first | refine bN ?_ _ | refine bD ?_ | refine bA ?_ _)); exact BK478.out)) : gb487 ≠ gb478)); clear BK478; clear HB; have BK478 := n0_; have HB := n1_; have BK487 := n2_; have GW487 := n3_; have GE487 := n4_; have Nf_ := n5_; have Ni_ := n6_; clear n0_ n1_ n2_ n3_ n4_ n5_ n6_; clear hb hbox hg; have hnb14 := Ni_.out; have hnc14 := Nf_.out; have hcz15_0 : w13.cell? ⟨gb487, 0, none⟩ = some (.bool false) := (bC BK487.out 0).trans rfl; have hcz15_1 : w13.cell? ⟨gb487, 1, none⟩ = some (.int .i64 0) := (bC BK487.out 1).trans rfl; have hcz15_2 : w13.cell? ⟨gb487, 2, none⟩ = some (.int .i64 0) := (bC BK487.out 2).trans rfl; have hcz15_3 : w13.cell? ⟨gb487, 3, none⟩ = some (.int .i64 0) := (bC BK487.out 3).trans rfl; have hcz15_4 : w13.cell? ⟨gb487, 4, none⟩ = some (.int .i64 0) := (bC BK487.out 4).trans rfl; have hcz15_5 : w13.cell? ⟨gb487, 5, none⟩ = some (.int .i64 0) := (bC BK487.out 5).trans rfl; have hcz15_6 : w13.cell? ⟨gb487, 6, none⟩ = some (.int .i64 0) := (bC BK487.out 6).trans rfl; have hfz15_0 := bF BK487.out 0; have hfz15_1 := bF BK487.out 1; have hfz15_2 := bF BK487.out 2; have hfz15_3 := bF BK487.out 3; have hfz15_4 := bF BK487.out 4; have hfz15_5 := bF BK487.out 5; have hfz15_6 := bF BK487.out 6) | ((with_reducible refine gate_callee (f := 11) rfl ?_); refine goesL_ (some 19) rfl rfl Tryd.func11 (by kernel_rfl) rfl #[.agg #[.bool t480, .int .i64 t481, .int .i64 t482, .int .i64 t483, .int .i64 t484, .int .i64 t485, .int .i64 t486], .int .i64 64, .int .u64 a1] rfl (by (try simp only [List.map_toArray, List.map_cons, List.map_nil]); first | done | rfl | (simp only [List.length_drop, List.length_take]; rfl)) ?_; (with_reducible refine (coalesce_Static.calls t480 t481 t482 t483 t484 t485 t486 64 a1 t488 _ A7.out (Tab.below HT (by repeat (first | (with_reducible first | exact HB.out | apply pA | apply pN | apply p1_ | refine bS ?_ (Aside0.out (by assumption))) | exact HB.out)))).mono ?_); rintro e w16 ⟨rfl, hb⟩; refine ⟨_, rfl, ?_⟩; have n0_ := Aside0.mk (bB (g := gb478) (o := .cells #[.bool a0_0, .int .i16 a0_1, .int .i16 a0_2, .int .i16 a0_3, .int .i32 a0_4, .int .u16 a0_5, .int .u16 a0_6, .bool a0_7] 27 (0, 0)) (by (with_reducible repeat (first | refine bN ?_ _ | refine bD ?_ | refine bA ?_ _)); refine blk_far ?_ Nf_.out _; (with_reducible repeat (first | refine bN ?_ _ | refine bD ?_ | refine bA ?_ _)); refine blk_far ?_ Nf_.out _; (with_reducible repeat (first | refine bN ?_ _ | refine bD ?_ | refine bA ?_ _)); refine blk_far ?_ Nf_.out _; (with_reducible repeat (first | refine bN ?_ _ | refine bD ?_ | refine bA ?_ _)); refine blk_far ?_ Nf_.out _; (with_reducible repeat (first | refine bN ?_ _ | refine bD ?_ | refine bA ?_ _)); refine blk_far ?_ Nf_.out _; (with_reducible repeat (first | refine bN ?_ _ | refine bD ?_ | refine bA ?_ _)); refine blk_far ?_ Nf_.out _; (with_reducible repeat (first | refine bN ?_ _ | refine bD ?_ | refine bA ?_ _)); refine blk_far ?_ Nf_.out _; (with_reducible repeat (first | refine bN ?_ _ | refine bD ?_ | refine bA ?_ _)); exact BK478.out) hb); have n1_ := Aside0.mk (bB (g := gb487) (o := .cells #[.bool t480, .int .i64 t481, .int .i64 t482, .int .i64 t483, .int .i64 t484, .int .i64 t485, .int .i64 t486] 35 (0, 0)) (by (with_reducible repeat (first | refine bN ?_ _ | refine bD ?_ | refine bA ?_ _)); refine blk_put (cs := #[.bool t480, .int .i64 t481, .int .i64 t482, .int .i64 t483, .int .i64 t484, .int .i64 t485, .int .i64 0]) ?_ 6 _ rfl; (with_reducible repeat (first | refine bN ?_ _ | refine bD ?_ | refine bA ?_ _)); refine blk_put (cs := #[.bool t480, .int .i64 t481, .int .i64 t482, .int .i64 t483, .int .i64 t484, .int .i64 0, .int .i64 0]) ?_ 5 _ rfl; (with_reducible repeat (first | refine bN ?_ _ | refine bD ?_ | refine bA ?_ _)); refine blk_put (cs := #[.bool t480, .int .i64 t481, .int .i64 t482, .int .i64 t483, .int .i64 0, .int .i64 0, .int .i64 0]) ?_ 4 _ rfl; (with_reducible repeat (first | refine bN ?_ _ | refine bD ?_ | refine bA ?_ _)); refine blk_put (cs := #[.bool t480, .int .i64 t481, .int .i64 t482, .int .i64 0, .int .i64 0, .int .i64 0, .int .i64 0]) ?_ 3 _ rfl; (with_reducible repeat (first | refine bN ?_ _ | refine bD ?_ | refine bA ?_ _)); refine blk_put (cs := #[.bool t480, .int .i64 t481, .int .i64 0, .int .i64 0, .int .i64 0, .int .i64 0, .int .i64 0]) ?_ 2 _ rfl; (with_reducible repeat (first | refine bN ?_ _ | refine bD ?_ | refine bA ?_ _)); refine blk_put (cs := #[.bool t480, .int .i64 0, .int .i64 0, .int .i64 0, .int .i64 0, .int .i64 0, .int .i64 0]) ?_ 1 _ rfl; (with_reducible repeat (first | refine bN ?_ _ | refine bD ?_ | refine bA ?_ _)); refine blk_put (cs := #[.bool false, .int .i64 0, .int .i64 0, .int .i64 0, .int .i64 0, .int .i64 0, .int .i64 0]) ?_ 0 _ rfl; (with_reducible repeat (first | refine bN ?_ _ | refine bD ?_ | refine bA ?_ _)); exact BK487.out) hb); have n2_ := Aside0.mk (below_step (by repeat (first | (with_reducible first | exact HB.out | apply pA | apply pN | apply p1_ | refine bS ?_ GE478.out | refine bS ?_ GE487.out) | exact HB.out)) hb); clear BK478; clear BK487; clear HB; have BK478 := n0_; have BK487 := n1_; have HB := n2_; clear n0_ n1_ n2_; (try clear hb); (try clear hb2); (try clear hk); (try clear hi); have hcz17_0 : w16.cell? ⟨gb487, 0, none⟩ = some (.bool t480) := (bC BK487.out 0).trans rfl; have hcz17_1 : w16.cell? ⟨gb487, 1, none⟩ = some (.int .i64 t481) := (bC BK487.out 1).trans rfl; have hcz17_2 : w16.cell? ⟨gb487, 2, none⟩ = some (.int .i64 t482) := (bC BK487.out 2).trans rfl; have hcz17_3 : w16.cell? ⟨gb487, 3, none⟩ = some (.int .i64 t483) := (bC BK487.out 3).trans rfl; have hcz17_4 : w16.cell? ⟨gb487, 4, none⟩ = some (.int .i64 t484) := (bC BK487.out 4).trans rfl; have hcz17_5 : w16.cell? ⟨gb487, 5, none⟩ = some (.int .i64 t485) := (bC BK487.out 5).trans rfl; have hcz17_6 : w16.cell? ⟨gb487, 6, none⟩ = some (.int .i64 t486) := (bC BK487.out 6).trans rfl; have hfz17_0 := bF BK487.out 0; have hfz17_1 := bF BK487.out 1; have hfz17_2 := bF BK487.out 2; have hfz17_3 := bF BK487.out 3; have hfz17_4 := bF BK487.out 4; have hfz17_5 := bF BK487.out 5; have hfz17_6 := bF BK487.out 6) | ((with_reducible refine gate_dst (N := 10) rfl ?_); refine box_event ?hg (N := 10) ?hd (cs := #[.bool false, .int .i64 0, .int .i64 0, .int .i64 0, .int .i64 0, .int .i64 0, .int .i64 0]) (t := 35) ?hr ?_; (case hd => rfl); (case hg => rfl); (case hr => first | (go_simp; done) | (go_simp; rfl)); intro gb489 hg w18 hbox hb; have n0_ := Aside0.mk (bB (g := gb478) (o := .cells #[.bool a0_0, .int .i16 a0_1, .int .i16 a0_2, .int .i16 a0_3, .int .i32 a0_4, .int .u16 a0_5, .int .u16 a0_6, .bool a0_7] 27 (0, 0)) (by (with_reducible repeat (first | refine bN ?_ _ | refine bD ?_ | refine bA ?_ _)); exact BK478.out) hb); have n1_ := Aside0.mk (bB (g := gb487) (o := .cells #[.bool t480, .int .i64 t481, .int .i64 t482, .int .i64 t483, .int .i64 t484, .int .i64 t485, .int .i64 t486] 35 (0, 0)) (by (with_reducible repeat (first | refine bN ?_ _ | refine bD ?_ | refine bA ?_ _)); exact BK487.out) hb); have n2_ := Aside0.mk (below_step (by repeat (first | (with_reducible first | exact HB.out | apply pA | apply pN | apply p1_ | refine bS ?_ GE478.out | refine bS ?_ GE487.out) | exact HB.out)) hb); have n3_ := Aside0.mk (hbox); have n4_ := Aside0.mk ((by rw [hg]; exact (below_size (by repeat (first | (with_reducible first | exact HB.out | apply pA | apply pN | apply p1_ | refine bS ?_ GE478.out | refine bS ?_ GE487.out) | exact HB.out))) : w.heap.size ≤ gb489)); have n5_ := Aside0.mk ((by rw [hg]; exact (below_size (by repeat (first | (with_reducible first | exact HB.out | apply pA | apply pN | apply p1_ | refine bS ?_ GE478.out | refine bS ?_ GE487.out) | exact HB.out))) : w.heap.size ≤ gb489)); have n6_ := Aside0.mk ((by rw [hg]; exact Nat.ne_of_lt (blk_lt (g := gb478) (o := .cells #[.bool a0_0, .int .i16 a0_1, .int .i16 a0_2, .int .i16 a0_3, .int .i32 a0_4, .int .u16 a0_5, .int .u16 a0_6, .bool a0_7] 27 (0, 0)) (by (with_reducible repeat (first | refine bN ?_ _ | refine bD ?_ | refine bA ?_ _)); exact BK478.out)) : gb478 ≠ gb489)); have n7_ := Aside0.mk ((by rw [hg]; exact Nat.ne_of_gt (blk_lt (g := gb478) (o := .cells #[.bool a0_0, .int .i16 a0_1, .int .i16 a0_2, .int .i16 a0_3, .int .i32 a0_4, .int .u16 a0_5, .int .u16 a0_6, .bool a0_7] 27 (0, 0)) (by (with_reducible repeat (first | refine bN ?_ _ | refine bD ?_ | refine bA ?_ _)); exact BK478.out)) : gb489 ≠ gb478)); have n8_ := Aside0.mk ((by rw [hg]; exact Nat.ne_of_lt (blk_lt (g := gb487) (o := .cells #[.bool t480, .int .i64 t481, .int .i64 t482, .int .i64 t483, .int .i64 t484, .int .i64 t485, .int .i64 t486] 35 (0, 0)) (by (with_reducible repeat (first | refine bN ?_ _ | refine bD ?_ | refine bA ?_ _)); exact BK487.out)) : gb487 ≠ gb489)); have n9_ := Aside0.mk ((by rw [hg]; exact Nat.ne_of_gt (blk_lt (g := gb487) (o := .cells #[.bool t480, .int .i64 t481, .int .i64 t482, .int .i64 t483, .int .i64 t484, .int .i64 t485, .int .i64 t486] 35 (0, 0)) (by (with_reducible repeat (first | refine bN ?_ _ | refine bD ?_ | refine bA ?_ _)); exact BK487.out)) : gb489 ≠ gb487)); clear BK478; clear BK487; clear HB; have BK478 := n0_; have BK487 := n1_; have HB := n2_; have BK489 := n3_; have GW489 := n4_; have GE489 := n5_; have Nb_ := n6_; have Nl_ := n7_; have Na_ := n8_; have Nh_ := n9_; clear n0_ n1_ n2_ n3_ n4_ n5_ n6_ n7_ n8_ n9_; clear hb hbox hg; have hnb19 := Nl_.out; have hnc19 := Nb_.out; have hnb20 := Nh_.out; have hnc20 := Na_.out; have hcz21_0 : w18.cell? ⟨gb489, 0, none⟩ = some (.bool false) := (bC BK489.out 0).trans rfl; have hcz21_1 : w18.cell? ⟨gb489, 1, none⟩ = some (.int .i64 0) := (bC BK489.out 1).trans rfl; have hcz21_2 : w18.cell? ⟨gb489, 2, none⟩ = some (.int .i64 0) := (bC BK489.out 2).trans rfl; have hcz21_3 : w18.cell? ⟨gb489, 3, none⟩ = some (.int .i64 0) := (bC BK489.out 3).trans rfl; have hcz21_4 : w18.cell? ⟨gb489, 4, none⟩ = some (.int .i64 0) := (bC BK489.out 4).trans rfl; have hcz21_5 : w18.cell? ⟨gb489, 5, none⟩ = some (.int .i64 0) := (bC BK489.out 5).trans rfl; have hcz21_6 : w18.cell? ⟨gb489, 6, none⟩ = some (.int .i64 0) := (bC BK489.out 6).trans rfl; have hfz21_0 := bF BK489.out 0; have hfz21_1 := bF BK489.out 1; have hfz21_2 := bF BK489.out 2; have hfz21_3 := bF BK489.out 3; have hfz21_4 := bF BK489.out 4; have hfz21_5 := bF BK489.out 5; have hfz21_6 := bF BK489.out 6; have hcz22_0 : w18.cell? ⟨gb487, 0, none⟩ = some (.bool t480) := (bC BK487.out 0).trans rfl; have hcz22_1 : w18.cell? ⟨gb487, 1, none⟩ = some (.int .i64 t481) := (bC BK487.out 1).trans rfl; have hcz22_2 : w18.cell? ⟨gb487, 2, none⟩ = some (.int .i64 t482) := (bC BK487.out 2).trans rfl; have hcz22_3 : w18.cell? ⟨gb487, 3, none⟩ = some (.int .i64 t483) := (bC BK487.out 3).trans rfl; have hcz22_4 : w18.cell? ⟨gb487, 4, none⟩ = some (.int .i64 t484) := (bC BK487.out 4).trans rfl; have hcz22_5 : w18.cell? ⟨gb487, 5, none⟩ = some (.int .i64 t485) := (bC BK487.out 5).trans rfl; have hcz22_6 : w18.cell? ⟨gb487, 6, none⟩ = some (.int .i64 t486) := (bC BK487.out 6).trans rfl; have hfz22_0 := bF BK487.out 0; have hfz22_1 := bF BK487.out 1; have hfz22_2 := bF BK487.out 2; have hfz22_3 := bF BK487.out 3; have hfz22_4 := bF BK487.out 4; have hfz22_5 := bF BK487.out 5; have hfz22_6 := bF BK487.out 6) | ((with_reducible refine gate_dst (N := 11) rfl ?_); refine box_event ?hg (N := 11) ?hd (cs := #[.bool false, .int .i64 0, .int .i64 0, .int .i64 0, .int .i64 0, .int .i64 0, .int .i64 0]) (t := 35) ?hr ?_; (case hd => rfl); (case hg => rfl); (case hr => first | (go_simp; done) | (go_simp; rfl)); intro gb490 hg w23 hbox hb; have n0_ := Aside0.mk (bB (g := gb478) (o := .cells #[.bool a0_0, .int .i16 a0_1, .int .i16 a0_2, .int .i16 a0_3, .int .i32 a0_4, .int .u16 a0_5, .int .u16 a0_6, .bool a0_7] 27 (0, 0)) (by (with_reducible repeat (first | refine bN ?_ _ | refine bD ?_ | refine bA ?_ _)); refine blk_far ?_ Nb_.out _; (with_reducible repeat (first | refine bN ?_ _ | refine bD ?_ | refine bA ?_ _)); refine blk_far ?_ Nb_.out _; (with_reducible repeat (first | refine bN ?_ _ | refine bD ?_ | refine bA ?_ _)); refine blk_far ?_ Nb_.out _; (with_reducible repeat (first | refine bN ?_ _ | refine bD ?_ | refine bA ?_ _)); refine blk_far ?_ Nb_.out _; (with_reducible repeat (first | refine bN ?_ _ | refine bD ?_ | refine bA ?_ _)); refine blk_far ?_ Nb_.out _; (with_reducible repeat (first | refine bN ?_ _ | refine bD ?_ | refine bA ?_ _)); refine blk_far ?_ Nb_.out _; (with_reducible repeat (first | refine bN ?_ _ | refine bD ?_ | refine bA ?_ _)); refine blk_far ?_ Nb_.out _; (with_reducible repeat (first | refine bN ?_ _ | refine bD ?_ | refine bA ?_ _)); refine blk_far ?_ Nb_.out _; (with_reducible repeat (first | refine bN ?_ _ | refine bD ?_ | refine bA ?_ _)); refine blk_far ?_ Nb_.out _; (with_reducible repeat (first | refine bN ?_ _ | refine bD ?_ | refine bA ?_ _)); refine blk_far ?_ Nb_.out _; (with_reducible repeat (first | refine bN ?_ _ | refine bD ?_ | refine bA ?_ _)); exact BK478.out) hb); have n1_ := Aside0.mk (bB (g := gb487) (o := .cells #[.bool t480, .int .i64 t481, .int .i64 t482, .int .i64 t483, .int .i64 t484, .int .i64 t485, .int .i64 t486] 35 (0, 0)) (by (with_reducible repeat (first | refine bN ?_ _ | refine bD ?_ | refine bA ?_ _)); refine blk_far ?_ Na_.out _; (with_reducible repeat (first | refine bN ?_ _ | refine bD ?_ | refine bA ?_ _)); refine blk_far ?_ Na_.out _; (with_reducible repeat (first | refine bN ?_ _ | refine bD ?_ | refine bA ?_ _)); refine blk_far ?_ Na_.out _; (with_reducible repeat (first | refine bN ?_ _ | refine bD ?_ | refine bA ?_ _)); refine blk_far ?_ Na_.out _; (with_reducible repeat (first | refine bN ?_ _ | refine bD ?_ | refine bA ?_ _)); refine blk_far ?_ Na_.out _; (with_reducible repeat (first | refine bN ?_ _ | refine bD ?_ | refine bA ?_ _)); refine blk_far ?_ Na_.out _; (with_reducible repeat (first | refine bN ?_ _ | refine bD ?_ | refine bA ?_ _)); refine blk_far ?_ Na_.out _; (with_reducible repeat (first | refine bN ?_ _ | refine bD ?_ | refine bA ?_ _)); refine blk_far ?_ Na_.out _; (with_reducible repeat (first | refine bN ?_ _ | refine bD ?_ | refine bA ?_ _)); refine blk_far ?_ Na_.out _; (with_reducible repeat (first | refine bN ?_ _ | refine bD ?_ | refine bA ?_ _)); refine blk_far ?_ Na_.out _; (with_reducible repeat (first | refine bN ?_ _ | refine bD ?_ | refine bA ?_ _)); exact BK487.out) hb); have n2_ := Aside0.mk (bB (g := gb489) (o := .cells #[.bool t480, .int .i64 t481, .int .i64 t482, .int .i64 (wrap64 (7 - t483)), .int .i64 (wrap64 (t484 + 5)), .int .i64 (wrap64 (t485 + 5)), .int .i64 t486] 35 (0, 0)) (by (with_reducible repeat (first | refine bN ?_ _ | refine bD ?_ | refine bA ?_ _)); refine blk_put (cs := #[.bool t480, .int .i64 t481, .int .i64 t482, .int .i64 (wrap64 (7 - t483)), .int .i64 (wrap64 (t484 + 5)), .int .i64 t485, .int .i64 t486]) ?_ 5 _ rfl; (with_reducible repeat (first | refine bN ?_ _ | refine bD ?_ | refine bA ?_ _)); refine blk_put (cs := #[.bool t480, .int .i64 t481, .int .i64 t482, .int .i64 (wrap64 (7 - t483)), .int .i64 t484, .int .i64 t485, .int .i64 t486]) ?_ 4 _ rfl; (with_reducible repeat (first | refine bN ?_ _ | refine bD ?_ | refine bA ?_ _)); refine blk_put (cs := #[.bool t480, .int .i64 t481, .int .i64 t482, .int .i64 t483, .int .i64 t484, .int .i64 t485, .int .i64 t486]) ?_ 3 _ rfl; (with_reducible repeat (first | refine bN ?_ _ | refine bD ?_ | refine bA ?_ _)); refine blk_put (cs := #[.bool t480, .int .i64 t481, .int .i64 t482, .int .i64 t483, .int .i64 t484, .int .i64 t485, .int .i64 0]) ?_ 6 _ rfl; (with_reducible repeat (first | refine bN ?_ _ | refine bD ?_ | refine bA ?_ _)); refine blk_put (cs := #[.bool t480, .int .i64 t481, .int .i64 t482, .int .i64 t483, .int .i64 t484, .int .i64 0, .int .i64 0]) ?_ 5 _ rfl; (with_reducible repeat (first | refine bN ?_ _ | refine bD ?_ | refine bA ?_ _)); refine blk_put (cs := #[.bool t480, .int .i64 t481, .int .i64 t482, .int .i64 t483, .int .i64 0, .int .i64 0, .int .i64 0]) ?_ 4 _ rfl; (with_reducible repeat (first | refine bN ?_ _ | refine bD ?_ | refine bA ?_ _)); refine blk_put (cs := #[.bool t480, .int .i64 t481, .int .i64 t482, .int .i64 0, .int .i64 0, .int .i64 0, .int .i64 0]) ?_ 3 _ rfl; (with_reducible repeat (first | refine bN ?_ _ | refine bD ?_ | refine bA ?_ _)); refine blk_put (cs := #[.bool t480, .int .i64 t481, .int .i64 0, .int .i64 0, .int .i64 0, .int .i64 0, .int .i64 0]) ?_ 2 _ rfl; (with_reducible repeat (first | refine bN ?_ _ | refine bD ?_ | refine bA ?_ _)); refine blk_put (cs := #[.bool t480, .int .i64 0, .int .i64 0, .int .i64 0, .int .i64 0, .int .i64 0, .int .i64 0]) ?_ 1 _ rfl; (with_reducible repeat (first | refine bN ?_ _ | refine bD ?_ | refine bA ?_ _)); refine blk_put (cs := #[.bool false, .int .i64 0, .int .i64 0, .int .i64 0, .int .i64 0, .int .i64 0, .int .i64 0]) ?_ 0 _ rfl; (with_reducible repeat (first | refine bN ?_ _ | refine bD ?_ | refine bA ?_ _)); exact BK489.out) hb); have n3_ := Aside0.mk (below_step (by repeat (first | (with_reducible first | exact HB.out | apply pA | apply pN | apply p1_ | refine bS ?_ GE478.out | refine bS ?_ GE487.out | refine bS ?_ GE489.out) | exact HB.out)) hb); have n4_ := Aside0.mk (hbox); have n5_ := Aside0.mk ((by rw [hg]; exact (below_size (by repeat (first | (with_reducible first | exact HB.out | apply pA | apply pN | apply p1_ | refine bS ?_ GE478.out | refine bS ?_ GE487.out | refine bS ?_ GE489.out) | exact HB.out))) : w.heap.size ≤ gb490)); have n6_ := Aside0.mk ((by rw [hg]; exact (below_size (by repeat (first | (with_reducible first | exact HB.out | apply pA | apply pN | apply p1_ | refine bS ?_ GE478.out | refine bS ?_ GE487.out | refine bS ?_ GE489.out) | exact HB.out))) : w.heap.size ≤ gb490)); have n7_ := Aside0.mk ((by rw [hg]; exact Nat.ne_of_lt (blk_lt (g := gb478) (o := .cells #[.bool a0_0, .int .i16 a0_1, .int .i16 a0_2, .int .i16 a0_3, .int .i32 a0_4, .int .u16 a0_5, .int .u16 a0_6, .bool a0_7] 27 (0, 0)) (by (with_reducible repeat (first | refine bN ?_ _ | refine bD ?_ | refine bA ?_ _)); refine blk_far ?_ Nb_.out _; (with_reducible repeat (first | refine bN ?_ _ | refine bD ?_ | refine bA ?_ _)); refine blk_far ?_ Nb_.out _; (with_reducible repeat (first | refine bN ?_ _ | refine bD ?_ | refine bA ?_ _)); refine blk_far ?_ Nb_.out _; (with_reducible repeat (first | refine bN ?_ _ | refine bD ?_ | refine bA ?_ _)); refine blk_far ?_ Nb_.out _; (with_reducible repeat (first | refine bN ?_ _ | refine bD ?_ | refine bA ?_ _)); refine blk_far ?_ Nb_.out _; (with_reducible repeat (first | refine bN ?_ _ | refine bD ?_ | refine bA ?_ _)); refine blk_far ?_ Nb_.out _; (with_reducible repeat (first | refine bN ?_ _ | refine bD ?_ | refine bA ?_ _)); refine blk_far ?_ Nb_.out _; (with_reducible repeat (first | refine bN ?_ _ | refine bD ?_ | refine bA ?_ _)); refine blk_far ?_ Nb_.out _; (with_reducible repeat (first | refine bN ?_ _ | refine bD ?_ | refine bA ?_ _)); refine blk_far ?_ Nb_.out _; (with_reducible repeat (first | refine bN ?_ _ | refine bD ?_ | refine bA ?_ _)); refine blk_far ?_ Nb_.out _; (with_reducible repeat (first | refine bN ?_ _ | refine bD ?_ | refine bA ?_ _)); exact BK478.out)) : gb478 ≠ gb490)); have n8_ := Aside0.mk ((by rw [hg]; exact Nat.ne_of_gt (blk_lt (g := gb478) (o := .cells #[.bool a0_0, .int .i16 a0_1, .int .i16 a0_2, .int .i16 a0_3, .int .i32 a0_4, .int .u16 a0_5, .int .u16 a0_6, .bool a0_7] 27 (0, 0)) (by (with_reducible repeat (first | refine bN ?_ _ | refine bD ?_ | refine bA ?_ _)); refine blk_far ?_ Nb_.out _; (with_reducible repeat (first | refine bN ?_ _ | refine bD ?_ | refine bA ?_ _)); refine blk_far ?_ Nb_.out _; (with_reducible repeat (first | refine bN ?_ _ | refine bD ?_ | refine bA ?_ _)); refine blk_far ?_ Nb_.out _; (with_reducible repeat (first | refine bN ?_ _ | refine bD ?_ | refine bA ?_ _)); refine blk_far ?_ Nb_.out _; (with_reducible repeat (first | refine bN ?_ _ | refine bD ?_ | refine bA ?_ _)); refine blk_far ?_ Nb_.out _; (with_reducible repeat (first | refine bN ?_ _ | refine bD ?_ | refine bA ?_ _)); refine blk_far ?_ Nb_.out _; (with_reducible repeat (first | refine bN ?_ _ | refine bD ?_ | refine bA ?_ _)); refine blk_far ?_ Nb_.out _; (with_reducible repeat (first | refine bN ?_ _ | refine bD ?_ | refine bA ?_ _)); refine blk_far ?_ Nb_.out _; (with_reducible repeat (first | refine bN ?_ _ | refine bD ?_ | refine bA ?_ _)); refine blk_far ?_ Nb_.out _; (with_reducible repeat (first | refine bN ?_ _ | refine bD ?_ | refine bA ?_ _)); refine blk_far ?_ Nb_.out _; (with_reducible repeat (first | refine bN ?_ _ | refine bD ?_ | refine bA ?_ _)); exact BK478.out)) : gb490 ≠ gb478)); have n9_ := Aside0.mk ((by rw [hg]; exact Nat.ne_of_lt (blk_lt (g := gb487) (o := .cells #[.bool t480, .int .i64 t481, .int .i64 t482, .int .i64 t483, .int .i64 t484, .int .i64 t485, .int .i64 t486] 35 (0, 0)) (by (with_reducible repeat (first | refine bN ?_ _ | refine bD ?_ | refine bA ?_ _)); refine blk_far ?_ Na_.out _; (with_reducible repeat (first | refine bN ?_ _ | refine bD ?_ | refine bA ?_ _)); refine blk_far ?_ Na_.out _; (with_reducible repeat (first | refine bN ?_ _ | refine bD ?_ | refine bA ?_ _)); refine blk_far ?_ Na_.out _; (with_reducible repeat (first | refine bN ?_ _ | refine bD ?_ | refine bA ?_ _)); refine blk_far ?_ Na_.out _; (with_reducible repeat (first | refine bN ?_ _ | refine bD ?_ | refine bA ?_ _)); refine blk_far ?_ Na_.out _; (with_reducible repeat (first | refine bN ?_ _ | refine bD ?_ | refine bA ?_ _)); refine blk_far ?_ Na_.out _; (with_reducible repeat (first | refine bN ?_ _ | refine bD ?_ | refine bA ?_ _)); refine blk_far ?_ Na_.out _; (with_reducible repeat (first | refine bN ?_ _ | refine bD ?_ | refine bA ?_ _)); refine blk_far ?_ Na_.out _; (with_reducible repeat (first | refine bN ?_ _ | refine bD ?_ | refine bA ?_ _)); refine blk_far ?_ Na_.out _; (with_reducible repeat (first | refine bN ?_ _ | refine bD ?_ | refine bA ?_ _)); refine blk_far ?_ Na_.out _; (with_reducible repeat (first | refine bN ?_ _ | refine bD ?_ | refine bA ?_ _)); exact BK487.out)) : gb487 ≠ gb490)); have n10_ := Aside0.mk ((by rw [hg]; exact Nat.ne_of_gt (blk_lt (g := gb487) (o := .cells #[.bool t480, .int .i64 t481, .int .i64 t482, .int .i64 t483, .int .i64 t484, .int .i64 t485, .int .i64 t486] 35 (0, 0)) (by (with_reducible repeat (first | refine bN ?_ _ | refine bD ?_ | refine bA ?_ _)); refine blk_far ?_ Na_.out _; (with_reducible repeat (first | refine bN ?_ _ | refine bD ?_ | refine bA ?_ _)); refine blk_far ?_ Na_.out _; (with_reducible repeat (first | refine bN ?_ _ | refine bD ?_ | refine bA ?_ _)); refine blk_far ?_ Na_.out _; (with_reducible repeat (first | refine bN ?_ _ | refine bD ?_ | refine bA ?_ _)); refine blk_far ?_ Na_.out _; (with_reducible repeat (first | refine bN ?_ _ | refine bD ?_ | refine bA ?_ _)); refine blk_far ?_ Na_.out _; (with_reducible repeat (first | refine bN ?_ _ | refine bD ?_ | refine bA ?_ _)); refine blk_far ?_ Na_.out _; (with_reducible repeat (first | refine bN ?_ _ | refine bD ?_ | refine bA ?_ _)); refine blk_far ?_ Na_.out _; (with_reducible repeat (first | refine bN ?_ _ | refine bD ?_ | refine bA ?_ _)); refine blk_far ?_ Na_.out _; (with_reducible repeat (first | refine bN ?_ _ | refine bD ?_ | refine bA ?_ _)); refine blk_far ?_ Na_.out _; (with_reducible repeat (first | refine bN ?_ _ | refine bD ?_ | refine bA ?_ _)); refine blk_far ?_ Na_.out _; (with_reducible repeat (first | refine bN ?_ _ | refine bD ?_ | refine bA ?_ _)); exact BK487.out)) : gb490 ≠ gb487)); have n11_ := Aside0.mk ((by rw [hg]; exact Nat.ne_of_lt (blk_lt (g := gb489) (o := .cells #[.bool t480, .int .i64 t481, .int .i64 t482, .int .i64 (wrap64 (7 - t483)), .int .i64 (wrap64 (t484 + 5)), .int .i64 (wrap64 (t485 + 5)), .int .i64 t486] 35 (0, 0)) (by (with_reducible repeat (first | refine bN ?_ _ | refine bD ?_ | refine bA ?_ _)); refine blk_put (cs := #[.bool t480, .int .i64 t481, .int .i64 t482, .int .i64 (wrap64 (7 - t483)), .int .i64 (wrap64 (t484 + 5)), .int .i64 t485, .int .i64 t486]) ?_ 5 _ rfl; (with_reducible repeat (first | refine bN ?_ _ | refine bD ?_ | refine bA ?_ _)); refine blk_put (cs := #[.bool t480, .int .i64 t481, .int .i64 t482, .int .i64 (wrap64 (7 - t483)), .int .i64 t484, .int .i64 t485, .int .i64 t486]) ?_ 4 _ rfl; (with_reducible repeat (first | refine bN ?_ _ | refine bD ?_ | refine bA ?_ _)); refine blk_put (cs := #[.bool t480, .int .i64 t481, .int .i64 t482, .int .i64 t483, .int .i64 t484, .int .i64 t485, .int .i64 t486]) ?_ 3 _ rfl; (with_reducible repeat (first | refine bN ?_ _ | refine bD ?_ | refine bA ?_ _)); refine blk_put (cs := #[.bool t480, .int .i64 t481, .int .i64 t482, .int .i64 t483, .int .i64 t484, .int .i64 t485, .int .i64 0]) ?_ 6 _ rfl; (with_reducible repeat (first | refine bN ?_ _ | refine bD ?_ | refine bA ?_ _)); refine blk_put (cs := #[.bool t480, .int .i64 t481, .int .i64 t482, .int .i64 t483, .int .i64 t484, .int .i64 0, .int .i64 0]) ?_ 5 _ rfl; (with_reducible repeat (first | refine bN ?_ _ | refine bD ?_ | refine bA ?_ _)); refine blk_put (cs := #[.bool t480, .int .i64 t481, .int .i64 t482, .int .i64 t483, .int .i64 0, .int .i64 0, .int .i64 0]) ?_ 4 _ rfl; (with_reducible repeat (first | refine bN ?_ _ | refine bD ?_ | refine bA ?_ _)); refine blk_put (cs := #[.bool t480, .int .i64 t481, .int .i64 t482, .int .i64 0, .int .i64 0, .int .i64 0, .int .i64 0]) ?_ 3 _ rfl; (with_reducible repeat (first | refine bN ?_ _ | refine bD ?_ | refine bA ?_ _)); refine blk_put (cs := #[.bool t480, .int .i64 t481, .int .i64 0, .int .i64 0, .int .i64 0, .int .i64 0, .int .i64 0]) ?_ 2 _ rfl; (with_reducible repeat (first | refine bN ?_ _ | refine bD ?_ | refine bA ?_ _)); refine blk_put (cs := #[.bool t480, .int .i64 0, .int .i64 0, .int .i64 0, .int .i64 0, .int .i64 0, .int .i64 0]) ?_ 1 _ rfl; (with_reducible repeat (first | refine bN ?_ _ | refine bD ?_ | refine bA ?_ _)); refine blk_put (cs := #[.bool false, .int .i64 0, .int .i64 0, .int .i64 0, .int .i64 0, .int .i64 0, .int .i64 0]) ?_ 0 _ rfl; (with_reducible repeat (first | refine bN ?_ _ | refine bD ?_ | refine bA ?_ _)); exact BK489.out)) : gb489 ≠ gb490)); have n12_ := Aside0.mk ((by rw [hg]; exact Nat.ne_of_gt (blk_lt (g := gb489) (o := .cells #[.bool t480, .int .i64 t481, .int .i64 t482, .int .i64 (wrap64 (7 - t483)), .int .i64 (wrap64 (t484 + 5)), .int .i64 (wrap64 (t485 + 5)), .int .i64 t486] 35 (0, 0)) (by (with_reducible repeat (first | refine bN ?_ _ | refine bD ?_ | refine bA ?_ _)); refine blk_put (cs := #[.bool t480, .int .i64 t481, .int .i64 t482, .int .i64 (wrap64 (7 - t483)), .int .i64 (wrap64 (t484 + 5)), .int .i64 t485, .int .i64 t486]) ?_ 5 _ rfl; (with_reducible repeat (first | refine bN ?_ _ | refine bD ?_ | refine bA ?_ _)); refine blk_put (cs := #[.bool t480, .int .i64 t481, .int .i64 t482, .int .i64 (wrap64 (7 - t483)), .int .i64 t484, .int .i64 t485, .int .i64 t486]) ?_ 4 _ rfl; (with_reducible repeat (first | refine bN ?_ _ | refine bD ?_ | refine bA ?_ _)); refine blk_put (cs := #[.bool t480, .int .i64 t481, .int .i64 t482, .int .i64 t483, .int .i64 t484, .int .i64 t485, .int .i64 t486]) ?_ 3 _ rfl; (with_reducible repeat (first | refine bN ?_ _ | refine bD ?_ | refine bA ?_ _)); refine blk_put (cs := #[.bool t480, .int .i64 t481, .int .i64 t482, .int .i64 t483, .int .i64 t484, .int .i64 t485, .int .i64 0]) ?_ 6 _ rfl; (with_reducible repeat (first | refine bN ?_ _ | refine bD ?_ | refine bA ?_ _)); refine blk_put (cs := #[.bool t480, .int .i64 t481, .int .i64 t482, .int .i64 t483, .int .i64 t484, .int .i64 0, .int .i64 0]) ?_ 5 _ rfl; (with_reducible repeat (first | refine bN ?_ _ | refine bD ?_ | refine bA ?_ _)); refine blk_put (cs := #[.bool t480, .int .i64 t481, .int .i64 t482, .int .i64 t483, .int .i64 0, .int .i64 0, .int .i64 0]) ?_ 4 _ rfl; (with_reducible repeat (first | refine bN ?_ _ | refine bD ?_ | refine bA ?_ _)); refine blk_put (cs := #[.bool t480, .int .i64 t481, .int .i64 t482, .int .i64 0, .int .i64 0, .int .i64 0, .int .i64 0]) ?_ 3 _ rfl; (with_reducible repeat (first | refine bN ?_ _ | refine bD ?_ | refine bA ?_ _)); refine blk_put (cs := #[.bool t480, .int .i64 t481, .int .i64 0, .int .i64 0, .int .i64 0, .int .i64 0, .int .i64 0]) ?_ 2 _ rfl; (with_reducible repeat (first | refine bN ?_ _ | refine bD ?_ | refine bA ?_ _)); refine blk_put (cs := #[.bool t480, .int .i64 0, .int .i64 0, .int .i64 0, .int .i64 0, .int .i64 0, .int .i64 0]) ?_ 1 _ rfl; (with_reducible repeat (first | refine bN ?_ _ | refine bD ?_ | refine bA ?_ _)); refine blk_put (cs := #[.bool false, .int .i64 0, .int .i64 0, .int .i64 0, .int .i64 0, .int .i64 0, .int .i64 0]) ?_ 0 _ rfl; (with_reducible repeat (first | refine bN ?_ _ | refine bD ?_ | refine bA ?_ _)); exact BK489.out)) : gb490 ≠ gb489)); clear BK478; clear BK487; clear BK489; clear HB; have BK478 := n0_; have BK487 := n1_; have BK489 := n2_; have HB := n3_; have BK490 := n4_; have GW490 := n5_; have GE490 := n6_; have Ne_ := n7_; have Nk_ := n8_; have Nc_ := n9_; have Ng_ := n10_; have Nd_ := n11_; have Nj_ := n12_; clear n0_ n1_ n2_ n3_ n4_ n5_ n6_ n7_ n8_ n9_ n10_ n11_ n12_; clear hb hbox hg; have hnb24 := Nk_.out; have hnc24 := Ne_.out; have hnb25 := Ng_.out; have hnc25 := Nc_.out; have hnb26 := Nj_.out; have hnc26 := Nd_.out; have hcz27_0 : w23.cell? ⟨gb490, 0, none⟩ = some (.bool false) := (bC BK490.out 0).trans rfl; have hcz27_1 : w23.cell? ⟨gb490, 1, none⟩ = some (.int .i64 0) := (bC BK490.out 1).trans rfl; have hcz27_2 : w23.cell? ⟨gb490, 2, none⟩ = some (.int .i64 0) := (bC BK490.out 2).trans rfl; have hcz27_3 : w23.cell? ⟨gb490, 3, none⟩ = some (.int .i64 0) := (bC BK490.out 3).trans rfl; have hcz27_4 : w23.cell? ⟨gb490, 4, none⟩ = some (.int .i64 0) := (bC BK490.out 4).trans rfl; have hcz27_5 : w23.cell? ⟨gb490, 5, none⟩ = some (.int .i64 0) := (bC BK490.out 5).trans rfl; have hcz27_6 : w23.cell? ⟨gb490, 6, none⟩ = some (.int .i64 0) := (bC BK490.out 6).trans rfl; have hfz27_0 := bF BK490.out 0; have hfz27_1 := bF BK490.out 1; have hfz27_2 := bF BK490.out 2; have hfz27_3 := bF BK490.out 3; have hfz27_4 := bF BK490.out 4; have hfz27_5 := bF BK490.out 5; have hfz27_6 := bF BK490.out 6))
    (try simp only [Act.put, sI, sZ, sS])
    go_cut [54] (fun v54 wc => ∃ (kq : Nat) (x54_7 : Bool), v54 = .bool x54_7 ∧ Aside0 (w22_CFewer.j0 kq a1 a2 true t488 x54_7 t480 t481 t482 t483 t484 t485 t486 t480 t481 t482 (wrap64 (7 - t483)) (wrap64 (t484 + 5)) (wrap64 (t485 + 5)) t486 t480 t481 t482 t483 t484 t485 t486 = some r) ∧ Aside0 (kq ≤ k) ∧ Aside0 (wc.heap[gb478]? = some (.cells #[.bool a0_0, .int .i16 a0_1, .int .i16 a0_2, .int .i16 a0_3, .int .i32 a0_4, .int .u16 a0_5, .int .u16 a0_6, .bool a0_7] 27 (0, 0))) ∧ Aside0 (wc.heap[gb487]? = some (.cells #[.bool t480, .int .i64 t481, .int .i64 t482, .int .i64 t483, .int .i64 t484, .int .i64 t485, .int .i64 t486] 35 (0, 0))) ∧ Aside0 (wc.heap[gb489]? = some (.cells #[.bool t480, .int .i64 t481, .int .i64 t482, .int .i64 (wrap64 (7 - t483)), .int .i64 (wrap64 (t484 + 5)), .int .i64 (wrap64 (t485 + 5)), .int .i64 t486] 35 (0, 0))) ∧ Aside0 (wc.heap[gb490]? = some (.cells #[.bool t480, .int .i64 t481, .int .i64 t482, .int .i64 t483, .int .i64 t484, .int .i64 t485, .int .i64 t486] 35 (0, 0))) ∧ Aside0 (Below w.heap.size w wc))
    case first =>
      have H := HC8.out
      clear HC8
      by_cases c28 : t486 > 0
      · rw [if_pos c28] at H
        have c28b0 : decide (0 < t486) = true := decide_eq_true c28
        clear c28
        (first | rw [c28b0] | (simp only [i64_w, i32_w]; rw [c28b0]) | skip)
        have H' := Aside0.mk H
        clear H
        have hnb29 := Ni_.out
        have hnc29 := Nf_.out
        have hnb30 := Na_.out
        have hnc30 := Nh_.out
        have hnb31 := Nc_.out
        have hnc31 := Ng_.out
        have hcz32_0 : w23.cell? ⟨gb487, 0, none⟩ = some (.bool t480) := (bC BK487.out 0).trans rfl
        have hcz32_1 : w23.cell? ⟨gb487, 1, none⟩ = some (.int .i64 t481) := (bC BK487.out 1).trans rfl
        have hcz32_2 : w23.cell? ⟨gb487, 2, none⟩ = some (.int .i64 t482) := (bC BK487.out 2).trans rfl
        have hcz32_3 : w23.cell? ⟨gb487, 3, none⟩ = some (.int .i64 t483) := (bC BK487.out 3).trans rfl
        have hcz32_4 : w23.cell? ⟨gb487, 4, none⟩ = some (.int .i64 t484) := (bC BK487.out 4).trans rfl
        have hcz32_5 : w23.cell? ⟨gb487, 5, none⟩ = some (.int .i64 t485) := (bC BK487.out 5).trans rfl
        have hcz32_6 : w23.cell? ⟨gb487, 6, none⟩ = some (.int .i64 t486) := (bC BK487.out 6).trans rfl
        have hfz32_0 := bF BK487.out 0
        have hfz32_1 := bF BK487.out 1
        have hfz32_2 := bF BK487.out 2
        have hfz32_3 := bF BK487.out 3
        have hfz32_4 := bF BK487.out 4
        have hfz32_5 := bF BK487.out 5
        have hfz32_6 := bF BK487.out 6
        go_wp2
        go_meet
        case rel => exact ⟨_, (decide ((wrap64 (t485 - t486)) > t484)), (by first | rfl | (simp; done) | (simp [*]; done)), H', ⟨by first | omega | exact Nat.le_refl _⟩, ⟨by (with_reducible repeat (first | refine bN ?_ _ | refine bD ?_ | refine bA ?_ _)); refine blk_far ?_ Ne_.out _; (with_reducible repeat (first | refine bN ?_ _ | refine bD ?_ | refine bA ?_ _)); refine blk_far ?_ Ne_.out _; (with_reducible repeat (first | refine bN ?_ _ | refine bD ?_ | refine bA ?_ _)); refine blk_far ?_ Ne_.out _; (with_reducible repeat (first | refine bN ?_ _ | refine bD ?_ | refine bA ?_ _)); refine blk_far ?_ Ne_.out _; (with_reducible repeat (first | refine bN ?_ _ | refine bD ?_ | refine bA ?_ _)); refine blk_far ?_ Ne_.out _; (with_reducible repeat (first | refine bN ?_ _ | refine bD ?_ | refine bA ?_ _)); refine blk_far ?_ Ne_.out _; (with_reducible repeat (first | refine bN ?_ _ | refine bD ?_ | refine bA ?_ _)); refine blk_far ?_ Ne_.out _; (with_reducible repeat (first | refine bN ?_ _ | refine bD ?_ | refine bA ?_ _)); exact BK478.out⟩, ⟨by (with_reducible repeat (first | refine bN ?_ _ | refine bD ?_ | refine bA ?_ _)); refine blk_far ?_ Nc_.out _; (with_reducible repeat (first | refine bN ?_ _ | refine bD ?_ | refine bA ?_ _)); refine blk_far ?_ Nc_.out _; (with_reducible repeat (first | refine bN ?_ _ | refine bD ?_ | refine bA ?_ _)); refine blk_far ?_ Nc_.out _; (with_reducible repeat (first | refine bN ?_ _ | refine bD ?_ | refine bA ?_ _)); refine blk_far ?_ Nc_.out _; (with_reducible repeat (first | refine bN ?_ _ | refine bD ?_ | refine bA ?_ _)); refine blk_far ?_ Nc_.out _; (with_reducible repeat (first | refine bN ?_ _ | refine bD ?_ | refine bA ?_ _)); refine blk_far ?_ Nc_.out _; (with_reducible repeat (first | refine bN ?_ _ | refine bD ?_ | refine bA ?_ _)); refine blk_far ?_ Nc_.out _; (with_reducible repeat (first | refine bN ?_ _ | refine bD ?_ | refine bA ?_ _)); exact BK487.out⟩, ⟨by (with_reducible repeat (first | refine bN ?_ _ | refine bD ?_ | refine bA ?_ _)); refine blk_far ?_ Nd_.out _; (with_reducible repeat (first | refine bN ?_ _ | refine bD ?_ | refine bA ?_ _)); refine blk_far ?_ Nd_.out _; (with_reducible repeat (first | refine bN ?_ _ | refine bD ?_ | refine bA ?_ _)); refine blk_far ?_ Nd_.out _; (with_reducible repeat (first | refine bN ?_ _ | refine bD ?_ | refine bA ?_ _)); refine blk_far ?_ Nd_.out _; (with_reducible repeat (first | refine bN ?_ _ | refine bD ?_ | refine bA ?_ _)); refine blk_far ?_ Nd_.out _; (with_reducible repeat (first | refine bN ?_ _ | refine bD ?_ | refine bA ?_ _)); refine blk_far ?_ Nd_.out _; (with_reducible repeat (first | refine bN ?_ _ | refine bD ?_ | refine bA ?_ _)); refine blk_far ?_ Nd_.out _; (with_reducible repeat (first | refine bN ?_ _ | refine bD ?_ | refine bA ?_ _)); exact BK489.out⟩, ⟨by (with_reducible repeat (first | refine bN ?_ _ | refine bD ?_ | refine bA ?_ _)); refine blk_put (cs := #[.bool t480, .int .i64 t481, .int .i64 t482, .int .i64 t483, .int .i64 t484, .int .i64 t485, .int .i64 0]) ?_ 6 _ rfl; (with_reducible repeat (first | refine bN ?_ _ | refine bD ?_ | refine bA ?_ _)); refine blk_put (cs := #[.bool t480, .int .i64 t481, .int .i64 t482, .int .i64 t483, .int .i64 t484, .int .i64 0, .int .i64 0]) ?_ 5 _ rfl; (with_reducible repeat (first | refine bN ?_ _ | refine bD ?_ | refine bA ?_ _)); refine blk_put (cs := #[.bool t480, .int .i64 t481, .int .i64 t482, .int .i64 t483, .int .i64 0, .int .i64 0, .int .i64 0]) ?_ 4 _ rfl; (with_reducible repeat (first | refine bN ?_ _ | refine bD ?_ | refine bA ?_ _)); refine blk_put (cs := #[.bool t480, .int .i64 t481, .int .i64 t482, .int .i64 0, .int .i64 0, .int .i64 0, .int .i64 0]) ?_ 3 _ rfl; (with_reducible repeat (first | refine bN ?_ _ | refine bD ?_ | refine bA ?_ _)); refine blk_put (cs := #[.bool t480, .int .i64 t481, .int .i64 0, .int .i64 0, .int .i64 0, .int .i64 0, .int .i64 0]) ?_ 2 _ rfl; (with_reducible repeat (first | refine bN ?_ _ | refine bD ?_ | refine bA ?_ _)); refine blk_put (cs := #[.bool t480, .int .i64 0, .int .i64 0, .int .i64 0, .int .i64 0, .int .i64 0, .int .i64 0]) ?_ 1 _ rfl; (with_reducible repeat (first | refine bN ?_ _ | refine bD ?_ | refine bA ?_ _)); refine blk_put (cs := #[.bool false, .int .i64 0, .int .i64 0, .int .i64 0, .int .i64 0, .int .i64 0, .int .i64 0]) ?_ 0 _ rfl; (with_reducible repeat (first | refine bN ?_ _ | refine bD ?_ | refine bA ?_ _)); exact BK490.out⟩, ⟨by repeat (first | (with_reducible first | exact HB.out | apply pA | apply pN | apply p1_ | refine bS ?_ GE478.out | refine bS ?_ GE487.out | refine bS ?_ GE489.out | refine bS ?_ GE490.out) | exact HB.out)⟩⟩
      · rw [if_neg c28] at H
        have c28b0 : decide (0 < t486) = false := decide_eq_false c28
        clear c28
        (first | rw [c28b0] | (simp only [i64_w, i32_w]; rw [c28b0]) | skip)
        have H' := Aside0.mk H
        clear H
        have hnb33 := Ni_.out
        have hnc33 := Nf_.out
        have hnb34 := Na_.out
        have hnc34 := Nh_.out
        have hnb35 := Nc_.out
        have hnc35 := Ng_.out
        have hcz36_0 : w23.cell? ⟨gb487, 0, none⟩ = some (.bool t480) := (bC BK487.out 0).trans rfl
        have hcz36_1 : w23.cell? ⟨gb487, 1, none⟩ = some (.int .i64 t481) := (bC BK487.out 1).trans rfl
        have hcz36_2 : w23.cell? ⟨gb487, 2, none⟩ = some (.int .i64 t482) := (bC BK487.out 2).trans rfl
        have hcz36_3 : w23.cell? ⟨gb487, 3, none⟩ = some (.int .i64 t483) := (bC BK487.out 3).trans rfl
        have hcz36_4 : w23.cell? ⟨gb487, 4, none⟩ = some (.int .i64 t484) := (bC BK487.out 4).trans rfl
        have hcz36_5 : w23.cell? ⟨gb487, 5, none⟩ = some (.int .i64 t485) := (bC BK487.out 5).trans rfl
        have hcz36_6 : w23.cell? ⟨gb487, 6, none⟩ = some (.int .i64 t486) := (bC BK487.out 6).trans rfl
        have hfz36_0 := bF BK487.out 0
        have hfz36_1 := bF BK487.out 1
        have hfz36_2 := bF BK487.out 2
        have hfz36_3 := bF BK487.out 3
        have hfz36_4 := bF BK487.out 4
        have hfz36_5 := bF BK487.out 5
        have hfz36_6 := bF BK487.out 6
        go_wp2
        go_meet
        case rel => exact ⟨_, (false), (by first | rfl | (simp; done) | (simp [*]; done)), H', ⟨by first | omega | exact Nat.le_refl _⟩, ⟨by (with_reducible repeat (first | refine bN ?_ _ | refine bD ?_ | refine bA ?_ _)); refine blk_far ?_ Ne_.out _; (with_reducible repeat (first | refine bN ?_ _ | refine bD ?_ | refine bA ?_ _)); refine blk_far ?_ Ne_.out _; (with_reducible repeat (first | refine bN ?_ _ | refine bD ?_ | refine bA ?_ _)); refine blk_far ?_ Ne_.out _; (with_reducible repeat (first | refine bN ?_ _ | refine bD ?_ | refine bA ?_ _)); refine blk_far ?_ Ne_.out _; (with_reducible repeat (first | refine bN ?_ _ | refine bD ?_ | refine bA ?_ _)); refine blk_far ?_ Ne_.out _; (with_reducible repeat (first | refine bN ?_ _ | refine bD ?_ | refine bA ?_ _)); refine blk_far ?_ Ne_.out _; (with_reducible repeat (first | refine bN ?_ _ | refine bD ?_ | refine bA ?_ _)); refine blk_far ?_ Ne_.out _; (with_reducible repeat (first | refine bN ?_ _ | refine bD ?_ | refine bA ?_ _)); exact BK478.out⟩, ⟨by (with_reducible repeat (first | refine bN ?_ _ | refine bD ?_ | refine bA ?_ _)); refine blk_far ?_ Nc_.out _; (with_reducible repeat (first | refine bN ?_ _ | refine bD ?_ | refine bA ?_ _)); refine blk_far ?_ Nc_.out _; (with_reducible repeat (first | refine bN ?_ _ | refine bD ?_ | refine bA ?_ _)); refine blk_far ?_ Nc_.out _; (with_reducible repeat (first | refine bN ?_ _ | refine bD ?_ | refine bA ?_ _)); refine blk_far ?_ Nc_.out _; (with_reducible repeat (first | refine bN ?_ _ | refine bD ?_ | refine bA ?_ _)); refine blk_far ?_ Nc_.out _; (with_reducible repeat (first | refine bN ?_ _ | refine bD ?_ | refine bA ?_ _)); refine blk_far ?_ Nc_.out _; (with_reducible repeat (first | refine bN ?_ _ | refine bD ?_ | refine bA ?_ _)); refine blk_far ?_ Nc_.out _; (with_reducible repeat (first | refine bN ?_ _ | refine bD ?_ | refine bA ?_ _)); exact BK487.out⟩, ⟨by (with_reducible repeat (first | refine bN ?_ _ | refine bD ?_ | refine bA ?_ _)); refine blk_far ?_ Nd_.out _; (with_reducible repeat (first | refine bN ?_ _ | refine bD ?_ | refine bA ?_ _)); refine blk_far ?_ Nd_.out _; (with_reducible repeat (first | refine bN ?_ _ | refine bD ?_ | refine bA ?_ _)); refine blk_far ?_ Nd_.out _; (with_reducible repeat (first | refine bN ?_ _ | refine bD ?_ | refine bA ?_ _)); refine blk_far ?_ Nd_.out _; (with_reducible repeat (first | refine bN ?_ _ | refine bD ?_ | refine bA ?_ _)); refine blk_far ?_ Nd_.out _; (with_reducible repeat (first | refine bN ?_ _ | refine bD ?_ | refine bA ?_ _)); refine blk_far ?_ Nd_.out _; (with_reducible repeat (first | refine bN ?_ _ | refine bD ?_ | refine bA ?_ _)); refine blk_far ?_ Nd_.out _; (with_reducible repeat (first | refine bN ?_ _ | refine bD ?_ | refine bA ?_ _)); exact BK489.out⟩, ⟨by (with_reducible repeat (first | refine bN ?_ _ | refine bD ?_ | refine bA ?_ _)); refine blk_put (cs := #[.bool t480, .int .i64 t481, .int .i64 t482, .int .i64 t483, .int .i64 t484, .int .i64 t485, .int .i64 0]) ?_ 6 _ rfl; (with_reducible repeat (first | refine bN ?_ _ | refine bD ?_ | refine bA ?_ _)); refine blk_put (cs := #[.bool t480, .int .i64 t481, .int .i64 t482, .int .i64 t483, .int .i64 t484, .int .i64 0, .int .i64 0]) ?_ 5 _ rfl; (with_reducible repeat (first | refine bN ?_ _ | refine bD ?_ | refine bA ?_ _)); refine blk_put (cs := #[.bool t480, .int .i64 t481, .int .i64 t482, .int .i64 t483, .int .i64 0, .int .i64 0, .int .i64 0]) ?_ 4 _ rfl; (with_reducible repeat (first | refine bN ?_ _ | refine bD ?_ | refine bA ?_ _)); refine blk_put (cs := #[.bool t480, .int .i64 t481, .int .i64 t482, .int .i64 0, .int .i64 0, .int .i64 0, .int .i64 0]) ?_ 3 _ rfl; (with_reducible repeat (first | refine bN ?_ _ | refine bD ?_ | refine bA ?_ _)); refine blk_put (cs := #[.bool t480, .int .i64 t481, .int .i64 0, .int .i64 0, .int .i64 0, .int .i64 0, .int .i64 0]) ?_ 2 _ rfl; (with_reducible repeat (first | refine bN ?_ _ | refine bD ?_ | refine bA ?_ _)); refine blk_put (cs := #[.bool t480, .int .i64 0, .int .i64 0, .int .i64 0, .int .i64 0, .int .i64 0, .int .i64 0]) ?_ 1 _ rfl; (with_reducible repeat (first | refine bN ?_ _ | refine bD ?_ | refine bA ?_ _)); refine blk_put (cs := #[.bool false, .int .i64 0, .int .i64 0, .int .i64 0, .int .i64 0, .int .i64 0, .int .i64 0]) ?_ 0 _ rfl; (with_reducible repeat (first | refine bN ?_ _ | refine bD ?_ | refine bA ?_ _)); exact BK490.out⟩, ⟨by repeat (first | (with_reducible first | exact HB.out | apply pA | apply pN | apply p1_ | refine bS ?_ GE478.out | refine bS ?_ GE487.out | refine bS ?_ GE489.out | refine bS ?_ GE490.out) | exact HB.out)⟩⟩
    case rest =>
      clear HC8
      try clear c1
      try clear c2
      try clear p2
      try clear c3
      try clear c5
      try clear p6
      try clear c8
      try clear c9
      try clear c10
      try clear c11
      try clear c14
      try clear c19
      try clear c20
      try clear c24
      try clear c25
      try clear c26
      try clear c28
      try clear c28b0
      try clear c29
      try clear c30
      try clear c31
      try clear c33
      try clear c34
      try clear c35
      try clear hcz11_0
      try clear hcz11_1
      try clear hcz11_2
      try clear hcz11_3
      try clear hcz11_4
      try clear hcz11_5
      try clear hcz11_6
      try clear hcz11_7
      try clear hcz15_0
      try clear hcz15_1
      try clear hcz15_2
      try clear hcz15_3
      try clear hcz15_4
      try clear hcz15_5
      try clear hcz15_6
      try clear hcz17_0
      try clear hcz17_1
      try clear hcz17_2
      try clear hcz17_3
      try clear hcz17_4
      try clear hcz17_5
      try clear hcz17_6
      try clear hcz21_0
      try clear hcz21_1
      try clear hcz21_2
      try clear hcz21_3
      try clear hcz21_4
      try clear hcz21_5
      try clear hcz21_6
      try clear hcz22_0
      try clear hcz22_1
      try clear hcz22_2
      try clear hcz22_3
      try clear hcz22_4
      try clear hcz22_5
      try clear hcz22_6
      try clear hcz27_0
      try clear hcz27_1
      try clear hcz27_2
      try clear hcz27_3
      try clear hcz27_4
      try clear hcz27_5
      try clear hcz27_6
      try clear hcz32_0
      try clear hcz32_1
      try clear hcz32_2
      try clear hcz32_3
      try clear hcz32_4
      try clear hcz32_5
      try clear hcz32_6
      try clear hcz36_0
      try clear hcz36_1
      try clear hcz36_2
      try clear hcz36_3
      try clear hcz36_4
      try clear hcz36_5
      try clear hcz36_6
      try clear hfz11_0
      try clear hfz11_1
      try clear hfz11_2
      try clear hfz11_3
      try clear hfz11_4
      try clear hfz11_5
      try clear hfz11_6
      try clear hfz11_7
      try clear hfz15_0
      try clear hfz15_1
      try clear hfz15_2
      try clear hfz15_3
      try clear hfz15_4
      try clear hfz15_5
      try clear hfz15_6
      try clear hfz17_0
      try clear hfz17_1
      try clear hfz17_2
      try clear hfz17_3
      try clear hfz17_4
      try clear hfz17_5
      try clear hfz17_6
      try clear hfz21_0
      try clear hfz21_1
      try clear hfz21_2
      try clear hfz21_3
      try clear hfz21_4
      try clear hfz21_5
      try clear hfz21_6
      try clear hfz22_0
      try clear hfz22_1
      try clear hfz22_2
      try clear hfz22_3
      try clear hfz22_4
      try clear hfz22_5
      try clear hfz22_6
      try clear hfz27_0
      try clear hfz27_1
      try clear hfz27_2
      try clear hfz27_3
      try clear hfz27_4
      try clear hfz27_5
      try clear hfz27_6
      try clear hfz32_0
      try clear hfz32_1
      try clear hfz32_2
      try clear hfz32_3
      try clear hfz32_4
      try clear hfz32_5
      try clear hfz32_6
      try clear hfz36_0
      try clear hfz36_1
      try clear hfz36_2
      try clear hfz36_3
      try clear hfz36_4
      try clear hfz36_5
      try clear hfz36_6
      obtain ⟨kq, x54_7, rfl, HA, HJ7, BK478, BK487, BK489, BK490, HB⟩ := hcut
      cases kq with
      | zero => exact absurd HA.out (by simp [w22_CFewer.j0])
      | succ kj7 =>
        have H := HA.out
        clear HA
        simp only [w22_CFewer.j0] at H
        have HC37 := Aside0.mk H
        clear H
        go_upto_if 54 with (fail)
        go_cut [] (fun wc => ∃ (kq : Nat) (x491005_36 : Int), Aside0 (w22_CFewer.j1 kq a1 a2 true t488 t480 t481 t482 t483 t484 t485 t486 t480 t481 t482 (wrap64 (7 - t483)) (wrap64 (t484 + 5)) (wrap64 (t485 + 5)) t486 t480 t481 t482 t483 t484 x491005_36 t486 = some r) ∧ Aside0 (kq ≤ kj7) ∧ Aside0 (wc.heap[gb478]? = some (.cells #[.bool a0_0, .int .i16 a0_1, .int .i16 a0_2, .int .i16 a0_3, .int .i32 a0_4, .int .u16 a0_5, .int .u16 a0_6, .bool a0_7] 27 (0, 0))) ∧ Aside0 (wc.heap[gb487]? = some (.cells #[.bool t480, .int .i64 t481, .int .i64 t482, .int .i64 t483, .int .i64 t484, .int .i64 t485, .int .i64 t486] 35 (0, 0))) ∧ Aside0 (wc.heap[gb489]? = some (.cells #[.bool t480, .int .i64 t481, .int .i64 t482, .int .i64 (wrap64 (7 - t483)), .int .i64 (wrap64 (t484 + 5)), .int .i64 (wrap64 (t485 + 5)), .int .i64 t486] 35 (0, 0))) ∧ Aside0 (wc.heap[gb490]? = some (.cells #[.bool t480, .int .i64 t481, .int .i64 t482, .int .i64 t483, .int .i64 t484, .int .i64 x491005_36, .int .i64 t486] 35 (0, 0))) ∧ Aside0 (Below w.heap.size w wc))
        case first =>
          have H := HC37.out
          clear HC37
          by_cases c38 : x54_7 = true
          · subst c38
            have H1 : (w22_CFewer.j1 kj7 a1 a2 true t488 t480 t481 t482 t483 t484 t485 t486 t480 t481 t482 (wrap64 (7 - t483)) (wrap64 (t484 + 5)) (wrap64 (t485 + 5)) t486 t480 t481 t482 t483 t484 (wrap64 (t485 - t486)) t486) = some r := by rw [if_pos rfl] at H; exact H
            clear H
            have H := H1
            clear H1
            have H' := Aside0.mk H
            clear H
            have hnb39 := Ni_.out
            have hnc39 := Nf_.out
            have hnb40 := Na_.out
            have hnc40 := Nh_.out
            have hnb41 := Nc_.out
            have hnc41 := Ng_.out
            have hcz42_0 : wc.cell? ⟨gb487, 0, none⟩ = some (.bool t480) := (bC BK487.out 0).trans rfl
            have hcz42_1 : wc.cell? ⟨gb487, 1, none⟩ = some (.int .i64 t481) := (bC BK487.out 1).trans rfl
            have hcz42_2 : wc.cell? ⟨gb487, 2, none⟩ = some (.int .i64 t482) := (bC BK487.out 2).trans rfl
            have hcz42_3 : wc.cell? ⟨gb487, 3, none⟩ = some (.int .i64 t483) := (bC BK487.out 3).trans rfl
            have hcz42_4 : wc.cell? ⟨gb487, 4, none⟩ = some (.int .i64 t484) := (bC BK487.out 4).trans rfl
            have hcz42_5 : wc.cell? ⟨gb487, 5, none⟩ = some (.int .i64 t485) := (bC BK487.out 5).trans rfl
            have hcz42_6 : wc.cell? ⟨gb487, 6, none⟩ = some (.int .i64 t486) := (bC BK487.out 6).trans rfl
            have hfz42_0 := bF BK487.out 0
            have hfz42_1 := bF BK487.out 1
            have hfz42_2 := bF BK487.out 2
            have hfz42_3 := bF BK487.out 3
            have hfz42_4 := bF BK487.out 4
            have hfz42_5 := bF BK487.out 5
            have hfz42_6 := bF BK487.out 6
            have hnb43 := Nk_.out
            have hnc43 := Ne_.out
            have hnb44 := Nj_.out
            have hnc44 := Nd_.out
            have hcz45_0 : wc.cell? ⟨gb490, 0, none⟩ = some (.bool t480) := (bC BK490.out 0).trans rfl
            have hcz45_1 : wc.cell? ⟨gb490, 1, none⟩ = some (.int .i64 t481) := (bC BK490.out 1).trans rfl
            have hcz45_2 : wc.cell? ⟨gb490, 2, none⟩ = some (.int .i64 t482) := (bC BK490.out 2).trans rfl
            have hcz45_3 : wc.cell? ⟨gb490, 3, none⟩ = some (.int .i64 t483) := (bC BK490.out 3).trans rfl
            have hcz45_4 : wc.cell? ⟨gb490, 4, none⟩ = some (.int .i64 t484) := (bC BK490.out 4).trans rfl
            have hcz45_5 : wc.cell? ⟨gb490, 5, none⟩ = some (.int .i64 t485) := (bC BK490.out 5).trans rfl
            have hcz45_6 : wc.cell? ⟨gb490, 6, none⟩ = some (.int .i64 t486) := (bC BK490.out 6).trans rfl
            have hfz45_0 := bF BK490.out 0
            have hfz45_1 := bF BK490.out 1
            have hfz45_2 := bF BK490.out 2
            have hfz45_3 := bF BK490.out 3
            have hfz45_4 := bF BK490.out 4
            have hfz45_5 := bF BK490.out 5
            have hfz45_6 := bF BK490.out 6
            go_wp2
            go_meet
            case rel => exact ⟨_, (wrap64 (t485 - t486)), H', ⟨by have := HJ7.out; first | omega | exact Nat.le_refl _⟩, ⟨by (with_reducible repeat (first | refine bN ?_ _ | refine bD ?_ | refine bA ?_ _)); refine blk_far ?_ Ne_.out _; (with_reducible repeat (first | refine bN ?_ _ | refine bD ?_ | refine bA ?_ _)); exact BK478.out⟩, ⟨by (with_reducible repeat (first | refine bN ?_ _ | refine bD ?_ | refine bA ?_ _)); refine blk_far ?_ Nc_.out _; (with_reducible repeat (first | refine bN ?_ _ | refine bD ?_ | refine bA ?_ _)); exact BK487.out⟩, ⟨by (with_reducible repeat (first | refine bN ?_ _ | refine bD ?_ | refine bA ?_ _)); refine blk_far ?_ Nd_.out _; (with_reducible repeat (first | refine bN ?_ _ | refine bD ?_ | refine bA ?_ _)); exact BK489.out⟩, ⟨by (with_reducible repeat (first | refine bN ?_ _ | refine bD ?_ | refine bA ?_ _)); refine blk_put (cs := #[.bool t480, .int .i64 t481, .int .i64 t482, .int .i64 t483, .int .i64 t484, .int .i64 t485, .int .i64 t486]) ?_ 5 _ rfl; (with_reducible repeat (first | refine bN ?_ _ | refine bD ?_ | refine bA ?_ _)); exact BK490.out⟩, ⟨by repeat (first | (with_reducible first | exact HB.out | apply pA | apply pN | apply p1_ | refine bS ?_ GE478.out | refine bS ?_ GE487.out | refine bS ?_ GE489.out | refine bS ?_ GE490.out) | exact HB.out)⟩⟩
          · replace c38 := Bool.eq_false_iff.mpr c38
            subst c38
            have H1 : (w22_CFewer.j1 kj7 a1 a2 true t488 t480 t481 t482 t483 t484 t485 t486 t480 t481 t482 (wrap64 (7 - t483)) (wrap64 (t484 + 5)) (wrap64 (t485 + 5)) t486 t480 t481 t482 t483 t484 t485 t486) = some r := by rw [if_neg (show ¬ (false = true) by decide)] at H; exact H
            clear H
            have H := H1
            clear H1
            have H' := Aside0.mk H
            clear H
            go_wp2
            go_meet
            case rel => exact ⟨_, (t485), H', ⟨by have := HJ7.out; first | omega | exact Nat.le_refl _⟩, ⟨by (with_reducible repeat (first | refine bN ?_ _ | refine bD ?_ | refine bA ?_ _)); exact BK478.out⟩, ⟨by (with_reducible repeat (first | refine bN ?_ _ | refine bD ?_ | refine bA ?_ _)); exact BK487.out⟩, ⟨by (with_reducible repeat (first | refine bN ?_ _ | refine bD ?_ | refine bA ?_ _)); exact BK489.out⟩, ⟨by (with_reducible repeat (first | refine bN ?_ _ | refine bD ?_ | refine bA ?_ _)); exact BK490.out⟩, ⟨by repeat (first | (with_reducible first | exact HB.out | apply pA | apply pN | apply p1_ | refine bS ?_ GE478.out | refine bS ?_ GE487.out | refine bS ?_ GE489.out | refine bS ?_ GE490.out) | exact HB.out)⟩⟩
        case rest =>
          clear HC37
          try clear c1
          try clear c2
          try clear p2
          try clear c3
          try clear c4
          try clear c5
          try clear p6
          try clear c8
          try clear c9
          try clear c10
          try clear c11
          try clear c14
          try clear c19
          try clear c20
          try clear c24
          try clear c25
          try clear c26
          try clear c28
          try clear c28b0
          try clear c29
          try clear c30
          try clear c31
          try clear c33
          try clear c34
          try clear c35
          try clear c38
          try clear c39
          try clear c40
          try clear c41
          try clear c43
          try clear c44
          try clear hcz11_0
          try clear hcz11_1
          try clear hcz11_2
          try clear hcz11_3
          try clear hcz11_4
          try clear hcz11_5
          try clear hcz11_6
          try clear hcz11_7
          try clear hcz15_0
          try clear hcz15_1
          try clear hcz15_2
          try clear hcz15_3
          try clear hcz15_4
          try clear hcz15_5
          try clear hcz15_6
          try clear hcz17_0
          try clear hcz17_1
          try clear hcz17_2
          try clear hcz17_3
          try clear hcz17_4
          try clear hcz17_5
          try clear hcz17_6
          try clear hcz21_0
          try clear hcz21_1
          try clear hcz21_2
          try clear hcz21_3
          try clear hcz21_4
          try clear hcz21_5
          try clear hcz21_6
          try clear hcz22_0
          try clear hcz22_1
          try clear hcz22_2
          try clear hcz22_3
          try clear hcz22_4
          try clear hcz22_5
          try clear hcz22_6
          try clear hcz27_0
          try clear hcz27_1
          try clear hcz27_2
          try clear hcz27_3
          try clear hcz27_4
          try clear hcz27_5
          try clear hcz27_6
          try clear hcz32_0
          try clear hcz32_1
          try clear hcz32_2
          try clear hcz32_3
          try clear hcz32_4
          try clear hcz32_5
          try clear hcz32_6
          try clear hcz36_0
          try clear hcz36_1
          try clear hcz36_2
          try clear hcz36_3
          try clear hcz36_4
          try clear hcz36_5
          try clear hcz36_6
          try clear hcz42_0
          try clear hcz42_1
          try clear hcz42_2
          try clear hcz42_3
          try clear hcz42_4
          try clear hcz42_5
          try clear hcz42_6
          try clear hcz45_0
          try clear hcz45_1
          try clear hcz45_2
          try clear hcz45_3
          try clear hcz45_4
          try clear hcz45_5
          try clear hcz45_6
          try clear hfz11_0
          try clear hfz11_1
          try clear hfz11_2
          try clear hfz11_3
          try clear hfz11_4
          try clear hfz11_5
          try clear hfz11_6
          try clear hfz11_7
          try clear hfz15_0
          try clear hfz15_1
          try clear hfz15_2
          try clear hfz15_3
          try clear hfz15_4
          try clear hfz15_5
          try clear hfz15_6
          try clear hfz17_0
          try clear hfz17_1
          try clear hfz17_2
          try clear hfz17_3
          try clear hfz17_4
          try clear hfz17_5
          try clear hfz17_6
          try clear hfz21_0
          try clear hfz21_1
          try clear hfz21_2
          try clear hfz21_3
          try clear hfz21_4
          try clear hfz21_5
          try clear hfz21_6
          try clear hfz22_0
          try clear hfz22_1
          try clear hfz22_2
          try clear hfz22_3
          try clear hfz22_4
          try clear hfz22_5
          try clear hfz22_6
          try clear hfz27_0
          try clear hfz27_1
          try clear hfz27_2
          try clear hfz27_3
          try clear hfz27_4
          try clear hfz27_5
          try clear hfz27_6
          try clear hfz32_0
          try clear hfz32_1
          try clear hfz32_2
          try clear hfz32_3
          try clear hfz32_4
          try clear hfz32_5
          try clear hfz32_6
          try clear hfz36_0
          try clear hfz36_1
          try clear hfz36_2
          try clear hfz36_3
          try clear hfz36_4
          try clear hfz36_5
          try clear hfz36_6
          try clear hfz42_0
          try clear hfz42_1
          try clear hfz42_2
          try clear hfz42_3
          try clear hfz42_4
          try clear hfz42_5
          try clear hfz42_6
          try clear hfz45_0
          try clear hfz45_1
          try clear hfz45_2
          try clear hfz45_3
          try clear hfz45_4
          try clear hfz45_5
          try clear hfz45_6
          try clear p2
          try clear p6
          obtain ⟨kq, x491005_36, HA, HJ36, BK478, BK487, BK489, BK490, HB⟩ := hcut
          cases kq with
          | zero => exact absurd HA.out (by simp [w22_CFewer.j1])
          | succ kj36 =>
            have H := HA.out
            clear HA
            simp only [w22_CFewer.j1] at H
            replace H := Option.bind_eq_some_iff.mp H
            obtain ⟨t491, A460, H⟩ := H
            replace H : (if t491 ≤ t488 then ((coalesce_Static.f t480 t481 t482 (wrap64 (7 - t483)) (wrap64 (t484 + 5)) (wrap64 (t485 + 5)) t486 64 a1).bind fun t492 => (if t492 = t488 then ((coalesce_Static.f t480 t481 t482 t483 t484 x491005_36 t486 64 a1).bind fun t493 => (if t493 ≤ t488 then ((coalesce_Static.f t480 t481 t482 t483 t484 t485 t486 20 a1).bind fun t494 => (if t494 ≤ t488 then (some true) else (some false))) else (some false))) else (some false))) else (some false)) = some r := H
            have A46 := Aside0.mk A460
            clear A460
            by_cases c47 : t491 ≤ t488
            · rw [if_pos c47] at H
              have c47b0 : decide (t491 ≤ t488) = true := decide_eq_true c47
              clear c47
              replace H := Option.bind_eq_some_iff.mp H
              obtain ⟨t492, A480, H⟩ := H
              replace H : (if t492 = t488 then ((coalesce_Static.f t480 t481 t482 t483 t484 x491005_36 t486 64 a1).bind fun t493 => (if t493 ≤ t488 then ((coalesce_Static.f t480 t481 t482 t483 t484 t485 t486 20 a1).bind fun t494 => (if t494 ≤ t488 then (some true) else (some false))) else (some false))) else (some false)) = some r := H
              have A48 := Aside0.mk A480
              clear A480
              by_cases c49 : t492 = t488
              · rw [if_pos c49] at H
                have c49b0 : (t492 == t488) = true := beq_iff_eq.mpr c49
                have c49b1 : (t492 != t488) = false := bne_eq_false_iff_eq.mpr c49
                clear c49
                replace H := Option.bind_eq_some_iff.mp H
                obtain ⟨t493, A500, H⟩ := H
                replace H : (if t493 ≤ t488 then ((coalesce_Static.f t480 t481 t482 t483 t484 t485 t486 20 a1).bind fun t494 => (if t494 ≤ t488 then (some true) else (some false))) else (some false)) = some r := H
                have A50 := Aside0.mk A500
                clear A500
                by_cases c51 : t493 ≤ t488
                · rw [if_pos c51] at H
                  have c51b0 : decide (t493 ≤ t488) = true := decide_eq_true c51
                  clear c51
                  replace H := Option.bind_eq_some_iff.mp H
                  obtain ⟨t494, A520, H⟩ := H
                  replace H : (if t494 ≤ t488 then (some true) else (some false)) = some r := H
                  have A52 := Aside0.mk A520
                  clear A520
                  by_cases c53 : t494 ≤ t488
                  · rw [if_pos c53] at H
                    have c53b0 : decide (t494 ≤ t488) = true := decide_eq_true c53
                    clear c53
                    obtain rfl := Option.some.inj H
                    have hnb54 := Ni_.out
                    have hnc54 := Nf_.out
                    have hnb55 := Na_.out
                    have hnc55 := Nh_.out
                    have hnb56 := Nc_.out
                    have hnc56 := Ng_.out
                    have hcz57_0 : wc.cell? ⟨gb487, 0, none⟩ = some (.bool t480) := (bC BK487.out 0).trans rfl
                    have hcz57_1 : wc.cell? ⟨gb487, 1, none⟩ = some (.int .i64 t481) := (bC BK487.out 1).trans rfl
                    have hcz57_2 : wc.cell? ⟨gb487, 2, none⟩ = some (.int .i64 t482) := (bC BK487.out 2).trans rfl
                    have hcz57_3 : wc.cell? ⟨gb487, 3, none⟩ = some (.int .i64 t483) := (bC BK487.out 3).trans rfl
                    have hcz57_4 : wc.cell? ⟨gb487, 4, none⟩ = some (.int .i64 t484) := (bC BK487.out 4).trans rfl
                    have hcz57_5 : wc.cell? ⟨gb487, 5, none⟩ = some (.int .i64 t485) := (bC BK487.out 5).trans rfl
                    have hcz57_6 : wc.cell? ⟨gb487, 6, none⟩ = some (.int .i64 t486) := (bC BK487.out 6).trans rfl
                    have hfz57_0 := bF BK487.out 0
                    have hfz57_1 := bF BK487.out 1
                    have hfz57_2 := bF BK487.out 2
                    have hfz57_3 := bF BK487.out 3
                    have hfz57_4 := bF BK487.out 4
                    have hfz57_5 := bF BK487.out 5
                    have hfz57_6 := bF BK487.out 6
                    go_wp2_with (first | ((with_reducible refine gate_callee (f := 11) rfl ?_); refine goesL_ (some 68) rfl rfl Tryd.func11 (by kernel_rfl) rfl #[.agg #[.bool t480, .int .i64 t481, .int .i64 t482, .int .i64 t483, .int .i64 t484, .int .i64 t485, .int .i64 t486], .int .i64 64, .int .u64 (Go.bits .and .u64 a1 a2)] rfl (by (try simp only [List.map_toArray, List.map_cons, List.map_nil]); first | done | rfl | (simp only [List.length_drop, List.length_take]; rfl)) ?_; (with_reducible refine (coalesce_Static.calls t480 t481 t482 t483 t484 t485 t486 64 (Go.bits .and .u64 a1 a2) t491 _ A46.out (Tab.below HT (by repeat (first | (with_reducible first | exact HB.out | apply pA | apply pN | apply p1_ | refine bS ?_ (Aside0.out (by assumption))) | exact HB.out)))).mono ?_); rintro e w58 ⟨rfl, hb⟩; refine ⟨_, rfl, ?_⟩; have n0_ := Aside0.mk (bB (g := gb478) (o := .cells #[.bool a0_0, .int .i16 a0_1, .int .i16 a0_2, .int .i16 a0_3, .int .i32 a0_4, .int .u16 a0_5, .int .u16 a0_6, .bool a0_7] 27 (0, 0)) (by (with_reducible repeat (first | refine bN ?_ _ | refine bD ?_ | refine bA ?_ _)); exact BK478.out) hb); have n1_ := Aside0.mk (bB (g := gb487) (o := .cells #[.bool t480, .int .i64 t481, .int .i64 t482, .int .i64 t483, .int .i64 t484, .int .i64 t485, .int .i64 t486] 35 (0, 0)) (by (with_reducible repeat (first | refine bN ?_ _ | refine bD ?_ | refine bA ?_ _)); exact BK487.out) hb); have n2_ := Aside0.mk (bB (g := gb489) (o := .cells #[.bool t480, .int .i64 t481, .int .i64 t482, .int .i64 (wrap64 (7 - t483)), .int .i64 (wrap64 (t484 + 5)), .int .i64 (wrap64 (t485 + 5)), .int .i64 t486] 35 (0, 0)) (by (with_reducible repeat (first | refine bN ?_ _ | refine bD ?_ | refine bA ?_ _)); exact BK489.out) hb); have n3_ := Aside0.mk (bB (g := gb490) (o := .cells #[.bool t480, .int .i64 t481, .int .i64 t482, .int .i64 t483, .int .i64 t484, .int .i64 x491005_36, .int .i64 t486] 35 (0, 0)) (by (with_reducible repeat (first | refine bN ?_ _ | refine bD ?_ | refine bA ?_ _)); exact BK490.out) hb); have n4_ := Aside0.mk (below_step (by repeat (first | (with_reducible first | exact HB.out | apply pA | apply pN | apply p1_ | refine bS ?_ GE478.out | refine bS ?_ GE487.out | refine bS ?_ GE489.out | refine bS ?_ GE490.out) | exact HB.out)) hb); clear BK478; clear BK487; clear BK489; clear BK490; clear HB; have BK478 := n0_; have BK487 := n1_; have BK489 := n2_; have BK490 := n3_; have HB := n4_; clear n0_ n1_ n2_ n3_ n4_; (try clear hb); (try clear hb2); (try clear hk); (try clear hi); have hnb59 := Nl_.out; have hnc59 := Nb_.out; have hnb60 := Nd_.out; have hnc60 := Nj_.out; have hcz61_0 : w58.cell? ⟨gb489, 0, none⟩ = some (.bool t480) := (bC BK489.out 0).trans rfl; have hcz61_1 : w58.cell? ⟨gb489, 1, none⟩ = some (.int .i64 t481) := (bC BK489.out 1).trans rfl; have hcz61_2 : w58.cell? ⟨gb489, 2, none⟩ = some (.int .i64 t482) := (bC BK489.out 2).trans rfl; have hcz61_3 : w58.cell? ⟨gb489, 3, none⟩ = some (.int .i64 (wrap64 (7 - t483))) := (bC BK489.out 3).trans rfl; have hcz61_4 : w58.cell? ⟨gb489, 4, none⟩ = some (.int .i64 (wrap64 (t484 + 5))) := (bC BK489.out 4).trans rfl; have hcz61_5 : w58.cell? ⟨gb489, 5, none⟩ = some (.int .i64 (wrap64 (t485 + 5))) := (bC BK489.out 5).trans rfl; have hcz61_6 : w58.cell? ⟨gb489, 6, none⟩ = some (.int .i64 t486) := (bC BK489.out 6).trans rfl; have hfz61_0 := bF BK489.out 0; have hfz61_1 := bF BK489.out 1; have hfz61_2 := bF BK489.out 2; have hfz61_3 := bF BK489.out 3; have hfz61_4 := bF BK489.out 4; have hfz61_5 := bF BK489.out 5; have hfz61_6 := bF BK489.out 6) | (go_at_call 11; (with_reducible refine (coalesce_Static.calls t480 t481 t482 (wrap64 (7 - t483)) (wrap64 (t484 + 5)) (wrap64 (t485 + 5)) t486 64 a1 t492 _ A48.out (Tab.below HT (by repeat (first | (with_reducible first | exact HB.out | apply pA | apply pN | apply p1_ | refine bS ?_ (Aside0.out (by assumption))) | exact HB.out)))).mono ?_); rintro e w62 ⟨rfl, hb⟩; have n0_ := Aside0.mk (bB (g := gb478) (o := .cells #[.bool a0_0, .int .i16 a0_1, .int .i16 a0_2, .int .i16 a0_3, .int .i32 a0_4, .int .u16 a0_5, .int .u16 a0_6, .bool a0_7] 27 (0, 0)) (by (with_reducible repeat (first | refine bN ?_ _ | refine bD ?_ | refine bA ?_ _)); exact BK478.out) hb); have n1_ := Aside0.mk (bB (g := gb487) (o := .cells #[.bool t480, .int .i64 t481, .int .i64 t482, .int .i64 t483, .int .i64 t484, .int .i64 t485, .int .i64 t486] 35 (0, 0)) (by (with_reducible repeat (first | refine bN ?_ _ | refine bD ?_ | refine bA ?_ _)); exact BK487.out) hb); have n2_ := Aside0.mk (bB (g := gb489) (o := .cells #[.bool t480, .int .i64 t481, .int .i64 t482, .int .i64 (wrap64 (7 - t483)), .int .i64 (wrap64 (t484 + 5)), .int .i64 (wrap64 (t485 + 5)), .int .i64 t486] 35 (0, 0)) (by (with_reducible repeat (first | refine bN ?_ _ | refine bD ?_ | refine bA ?_ _)); exact BK489.out) hb); have n3_ := Aside0.mk (bB (g := gb490) (o := .cells #[.bool t480, .int .i64 t481, .int .i64 t482, .int .i64 t483, .int .i64 t484, .int .i64 x491005_36, .int .i64 t486] 35 (0, 0)) (by (with_reducible repeat (first | refine bN ?_ _ | refine bD ?_ | refine bA ?_ _)); exact BK490.out) hb); have n4_ := Aside0.mk (below_step (by repeat (first | (with_reducible first | exact HB.out | apply pA | apply pN | apply p1_ | refine bS ?_ GE478.out | refine bS ?_ GE487.out | refine bS ?_ GE489.out | refine bS ?_ GE490.out) | exact HB.out)) hb); clear BK478; clear BK487; clear BK489; clear BK490; clear HB; have BK478 := n0_; have BK487 := n1_; have BK489 := n2_; have BK490 := n3_; have HB := n4_; clear n0_ n1_ n2_ n3_ n4_; (try clear hb); (try clear hb2); (try clear hk); (try clear hi); have hnb63 := Nk_.out; have hnc63 := Ne_.out; have hcz64_0 : w62.cell? ⟨gb490, 0, none⟩ = some (.bool t480) := (bC BK490.out 0).trans rfl; have hcz64_1 : w62.cell? ⟨gb490, 1, none⟩ = some (.int .i64 t481) := (bC BK490.out 1).trans rfl; have hcz64_2 : w62.cell? ⟨gb490, 2, none⟩ = some (.int .i64 t482) := (bC BK490.out 2).trans rfl; have hcz64_3 : w62.cell? ⟨gb490, 3, none⟩ = some (.int .i64 t483) := (bC BK490.out 3).trans rfl; have hcz64_4 : w62.cell? ⟨gb490, 4, none⟩ = some (.int .i64 t484) := (bC BK490.out 4).trans rfl; have hcz64_5 : w62.cell? ⟨gb490, 5, none⟩ = some (.int .i64 x491005_36) := (bC BK490.out 5).trans rfl; have hcz64_6 : w62.cell? ⟨gb490, 6, none⟩ = some (.int .i64 t486) := (bC BK490.out 6).trans rfl; have hfz64_0 := bF BK490.out 0; have hfz64_1 := bF BK490.out 1; have hfz64_2 := bF BK490.out 2; have hfz64_3 := bF BK490.out 3; have hfz64_4 := bF BK490.out 4; have hfz64_5 := bF BK490.out 5; have hfz64_6 := bF BK490.out 6) | (go_at_call 11; (with_reducible refine (coalesce_Static.calls t480 t481 t482 t483 t484 x491005_36 t486 64 a1 t493 _ A50.out (Tab.below HT (by repeat (first | (with_reducible first | exact HB.out | apply pA | apply pN | apply p1_ | refine bS ?_ (Aside0.out (by assumption))) | exact HB.out)))).mono ?_); rintro e w65 ⟨rfl, hb⟩; have n0_ := Aside0.mk (bB (g := gb478) (o := .cells #[.bool a0_0, .int .i16 a0_1, .int .i16 a0_2, .int .i16 a0_3, .int .i32 a0_4, .int .u16 a0_5, .int .u16 a0_6, .bool a0_7] 27 (0, 0)) (by (with_reducible repeat (first | refine bN ?_ _ | refine bD ?_ | refine bA ?_ _)); exact BK478.out) hb); have n1_ := Aside0.mk (bB (g := gb487) (o := .cells #[.bool t480, .int .i64 t481, .int .i64 t482, .int .i64 t483, .int .i64 t484, .int .i64 t485, .int .i64 t486] 35 (0, 0)) (by (with_reducible repeat (first | refine bN ?_ _ | refine bD ?_ | refine bA ?_ _)); exact BK487.out) hb); have n2_ := Aside0.mk (bB (g := gb489) (o := .cells #[.bool t480, .int .i64 t481, .int .i64 t482, .int .i64 (wrap64 (7 - t483)), .int .i64 (wrap64 (t484 + 5)), .int .i64 (wrap64 (t485 + 5)), .int .i64 t486] 35 (0, 0)) (by (with_reducible repeat (first | refine bN ?_ _ | refine bD ?_ | refine bA ?_ _)); exact BK489.out) hb); have n3_ := Aside0.mk (bB (g := gb490) (o := .cells #[.bool t480, .int .i64 t481, .int .i64 t482, .int .i64 t483, .int .i64 t484, .int .i64 x491005_36, .int .i64 t486] 35 (0, 0)) (by (with_reducible repeat (first | refine bN ?_ _ | refine bD ?_ | refine bA ?_ _)); exact BK490.out) hb); have n4_ := Aside0.mk (below_step (by repeat (first | (with_reducible first | exact HB.out | apply pA | apply pN | apply p1_ | refine bS ?_ GE478.out | refine bS ?_ GE487.out | refine bS ?_ GE489.out | refine bS ?_ GE490.out) | exact HB.out)) hb); clear BK478; clear BK487; clear BK489; clear BK490; clear HB; have BK478 := n0_; have BK487 := n1_; have BK489 := n2_; have BK490 := n3_; have HB := n4_; clear n0_ n1_ n2_ n3_ n4_; (try clear hb); (try clear hb2); (try clear hk); (try clear hi); have hcz66_0 : w65.cell? ⟨gb487, 0, none⟩ = some (.bool t480) := (bC BK487.out 0).trans rfl; have hcz66_1 : w65.cell? ⟨gb487, 1, none⟩ = some (.int .i64 t481) := (bC BK487.out 1).trans rfl; have hcz66_2 : w65.cell? ⟨gb487, 2, none⟩ = some (.int .i64 t482) := (bC BK487.out 2).trans rfl; have hcz66_3 : w65.cell? ⟨gb487, 3, none⟩ = some (.int .i64 t483) := (bC BK487.out 3).trans rfl; have hcz66_4 : w65.cell? ⟨gb487, 4, none⟩ = some (.int .i64 t484) := (bC BK487.out 4).trans rfl; have hcz66_5 : w65.cell? ⟨gb487, 5, none⟩ = some (.int .i64 t485) := (bC BK487.out 5).trans rfl; have hcz66_6 : w65.cell? ⟨gb487, 6, none⟩ = some (.int .i64 t486) := (bC BK487.out 6).trans rfl; have hfz66_0 := bF BK487.out 0; have hfz66_1 := bF BK487.out 1; have hfz66_2 := bF BK487.out 2; have hfz66_3 := bF BK487.out 3; have hfz66_4 := bF BK487.out 4; have hfz66_5 := bF BK487.out 5; have hfz66_6 := bF BK487.out 6) | (go_at_call 11; (with_reducible refine (coalesce_Static.calls t480 t481 t482 t483 t484 t485 t486 20 a1 t494 _ A52.out (Tab.below HT (by repeat (first | (with_reducible first | exact HB.out | apply pA | apply pN | apply p1_ | refine bS ?_ (Aside0.out (by assumption))) | exact HB.out)))).mono ?_); rintro e w67 ⟨rfl, hb⟩; have n0_ := Aside0.mk (bB (g := gb478) (o := .cells #[.bool a0_0, .int .i16 a0_1, .int .i16 a0_2, .int .i16 a0_3, .int .i32 a0_4, .int .u16 a0_5, .int .u16 a0_6, .bool a0_7] 27 (0, 0)) (by (with_reducible repeat (first | refine bN ?_ _ | refine bD ?_ | refine bA ?_ _)); exact BK478.out) hb); have n1_ := Aside0.mk (bB (g := gb487) (o := .cells #[.bool t480, .int .i64 t481, .int .i64 t482, .int .i64 t483, .int .i64 t484, .int .i64 t485, .int .i64 t486] 35 (0, 0)) (by (with_reducible repeat (first | refine bN ?_ _ | refine bD ?_ | refine bA ?_ _)); exact BK487.out) hb); have n2_ := Aside0.mk (bB (g := gb489) (o := .cells #[.bool t480, .int .i64 t481, .int .i64 t482, .int .i64 (wrap64 (7 - t483)), .int .i64 (wrap64 (t484 + 5)), .int .i64 (wrap64 (t485 + 5)), .int .i64 t486] 35 (0, 0)) (by (with_reducible repeat (first | refine bN ?_ _ | refine bD ?_ | refine bA ?_ _)); exact BK489.out) hb); have n3_ := Aside0.mk (bB (g := gb490) (o := .cells #[.bool t480, .int .i64 t481, .int .i64 t482, .int .i64 t483, .int .i64 t484, .int .i64 x491005_36, .int .i64 t486] 35 (0, 0)) (by (with_reducible repeat (first | refine bN ?_ _ | refine bD ?_ | refine bA ?_ _)); exact BK490.out) hb); have n4_ := Aside0.mk (below_step (by repeat (first | (with_reducible first | exact HB.out | apply pA | apply pN | apply p1_ | refine bS ?_ GE478.out | refine bS ?_ GE487.out | refine bS ?_ GE489.out | refine bS ?_ GE490.out) | exact HB.out)) hb); clear BK478; clear BK487; clear BK489; clear BK490; clear HB; have BK478 := n0_; have BK487 := n1_; have BK489 := n2_; have BK490 := n3_; have HB := n4_; clear n0_ n1_ n2_ n3_ n4_; (try clear hb); (try clear hb2); (try clear hk); (try clear hi)))
                    go_ret
                    exact ⟨by first | rfl | (simp [errW_none, errW_some] <;> rfl) | (simp [*, errW_none, errW_some] <;> rfl), by repeat (first | (with_reducible first | exact HB.out | apply pA | apply pN | apply p1_ | refine bS ?_ GE478.out | refine bS ?_ GE487.out | refine bS ?_ GE489.out | refine bS ?_ GE490.out) | exact HB.out)⟩
                  · rw [if_neg c53] at H
                    have c53b0 : decide (t494 ≤ t488) = false := decide_eq_false c53
                    clear c53
                    obtain rfl := Option.some.inj H
                    have hnb68 := Ni_.out
                    have hnc68 := Nf_.out
                    have hnb69 := Na_.out
                    have hnc69 := Nh_.out
                    have hnb70 := Nc_.out
                    have hnc70 := Ng_.out
                    have hcz71_0 : wc.cell? ⟨gb487, 0, none⟩ = some (.bool t480) := (bC BK487.out 0).trans rfl
                    have hcz71_1 : wc.cell? ⟨gb487, 1, none⟩ = some (.int .i64 t481) := (bC BK487.out 1).trans rfl
                    have hcz71_2 : wc.cell? ⟨gb487, 2, none⟩ = some (.int .i64 t482) := (bC BK487.out 2).trans rfl
                    have hcz71_3 : wc.cell? ⟨gb487, 3, none⟩ = some (.int .i64 t483) := (bC BK487.out 3).trans rfl
                    have hcz71_4 : wc.cell? ⟨gb487, 4, none⟩ = some (.int .i64 t484) := (bC BK487.out 4).trans rfl
                    have hcz71_5 : wc.cell? ⟨gb487, 5, none⟩ = some (.int .i64 t485) := (bC BK487.out 5).trans rfl
                    have hcz71_6 : wc.cell? ⟨gb487, 6, none⟩ = some (.int .i64 t486) := (bC BK487.out 6).trans rfl
                    have hfz71_0 := bF BK487.out 0
                    have hfz71_1 := bF BK487.out 1
                    have hfz71_2 := bF BK487.out 2
                    have hfz71_3 := bF BK487.out 3
                    have hfz71_4 := bF BK487.out 4
                    have hfz71_5 := bF BK487.out 5
                    have hfz71_6 := bF BK487.out 6
                    go_wp2_with (first | ((with_reducible refine gate_callee (f := 11) rfl ?_); refine goesL_ (some 68) rfl rfl Tryd.func11 (by kernel_rfl) rfl #[.agg #[.bool t480, .int .i64 t481, .int .i64 t482, .int .i64 t483, .int .i64 t484, .int .i64 t485, .int .i64 t486], .int .i64 64, .int .u64 (Go.bits .and .u64 a1 a2)] rfl (by (try simp only [List.map_toArray, List.map_cons, List.map_nil]); first | done | rfl | (simp only [List.length_drop, List.length_take]; rfl)) ?_; (with_reducible refine (coalesce_Static.calls t480 t481 t482 t483 t484 t485 t486 64 (Go.bits .and .u64 a1 a2) t491 _ A46.out (Tab.below HT (by repeat (first | (with_reducible first | exact HB.out | apply pA | apply pN | apply p1_ | refine bS ?_ (Aside0.out (by assumption))) | exact HB.out)))).mono ?_); rintro e w72 ⟨rfl, hb⟩; refine ⟨_, rfl, ?_⟩; have n0_ := Aside0.mk (bB (g := gb478) (o := .cells #[.bool a0_0, .int .i16 a0_1, .int .i16 a0_2, .int .i16 a0_3, .int .i32 a0_4, .int .u16 a0_5, .int .u16 a0_6, .bool a0_7] 27 (0, 0)) (by (with_reducible repeat (first | refine bN ?_ _ | refine bD ?_ | refine bA ?_ _)); exact BK478.out) hb); have n1_ := Aside0.mk (bB (g := gb487) (o := .cells #[.bool t480, .int .i64 t481, .int .i64 t482, .int .i64 t483, .int .i64 t484, .int .i64 t485, .int .i64 t486] 35 (0, 0)) (by (with_reducible repeat (first | refine bN ?_ _ | refine bD ?_ | refine bA ?_ _)); exact BK487.out) hb); have n2_ := Aside0.mk (bB (g := gb489) (o := .cells #[.bool t480, .int .i64 t481, .int .i64 t482, .int .i64 (wrap64 (7 - t483)), .int .i64 (wrap64 (t484 + 5)), .int .i64 (wrap64 (t485 + 5)), .int .i64 t486] 35 (0, 0)) (by (with_reducible repeat (first | refine bN ?_ _ | refine bD ?_ | refine bA ?_ _)); exact BK489.out) hb); have n3_ := Aside0.mk (bB (g := gb490) (o := .cells #[.bool t480, .int .i64 t481, .int .i64 t482, .int .i64 t483, .int .i64 t484, .int .i64 x491005_36, .int .i64 t486] 35 (0, 0)) (by (with_reducible repeat (first | refine bN ?_ _ | refine bD ?_ | refine bA ?_ _)); exact BK490.out) hb); have n4_ := Aside0.mk (below_step (by repeat (first | (with_reducible first | exact HB.out | apply pA | apply pN | apply p1_ | refine bS ?_ GE478.out | refine bS ?_ GE487.out | refine bS ?_ GE489.out | refine bS ?_ GE490.out) | exact HB.out)) hb); clear BK478; clear BK487; clear BK489; clear BK490; clear HB; have BK478 := n0_; have BK487 := n1_; have BK489 := n2_; have BK490 := n3_; have HB := n4_; clear n0_ n1_ n2_ n3_ n4_; (try clear hb); (try clear hb2); (try clear hk); (try clear hi); have hnb73 := Nl_.out; have hnc73 := Nb_.out; have hnb74 := Nd_.out; have hnc74 := Nj_.out; have hcz75_0 : w72.cell? ⟨gb489, 0, none⟩ = some (.bool t480) := (bC BK489.out 0).trans rfl; have hcz75_1 : w72.cell? ⟨gb489, 1, none⟩ = some (.int .i64 t481) := (bC BK489.out 1).trans rfl; have hcz75_2 : w72.cell? ⟨gb489, 2, none⟩ = some (.int .i64 t482) := (bC BK489.out 2).trans rfl; have hcz75_3 : w72.cell? ⟨gb489, 3, none⟩ = some (.int .i64 (wrap64 (7 - t483))) := (bC BK489.out 3).trans rfl; have hcz75_4 : w72.cell? ⟨gb489, 4, none⟩ = some (.int .i64 (wrap64 (t484 + 5))) := (bC BK489.out 4).trans rfl; have hcz75_5 : w72.cell? ⟨gb489, 5, none⟩ = some (.int .i64 (wrap64 (t485 + 5))) := (bC BK489.out 5).trans rfl; have hcz75_6 : w72.cell? ⟨gb489, 6, none⟩ = some (.int .i64 t486) := (bC BK489.out 6).trans rfl; have hfz75_0 := bF BK489.out 0; have hfz75_1 := bF BK489.out 1; have hfz75_2 := bF BK489.out 2; have hfz75_3 := bF BK489.out 3; have hfz75_4 := bF BK489.out 4; have hfz75_5 := bF BK489.out 5; have hfz75_6 := bF BK489.out 6) | (go_at_call 11; (with_reducible refine (coalesce_Static.calls t480 t481 t482 (wrap64 (7 - t483)) (wrap64 (t484 + 5)) (wrap64 (t485 + 5)) t486 64 a1 t492 _ A48.out (Tab.below HT (by repeat (first | (with_reducible first | exact HB.out | apply pA | apply pN | apply p1_ | refine bS ?_ (Aside0.out (by assumption))) | exact HB.out)))).mono ?_); rintro e w76 ⟨rfl, hb⟩; have n0_ := Aside0.mk (bB (g := gb478) (o := .cells #[.bool a0_0, .int .i16 a0_1, .int .i16 a0_2, .int .i16 a0_3, .int .i32 a0_4, .int .u16 a0_5, .int .u16 a0_6, .bool a0_7] 27 (0, 0)) (by (with_reducible repeat (first | refine bN ?_ _ | refine bD ?_ | refine bA ?_ _)); exact BK478.out) hb); have n1_ := Aside0.mk (bB (g := gb487) (o := .cells #[.bool t480, .int .i64 t481, .int .i64 t482, .int .i64 t483, .int .i64 t484, .int .i64 t485, .int .i64 t486] 35 (0, 0)) (by (with_reducible repeat (first | refine bN ?_ _ | refine bD ?_ | refine bA ?_ _)); exact BK487.out) hb); have n2_ := Aside0.mk (bB (g := gb489) (o := .cells #[.bool t480, .int .i64 t481, .int .i64 t482, .int .i64 (wrap64 (7 - t483)), .int .i64 (wrap64 (t484 + 5)), .int .i64 (wrap64 (t485 + 5)), .int .i64 t486] 35 (0, 0)) (by (with_reducible repeat (first | refine bN ?_ _ | refine bD ?_ | refine bA ?_ _)); exact BK489.out) hb); have n3_ := Aside0.mk (bB (g := gb490) (o := .cells #[.bool t480, .int .i64 t481, .int .i64 t482, .int .i64 t483, .int .i64 t484, .int .i64 x491005_36, .int .i64 t486] 35 (0, 0)) (by (with_reducible repeat (first | refine bN ?_ _ | refine bD ?_ | refine bA ?_ _)); exact BK490.out) hb); have n4_ := Aside0.mk (below_step (by repeat (first | (with_reducible first | exact HB.out | apply pA | apply pN | apply p1_ | refine bS ?_ GE478.out | refine bS ?_ GE487.out | refine bS ?_ GE489.out | refine bS ?_ GE490.out) | exact HB.out)) hb); clear BK478; clear BK487; clear BK489; clear BK490; clear HB; have BK478 := n0_; have BK487 := n1_; have BK489 := n2_; have BK490 := n3_; have HB := n4_; clear n0_ n1_ n2_ n3_ n4_; (try clear hb); (try clear hb2); (try clear hk); (try clear hi); have hnb77 := Nk_.out; have hnc77 := Ne_.out; have hcz78_0 : w76.cell? ⟨gb490, 0, none⟩ = some (.bool t480) := (bC BK490.out 0).trans rfl; have hcz78_1 : w76.cell? ⟨gb490, 1, none⟩ = some (.int .i64 t481) := (bC BK490.out 1).trans rfl; have hcz78_2 : w76.cell? ⟨gb490, 2, none⟩ = some (.int .i64 t482) := (bC BK490.out 2).trans rfl; have hcz78_3 : w76.cell? ⟨gb490, 3, none⟩ = some (.int .i64 t483) := (bC BK490.out 3).trans rfl; have hcz78_4 : w76.cell? ⟨gb490, 4, none⟩ = some (.int .i64 t484) := (bC BK490.out 4).trans rfl; have hcz78_5 : w76.cell? ⟨gb490, 5, none⟩ = some (.int .i64 x491005_36) := (bC BK490.out 5).trans rfl; have hcz78_6 : w76.cell? ⟨gb490, 6, none⟩ = some (.int .i64 t486) := (bC BK490.out 6).trans rfl; have hfz78_0 := bF BK490.out 0; have hfz78_1 := bF BK490.out 1; have hfz78_2 := bF BK490.out 2; have hfz78_3 := bF BK490.out 3; have hfz78_4 := bF BK490.out 4; have hfz78_5 := bF BK490.out 5; have hfz78_6 := bF BK490.out 6) | (go_at_call 11; (with_reducible refine (coalesce_Static.calls t480 t481 t482 t483 t484 x491005_36 t486 64 a1 t493 _ A50.out (Tab.below HT (by repeat (first | (with_reducible first | exact HB.out | apply pA | apply pN | apply p1_ | refine bS ?_ (Aside0.out (by assumption))) | exact HB.out)))).mono ?_); rintro e w79 ⟨rfl, hb⟩; have n0_ := Aside0.mk (bB (g := gb478) (o := .cells #[.bool a0_0, .int .i16 a0_1, .int .i16 a0_2, .int .i16 a0_3, .int .i32 a0_4, .int .u16 a0_5, .int .u16 a0_6, .bool a0_7] 27 (0, 0)) (by (with_reducible repeat (first | refine bN ?_ _ | refine bD ?_ | refine bA ?_ _)); exact BK478.out) hb); have n1_ := Aside0.mk (bB (g := gb487) (o := .cells #[.bool t480, .int .i64 t481, .int .i64 t482, .int .i64 t483, .int .i64 t484, .int .i64 t485, .int .i64 t486] 35 (0, 0)) (by (with_reducible repeat (first | refine bN ?_ _ | refine bD ?_ | refine bA ?_ _)); exact BK487.out) hb); have n2_ := Aside0.mk (bB (g := gb489) (o := .cells #[.bool t480, .int .i64 t481, .int .i64 t482, .int .i64 (wrap64 (7 - t483)), .int .i64 (wrap64 (t484 + 5)), .int .i64 (wrap64 (t485 + 5)), .int .i64 t486] 35 (0, 0)) (by (with_reducible repeat (first | refine bN ?_ _ | refine bD ?_ | refine bA ?_ _)); exact BK489.out) hb); have n3_ := Aside0.mk (bB (g := gb490) (o := .cells #[.bool t480, .int .i64 t481, .int .i64 t482, .int .i64 t483, .int .i64 t484, .int .i64 x491005_36, .int .i64 t486] 35 (0, 0)) (by (with_reducible repeat (first | refine bN ?_ _ | refine bD ?_ | refine bA ?_ _)); exact BK490.out) hb); have n4_ := Aside0.mk (below_step (by repeat (first | (with_reducible first | exact HB.out | apply pA | apply pN | apply p1_ | refine bS ?_ GE478.out | refine bS ?_ GE487.out | refine bS ?_ GE489.out | refine bS ?_ GE490.out) | exact HB.out)) hb); clear BK478; clear BK487; clear BK489; clear BK490; clear HB; have BK478 := n0_; have BK487 := n1_; have BK489 := n2_; have BK490 := n3_; have HB := n4_; clear n0_ n1_ n2_ n3_ n4_; (try clear hb); (try clear hb2); (try clear hk); (try clear hi); have hcz80_0 : w79.cell? ⟨gb487, 0, none⟩ = some (.bool t480) := (bC BK487.out 0).trans rfl; have hcz80_1 : w79.cell? ⟨gb487, 1, none⟩ = some (.int .i64 t481) := (bC BK487.out 1).trans rfl; have hcz80_2 : w79.cell? ⟨gb487, 2, none⟩ = some (.int .i64 t482) := (bC BK487.out 2).trans rfl; have hcz80_3 : w79.cell? ⟨gb487, 3, none⟩ = some (.int .i64 t483) := (bC BK487.out 3).trans rfl; have hcz80_4 : w79.cell? ⟨gb487, 4, none⟩ = some (.int .i64 t484) := (bC BK487.out 4).trans rfl; have hcz80_5 : w79.cell? ⟨gb487, 5, none⟩ = some (.int .i64 t485) := (bC BK487.out 5).trans rfl; have hcz80_6 : w79.cell? ⟨gb487, 6, none⟩ = some (.int .i64 t486) := (bC BK487.out 6).trans rfl; have hfz80_0 := bF BK487.out 0; have hfz80_1 := bF BK487.out 1; have hfz80_2 := bF BK487.out 2; have hfz80_3 := bF BK487.out 3; have hfz80_4 := bF BK487.out 4; have hfz80_5 := bF BK487.out 5; have hfz80_6 := bF BK487.out 6) | (go_at_call 11; (with_reducible refine (coalesce_Static.calls t480 t481 t482 t483 t484 t485 t486 20 a1 t494 _ A52.out (Tab.below HT (by repeat (first | (with_reducible first | exact HB.out | apply pA | apply pN | apply p1_ | refine bS ?_ (Aside0.out (by assumption))) | exact HB.out)))).mono ?_); rintro e w81 ⟨rfl, hb⟩; have n0_ := Aside0.mk (bB (g := gb478) (o := .cells #[.bool a0_0, .int .i16 a0_1, .int .i16 a0_2, .int .i16 a0_3, .int .i32 a0_4, .int .u16 a0_5, .int .u16 a0_6, .bool a0_7] 27 (0, 0)) (by (with_reducible repeat (first | refine bN ?_ _ | refine bD ?_ | refine bA ?_ _)); exact BK478.out) hb); have n1_ := Aside0.mk (bB (g := gb487) (o := .cells #[.bool t480, .int .i64 t481, .int .i64 t482, .int .i64 t483, .int .i64 t484, .int .i64 t485, .int .i64 t486] 35 (0, 0)) (by (with_reducible repeat (first | refine bN ?_ _ | refine bD ?_ | refine bA ?_ _)); exact BK487.out) hb); have n2_ := Aside0.mk (bB (g := gb489) (o := .cells #[.bool t480, .int .i64 t481, .int .i64 t482, .int .i64 (wrap64 (7 - t483)), .int .i64 (wrap64 (t484 + 5)), .int .i64 (wrap64 (t485 + 5)), .int .i64 t486] 35 (0, 0)) (by (with_reducible repeat (first | refine bN ?_ _ | refine bD ?_ | refine bA ?_ _)); exact BK489.out) hb); have n3_ := Aside0.mk (bB (g := gb490) (o := .cells #[.bool t480, .int .i64 t481, .int .i64 t482, .int .i64 t483, .int .i64 t484, .int .i64 x491005_36, .int .i64 t486] 35 (0, 0)) (by (with_reducible repeat (first | refine bN ?_ _ | refine bD ?_ | refine bA ?_ _)); exact BK490.out) hb); have n4_ := Aside0.mk (below_step (by repeat (first | (with_reducible first | exact HB.out | apply pA | apply pN | apply p1_ | refine bS ?_ GE478.out | refine bS ?_ GE487.out | refine bS ?_ GE489.out | refine bS ?_ GE490.out) | exact HB.out)) hb); clear BK478; clear BK487; clear BK489; clear BK490; clear HB; have BK478 := n0_; have BK487 := n1_; have BK489 := n2_; have BK490 := n3_; have HB := n4_; clear n0_ n1_ n2_ n3_ n4_; (try clear hb); (try clear hb2); (try clear hk); (try clear hi)))
                    go_ret
                    exact ⟨by first | rfl | (simp [errW_none, errW_some] <;> rfl) | (simp [*, errW_none, errW_some] <;> rfl), by repeat (first | (with_reducible first | exact HB.out | apply pA | apply pN | apply p1_ | refine bS ?_ GE478.out | refine bS ?_ GE487.out | refine bS ?_ GE489.out | refine bS ?_ GE490.out) | exact HB.out)⟩
                · rw [if_neg c51] at H
                  have c51b0 : decide (t493 ≤ t488) = false := decide_eq_false c51
                  clear c51
                  obtain rfl := Option.some.inj H
                  have hnb82 := Ni_.out
                  have hnc82 := Nf_.out
                  have hnb83 := Na_.out
                  have hnc83 := Nh_.out
                  have hnb84 := Nc_.out
                  have hnc84 := Ng_.out
                  have hcz85_0 : wc.cell? ⟨gb487, 0, none⟩ = some (.bool t480) := (bC BK487.out 0).trans rfl
                  have hcz85_1 : wc.cell? ⟨gb487, 1, none⟩ = some (.int .i64 t481) := (bC BK487.out 1).trans rfl
                  have hcz85_2 : wc.cell? ⟨gb487, 2, none⟩ = some (.int .i64 t482) := (bC BK487.out 2).trans rfl
                  have hcz85_3 : wc.cell? ⟨gb487, 3, none⟩ = some (.int .i64 t483) := (bC BK487.out 3).trans rfl
                  have hcz85_4 : wc.cell? ⟨gb487, 4, none⟩ = some (.int .i64 t484) := (bC BK487.out 4).trans rfl
                  have hcz85_5 : wc.cell? ⟨gb487, 5, none⟩ = some (.int .i64 t485) := (bC BK487.out 5).trans rfl
                  have hcz85_6 : wc.cell? ⟨gb487, 6, none⟩ = some (.int .i64 t486) := (bC BK487.out 6).trans rfl
                  have hfz85_0 := bF BK487.out 0
                  have hfz85_1 := bF BK487.out 1
                  have hfz85_2 := bF BK487.out 2
                  have hfz85_3 := bF BK487.out 3
                  have hfz85_4 := bF BK487.out 4
                  have hfz85_5 := bF BK487.out 5
                  have hfz85_6 := bF BK487.out 6
                  go_wp2_with (first | ((with_reducible refine gate_callee (f := 11) rfl ?_); refine goesL_ (some 68) rfl rfl Tryd.func11 (by kernel_rfl) rfl #[.agg #[.bool t480, .int .i64 t481, .int .i64 t482, .int .i64 t483, .int .i64 t484, .int .i64 t485, .int .i64 t486], .int .i64 64, .int .u64 (Go.bits .and .u64 a1 a2)] rfl (by (try simp only [List.map_toArray, List.map_cons, List.map_nil]); first | done | rfl | (simp only [List.length_drop, List.length_take]; rfl)) ?_; (with_reducible refine (coalesce_Static.calls t480 t481 t482 t483 t484 t485 t486 64 (Go.bits .and .u64 a1 a2) t491 _ A46.out (Tab.below HT (by repeat (first | (with_reducible first | exact HB.out | apply pA | apply pN | apply p1_ | refine bS ?_ (Aside0.out (by assumption))) | exact HB.out)))).mono ?_); rintro e w86 ⟨rfl, hb⟩; refine ⟨_, rfl, ?_⟩; have n0_ := Aside0.mk (bB (g := gb478) (o := .cells #[.bool a0_0, .int .i16 a0_1, .int .i16 a0_2, .int .i16 a0_3, .int .i32 a0_4, .int .u16 a0_5, .int .u16 a0_6, .bool a0_7] 27 (0, 0)) (by (with_reducible repeat (first | refine bN ?_ _ | refine bD ?_ | refine bA ?_ _)); exact BK478.out) hb); have n1_ := Aside0.mk (bB (g := gb487) (o := .cells #[.bool t480, .int .i64 t481, .int .i64 t482, .int .i64 t483, .int .i64 t484, .int .i64 t485, .int .i64 t486] 35 (0, 0)) (by (with_reducible repeat (first | refine bN ?_ _ | refine bD ?_ | refine bA ?_ _)); exact BK487.out) hb); have n2_ := Aside0.mk (bB (g := gb489) (o := .cells #[.bool t480, .int .i64 t481, .int .i64 t482, .int .i64 (wrap64 (7 - t483)), .int .i64 (wrap64 (t484 + 5)), .int .i64 (wrap64 (t485 + 5)), .int .i64 t486] 35 (0, 0)) (by (with_reducible repeat (first | refine bN ?_ _ | refine bD ?_ | refine bA ?_ _)); exact BK489.out) hb); have n3_ := Aside0.mk (bB (g := gb490) (o := .cells #[.bool t480, .int .i64 t481, .int .i64 t482, .int .i64 t483, .int .i64 t484, .int .i64 x491005_36, .int .i64 t486] 35 (0, 0)) (by (with_reducible repeat (first | refine bN ?_ _ | refine bD ?_ | refine bA ?_ _)); exact BK490.out) hb); have n4_ := Aside0.mk (below_step (by repeat (first | (with_reducible first | exact HB.out | apply pA | apply pN | apply p1_ | refine bS ?_ GE478.out | refine bS ?_ GE487.out | refine bS ?_ GE489.out | refine bS ?_ GE490.out) | exact HB.out)) hb); clear BK478; clear BK487; clear BK489; clear BK490; clear HB; have BK478 := n0_; have BK487 := n1_; have BK489 := n2_; have BK490 := n3_; have HB := n4_; clear n0_ n1_ n2_ n3_ n4_; (try clear hb); (try clear hb2); (try clear hk); (try clear hi); have hnb87 := Nl_.out; have hnc87 := Nb_.out; have hnb88 := Nd_.out; have hnc88 := Nj_.out; have hcz89_0 : w86.cell? ⟨gb489, 0, none⟩ = some (.bool t480) := (bC BK489.out 0).trans rfl; have hcz89_1 : w86.cell? ⟨gb489, 1, none⟩ = some (.int .i64 t481) := (bC BK489.out 1).trans rfl; have hcz89_2 : w86.cell? ⟨gb489, 2, none⟩ = some (.int .i64 t482) := (bC BK489.out 2).trans rfl; have hcz89_3 : w86.cell? ⟨gb489, 3, none⟩ = some (.int .i64 (wrap64 (7 - t483))) := (bC BK489.out 3).trans rfl; have hcz89_4 : w86.cell? ⟨gb489, 4, none⟩ = some (.int .i64 (wrap64 (t484 + 5))) := (bC BK489.out 4).trans rfl; have hcz89_5 : w86.cell? ⟨gb489, 5, none⟩ = some (.int .i64 (wrap64 (t485 + 5))) := (bC BK489.out 5).trans rfl; have hcz89_6 : w86.cell? ⟨gb489, 6, none⟩ = some (.int .i64 t486) := (bC BK489.out 6).trans rfl; have hfz89_0 := bF BK489.out 0; have hfz89_1 := bF BK489.out 1; have hfz89_2 := bF BK489.out 2; have hfz89_3 := bF BK489.out 3; have hfz89_4 := bF BK489.out 4; have hfz89_5 := bF BK489.out 5; have hfz89_6 := bF BK489.out 6) | (go_at_call 11; (with_reducible refine (coalesce_Static.calls t480 t481 t482 (wrap64 (7 - t483)) (wrap64 (t484 + 5)) (wrap64 (t485 + 5)) t486 64 a1 t492 _ A48.out (Tab.below HT (by repeat (first | (with_reducible first | exact HB.out | apply pA | apply pN | apply p1_ | refine bS ?_ (Aside0.out (by assumption))) | exact HB.out)))).mono ?_); rintro e w90 ⟨rfl, hb⟩; have n0_ := Aside0.mk (bB (g := gb478) (o := .cells #[.bool a0_0, .int .i16 a0_1, .int .i16 a0_2, .int .i16 a0_3, .int .i32 a0_4, .int .u16 a0_5, .int .u16 a0_6, .bool a0_7] 27 (0, 0)) (by (with_reducible repeat (first | refine bN ?_ _ | refine bD ?_ | refine bA ?_ _)); exact BK478.out) hb); have n1_ := Aside0.mk (bB (g := gb487) (o := .cells #[.bool t480, .int .i64 t481, .int .i64 t482, .int .i64 t483, .int .i64 t484, .int .i64 t485, .int .i64 t486] 35 (0, 0)) (by (with_reducible repeat (first | refine bN ?_ _ | refine bD ?_ | refine bA ?_ _)); exact BK487.out) hb); have n2_ := Aside0.mk (bB (g := gb489) (o := .cells #[.bool t480, .int .i64 t481, .int .i64 t482, .int .i64 (wrap64 (7 - t483)), .int .i64 (wrap64 (t484 + 5)), .int .i64 (wrap64 (t485 + 5)), .int .i64 t486] 35 (0, 0)) (by (with_reducible repeat (first | refine bN ?_ _ | refine bD ?_ | refine bA ?_ _)); exact BK489.out) hb); have n3_ := Aside0.mk (bB (g := gb490) (o := .cells #[.bool t480, .int .i64 t481, .int .i64 t482, .int .i64 t483, .int .i64 t484, .int .i64 x491005_36, .int .i64 t486] 35 (0, 0)) (by (with_reducible repeat (first | refine bN ?_ _ | refine bD ?_ | refine bA ?_ _)); exact BK490.out) hb); have n4_ := Aside0.mk (below_step (by repeat (first | (with_reducible first | exact HB.out | apply pA | apply pN | apply p1_ | refine bS ?_ GE478.out | refine bS ?_ GE487.out | refine bS ?_ GE489.out | refine bS ?_ GE490.out) | exact HB.out)) hb); clear BK478; clear BK487; clear BK489; clear BK490; clear HB; have BK478 := n0_; have BK487 := n1_; have BK489 := n2_; have BK490 := n3_; have HB := n4_; clear n0_ n1_ n2_ n3_ n4_; (try clear hb); (try clear hb2); (try clear hk); (try clear hi); have hnb91 := Nk_.out; have hnc91 := Ne_.out; have hcz92_0 : w90.cell? ⟨gb490, 0, none⟩ = some (.bool t480) := (bC BK490.out 0).trans rfl; have hcz92_1 : w90.cell? ⟨gb490, 1, none⟩ = some (.int .i64 t481) := (bC BK490.out 1).trans rfl; have hcz92_2 : w90.cell? ⟨gb490, 2, none⟩ = some (.int .i64 t482) := (bC BK490.out 2).trans rfl; have hcz92_3 : w90.cell? ⟨gb490, 3, none⟩ = some (.int .i64 t483) := (bC BK490.out 3).trans rfl; have hcz92_4 : w90.cell? ⟨gb490, 4, none⟩ = some (.int .i64 t484) := (bC BK490.out 4).trans rfl; have hcz92_5 : w90.cell? ⟨gb490, 5, none⟩ = some (.int .i64 x491005_36) := (bC BK490.out 5).trans rfl; have hcz92_6 : w90.cell? ⟨gb490, 6, none⟩ = some (.int .i64 t486) := (bC BK490.out 6).trans rfl; have hfz92_0 := bF BK490.out 0; have hfz92_1 := bF BK490.out 1; have hfz92_2 := bF BK490.out 2; have hfz92_3 := bF BK490.out 3; have hfz92_4 := bF BK490.out 4; have hfz92_5 := bF BK490.out 5; have hfz92_6 := bF BK490.out 6) | (go_at_call 11; (with_reducible refine (coalesce_Static.calls t480 t481 t482 t483 t484 x491005_36 t486 64 a1 t493 _ A50.out (Tab.below HT (by repeat (first | (with_reducible first | exact HB.out | apply pA | apply pN | apply p1_ | refine bS ?_ (Aside0.out (by assumption))) | exact HB.out)))).mono ?_); rintro e w93 ⟨rfl, hb⟩; have n0_ := Aside0.mk (bB (g := gb478) (o := .cells #[.bool a0_0, .int .i16 a0_1, .int .i16 a0_2, .int .i16 a0_3, .int .i32 a0_4, .int .u16 a0_5, .int .u16 a0_6, .bool a0_7] 27 (0, 0)) (by (with_reducible repeat (first | refine bN ?_ _ | refine bD ?_ | refine bA ?_ _)); exact BK478.out) hb); have n1_ := Aside0.mk (bB (g := gb487) (o := .cells #[.bool t480, .int .i64 t481, .int .i64 t482, .int .i64 t483, .int .i64 t484, .int .i64 t485, .int .i64 t486] 35 (0, 0)) (by (with_reducible repeat (first | refine bN ?_ _ | refine bD ?_ | refine bA ?_ _)); exact BK487.out) hb); have n2_ := Aside0.mk (bB (g := gb489) (o := .cells #[.bool t480, .int .i64 t481, .int .i64 t482, .int .i64 (wrap64 (7 - t483)), .int .i64 (wrap64 (t484 + 5)), .int .i64 (wrap64 (t485 + 5)), .int .i64 t486] 35 (0, 0)) (by (with_reducible repeat (first | refine bN ?_ _ | refine bD ?_ | refine bA ?_ _)); exact BK489.out) hb); have n3_ := Aside0.mk (bB (g := gb490) (o := .cells #[.bool t480, .int .i64 t481, .int .i64 t482, .int .i64 t483, .int .i64 t484, .int .i64 x491005_36, .int .i64 t486] 35 (0, 0)) (by (with_reducible repeat (first | refine bN ?_ _ | refine bD ?_ | refine bA ?_ _)); exact BK490.out) hb); have n4_ := Aside0.mk (below_step (by repeat (first | (with_reducible first | exact HB.out | apply pA | apply pN | apply p1_ | refine bS ?_ GE478.out | refine bS ?_ GE487.out | refine bS ?_ GE489.out | refine bS ?_ GE490.out) | exact HB.out)) hb); clear BK478; clear BK487; clear BK489; clear BK490; clear HB; have BK478 := n0_; have BK487 := n1_; have BK489 := n2_; have BK490 := n3_; have HB := n4_; clear n0_ n1_ n2_ n3_ n4_; (try clear hb); (try clear hb2); (try clear hk); (try clear hi)))
                  go_ret
                  exact ⟨by first | rfl | (simp [errW_none, errW_some] <;> rfl) | (simp [*, errW_none, errW_some] <;> rfl), by repeat (first | (with_reducible first | exact HB.out | apply pA | apply pN | apply p1_ | refine bS ?_ GE478.out | refine bS ?_ GE487.out | refine bS ?_ GE489.out | refine bS ?_ GE490.out) | exact HB.out)⟩
              · rw [if_neg c49] at H
                have c49b0 : (t492 == t488) = false := beq_eq_false_iff_ne.mpr c49
                have c49b1 : (t492 != t488) = true := bne_iff_ne.mpr c49
                obtain rfl := Option.some.inj H
                have hnb94 := Ni_.out
                have hnc94 := Nf_.out
                have hnb95 := Na_.out
                have hnc95 := Nh_.out
                have hnb96 := Nc_.out
                have hnc96 := Ng_.out
                have hcz97_0 : wc.cell? ⟨gb487, 0, none⟩ = some (.bool t480) := (bC BK487.out 0).trans rfl
                have hcz97_1 : wc.cell? ⟨gb487, 1, none⟩ = some (.int .i64 t481) := (bC BK487.out 1).trans rfl
                have hcz97_2 : wc.cell? ⟨gb487, 2, none⟩ = some (.int .i64 t482) := (bC BK487.out 2).trans rfl
                have hcz97_3 : wc.cell? ⟨gb487, 3, none⟩ = some (.int .i64 t483) := (bC BK487.out 3).trans rfl
                have hcz97_4 : wc.cell? ⟨gb487, 4, none⟩ = some (.int .i64 t484) := (bC BK487.out 4).trans rfl
                have hcz97_5 : wc.cell? ⟨gb487, 5, none⟩ = some (.int .i64 t485) := (bC BK487.out 5).trans rfl
                have hcz97_6 : wc.cell? ⟨gb487, 6, none⟩ = some (.int .i64 t486) := (bC BK487.out 6).trans rfl
                have hfz97_0 := bF BK487.out 0
                have hfz97_1 := bF BK487.out 1
                have hfz97_2 := bF BK487.out 2
                have hfz97_3 := bF BK487.out 3
                have hfz97_4 := bF BK487.out 4
                have hfz97_5 := bF BK487.out 5
                have hfz97_6 := bF BK487.out 6
                go_wp2_with (first | ((with_reducible refine gate_callee (f := 11) rfl ?_); refine goesL_ (some 68) rfl rfl Tryd.func11 (by kernel_rfl) rfl #[.agg #[.bool t480, .int .i64 t481, .int .i64 t482, .int .i64 t483, .int .i64 t484, .int .i64 t485, .int .i64 t486], .int .i64 64, .int .u64 (Go.bits .and .u64 a1 a2)] rfl (by (try simp only [List.map_toArray, List.map_cons, List.map_nil]); first | done | rfl | (simp only [List.length_drop, List.length_take]; rfl)) ?_; (with_reducible refine (coalesce_Static.calls t480 t481 t482 t483 t484 t485 t486 64 (Go.bits .and .u64 a1 a2) t491 _ A46.out (Tab.below HT (by repeat (first | (with_reducible first | exact HB.out | apply pA | apply pN | apply p1_ | refine bS ?_ (Aside0.out (by assumption))) | exact HB.out)))).mono ?_); rintro e w98 ⟨rfl, hb⟩; refine ⟨_, rfl, ?_⟩; have n0_ := Aside0.mk (bB (g := gb478) (o := .cells #[.bool a0_0, .int .i16 a0_1, .int .i16 a0_2, .int .i16 a0_3, .int .i32 a0_4, .int .u16 a0_5, .int .u16 a0_6, .bool a0_7] 27 (0, 0)) (by (with_reducible repeat (first | refine bN ?_ _ | refine bD ?_ | refine bA ?_ _)); exact BK478.out) hb); have n1_ := Aside0.mk (bB (g := gb487) (o := .cells #[.bool t480, .int .i64 t481, .int .i64 t482, .int .i64 t483, .int .i64 t484, .int .i64 t485, .int .i64 t486] 35 (0, 0)) (by (with_reducible repeat (first | refine bN ?_ _ | refine bD ?_ | refine bA ?_ _)); exact BK487.out) hb); have n2_ := Aside0.mk (bB (g := gb489) (o := .cells #[.bool t480, .int .i64 t481, .int .i64 t482, .int .i64 (wrap64 (7 - t483)), .int .i64 (wrap64 (t484 + 5)), .int .i64 (wrap64 (t485 + 5)), .int .i64 t486] 35 (0, 0)) (by (with_reducible repeat (first | refine bN ?_ _ | refine bD ?_ | refine bA ?_ _)); exact BK489.out) hb); have n3_ := Aside0.mk (bB (g := gb490) (o := .cells #[.bool t480, .int .i64 t481, .int .i64 t482, .int .i64 t483, .int .i64 t484, .int .i64 x491005_36, .int .i64 t486] 35 (0, 0)) (by (with_reducible repeat (first | refine bN ?_ _ | refine bD ?_ | refine bA ?_ _)); exact BK490.out) hb); have n4_ := Aside0.mk (below_step (by repeat (first | (with_reducible first | exact HB.out | apply pA | apply pN | apply p1_ | refine bS ?_ GE478.out | refine bS ?_ GE487.out | refine bS ?_ GE489.out | refine bS ?_ GE490.out) | exact HB.out)) hb); clear BK478; clear BK487; clear BK489; clear BK490; clear HB; have BK478 := n0_; have BK487 := n1_; have BK489 := n2_; have BK490 := n3_; have HB := n4_; clear n0_ n1_ n2_ n3_ n4_; (try clear hb); (try clear hb2); (try clear hk); (try clear hi); have hnb99 := Nl_.out; have hnc99 := Nb_.out; have hnb100 := Nd_.out; have hnc100 := Nj_.out; have hcz101_0 : w98.cell? ⟨gb489, 0, none⟩ = some (.bool t480) := (bC BK489.out 0).trans rfl; have hcz101_1 : w98.cell? ⟨gb489, 1, none⟩ = some (.int .i64 t481) := (bC BK489.out 1).trans rfl; have hcz101_2 : w98.cell? ⟨gb489, 2, none⟩ = some (.int .i64 t482) := (bC BK489.out 2).trans rfl; have hcz101_3 : w98.cell? ⟨gb489, 3, none⟩ = some (.int .i64 (wrap64 (7 - t483))) := (bC BK489.out 3).trans rfl; have hcz101_4 : w98.cell? ⟨gb489, 4, none⟩ = some (.int .i64 (wrap64 (t484 + 5))) := (bC BK489.out 4).trans rfl; have hcz101_5 : w98.cell? ⟨gb489, 5, none⟩ = some (.int .i64 (wrap64 (t485 + 5))) := (bC BK489.out 5).trans rfl; have hcz101_6 : w98.cell? ⟨gb489, 6, none⟩ = some (.int .i64 t486) := (bC BK489.out 6).trans rfl; have hfz101_0 := bF BK489.out 0; have hfz101_1 := bF BK489.out 1; have hfz101_2 := bF BK489.out 2; have hfz101_3 := bF BK489.out 3; have hfz101_4 := bF BK489.out 4; have hfz101_5 := bF BK489.out 5; have hfz101_6 := bF BK489.out 6) | (go_at_call 11; (with_reducible refine (coalesce_Static.calls t480 t481 t482 (wrap64 (7 - t483)) (wrap64 (t484 + 5)) (wrap64 (t485 + 5)) t486 64 a1 t492 _ A48.out (Tab.below HT (by repeat (first | (with_reducible first | exact HB.out | apply pA | apply pN | apply p1_ | refine bS ?_ (Aside0.out (by assumption))) | exact HB.out)))).mono ?_); rintro e w102 ⟨rfl, hb⟩; have n0_ := Aside0.mk (bB (g := gb478) (o := .cells #[.bool a0_0, .int .i16 a0_1, .int .i16 a0_2, .int .i16 a0_3, .int .i32 a0_4, .int .u16 a0_5, .int .u16 a0_6, .bool a0_7] 27 (0, 0)) (by (with_reducible repeat (first | refine bN ?_ _ | refine bD ?_ | refine bA ?_ _)); exact BK478.out) hb); have n1_ := Aside0.mk (bB (g := gb487) (o := .cells #[.bool t480, .int .i64 t481, .int .i64 t482, .int .i64 t483, .int .i64 t484, .int .i64 t485, .int .i64 t486] 35 (0, 0)) (by (with_reducible repeat (first | refine bN ?_ _ | refine bD ?_ | refine bA ?_ _)); exact BK487.out) hb); have n2_ := Aside0.mk (bB (g := gb489) (o := .cells #[.bool t480, .int .i64 t481, .int .i64 t482, .int .i64 (wrap64 (7 - t483)), .int .i64 (wrap64 (t484 + 5)), .int .i64 (wrap64 (t485 + 5)), .int .i64 t486] 35 (0, 0)) (by (with_reducible repeat (first | refine bN ?_ _ | refine bD ?_ | refine bA ?_ _)); exact BK489.out) hb); have n3_ := Aside0.mk (bB (g := gb490) (o := .cells #[.bool t480, .int .i64 t481, .int .i64 t482, .int .i64 t483, .int .i64 t484, .int .i64 x491005_36, .int .i64 t486] 35 (0, 0)) (by (with_reducible repeat (first | refine bN ?_ _ | refine bD ?_ | refine bA ?_ _)); exact BK490.out) hb); have n4_ := Aside0.mk (below_step (by repeat (first | (with_reducible first | exact HB.out | apply pA | apply pN | apply p1_ | refine bS ?_ GE478.out | refine bS ?_ GE487.out | refine bS ?_ GE489.out | refine bS ?_ GE490.out) | exact HB.out)) hb); clear BK478; clear BK487; clear BK489; clear BK490; clear HB; have BK478 := n0_; have BK487 := n1_; have BK489 := n2_; have BK490 := n3_; have HB := n4_; clear n0_ n1_ n2_ n3_ n4_; (try clear hb); (try clear hb2); (try clear hk); (try clear hi)))
                go_ret
                exact ⟨by first | rfl | (simp [errW_none, errW_some] <;> rfl) | (simp [*, errW_none, errW_some] <;> rfl), by repeat (first | (with_reducible first | exact HB.out | apply pA | apply pN | apply p1_ | refine bS ?_ GE478.out | refine bS ?_ GE487.out | refine bS ?_ GE489.out | refine bS ?_ GE490.out) | exact HB.out)⟩
            · rw [if_neg c47] at H
              have c47b0 : decide (t491 ≤ t488) = false := decide_eq_false c47
              clear c47
              obtain rfl := Option.some.inj H
              have hnb103 := Ni_.out
              have hnc103 := Nf_.out
              have hnb104 := Na_.out
              have hnc104 := Nh_.out
              have hnb105 := Nc_.out
              have hnc105 := Ng_.out
              have hcz106_0 : wc.cell? ⟨gb487, 0, none⟩ = some (.bool t480) := (bC BK487.out 0).trans rfl
              have hcz106_1 : wc.cell? ⟨gb487, 1, none⟩ = some (.int .i64 t481) := (bC BK487.out 1).trans rfl
              have hcz106_2 : wc.cell? ⟨gb487, 2, none⟩ = some (.int .i64 t482) := (bC BK487.out 2).trans rfl
              have hcz106_3 : wc.cell? ⟨gb487, 3, none⟩ = some (.int .i64 t483) := (bC BK487.out 3).trans rfl
              have hcz106_4 : wc.cell? ⟨gb487, 4, none⟩ = some (.int .i64 t484) := (bC BK487.out 4).trans rfl
              have hcz106_5 : wc.cell? ⟨gb487, 5, none⟩ = some (.int .i64 t485) := (bC BK487.out 5).trans rfl
              have hcz106_6 : wc.cell? ⟨gb487, 6, none⟩ = some (.int .i64 t486) := (bC BK487.out 6).trans rfl
              have hfz106_0 := bF BK487.out 0
              have hfz106_1 := bF BK487.out 1
              have hfz106_2 := bF BK487.out 2
              have hfz106_3 := bF BK487.out 3
              have hfz106_4 := bF BK487.out 4
              have hfz106_5 := bF BK487.out 5
              have hfz106_6 := bF BK487.out 6
              go_wp2_with (first | ((with_reducible refine gate_callee (f := 11) rfl ?_); refine goesL_ (some 68) rfl rfl Tryd.func11 (by kernel_rfl) rfl #[.agg #[.bool t480, .int .i64 t481, .int .i64 t482, .int .i64 t483, .int .i64 t484, .int .i64 t485, .int .i64 t486], .int .i64 64, .int .u64 (Go.bits .and .u64 a1 a2)] rfl (by (try simp only [List.map_toArray, List.map_cons, List.map_nil]); first | done | rfl | (simp only [List.length_drop, List.length_take]; rfl)) ?_; (with_reducible refine (coalesce_Static.calls t480 t481 t482 t483 t484 t485 t486 64 (Go.bits .and .u64 a1 a2) t491 _ A46.out (Tab.below HT (by repeat (first | (with_reducible first | exact HB.out | apply pA | apply pN | apply p1_ | refine bS ?_ (Aside0.out (by assumption))) | exact HB.out)))).mono ?_); rintro e w107 ⟨rfl, hb⟩; refine ⟨_, rfl, ?_⟩; have n0_ := Aside0.mk (bB (g := gb478) (o := .cells #[.bool a0_0, .int .i16 a0_1, .int .i16 a0_2, .int .i16 a0_3, .int .i32 a0_4, .int .u16 a0_5, .int .u16 a0_6, .bool a0_7] 27 (0, 0)) (by (with_reducible repeat (first | refine bN ?_ _ | refine bD ?_ | refine bA ?_ _)); exact BK478.out) hb); have n1_ := Aside0.mk (bB (g := gb487) (o := .cells #[.bool t480, .int .i64 t481, .int .i64 t482, .int .i64 t483, .int .i64 t484, .int .i64 t485, .int .i64 t486] 35 (0, 0)) (by (with_reducible repeat (first | refine bN ?_ _ | refine bD ?_ | refine bA ?_ _)); exact BK487.out) hb); have n2_ := Aside0.mk (bB (g := gb489) (o := .cells #[.bool t480, .int .i64 t481, .int .i64 t482, .int .i64 (wrap64 (7 - t483)), .int .i64 (wrap64 (t484 + 5)), .int .i64 (wrap64 (t485 + 5)), .int .i64 t486] 35 (0, 0)) (by (with_reducible repeat (first | refine bN ?_ _ | refine bD ?_ | refine bA ?_ _)); exact BK489.out) hb); have n3_ := Aside0.mk (bB (g := gb490) (o := .cells #[.bool t480, .int .i64 t481, .int .i64 t482, .int .i64 t483, .int .i64 t484, .int .i64 x491005_36, .int .i64 t486] 35 (0, 0)) (by (with_reducible repeat (first | refine bN ?_ _ | refine bD ?_ | refine bA ?_ _)); exact BK490.out) hb); have n4_ := Aside0.mk (below_step (by repeat (first | (with_reducible first | exact HB.out | apply pA | apply pN | apply p1_ | refine bS ?_ GE478.out | refine bS ?_ GE487.out | refine bS ?_ GE489.out | refine bS ?_ GE490.out) | exact HB.out)) hb); clear BK478; clear BK487; clear BK489; clear BK490; clear HB; have BK478 := n0_; have BK487 := n1_; have BK489 := n2_; have BK490 := n3_; have HB := n4_; clear n0_ n1_ n2_ n3_ n4_; (try clear hb); (try clear hb2); (try clear hk); (try clear hi)))
              go_ret
              exact ⟨by first | rfl | (simp [errW_none, errW_some] <;> rfl) | (simp [*, errW_none, errW_some] <;> rfl), by repeat (first | (with_reducible first | exact HB.out | apply pA | apply pN | apply p1_ | refine bS ?_ GE478.out | refine bS ?_ GE487.out | refine bS ?_ GE489.out | refine bS ?_ GE490.out) | exact HB.out)⟩
  · replace c5 := Bool.eq_false_iff.mpr c5
    subst c5
    have H1 : (some false) = some r := by rw [if_neg (show ¬ (false = true) by decide)] at H; exact H
    clear H
    have H := H1
    clear H1
    obtain rfl := Option.some.inj H
    go_enter Tryd.func8, Tryd.ntmps8
    go_wp2_with (first | ((with_reducible refine gate_dst (N := 3) rfl ?_); refine box_event ?hg (N := 3) ?hd (cs := #[.bool a0_0, .int .i16 a0_1, .int .i16 a0_2, .int .i16 a0_3, .int .i32 a0_4, .int .u16 a0_5, .int .u16 a0_6, .bool a0_7]) (t := 27) ?hr ?_; (case hd => rfl); (case hg => rfl); (case hr => first | (go_simp; done) | (go_simp; rfl)); intro gb478 hg w108 hbox hb; have n0_ := Aside0.mk (below_step (by repeat (first | (with_reducible first | exact HB.out | apply pA | apply pN | apply p1_) | exact HB.out)) hb); have n1_ := Aside0.mk (hbox); have n2_ := Aside0.mk ((by rw [hg]; exact (below_size (by repeat (first | (with_reducible first | exact HB.out | apply pA | apply pN | apply p1_) | exact HB.out))) : w.heap.size ≤ gb478)); have n3_ := Aside0.mk ((by rw [hg]; exact (below_size (by repeat (first | (with_reducible first | exact HB.out | apply pA | apply pN | apply p1_) | exact HB.out))) : w.heap.size ≤ gb478)); clear HB; have HB := n0_; have BK478 := n1_; have GW478 := n2_; have GE478 := n3_; clear n0_ n1_ n2_ n3_; clear hb hbox hg) | ((with_reducible refine gate_callee (f := 9) rfl ?_); refine goesL_ (some 12) rfl rfl Tryd.func9 (by kernel_rfl) rfl #[] rfl (by (try simp only [List.map_toArray, List.map_cons, List.map_nil]); first | done | rfl | (simp only [List.length_drop, List.length_take]; rfl)) ?_; (with_reducible refine (w22_examples.calls k  false _ A4.out).mono ?_); rintro e w109 ⟨rfl, hb⟩; refine ⟨_, rfl, ?_⟩; have n0_ := Aside0.mk (bB (g := gb478) (o := .cells #[.bool a0_0, .int .i16 a0_1, .int .i16 a0_2, .int .i16 a0_3, .int .i32 a0_4, .int .u16 a0_5, .int .u16 a0_6, .bool a0_7] 27 (0, 0)) (by (with_reducible repeat (first | refine bN ?_ _ | refine bD ?_ | refine bA ?_ _)); exact BK478.out) hb); have n1_ := Aside0.mk (below_step (by repeat (first | (with_reducible first | exact HB.out | apply pA | apply pN | apply p1_ | refine bS ?_ GE478.out) | exact HB.out)) hb); clear BK478; clear HB; have BK478 := n0_; have HB := n1_; clear n0_ n1_; (try clear hb); (try clear hb2); (try clear hk); (try clear hi)))
    go_ret
    exact ⟨by first | rfl | (simp [errW_none, errW_some] <;> rfl) | (simp [*, errW_none, errW_some] <;> rfl), by repeat (first | (with_reducible first | exact HB.out | apply pA | apply pN | apply p1_ | refine bS ?_ GE478.out) | exact HB.out)⟩

end Go.Proofs.YtnjeliicnbfclaaDoor.P
