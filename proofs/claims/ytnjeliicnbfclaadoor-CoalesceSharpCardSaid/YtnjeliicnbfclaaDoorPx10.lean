-- Written by wip/myprint.py, a program of this session's own over the kit's print: functions and their contracts.
import Derived.Test.YtnjeliicnbfclaaDoorPx0
import Derived.Test.YtnjeliicnbfclaaDoorPx1e
import Derived.Test.YtnjeliicnbfclaaDoorPx8
import Derived.Test.YtnjeliicnbfclaaDoorG1
import Derived.Test.YtnjeliicnbfclaaDoorG3c
namespace Go.Proofs.YtnjeliicnbfclaaDoor.P
open Go.RowKit Go.Proofs.YtnjeliicnbfclaaDoorW.PrintWords Go.Proofs.YtnjeliicnbfclaaDoorW.PrintLast Go.Proofs.YtnjeliicnbfclaaDoorW.PrintMore
attribute [local go_sem] max2_int min2_int max_two min_two max_three min_three max_four min_four   -- for this text's walks alone
set_option linter.unusedVariables false
set_option linter.unusedSimpArgs false

/-! ### w22_CSharp: function 7 -/
mutual
def w22_CSharp.l0 : Nat → Int → Int → Bool → Int → List Int → Int → Int → Int → Option (Bool)
  | 0, _, _, _, _, _, _, _, _ => none
  | k + 1, x0, x2, x7, x8, x9, x10, x11, x12 => if x12 < 16 then ((w22_step.f x0).bind fun bt441 => ((w22_words.f k bt441.1 bt441.2.1 bt441.2.2.1 bt441.2.2.2.1 bt441.2.2.2.2.1 bt441.2.2.2.2.2.1 bt441.2.2.2.2.2.2 x9 x12 ([] : List Int)).bind fun t448 => ((coalesce_Segments.f t448).bind fun t451 => (w22_CSharp.l0 k x0 x2 x7 x8 x9 x10 (mx x11 (t451.length : Int)) (wrap64 (x12 + 1)))))) else (if x11 = x10 then (if x0 ≥ 16 then (w22_CSharp.j1 k x2 x7 x8 (x10 != (x9.length : Int))) else (if x0 ≤ (-16) then (w22_CSharp.j1 k x2 x7 x8 (x10 != (x9.length : Int))) else (w22_CSharp.j1 k x2 x7 x8 false))) else (w22_CSharp.j1 k x2 x7 x8 true))
def w22_CSharp.j1 : Nat → Int → Bool → Int → Bool → Option (Bool)
  | 0, _, _, _, _ => none
  | k + 1, x2, x7, x8, x72 => if x72 = true then (some false) else ((w22_step.f 0).bind fun bt454 => ((coalesce_Static.f bt454.1 bt454.2.1 bt454.2.2.1 bt454.2.2.2.1 bt454.2.2.2.2.1 bt454.2.2.2.2.2.1 bt454.2.2.2.2.2.2 x8 x2).bind fun t461 => (if t461 = 1 then ((w22_step.f 1).bind fun bt462 => ((coalesce_Static.f bt462.1 bt462.2.1 bt462.2.2.1 bt462.2.2.2.1 bt462.2.2.2.2.1 bt462.2.2.2.2.2.1 bt462.2.2.2.2.2.2 x8 18446744073709551615).bind fun t469 => (if t469 = (wrap64 (Int.tdiv (wrap64 (x8 + 30)) 16)) then ((w22_step.f (-1)).bind fun bt470 => ((coalesce_Static.f bt470.1 bt470.2.1 bt470.2.2.1 bt470.2.2.2.1 bt470.2.2.2.2.1 bt470.2.2.2.2.2.1 bt470.2.2.2.2.2.2 x8 18446744073709551615).bind fun t477 => (if t477 = (wrap64 (Int.tdiv (wrap64 (x8 + 30)) 16)) then (some x7) else (some false)))) else (some false)))) else (some false))))
end
def w22_CSharp.f (k : Nat) (a0 : Int) (a1 : Int) (a2 : Int) : Option (Bool) := (w22_examples.f k).bind fun t421 => (if t421 = true then ((v22_Lanes.f k (wrap64 (1 + (wrap64 (Int.tmod a1 64)))) a2).bind fun t422 => (if (t422.length : Int) = 0 then ((w22_step.f (Int.tmod a0 1099511627776)).bind fun bt425 => ((coalesce_Static.f bt425.1 bt425.2.1 bt425.2.2.1 bt425.2.2.2.1 bt425.2.2.2.2.1 bt425.2.2.2.2.2.1 bt425.2.2.2.2.2.2 (wrap64 (1 + (wrap64 (Int.tmod a1 64)))) a2).bind fun t432 => (if t432 = 0 then (some t421) else (some false)))) else ((w22_step.f (Int.tmod a0 1099511627776)).bind fun bt433 => ((coalesce_Static.f bt433.1 bt433.2.1 bt433.2.2.1 bt433.2.2.2.1 bt433.2.2.2.2.1 bt433.2.2.2.2.2.1 bt433.2.2.2.2.2.2 (wrap64 (1 + (wrap64 (Int.tmod a1 64)))) a2).bind fun t440 => (w22_CSharp.l0 k (Int.tmod a0 1099511627776) a2 t421 (wrap64 (1 + (wrap64 (Int.tmod a1 64)))) t422 t440 0 0))))) else (some false))
theorem w22_CSharp.mono_l : ∀ k, (∀ y0 y1 y2 y3 y4 y5 y6 y7, LeO (w22_CSharp.l0 k y0 y1 y2 y3 y4 y5 y6 y7) (w22_CSharp.l0 (k + 1) y0 y1 y2 y3 y4 y5 y6 y7)) ∧ (∀ y0 y1 y2 y3, LeO (w22_CSharp.j1 k y0 y1 y2 y3) (w22_CSharp.j1 (k + 1) y0 y1 y2 y3))
  | 0 => ⟨fun _ _ _ _ _ _ _ _ r h => by simp [w22_CSharp.l0] at h, fun _ _ _ _ r h => by simp [w22_CSharp.j1] at h⟩
  | k + 1 => by
    obtain ⟨ih0, ih1⟩ := w22_CSharp.mono_l k
    refine ⟨?_, ?_⟩
    · intro y0 y1 y2 y3 y4 y5 y6 y7
      unfold w22_CSharp.l0
      repeat' first
      | (with_reducible exact ih0 _ _ _ _ _ _ _ _)
      | (with_reducible exact ih1 _ _ _ _)
      | (with_reducible exact v22_Lanes.mono _ _ _)
      | (with_reducible exact w22_examples.mono _)
      | (with_reducible exact w22_words.mono _ _ _ _ _ _ _ _ _ _ _)
      | (with_reducible exact LeO.refl _)
      | (with_reducible exact LeO.none _)
      | (with_reducible refine LeO.ite ?_ ?_)
      | (with_reducible refine LeO.bind ?_ (fun _ => ?_))
      | exact ih0 _ _ _ _ _ _ _ _
      | exact ih1 _ _ _ _
      | exact v22_Lanes.mono _ _ _
      | exact w22_examples.mono _
      | exact w22_words.mono _ _ _ _ _ _ _ _ _ _ _
      | exact LeO.none _
      | refine LeO.ite ?_ ?_
      | refine LeO.bind ?_ (fun _ => ?_)
    · intro y0 y1 y2 y3
      unfold w22_CSharp.j1
      repeat' first
      | (with_reducible exact ih0 _ _ _ _ _ _ _ _)
      | (with_reducible exact ih1 _ _ _ _)
      | (with_reducible exact v22_Lanes.mono _ _ _)
      | (with_reducible exact w22_examples.mono _)
      | (with_reducible exact w22_words.mono _ _ _ _ _ _ _ _ _ _ _)
      | (with_reducible exact LeO.refl _)
      | (with_reducible exact LeO.none _)
      | (with_reducible refine LeO.ite ?_ ?_)
      | (with_reducible refine LeO.bind ?_ (fun _ => ?_))
      | exact ih0 _ _ _ _ _ _ _ _
      | exact ih1 _ _ _ _
      | exact v22_Lanes.mono _ _ _
      | exact w22_examples.mono _
      | exact w22_words.mono _ _ _ _ _ _ _ _ _ _ _
      | exact LeO.none _
      | refine LeO.ite ?_ ?_
      | refine LeO.bind ?_ (fun _ => ?_)
theorem w22_CSharp.mono : ∀ a0 a1 a2 k, LeO (w22_CSharp.f k a0 a1 a2) (w22_CSharp.f (k + 1) a0 a1 a2) := by
  intro a0 a1 a2 k
  obtain ⟨ih0, ih1⟩ := w22_CSharp.mono_l k
  unfold w22_CSharp.f
  repeat' first
      | (with_reducible exact ih0 _ _ _ _ _ _ _ _)
      | (with_reducible exact ih1 _ _ _ _)
      | (with_reducible exact v22_Lanes.mono _ _ _)
      | (with_reducible exact w22_examples.mono _)
      | (with_reducible exact w22_words.mono _ _ _ _ _ _ _ _ _ _ _)
      | (with_reducible exact LeO.refl _)
      | (with_reducible exact LeO.none _)
      | (with_reducible refine LeO.ite ?_ ?_)
      | (with_reducible refine LeO.bind ?_ (fun _ => ?_))
      | exact ih0 _ _ _ _ _ _ _ _
      | exact ih1 _ _ _ _
      | exact v22_Lanes.mono _ _ _
      | exact w22_examples.mono _
      | exact w22_words.mono _ _ _ _ _ _ _ _ _ _ _
      | exact LeO.none _
      | refine LeO.ite ?_ ?_
      | refine LeO.bind ?_ (fun _ => ?_)
set_option maxHeartbeats 8000000 in
set_option maxRecDepth 100000 in
theorem w22_CSharp.calls (k : Nat) (a0 : Int) (a1 : Int) (a2 : Int) (r : Bool) (w : World) (h : w22_CSharp.f k a0 a1 a2 = some r) (HT : Tab w := by exact Tab.below HT (by repeat (first | (with_reducible first | exact HB.out | apply pA | apply pN | apply p1_) | exact HB.out))) :
    Calls Tryd.prog 7 #[.int .i64 a0, .int .u8 a1, .int .u64 a2] w fun e w' => e = .returned (.bool r) ∧ Below w.heap.size w w' := by
  have HB := Aside0.mk (Below.refl w.heap.size w)
  have H : ((w22_examples.f k).bind fun t421 => (if t421 = true then ((v22_Lanes.f k (wrap64 (1 + (wrap64 (Int.tmod a1 64)))) a2).bind fun t422 => (if (t422.length : Int) = 0 then ((w22_step.f (Int.tmod a0 1099511627776)).bind fun bt425 => ((coalesce_Static.f bt425.1 bt425.2.1 bt425.2.2.1 bt425.2.2.2.1 bt425.2.2.2.2.1 bt425.2.2.2.2.2.1 bt425.2.2.2.2.2.2 (wrap64 (1 + (wrap64 (Int.tmod a1 64)))) a2).bind fun t432 => (if t432 = 0 then (some t421) else (some false)))) else ((w22_step.f (Int.tmod a0 1099511627776)).bind fun bt433 => ((coalesce_Static.f bt433.1 bt433.2.1 bt433.2.2.1 bt433.2.2.2.1 bt433.2.2.2.2.1 bt433.2.2.2.2.2.1 bt433.2.2.2.2.2.2 (wrap64 (1 + (wrap64 (Int.tmod a1 64)))) a2).bind fun t440 => (w22_CSharp.l0 k (Int.tmod a0 1099511627776) a2 t421 (wrap64 (1 + (wrap64 (Int.tmod a1 64)))) t422 t440 0 0))))) else (some false))) = some r := h
  clear h
  replace H := Option.bind_eq_some_iff.mp H
  obtain ⟨t421, A40, H⟩ := H
  replace H : (if t421 = true then ((v22_Lanes.f k (wrap64 (1 + (wrap64 (Int.tmod a1 64)))) a2).bind fun t422 => (if (t422.length : Int) = 0 then ((w22_step.f (Int.tmod a0 1099511627776)).bind fun bt425 => ((coalesce_Static.f bt425.1 bt425.2.1 bt425.2.2.1 bt425.2.2.2.1 bt425.2.2.2.2.1 bt425.2.2.2.2.2.1 bt425.2.2.2.2.2.2 (wrap64 (1 + (wrap64 (Int.tmod a1 64)))) a2).bind fun t432 => (if t432 = 0 then (some t421) else (some false)))) else ((w22_step.f (Int.tmod a0 1099511627776)).bind fun bt433 => ((coalesce_Static.f bt433.1 bt433.2.1 bt433.2.2.1 bt433.2.2.2.1 bt433.2.2.2.2.1 bt433.2.2.2.2.2.1 bt433.2.2.2.2.2.2 (wrap64 (1 + (wrap64 (Int.tmod a1 64)))) a2).bind fun t440 => (w22_CSharp.l0 k (Int.tmod a0 1099511627776) a2 t421 (wrap64 (1 + (wrap64 (Int.tmod a1 64)))) t422 t440 0 0))))) else (some false)) = some r := H
  have A4 := Aside0.mk A40
  clear A40
  by_cases c5 : t421 = true
  · subst c5
    have H1 : ((v22_Lanes.f k (wrap64 (1 + (wrap64 (Int.tmod a1 64)))) a2).bind fun t422 => (if (t422.length : Int) = 0 then ((w22_step.f (Int.tmod a0 1099511627776)).bind fun bt425 => ((coalesce_Static.f bt425.1 bt425.2.1 bt425.2.2.1 bt425.2.2.2.1 bt425.2.2.2.2.1 bt425.2.2.2.2.2.1 bt425.2.2.2.2.2.2 (wrap64 (1 + (wrap64 (Int.tmod a1 64)))) a2).bind fun t432 => (if t432 = 0 then (some true) else (some false)))) else ((w22_step.f (Int.tmod a0 1099511627776)).bind fun bt433 => ((coalesce_Static.f bt433.1 bt433.2.1 bt433.2.2.1 bt433.2.2.2.1 bt433.2.2.2.2.1 bt433.2.2.2.2.2.1 bt433.2.2.2.2.2.2 (wrap64 (1 + (wrap64 (Int.tmod a1 64)))) a2).bind fun t440 => (w22_CSharp.l0 k (Int.tmod a0 1099511627776) a2 true (wrap64 (1 + (wrap64 (Int.tmod a1 64)))) t422 t440 0 0))))) = some r := by rw [if_pos rfl] at H; exact H
    clear H
    have H := H1
    clear H1
    replace H := Option.bind_eq_some_iff.mp H
    obtain ⟨t422, A60, H⟩ := H
    replace H : (if (t422.length : Int) = 0 then ((w22_step.f (Int.tmod a0 1099511627776)).bind fun bt425 => ((coalesce_Static.f bt425.1 bt425.2.1 bt425.2.2.1 bt425.2.2.2.1 bt425.2.2.2.2.1 bt425.2.2.2.2.2.1 bt425.2.2.2.2.2.2 (wrap64 (1 + (wrap64 (Int.tmod a1 64)))) a2).bind fun t432 => (if t432 = 0 then (some true) else (some false)))) else ((w22_step.f (Int.tmod a0 1099511627776)).bind fun bt433 => ((coalesce_Static.f bt433.1 bt433.2.1 bt433.2.2.1 bt433.2.2.2.1 bt433.2.2.2.2.1 bt433.2.2.2.2.2.1 bt433.2.2.2.2.2.2 (wrap64 (1 + (wrap64 (Int.tmod a1 64)))) a2).bind fun t440 => (w22_CSharp.l0 k (Int.tmod a0 1099511627776) a2 true (wrap64 (1 + (wrap64 (Int.tmod a1 64)))) t422 t440 0 0)))) = some r := H
    have A6 := Aside0.mk A60
    clear A60
    by_cases c7 : (t422.length : Int) = 0
    · rw [if_pos c7] at H
      have c7b0 : ((t422.length : Int) == 0) = true := beq_iff_eq.mpr c7
      have c7b1 : ((t422.length : Int) != 0) = false := bne_eq_false_iff_eq.mpr c7
      clear c7
      replace H := Option.bind_eq_some_iff.mp H
      obtain ⟨⟨t425, t426, t427, t428, t429, t430, t431⟩, A80, H⟩ := H
      replace H : ((coalesce_Static.f t425 t426 t427 t428 t429 t430 t431 (wrap64 (1 + (wrap64 (Int.tmod a1 64)))) a2).bind fun t432 => (if t432 = 0 then (some true) else (some false))) = some r := H
      have A8 := Aside0.mk A80
      clear A80
      replace H := Option.bind_eq_some_iff.mp H
      obtain ⟨t432, A90, H⟩ := H
      replace H : (if t432 = 0 then (some true) else (some false)) = some r := H
      have A9 := Aside0.mk A90
      clear A90
      by_cases c10 : t432 = 0
      · rw [if_pos c10] at H
        have c10b0 : (t432 == 0) = true := beq_iff_eq.mpr c10
        have c10b1 : (t432 != 0) = false := bne_eq_false_iff_eq.mpr c10
        clear c10
        obtain rfl := Option.some.inj H
        go_enter Tryd.func7, Tryd.ntmps7
        go_wp2_with (first | ((with_reducible refine gate_callee (f := 9) rfl ?_); (with_reducible refine gate_dst (N := 14) rfl ?_); refine goesL_ (some 14) rfl rfl Tryd.func9 (by kernel_rfl) rfl #[] rfl (by (try simp only [List.map_toArray, List.map_cons, List.map_nil]); first | done | rfl | (simp only [List.length_drop, List.length_take]; rfl)) ?_; (with_reducible refine (w22_examples.calls k  true _ A4.out).mono ?_); rintro e w11 ⟨rfl, hb⟩; refine ⟨_, rfl, ?_⟩; have n0_ := Aside0.mk (below_step (by repeat (first | (with_reducible first | exact HB.out | apply pA | apply pN | apply p1_) | exact HB.out)) hb); clear HB; have HB := n0_; clear n0_; (try clear hb); (try clear hb2); (try clear hk); (try clear hi)) | ((with_reducible refine gate_callee (f := 19) rfl ?_); (with_reducible refine gate_dst (N := 25) rfl ?_); refine goesL_ (some 25) rfl rfl Tryd.func19 (by kernel_rfl) rfl #[.int .i64 (wrap64 (1 + (wrap64 (Int.tmod a1 64)))), .int .u64 a2] rfl (by (try simp only [List.map_toArray, List.map_cons, List.map_nil]); first | done | rfl | (simp only [List.length_drop, List.length_take]; rfl)) ?_; (with_reducible refine (v22_Lanes.calls k (wrap64 (1 + (wrap64 (Int.tmod a1 64)))) a2 t422 _ A6.out).mono ?_); rintro e w12 ⟨v423, rfl, ho0, hb⟩; refine ⟨_, rfl, ?_⟩; have n0_ := Aside0.mk (Kd.R_lower ho0 (below_size (by repeat (first | (with_reducible first | exact HB.out | apply pA | apply pN | apply p1_) | exact HB.out)))); have n1_ := Aside0.mk (below_step (by repeat (first | (with_reducible first | exact HB.out | apply pA | apply pN | apply p1_) | exact HB.out)) hb); clear HB; have HO424 := n0_; have HB := n1_; clear n0_ n1_; (try clear hb); (try clear hb2); (try clear hk); (try clear hi); (try clear ho0); obtain ⟨Ao13, co13, eo13⟩ := Kd.R_slice HO424.out; subst eo13) | ((with_reducible refine gate_callee (f := 21) rfl ?_); (with_reducible refine gate_dst (N := 30) rfl ?_); refine goesL_ (some 30) rfl rfl Tryd.func21 (by kernel_rfl) rfl #[.int .i64 (Int.tmod a0 1099511627776)] rfl (by (try simp only [List.map_toArray, List.map_cons, List.map_nil]); first | done | rfl | (simp only [List.length_drop, List.length_take]; rfl)) ?_; (with_reducible refine (w22_step.calls (Int.tmod a0 1099511627776) t425 t426 t427 t428 t429 t430 t431 _ A8.out).mono ?_); rintro e w14 ⟨rfl, hb⟩; refine ⟨_, rfl, ?_⟩; have n0_ := Aside0.mk (Kd.R_below (by (with_reducible repeat (first | apply Kd.R_alloc | apply Kd.R_drewN | apply Kd.R_drew)); exact HO424.out) hb); have n1_ := Aside0.mk (below_step (by repeat (first | (with_reducible first | exact HB.out | apply pA | apply pN | apply p1_) | exact HB.out)) hb); clear HO424; clear HB; have HO424 := n0_; have HB := n1_; clear n0_ n1_; (try clear hb); (try clear hb2); (try clear hk); (try clear hi)) | ((with_reducible refine gate_callee (f := 11) rfl ?_); (with_reducible refine gate_dst (N := 33) rfl ?_); refine goesL_ (some 33) rfl rfl Tryd.func11 (by kernel_rfl) rfl #[.agg #[.bool t425, .int .i64 t426, .int .i64 t427, .int .i64 t428, .int .i64 t429, .int .i64 t430, .int .i64 t431], .int .i64 (wrap64 (1 + (wrap64 (Int.tmod a1 64)))), .int .u64 a2] rfl (by (try simp only [List.map_toArray, List.map_cons, List.map_nil]); first | done | rfl | (simp only [List.length_drop, List.length_take]; rfl)) ?_; (with_reducible refine (coalesce_Static.calls t425 t426 t427 t428 t429 t430 t431 (wrap64 (1 + (wrap64 (Int.tmod a1 64)))) a2 t432 _ A9.out).mono ?_); rintro e w15 ⟨rfl, hb⟩; refine ⟨_, rfl, ?_⟩; have n0_ := Aside0.mk (Kd.R_below (by (with_reducible repeat (first | apply Kd.R_alloc | apply Kd.R_drewN | apply Kd.R_drew)); exact HO424.out) hb); have n1_ := Aside0.mk (below_step (by repeat (first | (with_reducible first | exact HB.out | apply pA | apply pN | apply p1_) | exact HB.out)) hb); clear HO424; clear HB; have HO424 := n0_; have HB := n1_; clear n0_ n1_; (try clear hb); (try clear hb2); (try clear hk); (try clear hi)))
        go_ret
        exact ⟨by first | rfl | (simp [errW_none, errW_some] <;> rfl) | (simp [*, errW_none, errW_some] <;> rfl), by repeat (first | (with_reducible first | exact HB.out | apply pA | apply pN | apply p1_) | exact HB.out)⟩
      · rw [if_neg c10] at H
        have c10b0 : (t432 == 0) = false := beq_eq_false_iff_ne.mpr c10
        have c10b1 : (t432 != 0) = true := bne_iff_ne.mpr c10
        obtain rfl := Option.some.inj H
        go_enter Tryd.func7, Tryd.ntmps7
        go_wp2_with (first | ((with_reducible refine gate_callee (f := 9) rfl ?_); (with_reducible refine gate_dst (N := 14) rfl ?_); refine goesL_ (some 14) rfl rfl Tryd.func9 (by kernel_rfl) rfl #[] rfl (by (try simp only [List.map_toArray, List.map_cons, List.map_nil]); first | done | rfl | (simp only [List.length_drop, List.length_take]; rfl)) ?_; (with_reducible refine (w22_examples.calls k  true _ A4.out).mono ?_); rintro e w16 ⟨rfl, hb⟩; refine ⟨_, rfl, ?_⟩; have n0_ := Aside0.mk (below_step (by repeat (first | (with_reducible first | exact HB.out | apply pA | apply pN | apply p1_) | exact HB.out)) hb); clear HB; have HB := n0_; clear n0_; (try clear hb); (try clear hb2); (try clear hk); (try clear hi)) | ((with_reducible refine gate_callee (f := 19) rfl ?_); (with_reducible refine gate_dst (N := 25) rfl ?_); refine goesL_ (some 25) rfl rfl Tryd.func19 (by kernel_rfl) rfl #[.int .i64 (wrap64 (1 + (wrap64 (Int.tmod a1 64)))), .int .u64 a2] rfl (by (try simp only [List.map_toArray, List.map_cons, List.map_nil]); first | done | rfl | (simp only [List.length_drop, List.length_take]; rfl)) ?_; (with_reducible refine (v22_Lanes.calls k (wrap64 (1 + (wrap64 (Int.tmod a1 64)))) a2 t422 _ A6.out).mono ?_); rintro e w17 ⟨v423, rfl, ho0, hb⟩; refine ⟨_, rfl, ?_⟩; have n0_ := Aside0.mk (Kd.R_lower ho0 (below_size (by repeat (first | (with_reducible first | exact HB.out | apply pA | apply pN | apply p1_) | exact HB.out)))); have n1_ := Aside0.mk (below_step (by repeat (first | (with_reducible first | exact HB.out | apply pA | apply pN | apply p1_) | exact HB.out)) hb); clear HB; have HO424 := n0_; have HB := n1_; clear n0_ n1_; (try clear hb); (try clear hb2); (try clear hk); (try clear hi); (try clear ho0); obtain ⟨Ao18, co18, eo18⟩ := Kd.R_slice HO424.out; subst eo18) | ((with_reducible refine gate_callee (f := 21) rfl ?_); (with_reducible refine gate_dst (N := 30) rfl ?_); refine goesL_ (some 30) rfl rfl Tryd.func21 (by kernel_rfl) rfl #[.int .i64 (Int.tmod a0 1099511627776)] rfl (by (try simp only [List.map_toArray, List.map_cons, List.map_nil]); first | done | rfl | (simp only [List.length_drop, List.length_take]; rfl)) ?_; (with_reducible refine (w22_step.calls (Int.tmod a0 1099511627776) t425 t426 t427 t428 t429 t430 t431 _ A8.out).mono ?_); rintro e w19 ⟨rfl, hb⟩; refine ⟨_, rfl, ?_⟩; have n0_ := Aside0.mk (Kd.R_below (by (with_reducible repeat (first | apply Kd.R_alloc | apply Kd.R_drewN | apply Kd.R_drew)); exact HO424.out) hb); have n1_ := Aside0.mk (below_step (by repeat (first | (with_reducible first | exact HB.out | apply pA | apply pN | apply p1_) | exact HB.out)) hb); clear HO424; clear HB; have HO424 := n0_; have HB := n1_; clear n0_ n1_; (try clear hb); (try clear hb2); (try clear hk); (try clear hi)) | ((with_reducible refine gate_callee (f := 11) rfl ?_); (with_reducible refine gate_dst (N := 33) rfl ?_); refine goesL_ (some 33) rfl rfl Tryd.func11 (by kernel_rfl) rfl #[.agg #[.bool t425, .int .i64 t426, .int .i64 t427, .int .i64 t428, .int .i64 t429, .int .i64 t430, .int .i64 t431], .int .i64 (wrap64 (1 + (wrap64 (Int.tmod a1 64)))), .int .u64 a2] rfl (by (try simp only [List.map_toArray, List.map_cons, List.map_nil]); first | done | rfl | (simp only [List.length_drop, List.length_take]; rfl)) ?_; (with_reducible refine (coalesce_Static.calls t425 t426 t427 t428 t429 t430 t431 (wrap64 (1 + (wrap64 (Int.tmod a1 64)))) a2 t432 _ A9.out).mono ?_); rintro e w20 ⟨rfl, hb⟩; refine ⟨_, rfl, ?_⟩; have n0_ := Aside0.mk (Kd.R_below (by (with_reducible repeat (first | apply Kd.R_alloc | apply Kd.R_drewN | apply Kd.R_drew)); exact HO424.out) hb); have n1_ := Aside0.mk (below_step (by repeat (first | (with_reducible first | exact HB.out | apply pA | apply pN | apply p1_) | exact HB.out)) hb); clear HO424; clear HB; have HO424 := n0_; have HB := n1_; clear n0_ n1_; (try clear hb); (try clear hb2); (try clear hk); (try clear hi)))
        go_ret
        exact ⟨by first | rfl | (simp [errW_none, errW_some] <;> rfl) | (simp [*, errW_none, errW_some] <;> rfl), by repeat (first | (with_reducible first | exact HB.out | apply pA | apply pN | apply p1_) | exact HB.out)⟩
    · rw [if_neg c7] at H
      have c7b0 : ((t422.length : Int) == 0) = false := beq_eq_false_iff_ne.mpr c7
      have c7b1 : ((t422.length : Int) != 0) = true := bne_iff_ne.mpr c7
      have c7b2 : ¬ (t422 = []) := fun h_ => c7 (by rw [h_]; rfl)
      replace H := Option.bind_eq_some_iff.mp H
      obtain ⟨⟨t433, t434, t435, t436, t437, t438, t439⟩, A210, H⟩ := H
      replace H : ((coalesce_Static.f t433 t434 t435 t436 t437 t438 t439 (wrap64 (1 + (wrap64 (Int.tmod a1 64)))) a2).bind fun t440 => (w22_CSharp.l0 k (Int.tmod a0 1099511627776) a2 true (wrap64 (1 + (wrap64 (Int.tmod a1 64)))) t422 t440 0 0)) = some r := H
      have A21 := Aside0.mk A210
      clear A210
      replace H := Option.bind_eq_some_iff.mp H
      obtain ⟨t440, A220, H⟩ := H
      replace H : (w22_CSharp.l0 k (Int.tmod a0 1099511627776) a2 true (wrap64 (1 + (wrap64 (Int.tmod a1 64)))) t422 t440 0 0) = some r := H
      have A22 := Aside0.mk A220
      clear A220
      have H' := Aside0.mk H
      clear H
      go_enter Tryd.func7, Tryd.ntmps7
      go_wp2_with (first | ((with_reducible refine gate_callee (f := 9) rfl ?_); (with_reducible refine gate_dst (N := 14) rfl ?_); refine goesL_ (some 14) rfl rfl Tryd.func9 (by kernel_rfl) rfl #[] rfl (by (try simp only [List.map_toArray, List.map_cons, List.map_nil]); first | done | rfl | (simp only [List.length_drop, List.length_take]; rfl)) ?_; (with_reducible refine (w22_examples.calls k  true _ A4.out).mono ?_); rintro e w23 ⟨rfl, hb⟩; refine ⟨_, rfl, ?_⟩; have n0_ := Aside0.mk (below_step (by repeat (first | (with_reducible first | exact HB.out | apply pA | apply pN | apply p1_) | exact HB.out)) hb); clear HB; have HB := n0_; clear n0_; (try clear hb); (try clear hb2); (try clear hk); (try clear hi)) | ((with_reducible refine gate_callee (f := 19) rfl ?_); (with_reducible refine gate_dst (N := 25) rfl ?_); refine goesL_ (some 25) rfl rfl Tryd.func19 (by kernel_rfl) rfl #[.int .i64 (wrap64 (1 + (wrap64 (Int.tmod a1 64)))), .int .u64 a2] rfl (by (try simp only [List.map_toArray, List.map_cons, List.map_nil]); first | done | rfl | (simp only [List.length_drop, List.length_take]; rfl)) ?_; (with_reducible refine (v22_Lanes.calls k (wrap64 (1 + (wrap64 (Int.tmod a1 64)))) a2 t422 _ A6.out).mono ?_); rintro e w24 ⟨v423, rfl, ho0, hb⟩; refine ⟨_, rfl, ?_⟩; have n0_ := Aside0.mk (Kd.R_lower ho0 (below_size (by repeat (first | (with_reducible first | exact HB.out | apply pA | apply pN | apply p1_) | exact HB.out)))); have n1_ := Aside0.mk (below_step (by repeat (first | (with_reducible first | exact HB.out | apply pA | apply pN | apply p1_) | exact HB.out)) hb); clear HB; have HO424 := n0_; have HB := n1_; clear n0_ n1_; (try clear hb); (try clear hb2); (try clear hk); (try clear hi); (try clear ho0); obtain ⟨Ao25, co25, eo25⟩ := Kd.R_slice HO424.out; subst eo25) | ((with_reducible refine gate_callee (f := 21) rfl ?_); (with_reducible refine gate_dst (N := 39) rfl ?_); refine goesL_ (some 39) rfl rfl Tryd.func21 (by kernel_rfl) rfl #[.int .i64 (Int.tmod a0 1099511627776)] rfl (by (try simp only [List.map_toArray, List.map_cons, List.map_nil]); first | done | rfl | (simp only [List.length_drop, List.length_take]; rfl)) ?_; (with_reducible refine (w22_step.calls (Int.tmod a0 1099511627776) t433 t434 t435 t436 t437 t438 t439 _ A21.out).mono ?_); rintro e w26 ⟨rfl, hb⟩; refine ⟨_, rfl, ?_⟩; have n0_ := Aside0.mk (Kd.R_below (by (with_reducible repeat (first | apply Kd.R_alloc | apply Kd.R_drewN | apply Kd.R_drew)); exact HO424.out) hb); have n1_ := Aside0.mk (below_step (by repeat (first | (with_reducible first | exact HB.out | apply pA | apply pN | apply p1_) | exact HB.out)) hb); clear HO424; clear HB; have HO424 := n0_; have HB := n1_; clear n0_ n1_; (try clear hb); (try clear hb2); (try clear hk); (try clear hi)) | ((with_reducible refine gate_callee (f := 11) rfl ?_); (with_reducible refine gate_dst (N := 42) rfl ?_); refine goesL_ (some 42) rfl rfl Tryd.func11 (by kernel_rfl) rfl #[.agg #[.bool t433, .int .i64 t434, .int .i64 t435, .int .i64 t436, .int .i64 t437, .int .i64 t438, .int .i64 t439], .int .i64 (wrap64 (1 + (wrap64 (Int.tmod a1 64)))), .int .u64 a2] rfl (by (try simp only [List.map_toArray, List.map_cons, List.map_nil]); first | done | rfl | (simp only [List.length_drop, List.length_take]; rfl)) ?_; (with_reducible refine (coalesce_Static.calls t433 t434 t435 t436 t437 t438 t439 (wrap64 (1 + (wrap64 (Int.tmod a1 64)))) a2 t440 _ A22.out).mono ?_); rintro e w27 ⟨rfl, hb⟩; refine ⟨_, rfl, ?_⟩; have n0_ := Aside0.mk (Kd.R_below (by (with_reducible repeat (first | apply Kd.R_alloc | apply Kd.R_drewN | apply Kd.R_drew)); exact HO424.out) hb); have n1_ := Aside0.mk (below_step (by repeat (first | (with_reducible first | exact HB.out | apply pA | apply pN | apply p1_) | exact HB.out)) hb); clear HO424; clear HB; have HO424 := n0_; have HB := n1_; clear n0_ n1_; (try clear hb); (try clear hb2); (try clear hk); (try clear hi)))
      go_loopg [11, 12] k (fun kq v11 v12 w' => ∃ (x11_1 : Int) (x12_1 : Int), v11 = .int .i64 x11_1 ∧ v12 = .int .i64 x12_1 ∧ Aside0 (w22_CSharp.l0 kq (Int.tmod a0 1099511627776) a2 true (wrap64 (1 + (wrap64 (Int.tmod a1 64)))) t422 t440 x11_1 x12_1 = some r) ∧ Aside0 (kq ≤ k) ∧ Aside0 (Kd.R (Kd.int .i64) 2 w' w.heap.size (fun _ => True) (.slice Ao25 t422.length co25) t422) ∧ Aside0 (Below w.heap.size w w'))
      case atStart => exact ⟨(0), (0), (by first | rfl | (simp; done) | (simp [*]; done)), (by first | rfl | (simp; done) | (simp [*]; done)), H', ⟨Nat.le_refl _⟩, ⟨by (with_reducible repeat (first | apply Kd.R_alloc | apply Kd.R_drewN | apply Kd.R_drew)); exact HO424.out⟩, ⟨by repeat (first | (with_reducible first | exact HB.out | apply pA | apply pN | apply p1_) | exact HB.out)⟩⟩
      case round =>
        clear H'
        try clear c1
        try clear c2
        try clear p2
        try clear c5
        try clear p6
        try clear c7
        try clear c7b0
        try clear c7b1
        try clear c7b2
        try clear c9
        try clear c10
        try clear c10b0
        try clear c10b1
        try clear c11
        try clear c19
        try clear c21
        obtain ⟨x11_1, x12_1, rfl, rfl, HA, HK1, HO_9, HB⟩ := hrel
        cases gk with
        | zero => exact absurd HA.out (by simp [w22_CSharp.l0])
        | succ k1 =>
          have H := HA.out
          clear HA
          simp only [w22_CSharp.l0] at H
          by_cases c28 : x12_1 < 16
          · rw [if_pos c28] at H
            have c28b0 : decide (x12_1 < 16) = true := decide_eq_true c28
            clear c28
            replace H := Option.bind_eq_some_iff.mp H
            obtain ⟨⟨t441, t442, t443, t444, t445, t446, t447⟩, A290, H⟩ := H
            replace H : ((w22_words.f k1 t441 t442 t443 t444 t445 t446 t447 t422 x12_1 ([] : List Int)).bind fun t448 => ((coalesce_Segments.f t448).bind fun t451 => (w22_CSharp.l0 k1 (Int.tmod a0 1099511627776) a2 true (wrap64 (1 + (wrap64 (Int.tmod a1 64)))) t422 t440 (mx x11_1 (t451.length : Int)) (wrap64 (x12_1 + 1))))) = some r := H
            have A29 := Aside0.mk A290
            clear A290
            replace H := Option.bind_eq_some_iff.mp H
            obtain ⟨t448, A300, H⟩ := H
            replace H : ((coalesce_Segments.f t448).bind fun t451 => (w22_CSharp.l0 k1 (Int.tmod a0 1099511627776) a2 true (wrap64 (1 + (wrap64 (Int.tmod a1 64)))) t422 t440 (mx x11_1 (t451.length : Int)) (wrap64 (x12_1 + 1)))) = some r := H
            have A30 := Aside0.mk A300
            clear A300
            replace H := Option.bind_eq_some_iff.mp H
            obtain ⟨t451, A310, H⟩ := H
            replace H : (w22_CSharp.l0 k1 (Int.tmod a0 1099511627776) a2 true (wrap64 (1 + (wrap64 (Int.tmod a1 64)))) t422 t440 (mx x11_1 (t451.length : Int)) (wrap64 (x12_1 + 1))) = some r := H
            have A31 := Aside0.mk A310
            clear A310
            obtain ⟨ji32, hji32⟩ : ∃ j_ : Int, (mx x11_1 (t451.length : Int)) = j_ := ⟨_, rfl⟩
            replace H : (w22_CSharp.l0 k1 (Int.tmod a0 1099511627776) a2 true (wrap64 (1 + (wrap64 (Int.tmod a1 64)))) t422 t440 ji32 (wrap64 (x12_1 + 1))) = some r := by first | (rw [hji32] at H; exact H) | (simp only [hji32] at H ⊢; exact H)
            (try rw [hji32] at A29)
            (try rw [hji32] at A30)
            (try rw [hji32] at A31)
            have hji32_ : (if x11_1 < (t451.length : Int) then (t451.length : Int) else x11_1) = ji32 := hji32
            have H' := Aside0.mk H
            clear H
            go_wp2_with (first | ((with_reducible refine gate_callee (f := 21) rfl ?_); (with_reducible refine gate_dst (N := 49) rfl ?_); refine goesL_ (some 49) rfl rfl Tryd.func21 (by kernel_rfl) rfl #[.int .i64 (Int.tmod a0 1099511627776)] rfl (by (try simp only [List.map_toArray, List.map_cons, List.map_nil]); first | done | rfl | (simp only [List.length_drop, List.length_take]; rfl)) ?_; (with_reducible refine (w22_step.calls (Int.tmod a0 1099511627776) t441 t442 t443 t444 t445 t446 t447 _ A29.out).mono ?_); rintro e w33 ⟨rfl, hb⟩; refine ⟨_, rfl, ?_⟩; have n0_ := Aside0.mk (Kd.R_below (by (with_reducible repeat (first | apply Kd.R_alloc | apply Kd.R_drewN | apply Kd.R_drew)); exact HO_9.out) hb); have n1_ := Aside0.mk (below_step (by repeat (first | (with_reducible first | exact HB.out | apply pA | apply pN | apply p1_) | exact HB.out)) hb); clear HO_9; clear HB; have HO_9 := n0_; have HB := n1_; clear n0_ n1_; (try clear hb); (try clear hb2); (try clear hk); (try clear hi)) | ((with_reducible refine gate_callee (f := 20) rfl ?_); (with_reducible refine gate_dst (N := 52) rfl ?_); refine goesL_ (some 52) rfl rfl Tryd.func20 (by kernel_rfl) rfl #[.agg #[.bool t441, .int .i64 t442, .int .i64 t443, .int .i64 t444, .int .i64 t445, .int .i64 t446, .int .i64 t447], .slice Ao25 t422.length co25, .int .i64 x12_1, .slice none 0 0] rfl (by (try simp only [List.map_toArray, List.map_cons, List.map_nil]); first | done | rfl | (simp only [List.length_drop, List.length_take]; rfl)) ?_; (refine (w22_words.calls k1 t441 t442 t443 t444 t445 t446 t447 _ _ t422 x12_1 _ _ ([] : List Int) t448 _ ?side1 ?side2 ?side3 ?side4 A30.out).mono ?_); (case side1 => repeat (first | exact (Kd.R_reads' HO_9.out).2.2 | (with_reducible refine Kd.C_alloc ?_ _) | (with_reducible refine Kd.C_drewN ?_ _) | (with_reducible refine Kd.C_drew ?_))); (case side2 => exact (Kd.R_reads' HO_9.out).2.1); (case side3 => exact Kd.C_nil _ _); (case side4 => exact Nat.le_refl _); rintro e w34 ⟨v449, rfl, ho0, hb⟩; refine ⟨_, rfl, ?_⟩; have n0_ := Aside0.mk (Kd.R_below (by (with_reducible repeat (first | apply Kd.R_alloc | apply Kd.R_drewN | apply Kd.R_drew)); exact HO_9.out) hb); have n1_ := Aside0.mk (Kd.R_lower ho0 (below_size (by repeat (first | (with_reducible first | exact HB.out | apply pA | apply pN | apply p1_) | exact HB.out)))); have n2_ := Aside0.mk (below_step (by repeat (first | (with_reducible first | exact HB.out | apply pA | apply pN | apply p1_) | exact HB.out)) hb); clear HO_9; clear HB; have HO_9 := n0_; have HO450 := n1_; have HB := n2_; clear n0_ n1_ n2_; (try clear hb); (try clear hb2); (try clear hk); (try clear hi); (try clear ho0); obtain ⟨Ao35, co35, eo35⟩ := Kd.R_slice HO450.out; subst eo35) | ((with_reducible refine gate_callee (f := 14) rfl ?_); (with_reducible refine gate_dst (N := 53) rfl ?_); refine goesL_ (some 53) rfl rfl Tryd.func14 (by kernel_rfl) rfl #[.slice Ao35 t448.length co35] rfl (by (try simp only [List.map_toArray, List.map_cons, List.map_nil]); first | done | rfl | (simp only [List.length_drop, List.length_take]; rfl)) ?_; (with_reducible refine (coalesce_Segments.calls _ _ t448 t451 _ ?side1 ?side2 A31.out).mono ?_); (case side1 => repeat (first | exact (Kd.R_reads' HO450.out).2.2 | (with_reducible refine Kd.C_alloc ?_ _) | (with_reducible refine Kd.C_drewN ?_ _) | (with_reducible refine Kd.C_drew ?_))); (case side2 => exact (Kd.R_reads' HO450.out).2.1); rintro e w36 ⟨v452, rfl, ho0, hb⟩; refine ⟨_, rfl, ?_⟩; have n0_ := Aside0.mk (Kd.R_below (by (with_reducible repeat (first | apply Kd.R_alloc | apply Kd.R_drewN | apply Kd.R_drew)); exact HO_9.out) hb); have n1_ := Aside0.mk (Kd.R_elder' (by (with_reducible repeat (first | apply Kd.R_alloc | apply Kd.R_drewN | apply Kd.R_drew)); exact HO450.out) (Kd.R_base ho0) hb); have n2_ := Aside0.mk (Kd.R_lower (Kd.R_new' ho0 (Kd.R_lt (by (with_reducible repeat (first | apply Kd.R_alloc | apply Kd.R_drewN | apply Kd.R_drew)); exact HO450.out))) (below_size (by repeat (first | (with_reducible first | exact HB.out | apply pA | apply pN | apply p1_) | exact HB.out)))); have n3_ := Aside0.mk (below_step (by repeat (first | (with_reducible first | exact HB.out | apply pA | apply pN | apply p1_) | exact HB.out)) hb); clear HO_9; clear HO450; clear HB; have HO_9 := n0_; have HO450 := n1_; have HO453 := n2_; have HB := n3_; clear n0_ n1_ n2_ n3_; (try clear hb); (try clear hb2); (try clear hk); (try clear hi); (try clear ho0); obtain ⟨Ao37, co37, eo37⟩ := Kd.R_slice HO453.out; subst eo37))
            go_roundg k1
            case measure => have := HK1.out; omega
            case rel => exact ⟨(ji32), (wrap64 (x12_1 + 1)), (by first | rfl | (simp; done) | (simp only [← hji32] <;> (first | rfl | simp)) | (simp [*]; done)), (by first | rfl | (simp; done) | (simp [*]; done)), H', ⟨by have := HK1.out; omega⟩, ⟨by (with_reducible repeat (first | apply Kd.R_alloc | apply Kd.R_drewN | apply Kd.R_drew)); exact HO_9.out⟩, ⟨by repeat (first | (with_reducible first | exact HB.out | apply pA | apply pN | apply p1_) | exact HB.out)⟩⟩
          · rw [if_neg c28] at H
            have c28b0 : decide (x12_1 < 16) = false := decide_eq_false c28
            clear c28
            have HC38 := Aside0.mk H
            clear H
            go_upto_region 14 with (fail)
            go_cut [72] (fun v72 wc => ∃ (kq : Nat) (x72_37 : Bool), v72 = .bool x72_37 ∧ Aside0 (w22_CSharp.j1 kq a2 true (wrap64 (1 + (wrap64 (Int.tmod a1 64)))) x72_37 = some r) ∧ Aside0 (kq ≤ k1) ∧ Aside0 (Below w.heap.size w wc))
            case first =>
              have H := HC38.out
              clear HC38
              by_cases c39 : x11_1 = t440
              · rw [if_pos c39] at H
                have c39b0 : (x11_1 == t440) = true := beq_iff_eq.mpr c39
                have c39b1 : (x11_1 != t440) = false := bne_eq_false_iff_eq.mpr c39
                clear c39
                (first | rw [c39b0] | (simp only [i64_w, i32_w]; rw [c39b0]) | skip)
                by_cases c40 : (Int.tmod a0 1099511627776) ≥ 16
                · rw [if_pos c40] at H
                  have c40b0 : decide (16 ≤ (Int.tmod a0 1099511627776)) = true := decide_eq_true c40
                  clear c40
                  have H' := Aside0.mk H
                  clear H
                  go_wp2
                  go_meet
                  case rel => exact ⟨_, ((t440 != (t422.length : Int))), (by first | rfl | (simp; done) | (simp [*]; done)), H', ⟨by have := HK1.out; first | omega | exact Nat.le_refl _⟩, ⟨by repeat (first | (with_reducible first | exact HB.out | apply pA | apply pN | apply p1_) | exact HB.out)⟩⟩
                · rw [if_neg c40] at H
                  have c40b0 : decide (16 ≤ (Int.tmod a0 1099511627776)) = false := decide_eq_false c40
                  clear c40
                  by_cases c41 : (Int.tmod a0 1099511627776) ≤ (-16)
                  · rw [if_pos c41] at H
                    have c41b0 : decide ((Int.tmod a0 1099511627776) ≤ (-16)) = true := decide_eq_true c41
                    clear c41
                    have H' := Aside0.mk H
                    clear H
                    go_wp2
                    go_meet
                    case rel => exact ⟨_, ((t440 != (t422.length : Int))), (by first | rfl | (simp; done) | (simp [*]; done)), H', ⟨by have := HK1.out; first | omega | exact Nat.le_refl _⟩, ⟨by repeat (first | (with_reducible first | exact HB.out | apply pA | apply pN | apply p1_) | exact HB.out)⟩⟩
                  · rw [if_neg c41] at H
                    have c41b0 : decide ((Int.tmod a0 1099511627776) ≤ (-16)) = false := decide_eq_false c41
                    clear c41
                    have H' := Aside0.mk H
                    clear H
                    go_wp2
                    go_meet
                    case rel => exact ⟨_, (false), (by first | rfl | (simp; done) | (simp [*]; done)), H', ⟨by have := HK1.out; first | omega | exact Nat.le_refl _⟩, ⟨by repeat (first | (with_reducible first | exact HB.out | apply pA | apply pN | apply p1_) | exact HB.out)⟩⟩
              · rw [if_neg c39] at H
                have c39b0 : (x11_1 == t440) = false := beq_eq_false_iff_ne.mpr c39
                have c39b1 : (x11_1 != t440) = true := bne_iff_ne.mpr c39
                (first | rw [c39b0] | (simp only [i64_w, i32_w]; rw [c39b0]) | skip)
                have H' := Aside0.mk H
                clear H
                go_wp2
                go_meet
                case rel => exact ⟨_, (true), (by first | rfl | (simp; done) | (simp [*]; done)), H', ⟨by have := HK1.out; first | omega | exact Nat.le_refl _⟩, ⟨by repeat (first | (with_reducible first | exact HB.out | apply pA | apply pN | apply p1_) | exact HB.out)⟩⟩
            case rest =>
              clear HC38
              try clear c1
              try clear c2
              try clear p2
              try clear c3
              try clear c4
              try clear c5
              try clear p6
              try clear c7
              try clear c7b0
              try clear c7b1
              try clear c7b2
              try clear c9
              try clear c10
              try clear c10b0
              try clear c10b1
              try clear c11
              try clear c14
              try clear c19
              try clear c20
              try clear c21
              try clear c28
              try clear c28b0
              try clear c39
              try clear c39b0
              try clear c39b1
              try clear c40
              try clear c40b0
              try clear c41
              try clear c41b0
              try clear p2
              try clear p6
              obtain ⟨kq, x72_37, rfl, HA, HJ37, HB⟩ := hcut
              cases kq with
              | zero => exact absurd HA.out (by simp [w22_CSharp.j1])
              | succ kj37 =>
                have H := HA.out
                clear HA
                simp only [w22_CSharp.j1] at H
                by_cases c42 : x72_37 = true
                · subst c42
                  have H1 : (some false) = some r := by rw [if_pos rfl] at H; exact H
                  clear H
                  have H := H1
                  clear H1
                  obtain rfl := Option.some.inj H
                  go_wp2
                  go_ret
                  exact ⟨by first | rfl | (simp [errW_none, errW_some] <;> rfl) | (simp [*, errW_none, errW_some] <;> rfl), by repeat (first | (with_reducible first | exact HB.out | apply pA | apply pN | apply p1_) | exact HB.out)⟩
                · replace c42 := Bool.eq_false_iff.mpr c42
                  subst c42
                  have H1 : ((w22_step.f 0).bind fun bt454 => ((coalesce_Static.f bt454.1 bt454.2.1 bt454.2.2.1 bt454.2.2.2.1 bt454.2.2.2.2.1 bt454.2.2.2.2.2.1 bt454.2.2.2.2.2.2 (wrap64 (1 + (wrap64 (Int.tmod a1 64)))) a2).bind fun t461 => (if t461 = 1 then ((w22_step.f 1).bind fun bt462 => ((coalesce_Static.f bt462.1 bt462.2.1 bt462.2.2.1 bt462.2.2.2.1 bt462.2.2.2.2.1 bt462.2.2.2.2.2.1 bt462.2.2.2.2.2.2 (wrap64 (1 + (wrap64 (Int.tmod a1 64)))) 18446744073709551615).bind fun t469 => (if t469 = (wrap64 (Int.tdiv (wrap64 ((wrap64 (1 + (wrap64 (Int.tmod a1 64)))) + 30)) 16)) then ((w22_step.f (-1)).bind fun bt470 => ((coalesce_Static.f bt470.1 bt470.2.1 bt470.2.2.1 bt470.2.2.2.1 bt470.2.2.2.2.1 bt470.2.2.2.2.2.1 bt470.2.2.2.2.2.2 (wrap64 (1 + (wrap64 (Int.tmod a1 64)))) 18446744073709551615).bind fun t477 => (if t477 = (wrap64 (Int.tdiv (wrap64 ((wrap64 (1 + (wrap64 (Int.tmod a1 64)))) + 30)) 16)) then (some true) else (some false)))) else (some false)))) else (some false)))) = some r := by rw [if_neg (show ¬ (false = true) by decide)] at H; exact H
                  clear H
                  have H := H1
                  clear H1
                  replace H := Option.bind_eq_some_iff.mp H
                  obtain ⟨⟨t454, t455, t456, t457, t458, t459, t460⟩, A430, H⟩ := H
                  replace H : ((coalesce_Static.f t454 t455 t456 t457 t458 t459 t460 (wrap64 (1 + (wrap64 (Int.tmod a1 64)))) a2).bind fun t461 => (if t461 = 1 then ((w22_step.f 1).bind fun bt462 => ((coalesce_Static.f bt462.1 bt462.2.1 bt462.2.2.1 bt462.2.2.2.1 bt462.2.2.2.2.1 bt462.2.2.2.2.2.1 bt462.2.2.2.2.2.2 (wrap64 (1 + (wrap64 (Int.tmod a1 64)))) 18446744073709551615).bind fun t469 => (if t469 = (wrap64 (Int.tdiv (wrap64 ((wrap64 (1 + (wrap64 (Int.tmod a1 64)))) + 30)) 16)) then ((w22_step.f (-1)).bind fun bt470 => ((coalesce_Static.f bt470.1 bt470.2.1 bt470.2.2.1 bt470.2.2.2.1 bt470.2.2.2.2.1 bt470.2.2.2.2.2.1 bt470.2.2.2.2.2.2 (wrap64 (1 + (wrap64 (Int.tmod a1 64)))) 18446744073709551615).bind fun t477 => (if t477 = (wrap64 (Int.tdiv (wrap64 ((wrap64 (1 + (wrap64 (Int.tmod a1 64)))) + 30)) 16)) then (some true) else (some false)))) else (some false)))) else (some false))) = some r := H
                  have A43 := Aside0.mk A430
                  clear A430
                  replace H := Option.bind_eq_some_iff.mp H
                  obtain ⟨t461, A440, H⟩ := H
                  replace H : (if t461 = 1 then ((w22_step.f 1).bind fun bt462 => ((coalesce_Static.f bt462.1 bt462.2.1 bt462.2.2.1 bt462.2.2.2.1 bt462.2.2.2.2.1 bt462.2.2.2.2.2.1 bt462.2.2.2.2.2.2 (wrap64 (1 + (wrap64 (Int.tmod a1 64)))) 18446744073709551615).bind fun t469 => (if t469 = (wrap64 (Int.tdiv (wrap64 ((wrap64 (1 + (wrap64 (Int.tmod a1 64)))) + 30)) 16)) then ((w22_step.f (-1)).bind fun bt470 => ((coalesce_Static.f bt470.1 bt470.2.1 bt470.2.2.1 bt470.2.2.2.1 bt470.2.2.2.2.1 bt470.2.2.2.2.2.1 bt470.2.2.2.2.2.2 (wrap64 (1 + (wrap64 (Int.tmod a1 64)))) 18446744073709551615).bind fun t477 => (if t477 = (wrap64 (Int.tdiv (wrap64 ((wrap64 (1 + (wrap64 (Int.tmod a1 64)))) + 30)) 16)) then (some true) else (some false)))) else (some false)))) else (some false)) = some r := H
                  have A44 := Aside0.mk A440
                  clear A440
                  by_cases c45 : t461 = 1
                  · rw [if_pos c45] at H
                    have c45b0 : (t461 == 1) = true := beq_iff_eq.mpr c45
                    have c45b1 : (t461 != 1) = false := bne_eq_false_iff_eq.mpr c45
                    clear c45
                    replace H := Option.bind_eq_some_iff.mp H
                    obtain ⟨⟨t462, t463, t464, t465, t466, t467, t468⟩, A460, H⟩ := H
                    replace H : ((coalesce_Static.f t462 t463 t464 t465 t466 t467 t468 (wrap64 (1 + (wrap64 (Int.tmod a1 64)))) 18446744073709551615).bind fun t469 => (if t469 = (wrap64 (Int.tdiv (wrap64 ((wrap64 (1 + (wrap64 (Int.tmod a1 64)))) + 30)) 16)) then ((w22_step.f (-1)).bind fun bt470 => ((coalesce_Static.f bt470.1 bt470.2.1 bt470.2.2.1 bt470.2.2.2.1 bt470.2.2.2.2.1 bt470.2.2.2.2.2.1 bt470.2.2.2.2.2.2 (wrap64 (1 + (wrap64 (Int.tmod a1 64)))) 18446744073709551615).bind fun t477 => (if t477 = (wrap64 (Int.tdiv (wrap64 ((wrap64 (1 + (wrap64 (Int.tmod a1 64)))) + 30)) 16)) then (some true) else (some false)))) else (some false))) = some r := H
                    have A46 := Aside0.mk A460
                    clear A460
                    replace H := Option.bind_eq_some_iff.mp H
                    obtain ⟨t469, A470, H⟩ := H
                    replace H : (if t469 = (wrap64 (Int.tdiv (wrap64 ((wrap64 (1 + (wrap64 (Int.tmod a1 64)))) + 30)) 16)) then ((w22_step.f (-1)).bind fun bt470 => ((coalesce_Static.f bt470.1 bt470.2.1 bt470.2.2.1 bt470.2.2.2.1 bt470.2.2.2.2.1 bt470.2.2.2.2.2.1 bt470.2.2.2.2.2.2 (wrap64 (1 + (wrap64 (Int.tmod a1 64)))) 18446744073709551615).bind fun t477 => (if t477 = (wrap64 (Int.tdiv (wrap64 ((wrap64 (1 + (wrap64 (Int.tmod a1 64)))) + 30)) 16)) then (some true) else (some false)))) else (some false)) = some r := H
                    have A47 := Aside0.mk A470
                    clear A470
                    by_cases c48 : t469 = (wrap64 (Int.tdiv (wrap64 ((wrap64 (1 + (wrap64 (Int.tmod a1 64)))) + 30)) 16))
                    · rw [if_pos c48] at H
                      have c48b0 : (t469 == (wrap64 (Int.tdiv (wrap64 ((wrap64 (1 + (wrap64 (Int.tmod a1 64)))) + 30)) 16))) = true := beq_iff_eq.mpr c48
                      have c48b1 : (t469 != (wrap64 (Int.tdiv (wrap64 ((wrap64 (1 + (wrap64 (Int.tmod a1 64)))) + 30)) 16))) = false := bne_eq_false_iff_eq.mpr c48
                      clear c48
                      replace H := Option.bind_eq_some_iff.mp H
                      obtain ⟨⟨t470, t471, t472, t473, t474, t475, t476⟩, A490, H⟩ := H
                      replace H : ((coalesce_Static.f t470 t471 t472 t473 t474 t475 t476 (wrap64 (1 + (wrap64 (Int.tmod a1 64)))) 18446744073709551615).bind fun t477 => (if t477 = (wrap64 (Int.tdiv (wrap64 ((wrap64 (1 + (wrap64 (Int.tmod a1 64)))) + 30)) 16)) then (some true) else (some false))) = some r := H
                      have A49 := Aside0.mk A490
                      clear A490
                      replace H := Option.bind_eq_some_iff.mp H
                      obtain ⟨t477, A500, H⟩ := H
                      replace H : (if t477 = (wrap64 (Int.tdiv (wrap64 ((wrap64 (1 + (wrap64 (Int.tmod a1 64)))) + 30)) 16)) then (some true) else (some false)) = some r := H
                      have A50 := Aside0.mk A500
                      clear A500
                      by_cases c51 : t477 = (wrap64 (Int.tdiv (wrap64 ((wrap64 (1 + (wrap64 (Int.tmod a1 64)))) + 30)) 16))
                      · rw [if_pos c51] at H
                        have c51b0 : (t477 == (wrap64 (Int.tdiv (wrap64 ((wrap64 (1 + (wrap64 (Int.tmod a1 64)))) + 30)) 16))) = true := beq_iff_eq.mpr c51
                        have c51b1 : (t477 != (wrap64 (Int.tdiv (wrap64 ((wrap64 (1 + (wrap64 (Int.tmod a1 64)))) + 30)) 16))) = false := bne_eq_false_iff_eq.mpr c51
                        clear c51
                        obtain rfl := Option.some.inj H
                        go_wp2_with (first | ((with_reducible refine gate_callee (f := 21) rfl ?_); (with_reducible refine gate_dst (N := 73) rfl ?_); refine goesL_ (some 73) rfl rfl Tryd.func21 (by kernel_rfl) rfl #[.int .i64 0] rfl (by (try simp only [List.map_toArray, List.map_cons, List.map_nil]); first | done | rfl | (simp only [List.length_drop, List.length_take]; rfl)) ?_; (with_reducible refine (w22_step.calls 0 t454 t455 t456 t457 t458 t459 t460 _ A43.out).mono ?_); rintro e w52 ⟨rfl, hb⟩; refine ⟨_, rfl, ?_⟩; have n0_ := Aside0.mk (below_step (by repeat (first | (with_reducible first | exact HB.out | apply pA | apply pN | apply p1_) | exact HB.out)) hb); clear HB; have HB := n0_; clear n0_; (try clear hb); (try clear hb2); (try clear hk); (try clear hi)) | ((with_reducible refine gate_callee (f := 11) rfl ?_); (with_reducible refine gate_dst (N := 76) rfl ?_); refine goesL_ (some 76) rfl rfl Tryd.func11 (by kernel_rfl) rfl #[.agg #[.bool t454, .int .i64 t455, .int .i64 t456, .int .i64 t457, .int .i64 t458, .int .i64 t459, .int .i64 t460], .int .i64 (wrap64 (1 + (wrap64 (Int.tmod a1 64)))), .int .u64 a2] rfl (by (try simp only [List.map_toArray, List.map_cons, List.map_nil]); first | done | rfl | (simp only [List.length_drop, List.length_take]; rfl)) ?_; (with_reducible refine (coalesce_Static.calls t454 t455 t456 t457 t458 t459 t460 (wrap64 (1 + (wrap64 (Int.tmod a1 64)))) a2 t461 _ A44.out).mono ?_); rintro e w53 ⟨rfl, hb⟩; refine ⟨_, rfl, ?_⟩; have n0_ := Aside0.mk (below_step (by repeat (first | (with_reducible first | exact HB.out | apply pA | apply pN | apply p1_) | exact HB.out)) hb); clear HB; have HB := n0_; clear n0_; (try clear hb); (try clear hb2); (try clear hk); (try clear hi)) | (go_at_call 21; (with_reducible refine (w22_step.calls 1 t462 t463 t464 t465 t466 t467 t468 _ A46.out).mono ?_); rintro e w54 ⟨rfl, hb⟩; have n0_ := Aside0.mk (below_step (by repeat (first | (with_reducible first | exact HB.out | apply pA | apply pN | apply p1_) | exact HB.out)) hb); clear HB; have HB := n0_; clear n0_; (try clear hb); (try clear hb2); (try clear hk); (try clear hi)) | (go_at_call 11; (with_reducible refine (coalesce_Static.calls t462 t463 t464 t465 t466 t467 t468 (wrap64 (1 + (wrap64 (Int.tmod a1 64)))) 18446744073709551615 t469 _ A47.out).mono ?_); rintro e w55 ⟨rfl, hb⟩; have n0_ := Aside0.mk (below_step (by repeat (first | (with_reducible first | exact HB.out | apply pA | apply pN | apply p1_) | exact HB.out)) hb); clear HB; have HB := n0_; clear n0_; (try clear hb); (try clear hb2); (try clear hk); (try clear hi)) | (go_at_call 21; (with_reducible refine (w22_step.calls (-1) t470 t471 t472 t473 t474 t475 t476 _ A49.out).mono ?_); rintro e w56 ⟨rfl, hb⟩; have n0_ := Aside0.mk (below_step (by repeat (first | (with_reducible first | exact HB.out | apply pA | apply pN | apply p1_) | exact HB.out)) hb); clear HB; have HB := n0_; clear n0_; (try clear hb); (try clear hb2); (try clear hk); (try clear hi)) | (go_at_call 11; (with_reducible refine (coalesce_Static.calls t470 t471 t472 t473 t474 t475 t476 (wrap64 (1 + (wrap64 (Int.tmod a1 64)))) 18446744073709551615 t477 _ A50.out).mono ?_); rintro e w57 ⟨rfl, hb⟩; have n0_ := Aside0.mk (below_step (by repeat (first | (with_reducible first | exact HB.out | apply pA | apply pN | apply p1_) | exact HB.out)) hb); clear HB; have HB := n0_; clear n0_; (try clear hb); (try clear hb2); (try clear hk); (try clear hi)))
                        go_ret
                        exact ⟨by first | rfl | (simp [errW_none, errW_some] <;> rfl) | (simp [*, errW_none, errW_some] <;> rfl), by repeat (first | (with_reducible first | exact HB.out | apply pA | apply pN | apply p1_) | exact HB.out)⟩
                      · rw [if_neg c51] at H
                        have c51b0 : (t477 == (wrap64 (Int.tdiv (wrap64 ((wrap64 (1 + (wrap64 (Int.tmod a1 64)))) + 30)) 16))) = false := beq_eq_false_iff_ne.mpr c51
                        have c51b1 : (t477 != (wrap64 (Int.tdiv (wrap64 ((wrap64 (1 + (wrap64 (Int.tmod a1 64)))) + 30)) 16))) = true := bne_iff_ne.mpr c51
                        obtain rfl := Option.some.inj H
                        go_wp2_with (first | ((with_reducible refine gate_callee (f := 21) rfl ?_); (with_reducible refine gate_dst (N := 73) rfl ?_); refine goesL_ (some 73) rfl rfl Tryd.func21 (by kernel_rfl) rfl #[.int .i64 0] rfl (by (try simp only [List.map_toArray, List.map_cons, List.map_nil]); first | done | rfl | (simp only [List.length_drop, List.length_take]; rfl)) ?_; (with_reducible refine (w22_step.calls 0 t454 t455 t456 t457 t458 t459 t460 _ A43.out).mono ?_); rintro e w58 ⟨rfl, hb⟩; refine ⟨_, rfl, ?_⟩; have n0_ := Aside0.mk (below_step (by repeat (first | (with_reducible first | exact HB.out | apply pA | apply pN | apply p1_) | exact HB.out)) hb); clear HB; have HB := n0_; clear n0_; (try clear hb); (try clear hb2); (try clear hk); (try clear hi)) | ((with_reducible refine gate_callee (f := 11) rfl ?_); (with_reducible refine gate_dst (N := 76) rfl ?_); refine goesL_ (some 76) rfl rfl Tryd.func11 (by kernel_rfl) rfl #[.agg #[.bool t454, .int .i64 t455, .int .i64 t456, .int .i64 t457, .int .i64 t458, .int .i64 t459, .int .i64 t460], .int .i64 (wrap64 (1 + (wrap64 (Int.tmod a1 64)))), .int .u64 a2] rfl (by (try simp only [List.map_toArray, List.map_cons, List.map_nil]); first | done | rfl | (simp only [List.length_drop, List.length_take]; rfl)) ?_; (with_reducible refine (coalesce_Static.calls t454 t455 t456 t457 t458 t459 t460 (wrap64 (1 + (wrap64 (Int.tmod a1 64)))) a2 t461 _ A44.out).mono ?_); rintro e w59 ⟨rfl, hb⟩; refine ⟨_, rfl, ?_⟩; have n0_ := Aside0.mk (below_step (by repeat (first | (with_reducible first | exact HB.out | apply pA | apply pN | apply p1_) | exact HB.out)) hb); clear HB; have HB := n0_; clear n0_; (try clear hb); (try clear hb2); (try clear hk); (try clear hi)) | (go_at_call 21; (with_reducible refine (w22_step.calls 1 t462 t463 t464 t465 t466 t467 t468 _ A46.out).mono ?_); rintro e w60 ⟨rfl, hb⟩; have n0_ := Aside0.mk (below_step (by repeat (first | (with_reducible first | exact HB.out | apply pA | apply pN | apply p1_) | exact HB.out)) hb); clear HB; have HB := n0_; clear n0_; (try clear hb); (try clear hb2); (try clear hk); (try clear hi)) | (go_at_call 11; (with_reducible refine (coalesce_Static.calls t462 t463 t464 t465 t466 t467 t468 (wrap64 (1 + (wrap64 (Int.tmod a1 64)))) 18446744073709551615 t469 _ A47.out).mono ?_); rintro e w61 ⟨rfl, hb⟩; have n0_ := Aside0.mk (below_step (by repeat (first | (with_reducible first | exact HB.out | apply pA | apply pN | apply p1_) | exact HB.out)) hb); clear HB; have HB := n0_; clear n0_; (try clear hb); (try clear hb2); (try clear hk); (try clear hi)) | (go_at_call 21; (with_reducible refine (w22_step.calls (-1) t470 t471 t472 t473 t474 t475 t476 _ A49.out).mono ?_); rintro e w62 ⟨rfl, hb⟩; have n0_ := Aside0.mk (below_step (by repeat (first | (with_reducible first | exact HB.out | apply pA | apply pN | apply p1_) | exact HB.out)) hb); clear HB; have HB := n0_; clear n0_; (try clear hb); (try clear hb2); (try clear hk); (try clear hi)) | (go_at_call 11; (with_reducible refine (coalesce_Static.calls t470 t471 t472 t473 t474 t475 t476 (wrap64 (1 + (wrap64 (Int.tmod a1 64)))) 18446744073709551615 t477 _ A50.out).mono ?_); rintro e w63 ⟨rfl, hb⟩; have n0_ := Aside0.mk (below_step (by repeat (first | (with_reducible first | exact HB.out | apply pA | apply pN | apply p1_) | exact HB.out)) hb); clear HB; have HB := n0_; clear n0_; (try clear hb); (try clear hb2); (try clear hk); (try clear hi)))
                        go_ret
                        exact ⟨by first | rfl | (simp [errW_none, errW_some] <;> rfl) | (simp [*, errW_none, errW_some] <;> rfl), by repeat (first | (with_reducible first | exact HB.out | apply pA | apply pN | apply p1_) | exact HB.out)⟩
                    · rw [if_neg c48] at H
                      have c48b0 : (t469 == (wrap64 (Int.tdiv (wrap64 ((wrap64 (1 + (wrap64 (Int.tmod a1 64)))) + 30)) 16))) = false := beq_eq_false_iff_ne.mpr c48
                      have c48b1 : (t469 != (wrap64 (Int.tdiv (wrap64 ((wrap64 (1 + (wrap64 (Int.tmod a1 64)))) + 30)) 16))) = true := bne_iff_ne.mpr c48
                      obtain rfl := Option.some.inj H
                      go_wp2_with (first | ((with_reducible refine gate_callee (f := 21) rfl ?_); (with_reducible refine gate_dst (N := 73) rfl ?_); refine goesL_ (some 73) rfl rfl Tryd.func21 (by kernel_rfl) rfl #[.int .i64 0] rfl (by (try simp only [List.map_toArray, List.map_cons, List.map_nil]); first | done | rfl | (simp only [List.length_drop, List.length_take]; rfl)) ?_; (with_reducible refine (w22_step.calls 0 t454 t455 t456 t457 t458 t459 t460 _ A43.out).mono ?_); rintro e w64 ⟨rfl, hb⟩; refine ⟨_, rfl, ?_⟩; have n0_ := Aside0.mk (below_step (by repeat (first | (with_reducible first | exact HB.out | apply pA | apply pN | apply p1_) | exact HB.out)) hb); clear HB; have HB := n0_; clear n0_; (try clear hb); (try clear hb2); (try clear hk); (try clear hi)) | ((with_reducible refine gate_callee (f := 11) rfl ?_); (with_reducible refine gate_dst (N := 76) rfl ?_); refine goesL_ (some 76) rfl rfl Tryd.func11 (by kernel_rfl) rfl #[.agg #[.bool t454, .int .i64 t455, .int .i64 t456, .int .i64 t457, .int .i64 t458, .int .i64 t459, .int .i64 t460], .int .i64 (wrap64 (1 + (wrap64 (Int.tmod a1 64)))), .int .u64 a2] rfl (by (try simp only [List.map_toArray, List.map_cons, List.map_nil]); first | done | rfl | (simp only [List.length_drop, List.length_take]; rfl)) ?_; (with_reducible refine (coalesce_Static.calls t454 t455 t456 t457 t458 t459 t460 (wrap64 (1 + (wrap64 (Int.tmod a1 64)))) a2 t461 _ A44.out).mono ?_); rintro e w65 ⟨rfl, hb⟩; refine ⟨_, rfl, ?_⟩; have n0_ := Aside0.mk (below_step (by repeat (first | (with_reducible first | exact HB.out | apply pA | apply pN | apply p1_) | exact HB.out)) hb); clear HB; have HB := n0_; clear n0_; (try clear hb); (try clear hb2); (try clear hk); (try clear hi)) | (go_at_call 21; (with_reducible refine (w22_step.calls 1 t462 t463 t464 t465 t466 t467 t468 _ A46.out).mono ?_); rintro e w66 ⟨rfl, hb⟩; have n0_ := Aside0.mk (below_step (by repeat (first | (with_reducible first | exact HB.out | apply pA | apply pN | apply p1_) | exact HB.out)) hb); clear HB; have HB := n0_; clear n0_; (try clear hb); (try clear hb2); (try clear hk); (try clear hi)) | (go_at_call 11; (with_reducible refine (coalesce_Static.calls t462 t463 t464 t465 t466 t467 t468 (wrap64 (1 + (wrap64 (Int.tmod a1 64)))) 18446744073709551615 t469 _ A47.out).mono ?_); rintro e w67 ⟨rfl, hb⟩; have n0_ := Aside0.mk (below_step (by repeat (first | (with_reducible first | exact HB.out | apply pA | apply pN | apply p1_) | exact HB.out)) hb); clear HB; have HB := n0_; clear n0_; (try clear hb); (try clear hb2); (try clear hk); (try clear hi)))
                      go_ret
                      exact ⟨by first | rfl | (simp [errW_none, errW_some] <;> rfl) | (simp [*, errW_none, errW_some] <;> rfl), by repeat (first | (with_reducible first | exact HB.out | apply pA | apply pN | apply p1_) | exact HB.out)⟩
                  · rw [if_neg c45] at H
                    have c45b0 : (t461 == 1) = false := beq_eq_false_iff_ne.mpr c45
                    have c45b1 : (t461 != 1) = true := bne_iff_ne.mpr c45
                    obtain rfl := Option.some.inj H
                    go_wp2_with (first | ((with_reducible refine gate_callee (f := 21) rfl ?_); (with_reducible refine gate_dst (N := 73) rfl ?_); refine goesL_ (some 73) rfl rfl Tryd.func21 (by kernel_rfl) rfl #[.int .i64 0] rfl (by (try simp only [List.map_toArray, List.map_cons, List.map_nil]); first | done | rfl | (simp only [List.length_drop, List.length_take]; rfl)) ?_; (with_reducible refine (w22_step.calls 0 t454 t455 t456 t457 t458 t459 t460 _ A43.out).mono ?_); rintro e w68 ⟨rfl, hb⟩; refine ⟨_, rfl, ?_⟩; have n0_ := Aside0.mk (below_step (by repeat (first | (with_reducible first | exact HB.out | apply pA | apply pN | apply p1_) | exact HB.out)) hb); clear HB; have HB := n0_; clear n0_; (try clear hb); (try clear hb2); (try clear hk); (try clear hi)) | ((with_reducible refine gate_callee (f := 11) rfl ?_); (with_reducible refine gate_dst (N := 76) rfl ?_); refine goesL_ (some 76) rfl rfl Tryd.func11 (by kernel_rfl) rfl #[.agg #[.bool t454, .int .i64 t455, .int .i64 t456, .int .i64 t457, .int .i64 t458, .int .i64 t459, .int .i64 t460], .int .i64 (wrap64 (1 + (wrap64 (Int.tmod a1 64)))), .int .u64 a2] rfl (by (try simp only [List.map_toArray, List.map_cons, List.map_nil]); first | done | rfl | (simp only [List.length_drop, List.length_take]; rfl)) ?_; (with_reducible refine (coalesce_Static.calls t454 t455 t456 t457 t458 t459 t460 (wrap64 (1 + (wrap64 (Int.tmod a1 64)))) a2 t461 _ A44.out).mono ?_); rintro e w69 ⟨rfl, hb⟩; refine ⟨_, rfl, ?_⟩; have n0_ := Aside0.mk (below_step (by repeat (first | (with_reducible first | exact HB.out | apply pA | apply pN | apply p1_) | exact HB.out)) hb); clear HB; have HB := n0_; clear n0_; (try clear hb); (try clear hb2); (try clear hk); (try clear hi)))
                    go_ret
                    exact ⟨by first | rfl | (simp [errW_none, errW_some] <;> rfl) | (simp [*, errW_none, errW_some] <;> rfl), by repeat (first | (with_reducible first | exact HB.out | apply pA | apply pN | apply p1_) | exact HB.out)⟩
  · replace c5 := Bool.eq_false_iff.mpr c5
    subst c5
    have H1 : (some false) = some r := by rw [if_neg (show ¬ (false = true) by decide)] at H; exact H
    clear H
    have H := H1
    clear H1
    obtain rfl := Option.some.inj H
    go_enter Tryd.func7, Tryd.ntmps7
    go_wp2_with (first | ((with_reducible refine gate_callee (f := 9) rfl ?_); (with_reducible refine gate_dst (N := 14) rfl ?_); refine goesL_ (some 14) rfl rfl Tryd.func9 (by kernel_rfl) rfl #[] rfl (by (try simp only [List.map_toArray, List.map_cons, List.map_nil]); first | done | rfl | (simp only [List.length_drop, List.length_take]; rfl)) ?_; (with_reducible refine (w22_examples.calls k  false _ A4.out).mono ?_); rintro e w70 ⟨rfl, hb⟩; refine ⟨_, rfl, ?_⟩; have n0_ := Aside0.mk (below_step (by repeat (first | (with_reducible first | exact HB.out | apply pA | apply pN | apply p1_) | exact HB.out)) hb); clear HB; have HB := n0_; clear n0_; (try clear hb); (try clear hb2); (try clear hk); (try clear hi)))
    go_ret
    exact ⟨by first | rfl | (simp [errW_none, errW_some] <;> rfl) | (simp [*, errW_none, errW_some] <;> rfl), by repeat (first | (with_reducible first | exact HB.out | apply pA | apply pN | apply p1_) | exact HB.out)⟩

/-- THE ONE PURE STATEMENT of w22_CSharp: yours. -/
def w22_CSharp.Pure : Prop := ∀ (a0 : Int) (a1 : Int) (a2 : Int), (Lit.int .i64 a0).wf = true → (Lit.int .u8 a1).wf = true → (Lit.int .u64 a2).wf = true → ∃ k, w22_CSharp.f k a0 a1 a2 = some true
end Go.Proofs.YtnjeliicnbfclaaDoor.P
