-- Written by wip/myprint.py, a program of this session's own over the kit's print: functions and their contracts.
import Derived.Test.YtnjeliicnbfclaaDoorPx0
import Derived.Test.YtnjeliicnbfclaaDoorPx1
import Derived.Test.YtnjeliicnbfclaaDoorPx2
namespace Go.Proofs.YtnjeliicnbfclaaDoor.P
open Go.RowKit Go.Proofs.YtnjeliicnbfclaaDoorW.PrintWords Go.Proofs.YtnjeliicnbfclaaDoorW.PrintLast Go.Proofs.YtnjeliicnbfclaaDoorW.PrintMore
attribute [local go_sem] max2_int min2_int max_two min_two max_three min_three max_four min_four   -- for this text's walks alone
set_option linter.unusedVariables false
set_option linter.unusedSimpArgs false

/-! ### v22_Segment: function 27 -/
def v22_Segment.f (a0 : Int) : Option (Int) := if (Int.tmod a0 16) < 0 then (some (wrap64 ((wrap64 (Int.tdiv a0 16)) - 1))) else (some (wrap64 (Int.tdiv a0 16)))
set_option maxHeartbeats 8000000 in
set_option maxRecDepth 100000 in
theorem v22_Segment.calls (a0 : Int) (r : Int) (w : World) (h : v22_Segment.f a0 = some r) :
    Calls Tryd.prog 27 #[.int .i64 a0] w fun e w' => e = .returned (.int .i64 r) ∧ Drawn0 w w' := by
  have H : (if (Int.tmod a0 16) < 0 then (some (wrap64 ((wrap64 (Int.tdiv a0 16)) - 1))) else (some (wrap64 (Int.tdiv a0 16)))) = some r := h
  clear h
  by_cases c2 : (Int.tmod a0 16) < 0
  · rw [if_pos c2] at H
    have c2b0 : decide ((Int.tmod a0 16) < 0) = true := decide_eq_true c2
    clear c2
    obtain rfl := Option.some.inj H
    go_enter Tryd.func27, Tryd.ntmps27
    go_wp2
    go_ret
    exact ⟨by first | rfl | (simp; done) | (simp [*]; done), by repeat (first | exact Drawn0.refl _ | apply Drawn0.step)⟩
  · rw [if_neg c2] at H
    have c2b0 : decide ((Int.tmod a0 16) < 0) = false := decide_eq_false c2
    clear c2
    obtain rfl := Option.some.inj H
    go_enter Tryd.func27, Tryd.ntmps27
    go_wp2
    go_ret
    exact ⟨by first | rfl | (simp; done) | (simp [*]; done), by repeat (first | exact Drawn0.refl _ | apply Drawn0.step)⟩

/-! ### v22_Static: function 12 -/
mutual
def v22_Static.j0 : Nat → List Int → Bool → Bool → Int → Int → Int → Int → Int → Int → Option (Int)
  | 0, _, _, _, _, _, _, _, _, _ => none
  | k + 1, x7, x23, x223000, x223001, x223002, x223003, x223004, x223005, x223006 => if x23 = true then (some (x7.length : Int)) else (if x223004 = x223005 then (v22_Static.l0 k x7 (wrap64 (x223001 + x223002)) 0 0) else (if (wrap64 (x223001 + x223002)) < 0 then (if 0 ≤ (wrap64 ((x7.length : Int) - 1)) then (if (wrap64 ((x7.length : Int) - 1)) < (x7.length : Int) then (if 0 < (x7.length : Int) then (some (mn (x7.length : Int) (wrap64 ((wrap64 (Int.tdiv (wrap64 ((wrap64 ((wrap64 ((wrap64 ((wrap64 (-(wrap64 (x223001 + x223002)))) * (wrap64 ((rd x7 (wrap64 ((x7.length : Int) - 1))) - (rd x7 0))))) + x223005)) - x223004)) - 1)) 16)) + 2)))) else (none)) else (none)) else (none)) else (if 0 ≤ (wrap64 ((x7.length : Int) - 1)) then (if (wrap64 ((x7.length : Int) - 1)) < (x7.length : Int) then (if 0 < (x7.length : Int) then (some (mn (x7.length : Int) (wrap64 ((wrap64 (Int.tdiv (wrap64 ((wrap64 ((wrap64 ((wrap64 ((wrap64 (x223001 + x223002)) * (wrap64 ((rd x7 (wrap64 ((x7.length : Int) - 1))) - (rd x7 0))))) + x223005)) - x223004)) - 1)) 16)) + 2)))) else (none)) else (none)) else (none))))
def v22_Static.l0 : Nat → List Int → Int → Int → Int → Option (Int)
  | 0, _, _, _, _ => none
  | k + 1, x7, x8, x9, x10 => if x10 < 16 then (v22_Static.l1 k x7 x8 x9 x10 (([] : List Int)) 0) else (some x9)
def v22_Static.l1 : Nat → List Int → Int → Int → Int → List Int → Int → Option (Int)
  | 0, _, _, _, _, _, _ => none
  | k + 1, x7, x8, x9, x10, x11, x12 => if x12 < (x7.length : Int) then (if 0 ≤ x12 then ((v22_Segment.f (wrap64 (x10 + (wrap64 (x8 * (rd x7 x12)))))).bind fun t230 => ((v22_added.f k x11 t230).bind fun t231 => (v22_Static.l1 k x7 x8 x9 x10 t231 (wrap64 (x12 + 1))))) else (none)) else (v22_Static.l0 k x7 x8 (mx x9 (x11.length : Int)) (wrap64 (x10 + 1)))
end
def v22_Static.f (k : Nat) (a0_0 : Bool) (a0_1 : Int) (a0_2 : Int) (a0_3 : Int) (a0_4 : Int) (a0_5 : Int) (a0_6 : Int) (a1 : Int) (a2 : Int) : Option (Int) := (v22_Lanes.f k a1 a2).bind fun t223 => (if (t223.length : Int) = 0 then (v22_Static.j0 k t223 true a0_0 a0_1 a0_2 a0_3 a0_4 a0_5 a0_6) else (v22_Static.j0 k t223 a0_0 a0_0 a0_1 a0_2 a0_3 a0_4 a0_5 a0_6))
theorem v22_Static.mono_l : ∀ k, (∀ y0 y1 y2 y3 y4 y5 y6 y7 y8, LeO (v22_Static.j0 k y0 y1 y2 y3 y4 y5 y6 y7 y8) (v22_Static.j0 (k + 1) y0 y1 y2 y3 y4 y5 y6 y7 y8)) ∧ (∀ y0 y1 y2 y3, LeO (v22_Static.l0 k y0 y1 y2 y3) (v22_Static.l0 (k + 1) y0 y1 y2 y3)) ∧ (∀ y0 y1 y2 y3 y4 y5, LeO (v22_Static.l1 k y0 y1 y2 y3 y4 y5) (v22_Static.l1 (k + 1) y0 y1 y2 y3 y4 y5))
  | 0 => ⟨fun _ _ _ _ _ _ _ _ _ r h => by simp [v22_Static.j0] at h, fun _ _ _ _ r h => by simp [v22_Static.l0] at h, fun _ _ _ _ _ _ r h => by simp [v22_Static.l1] at h⟩
  | k + 1 => by
    obtain ⟨ih0, ih1, ih2⟩ := v22_Static.mono_l k
    refine ⟨?_, ?_, ?_⟩
    · intro y0 y1 y2 y3 y4 y5 y6 y7 y8
      unfold v22_Static.j0
      repeat' first
      | (with_reducible exact ih0 _ _ _ _ _ _ _ _ _)
      | (with_reducible exact ih1 _ _ _ _)
      | (with_reducible exact ih2 _ _ _ _ _ _)
      | (with_reducible exact v22_Lanes.mono _ _ _)
      | (with_reducible exact v22_added.mono _ _ _)
      | (with_reducible exact LeO.refl _)
      | (with_reducible exact LeO.none _)
      | (with_reducible refine LeO.ite ?_ ?_)
      | (with_reducible refine LeO.bind ?_ (fun _ => ?_))
      | exact ih0 _ _ _ _ _ _ _ _ _
      | exact ih1 _ _ _ _
      | exact ih2 _ _ _ _ _ _
      | exact v22_Lanes.mono _ _ _
      | exact v22_added.mono _ _ _
      | exact LeO.none _
      | refine LeO.ite ?_ ?_
      | refine LeO.bind ?_ (fun _ => ?_)
    · intro y0 y1 y2 y3
      unfold v22_Static.l0
      repeat' first
      | (with_reducible exact ih0 _ _ _ _ _ _ _ _ _)
      | (with_reducible exact ih1 _ _ _ _)
      | (with_reducible exact ih2 _ _ _ _ _ _)
      | (with_reducible exact v22_Lanes.mono _ _ _)
      | (with_reducible exact v22_added.mono _ _ _)
      | (with_reducible exact LeO.refl _)
      | (with_reducible exact LeO.none _)
      | (with_reducible refine LeO.ite ?_ ?_)
      | (with_reducible refine LeO.bind ?_ (fun _ => ?_))
      | exact ih0 _ _ _ _ _ _ _ _ _
      | exact ih1 _ _ _ _
      | exact ih2 _ _ _ _ _ _
      | exact v22_Lanes.mono _ _ _
      | exact v22_added.mono _ _ _
      | exact LeO.none _
      | refine LeO.ite ?_ ?_
      | refine LeO.bind ?_ (fun _ => ?_)
    · intro y0 y1 y2 y3 y4 y5
      unfold v22_Static.l1
      repeat' first
      | (with_reducible exact ih0 _ _ _ _ _ _ _ _ _)
      | (with_reducible exact ih1 _ _ _ _)
      | (with_reducible exact ih2 _ _ _ _ _ _)
      | (with_reducible exact v22_Lanes.mono _ _ _)
      | (with_reducible exact v22_added.mono _ _ _)
      | (with_reducible exact LeO.refl _)
      | (with_reducible exact LeO.none _)
      | (with_reducible refine LeO.ite ?_ ?_)
      | (with_reducible refine LeO.bind ?_ (fun _ => ?_))
      | exact ih0 _ _ _ _ _ _ _ _ _
      | exact ih1 _ _ _ _
      | exact ih2 _ _ _ _ _ _
      | exact v22_Lanes.mono _ _ _
      | exact v22_added.mono _ _ _
      | exact LeO.none _
      | refine LeO.ite ?_ ?_
      | refine LeO.bind ?_ (fun _ => ?_)
theorem v22_Static.mono : ∀ a0 a1 a2 a3 a4 a5 a6 a7 a8 k, LeO (v22_Static.f k a0 a1 a2 a3 a4 a5 a6 a7 a8) (v22_Static.f (k + 1) a0 a1 a2 a3 a4 a5 a6 a7 a8) := by
  intro a0 a1 a2 a3 a4 a5 a6 a7 a8 k
  obtain ⟨ih0, ih1, ih2⟩ := v22_Static.mono_l k
  unfold v22_Static.f
  repeat' first
      | (with_reducible exact ih0 _ _ _ _ _ _ _ _ _)
      | (with_reducible exact ih1 _ _ _ _)
      | (with_reducible exact ih2 _ _ _ _ _ _)
      | (with_reducible exact v22_Lanes.mono _ _ _)
      | (with_reducible exact v22_added.mono _ _ _)
      | (with_reducible exact LeO.refl _)
      | (with_reducible exact LeO.none _)
      | (with_reducible refine LeO.ite ?_ ?_)
      | (with_reducible refine LeO.bind ?_ (fun _ => ?_))
      | exact ih0 _ _ _ _ _ _ _ _ _
      | exact ih1 _ _ _ _
      | exact ih2 _ _ _ _ _ _
      | exact v22_Lanes.mono _ _ _
      | exact v22_added.mono _ _ _
      | exact LeO.none _
      | refine LeO.ite ?_ ?_
      | refine LeO.bind ?_ (fun _ => ?_)
set_option maxHeartbeats 8000000 in
set_option maxRecDepth 100000 in
theorem v22_Static.calls (k : Nat) (a0_0 : Bool) (a0_1 : Int) (a0_2 : Int) (a0_3 : Int) (a0_4 : Int) (a0_5 : Int) (a0_6 : Int) (a1 : Int) (a2 : Int) (r : Int) (w : World) (h : v22_Static.f k a0_0 a0_1 a0_2 a0_3 a0_4 a0_5 a0_6 a1 a2 = some r) :
    Calls Tryd.prog 12 #[.agg #[.bool a0_0, .int .i64 a0_1, .int .i64 a0_2, .int .i64 a0_3, .int .i64 a0_4, .int .i64 a0_5, .int .i64 a0_6], .int .i64 a1, .int .u64 a2] w fun e w' => e = .returned (.int .i64 r) ∧ Below w.heap.size w w' := by
  have hu35 := Tryd.underlying35
  have HB := Aside0.mk (Below.refl w.heap.size w)
  have H : ((v22_Lanes.f k a1 a2).bind fun t223 => (if (t223.length : Int) = 0 then (v22_Static.j0 k t223 true a0_0 a0_1 a0_2 a0_3 a0_4 a0_5 a0_6) else (v22_Static.j0 k t223 a0_0 a0_0 a0_1 a0_2 a0_3 a0_4 a0_5 a0_6))) = some r := h
  clear h
  replace H := Option.bind_eq_some_iff.mp H
  obtain ⟨t223, A40, H⟩ := H
  replace H : (if (t223.length : Int) = 0 then (v22_Static.j0 k t223 true a0_0 a0_1 a0_2 a0_3 a0_4 a0_5 a0_6) else (v22_Static.j0 k t223 a0_0 a0_0 a0_1 a0_2 a0_3 a0_4 a0_5 a0_6)) = some r := H
  have A4 := Aside0.mk A40
  clear A40
  have HC5 := Aside0.mk H
  clear H
  go_enter Tryd.func12, Tryd.ntmps12
  go_upto_region 2 with (first | ((with_reducible refine gate_dst (N := 3) rfl ?_); refine box_event ?hg (N := 3) ?hd (cs := #[.bool a0_0, .int .i64 a0_1, .int .i64 a0_2, .int .i64 a0_3, .int .i64 a0_4, .int .i64 a0_5, .int .i64 a0_6]) (t := 35) ?hr ?_; (case hd => rfl); (case hg => rfl); (case hr => first | (go_simp; done) | (go_simp; rfl)); intro gb222 hg w6 hbox hb; have n0_ := Aside0.mk (below_step (by repeat (first | (with_reducible first | exact HB.out | apply pA | apply pN | apply p1_) | exact HB.out)) hb); have n1_ := Aside0.mk (hbox); have n2_ := Aside0.mk ((by rw [hg]; exact (below_size (by repeat (first | (with_reducible first | exact HB.out | apply pA | apply pN | apply p1_) | exact HB.out))) : w.heap.size ≤ gb222)); have n3_ := Aside0.mk ((by rw [hg]; exact (below_size (by repeat (first | (with_reducible first | exact HB.out | apply pA | apply pN | apply p1_) | exact HB.out))) : w.heap.size ≤ gb222)); clear HB; have HB := n0_; have BK222 := n1_; have GW222 := n2_; have GE222 := n3_; clear n0_ n1_ n2_ n3_; clear hb hbox hg) | (go_at_call 19; (with_reducible refine (v22_Lanes.calls k a1 a2 t223 _ A4.out).mono ?_); rintro e w7 ⟨v224, rfl, ho0, hb⟩; have n0_ := Aside0.mk (Kd.R_lower ho0 (below_size (by repeat (first | (with_reducible first | exact HB.out | apply pA | apply pN | apply p1_ | refine bS ?_ GE222.out) | exact HB.out)))); have n1_ := Aside0.mk (bB (g := gb222) (o := .cells #[.bool a0_0, .int .i64 a0_1, .int .i64 a0_2, .int .i64 a0_3, .int .i64 a0_4, .int .i64 a0_5, .int .i64 a0_6] 35 (0, 0)) (by (with_reducible repeat (first | refine bN ?_ _ | refine bD ?_ | refine bA ?_ _)); exact BK222.out) hb); have n2_ := Aside0.mk (below_step (by repeat (first | (with_reducible first | exact HB.out | apply pA | apply pN | apply p1_ | refine bS ?_ GE222.out) | exact HB.out)) hb); clear BK222; clear HB; have HO225 := n0_; have BK222 := n1_; have HB := n2_; clear n0_ n1_ n2_; (try clear hb); (try clear hb2); (try clear hk); (try clear hi); (try clear ho0)))
  repeat (go_quiet (first | ((with_reducible refine gate_dst (N := 3) rfl ?_); refine box_event ?hg (N := 3) ?hd (cs := #[.bool a0_0, .int .i64 a0_1, .int .i64 a0_2, .int .i64 a0_3, .int .i64 a0_4, .int .i64 a0_5, .int .i64 a0_6]) (t := 35) ?hr ?_; (case hd => rfl); (case hg => rfl); (case hr => first | (go_simp; done) | (go_simp; rfl)); intro gb222 hg w6 hbox hb; have n0_ := Aside0.mk (below_step (by repeat (first | (with_reducible first | exact HB.out | apply pA | apply pN | apply p1_) | exact HB.out)) hb); have n1_ := Aside0.mk (hbox); have n2_ := Aside0.mk ((by rw [hg]; exact (below_size (by repeat (first | (with_reducible first | exact HB.out | apply pA | apply pN | apply p1_) | exact HB.out))) : w.heap.size ≤ gb222)); have n3_ := Aside0.mk ((by rw [hg]; exact (below_size (by repeat (first | (with_reducible first | exact HB.out | apply pA | apply pN | apply p1_) | exact HB.out))) : w.heap.size ≤ gb222)); clear HB; have HB := n0_; have BK222 := n1_; have GW222 := n2_; have GE222 := n3_; clear n0_ n1_ n2_ n3_; clear hb hbox hg) | (go_at_call 19; (with_reducible refine (v22_Lanes.calls k a1 a2 t223 _ A4.out).mono ?_); rintro e w7 ⟨v224, rfl, ho0, hb⟩; have n0_ := Aside0.mk (Kd.R_lower ho0 (below_size (by repeat (first | (with_reducible first | exact HB.out | apply pA | apply pN | apply p1_ | refine bS ?_ GE222.out) | exact HB.out)))); have n1_ := Aside0.mk (bB (g := gb222) (o := .cells #[.bool a0_0, .int .i64 a0_1, .int .i64 a0_2, .int .i64 a0_3, .int .i64 a0_4, .int .i64 a0_5, .int .i64 a0_6] 35 (0, 0)) (by (with_reducible repeat (first | refine bN ?_ _ | refine bD ?_ | refine bA ?_ _)); exact BK222.out) hb); have n2_ := Aside0.mk (below_step (by repeat (first | (with_reducible first | exact HB.out | apply pA | apply pN | apply p1_ | refine bS ?_ GE222.out) | exact HB.out)) hb); clear BK222; clear HB; have HO225 := n0_; have BK222 := n1_; have HB := n2_; clear n0_ n1_ n2_; (try clear hb); (try clear hb2); (try clear hk); (try clear hi); (try clear ho0))); go_upto_region 2 with (first | ((with_reducible refine gate_dst (N := 3) rfl ?_); refine box_event ?hg (N := 3) ?hd (cs := #[.bool a0_0, .int .i64 a0_1, .int .i64 a0_2, .int .i64 a0_3, .int .i64 a0_4, .int .i64 a0_5, .int .i64 a0_6]) (t := 35) ?hr ?_; (case hd => rfl); (case hg => rfl); (case hr => first | (go_simp; done) | (go_simp; rfl)); intro gb222 hg w6 hbox hb; have n0_ := Aside0.mk (below_step (by repeat (first | (with_reducible first | exact HB.out | apply pA | apply pN | apply p1_) | exact HB.out)) hb); have n1_ := Aside0.mk (hbox); have n2_ := Aside0.mk ((by rw [hg]; exact (below_size (by repeat (first | (with_reducible first | exact HB.out | apply pA | apply pN | apply p1_) | exact HB.out))) : w.heap.size ≤ gb222)); have n3_ := Aside0.mk ((by rw [hg]; exact (below_size (by repeat (first | (with_reducible first | exact HB.out | apply pA | apply pN | apply p1_) | exact HB.out))) : w.heap.size ≤ gb222)); clear HB; have HB := n0_; have BK222 := n1_; have GW222 := n2_; have GE222 := n3_; clear n0_ n1_ n2_ n3_; clear hb hbox hg) | (go_at_call 19; (with_reducible refine (v22_Lanes.calls k a1 a2 t223 _ A4.out).mono ?_); rintro e w7 ⟨v224, rfl, ho0, hb⟩; have n0_ := Aside0.mk (Kd.R_lower ho0 (below_size (by repeat (first | (with_reducible first | exact HB.out | apply pA | apply pN | apply p1_ | refine bS ?_ GE222.out) | exact HB.out)))); have n1_ := Aside0.mk (bB (g := gb222) (o := .cells #[.bool a0_0, .int .i64 a0_1, .int .i64 a0_2, .int .i64 a0_3, .int .i64 a0_4, .int .i64 a0_5, .int .i64 a0_6] 35 (0, 0)) (by (with_reducible repeat (first | refine bN ?_ _ | refine bD ?_ | refine bA ?_ _)); exact BK222.out) hb); have n2_ := Aside0.mk (below_step (by repeat (first | (with_reducible first | exact HB.out | apply pA | apply pN | apply p1_ | refine bS ?_ GE222.out) | exact HB.out)) hb); clear BK222; clear HB; have HO225 := n0_; have BK222 := n1_; have HB := n2_; clear n0_ n1_ n2_; (try clear hb); (try clear hb2); (try clear hk); (try clear hi); (try clear ho0))))
  (try simp only [Act.put, sI, sZ, sS])
  go_cut [23] (fun v23 wc => ∃ (kq : Nat) (x23_4 : Bool), v23 = .bool x23_4 ∧ Aside0 (v22_Static.j0 kq t223 x23_4 a0_0 a0_1 a0_2 a0_3 a0_4 a0_5 a0_6 = some r) ∧ Aside0 (kq ≤ k) ∧ Aside0 (Kd.R (Kd.int .i64) 2 wc w.heap.size (fun _ => True) v224 t223) ∧ Aside0 (wc.heap[gb222]? = some (.cells #[.bool a0_0, .int .i64 a0_1, .int .i64 a0_2, .int .i64 a0_3, .int .i64 a0_4, .int .i64 a0_5, .int .i64 a0_6] 35 (0, 0))) ∧ Aside0 (Below w.heap.size w wc))
  case first =>
    have H := HC5.out
    clear HC5
    by_cases c8 : (t223.length : Int) = 0
    · rw [if_pos c8] at H
      have c8b0 : ((t223.length : Int) == 0) = true := beq_iff_eq.mpr c8
      have c8b1 : ((t223.length : Int) != 0) = false := bne_eq_false_iff_eq.mpr c8
      clear c8
      (first | rw [c8b0] | (simp only [i64_w, i32_w]; rw [c8b0]) | skip)
      have H' := Aside0.mk H
      clear H
      obtain ⟨Ao9, co9, eo9⟩ := Kd.R_slice HO225.out
      subst eo9
      go_wp2
      repeat (go_quiet (fail); try go_wp2)
      go_meet
      case rel => exact ⟨_, (true), (by first | rfl | (simp; done) | (simp [*]; done)), H', ⟨by first | omega | exact Nat.le_refl _⟩, ⟨by (with_reducible repeat (first | apply Kd.R_alloc | apply Kd.R_drewN | apply Kd.R_drew)); exact HO225.out⟩, ⟨by (with_reducible repeat (first | refine bN ?_ _ | refine bD ?_ | refine bA ?_ _)); exact BK222.out⟩, ⟨by repeat (first | (with_reducible first | exact HB.out | apply pA | apply pN | apply p1_ | refine bS ?_ GE222.out) | exact HB.out)⟩⟩
    · rw [if_neg c8] at H
      have c8b0 : ((t223.length : Int) == 0) = false := beq_eq_false_iff_ne.mpr c8
      have c8b1 : ((t223.length : Int) != 0) = true := bne_iff_ne.mpr c8
      have c8b2 : ¬ (t223 = []) := fun h_ => c8 (by rw [h_]; rfl)
      (first | rw [c8b0] | (simp only [i64_w, i32_w]; rw [c8b0]) | skip)
      have H' := Aside0.mk H
      clear H
      obtain ⟨Ao10, co10, eo10⟩ := Kd.R_slice HO225.out
      subst eo10
      have hcz11_0 : w7.cell? ⟨gb222, 0, none⟩ = some (.bool a0_0) := (bC BK222.out 0).trans rfl
      have hcz11_1 : w7.cell? ⟨gb222, 1, none⟩ = some (.int .i64 a0_1) := (bC BK222.out 1).trans rfl
      have hcz11_2 : w7.cell? ⟨gb222, 2, none⟩ = some (.int .i64 a0_2) := (bC BK222.out 2).trans rfl
      have hcz11_3 : w7.cell? ⟨gb222, 3, none⟩ = some (.int .i64 a0_3) := (bC BK222.out 3).trans rfl
      have hcz11_4 : w7.cell? ⟨gb222, 4, none⟩ = some (.int .i64 a0_4) := (bC BK222.out 4).trans rfl
      have hcz11_5 : w7.cell? ⟨gb222, 5, none⟩ = some (.int .i64 a0_5) := (bC BK222.out 5).trans rfl
      have hcz11_6 : w7.cell? ⟨gb222, 6, none⟩ = some (.int .i64 a0_6) := (bC BK222.out 6).trans rfl
      have hfz11_0 := bF BK222.out 0
      have hfz11_1 := bF BK222.out 1
      have hfz11_2 := bF BK222.out 2
      have hfz11_3 := bF BK222.out 3
      have hfz11_4 := bF BK222.out 4
      have hfz11_5 := bF BK222.out 5
      have hfz11_6 := bF BK222.out 6
      go_wp2
      repeat (go_quiet (fail); try go_wp2)
      go_meet
      case rel => exact ⟨_, (a0_0), (by first | rfl | (simp; done) | (simp [*]; done)), H', ⟨by first | omega | exact Nat.le_refl _⟩, ⟨by (with_reducible repeat (first | apply Kd.R_alloc | apply Kd.R_drewN | apply Kd.R_drew)); exact HO225.out⟩, ⟨by (with_reducible repeat (first | refine bN ?_ _ | refine bD ?_ | refine bA ?_ _)); exact BK222.out⟩, ⟨by repeat (first | (with_reducible first | exact HB.out | apply pA | apply pN | apply p1_ | refine bS ?_ GE222.out) | exact HB.out)⟩⟩
  case rest =>
    clear HC5
    try clear c1
    try clear p2
    try clear c8
    try clear c8b0
    try clear c8b1
    try clear c8b2
    try clear hcz11_0
    try clear hcz11_1
    try clear hcz11_2
    try clear hcz11_3
    try clear hcz11_4
    try clear hcz11_5
    try clear hcz11_6
    try clear hfz11_0
    try clear hfz11_1
    try clear hfz11_2
    try clear hfz11_3
    try clear hfz11_4
    try clear hfz11_5
    try clear hfz11_6
    obtain ⟨kq, x23_4, rfl, HA, HJ4, HO_7, BK222, HB⟩ := hcut
    cases kq with
    | zero => exact absurd HA.out (by simp [v22_Static.j0])
    | succ kj4 =>
      have H := HA.out
      clear HA
      simp only [v22_Static.j0] at H
      by_cases c12 : x23_4 = true
      · subst c12
        have H1 : (some (t223.length : Int)) = some r := by rw [if_pos rfl] at H; exact H
        clear H
        have H := H1
        clear H1
        obtain rfl := Option.some.inj H
        obtain ⟨Ao13, co13, eo13⟩ := Kd.R_slice HO_7.out
        subst eo13
        go_wp2
        repeat (go_quiet (fail); try go_wp2)
        go_ret
        exact ⟨by first | rfl | (simp [errW_none, errW_some] <;> rfl) | (simp [*, errW_none, errW_some] <;> rfl), by repeat (first | (with_reducible first | exact HB.out | apply pA | apply pN | apply p1_ | refine bS ?_ GE222.out) | exact HB.out)⟩
      · replace c12 := Bool.eq_false_iff.mpr c12
        subst c12
        have H1 : (if a0_4 = a0_5 then (v22_Static.l0 kj4 t223 (wrap64 (a0_1 + a0_2)) 0 0) else (if (wrap64 (a0_1 + a0_2)) < 0 then (if 0 ≤ (wrap64 ((t223.length : Int) - 1)) then (if (wrap64 ((t223.length : Int) - 1)) < (t223.length : Int) then (if 0 < (t223.length : Int) then (some (mn (t223.length : Int) (wrap64 ((wrap64 (Int.tdiv (wrap64 ((wrap64 ((wrap64 ((wrap64 ((wrap64 (-(wrap64 (a0_1 + a0_2)))) * (wrap64 ((rd t223 (wrap64 ((t223.length : Int) - 1))) - (rd t223 0))))) + a0_5)) - a0_4)) - 1)) 16)) + 2)))) else (none)) else (none)) else (none)) else (if 0 ≤ (wrap64 ((t223.length : Int) - 1)) then (if (wrap64 ((t223.length : Int) - 1)) < (t223.length : Int) then (if 0 < (t223.length : Int) then (some (mn (t223.length : Int) (wrap64 ((wrap64 (Int.tdiv (wrap64 ((wrap64 ((wrap64 ((wrap64 ((wrap64 (a0_1 + a0_2)) * (wrap64 ((rd t223 (wrap64 ((t223.length : Int) - 1))) - (rd t223 0))))) + a0_5)) - a0_4)) - 1)) 16)) + 2)))) else (none)) else (none)) else (none)))) = some r := by rw [if_neg (show ¬ (false = true) by decide)] at H; exact H
        clear H
        have H := H1
        clear H1
        by_cases c14 : a0_4 = a0_5
        · rw [if_pos c14] at H
          have c14b0 : (a0_4 == a0_5) = true := beq_iff_eq.mpr c14
          have c14b1 : (a0_4 != a0_5) = false := bne_eq_false_iff_eq.mpr c14
          clear c14
          have H' := Aside0.mk H
          clear H
          have hcz15_0 : wc.cell? ⟨gb222, 0, none⟩ = some (.bool a0_0) := (bC BK222.out 0).trans rfl
          have hcz15_1 : wc.cell? ⟨gb222, 1, none⟩ = some (.int .i64 a0_1) := (bC BK222.out 1).trans rfl
          have hcz15_2 : wc.cell? ⟨gb222, 2, none⟩ = some (.int .i64 a0_2) := (bC BK222.out 2).trans rfl
          have hcz15_3 : wc.cell? ⟨gb222, 3, none⟩ = some (.int .i64 a0_3) := (bC BK222.out 3).trans rfl
          have hcz15_4 : wc.cell? ⟨gb222, 4, none⟩ = some (.int .i64 a0_4) := (bC BK222.out 4).trans rfl
          have hcz15_5 : wc.cell? ⟨gb222, 5, none⟩ = some (.int .i64 a0_5) := (bC BK222.out 5).trans rfl
          have hcz15_6 : wc.cell? ⟨gb222, 6, none⟩ = some (.int .i64 a0_6) := (bC BK222.out 6).trans rfl
          have hfz15_0 := bF BK222.out 0
          have hfz15_1 := bF BK222.out 1
          have hfz15_2 := bF BK222.out 2
          have hfz15_3 := bF BK222.out 3
          have hfz15_4 := bF BK222.out 4
          have hfz15_5 := bF BK222.out 5
          have hfz15_6 := bF BK222.out 6
          go_wp2
          repeat (go_quiet (fail); try go_wp2)
          go_loopg [9, 10] kj4 (fun kq v9 v10 w' => ∃ (x9_2 : Int) (x10_2 : Int), v9 = .int .i64 x9_2 ∧ v10 = .int .i64 x10_2 ∧ Aside0 (v22_Static.l0 kq t223 (wrap64 (a0_1 + a0_2)) x9_2 x10_2 = some r) ∧ Aside0 (kq ≤ kj4) ∧ Aside0 (Kd.R (Kd.int .i64) 2 w' w.heap.size (fun _ => True) v224 t223) ∧ Aside0 (w'.heap[gb222]? = some (.cells #[.bool a0_0, .int .i64 a0_1, .int .i64 a0_2, .int .i64 a0_3, .int .i64 a0_4, .int .i64 a0_5, .int .i64 a0_6] 35 (0, 0))) ∧ Aside0 (Below w.heap.size w w'))
          case atStart => exact ⟨(0), (0), (by first | rfl | (simp; done) | (simp [*]; done)), (by first | rfl | (simp; done) | (simp [*]; done)), H', ⟨Nat.le_refl _⟩, ⟨by (with_reducible repeat (first | apply Kd.R_alloc | apply Kd.R_drewN | apply Kd.R_drew)); exact HO_7.out⟩, ⟨by (with_reducible repeat (first | refine bN ?_ _ | refine bD ?_ | refine bA ?_ _)); exact BK222.out⟩, ⟨by repeat (first | (with_reducible first | exact HB.out | apply pA | apply pN | apply p1_ | refine bS ?_ GE222.out) | exact HB.out)⟩⟩
          case round =>
            clear H'
            try clear c1
            try clear p2
            try clear p6
            try clear c8
            try clear c8b0
            try clear c8b1
            try clear c8b2
            try clear c12
            try clear c14
            try clear c14b0
            try clear c14b1
            try clear hcz11_0
            try clear hcz11_1
            try clear hcz11_2
            try clear hcz11_3
            try clear hcz11_4
            try clear hcz11_5
            try clear hcz11_6
            try clear hcz15_0
            try clear hcz15_1
            try clear hcz15_2
            try clear hcz15_3
            try clear hcz15_4
            try clear hcz15_5
            try clear hcz15_6
            try clear hfz11_0
            try clear hfz11_1
            try clear hfz11_2
            try clear hfz11_3
            try clear hfz11_4
            try clear hfz11_5
            try clear hfz11_6
            try clear hfz15_0
            try clear hfz15_1
            try clear hfz15_2
            try clear hfz15_3
            try clear hfz15_4
            try clear hfz15_5
            try clear hfz15_6
            try clear p2
            obtain ⟨x9_2, x10_2, rfl, rfl, HA, HK2, HO_7, BK222, HB⟩ := hrel
            cases gk with
            | zero => exact absurd HA.out (by simp [v22_Static.l0])
            | succ k2 =>
              have H := HA.out
              clear HA
              simp only [v22_Static.l0] at H
              by_cases c16 : x10_2 < 16
              · rw [if_pos c16] at H
                have c16b0 : decide (x10_2 < 16) = true := decide_eq_true c16
                clear c16
                obtain ⟨y226, hy226⟩ : ∃ y_ : List Int, y_ = (([] : List Int)) := ⟨_, rfl⟩
                replace H : (v22_Static.l1 k2 t223 (wrap64 (a0_1 + a0_2)) x9_2 x10_2 y226 0) = some r := by first | (rw [hy226]; with_reducible exact H) | (have H2_ := (Option.bind_some _ _).symm.trans H; rw [hy226]; with_reducible exact H2_) | (have H2_ := (Option.bind_some _ _).symm.trans H; with_reducible exact H2_) | with_reducible exact H | (rw [hy226]; exact H) | exact H
                have Ny226 := Aside0.mk hy226
                clear hy226
                have H' := Aside0.mk H
                clear H
                go_wp2_with (first | ((with_reducible refine gate_dst (N := 42) rfl ?_); refine Kd.R_lit (Kd.int .i64) _ 2 ?hg (N := 42) ?hd (xs := ([] : List Int)) (inner := []) (ok := fun _ => True) (okp := fun _ => True) ?hr ?hp (fun _ hk => hk) trivial (Below.refl _ _) (Nat.le_refl _) (by simp) ?_; (case hd => rfl); (case hg => rfl); (case hr => first | (go_simp; done) | (go_simp; rfl)); (case hp => exact (Reps.none _ _)); intro v227 w17 ho18 hb hg_ hnew_; clear hg_ hnew_; (first | rw [← Ny226.out] at ho18 | (simp only [Int.reduceToNat] at ho18; rw [← Ny226.out] at ho18)); have n0_ := Aside0.mk (Kd.R_elder' (by (with_reducible repeat (first | apply Kd.R_alloc | apply Kd.R_drewN | apply Kd.R_drew)); exact HO_7.out) (Kd.R_base ho18) hb); have n1_ := Aside0.mk (Kd.R_lower (Kd.R_new' ho18 (Kd.R_lt (by (with_reducible repeat (first | apply Kd.R_alloc | apply Kd.R_drewN | apply Kd.R_drew)); exact HO_7.out))) (below_size (by repeat (first | (with_reducible first | exact HB.out | apply pA | apply pN | apply p1_ | refine bS ?_ GE222.out) | exact HB.out)))); have n2_ := Aside0.mk (bB (g := gb222) (o := .cells #[.bool a0_0, .int .i64 a0_1, .int .i64 a0_2, .int .i64 a0_3, .int .i64 a0_4, .int .i64 a0_5, .int .i64 a0_6] 35 (0, 0)) (by (with_reducible repeat (first | refine bN ?_ _ | refine bD ?_ | refine bA ?_ _)); exact BK222.out) hb); have n3_ := Aside0.mk (below_step (by repeat (first | (with_reducible first | exact HB.out | apply pA | apply pN | apply p1_ | refine bS ?_ GE222.out) | exact HB.out)) hb); clear HO_7; clear BK222; clear HB; have HO_7 := n0_; have HO228 := n1_; have BK222 := n2_; have HB := n3_; clear n0_ n1_ n2_ n3_; clear hb ho18))
                repeat (go_quiet (first | ((with_reducible refine gate_dst (N := 42) rfl ?_); refine Kd.R_lit (Kd.int .i64) _ 2 ?hg (N := 42) ?hd (xs := ([] : List Int)) (inner := []) (ok := fun _ => True) (okp := fun _ => True) ?hr ?hp (fun _ hk => hk) trivial (Below.refl _ _) (Nat.le_refl _) (by simp) ?_; (case hd => rfl); (case hg => rfl); (case hr => first | (go_simp; done) | (go_simp; rfl)); (case hp => exact (Reps.none _ _)); intro v227 w17 ho18 hb hg_ hnew_; clear hg_ hnew_; (first | rw [← Ny226.out] at ho18 | (simp only [Int.reduceToNat] at ho18; rw [← Ny226.out] at ho18)); have n0_ := Aside0.mk (Kd.R_elder' (by (with_reducible repeat (first | apply Kd.R_alloc | apply Kd.R_drewN | apply Kd.R_drew)); exact HO_7.out) (Kd.R_base ho18) hb); have n1_ := Aside0.mk (Kd.R_lower (Kd.R_new' ho18 (Kd.R_lt (by (with_reducible repeat (first | apply Kd.R_alloc | apply Kd.R_drewN | apply Kd.R_drew)); exact HO_7.out))) (below_size (by repeat (first | (with_reducible first | exact HB.out | apply pA | apply pN | apply p1_ | refine bS ?_ GE222.out) | exact HB.out)))); have n2_ := Aside0.mk (bB (g := gb222) (o := .cells #[.bool a0_0, .int .i64 a0_1, .int .i64 a0_2, .int .i64 a0_3, .int .i64 a0_4, .int .i64 a0_5, .int .i64 a0_6] 35 (0, 0)) (by (with_reducible repeat (first | refine bN ?_ _ | refine bD ?_ | refine bA ?_ _)); exact BK222.out) hb); have n3_ := Aside0.mk (below_step (by repeat (first | (with_reducible first | exact HB.out | apply pA | apply pN | apply p1_ | refine bS ?_ GE222.out) | exact HB.out)) hb); clear HO_7; clear BK222; clear HB; have HO_7 := n0_; have HO228 := n1_; have BK222 := n2_; have HB := n3_; clear n0_ n1_ n2_ n3_; clear hb ho18)); try go_wp2_with (first | ((with_reducible refine gate_dst (N := 42) rfl ?_); refine Kd.R_lit (Kd.int .i64) _ 2 ?hg (N := 42) ?hd (xs := ([] : List Int)) (inner := []) (ok := fun _ => True) (okp := fun _ => True) ?hr ?hp (fun _ hk => hk) trivial (Below.refl _ _) (Nat.le_refl _) (by simp) ?_; (case hd => rfl); (case hg => rfl); (case hr => first | (go_simp; done) | (go_simp; rfl)); (case hp => exact (Reps.none _ _)); intro v227 w17 ho18 hb hg_ hnew_; clear hg_ hnew_; (first | rw [← Ny226.out] at ho18 | (simp only [Int.reduceToNat] at ho18; rw [← Ny226.out] at ho18)); have n0_ := Aside0.mk (Kd.R_elder' (by (with_reducible repeat (first | apply Kd.R_alloc | apply Kd.R_drewN | apply Kd.R_drew)); exact HO_7.out) (Kd.R_base ho18) hb); have n1_ := Aside0.mk (Kd.R_lower (Kd.R_new' ho18 (Kd.R_lt (by (with_reducible repeat (first | apply Kd.R_alloc | apply Kd.R_drewN | apply Kd.R_drew)); exact HO_7.out))) (below_size (by repeat (first | (with_reducible first | exact HB.out | apply pA | apply pN | apply p1_ | refine bS ?_ GE222.out) | exact HB.out)))); have n2_ := Aside0.mk (bB (g := gb222) (o := .cells #[.bool a0_0, .int .i64 a0_1, .int .i64 a0_2, .int .i64 a0_3, .int .i64 a0_4, .int .i64 a0_5, .int .i64 a0_6] 35 (0, 0)) (by (with_reducible repeat (first | refine bN ?_ _ | refine bD ?_ | refine bA ?_ _)); exact BK222.out) hb); have n3_ := Aside0.mk (below_step (by repeat (first | (with_reducible first | exact HB.out | apply pA | apply pN | apply p1_ | refine bS ?_ GE222.out) | exact HB.out)) hb); clear HO_7; clear BK222; clear HB; have HO_7 := n0_; have HO228 := n1_; have BK222 := n2_; have HB := n3_; clear n0_ n1_ n2_ n3_; clear hb ho18)))
                go_loopg [11, 12] k2 (fun kq v11 v12 w' => ∃ (x11_3 : List Int) (x12_3 : Int), v12 = .int .i64 x12_3 ∧ Aside0 (v22_Static.l1 kq t223 (wrap64 (a0_1 + a0_2)) x9_2 x10_2 x11_3 x12_3 = some r) ∧ Aside0 (kq ≤ k2) ∧ Aside0 (Kd.R (Kd.int .i64) 2 w' w.heap.size (fun _ => True) v224 t223) ∧ Aside0 (Kd.V (Kd.int .i64) 2 w' w.heap.size (fun k_ => some k_ ≠ (v224 : Value).ownBlock ∧ k_ ≠ gb222) v11 x11_3) ∧ Aside0 (w'.heap[gb222]? = some (.cells #[.bool a0_0, .int .i64 a0_1, .int .i64 a0_2, .int .i64 a0_3, .int .i64 a0_4, .int .i64 a0_5, .int .i64 a0_6] 35 (0, 0))) ∧ Aside0 (Below w.heap.size w w'))
                case atStart => exact ⟨(y226), (0), (by first | rfl | (simp; done) | (simp [*]; done)), H', ⟨Nat.le_refl _⟩, ⟨by (with_reducible repeat (first | apply Kd.R_alloc | apply Kd.R_drewN | apply Kd.R_drew)); exact Kd.R_mono HO_7.out (fun _ hk => trivial)⟩, ⟨Kd.R_V (by (with_reducible repeat (first | apply Kd.R_alloc | apply Kd.R_drewN | apply Kd.R_drew)); exact Kd.R_mono (Kd.R_types HO228.out BK222.out (by decide)) (fun _ hk => ⟨hk.1.2, hk.2⟩))⟩, ⟨by (with_reducible repeat (first | refine bN ?_ _ | refine bD ?_ | refine bA ?_ _)); exact BK222.out⟩, ⟨by repeat (first | (with_reducible first | exact HB.out | apply pA | apply pN | apply p1_ | refine bS ?_ GE222.out) | exact HB.out)⟩⟩
                case round =>
                  clear H'
                  try clear c1
                  try clear p2
                  try clear p6
                  try clear c8
                  try clear c8b0
                  try clear c8b1
                  try clear c8b2
                  try clear c12
                  try clear c14
                  try clear c14b0
                  try clear c14b1
                  try clear c16
                  try clear c16b0
                  try clear hcz11_0
                  try clear hcz11_1
                  try clear hcz11_2
                  try clear hcz11_3
                  try clear hcz11_4
                  try clear hcz11_5
                  try clear hcz11_6
                  try clear hcz15_0
                  try clear hcz15_1
                  try clear hcz15_2
                  try clear hcz15_3
                  try clear hcz15_4
                  try clear hcz15_5
                  try clear hcz15_6
                  try clear hfz11_0
                  try clear hfz11_1
                  try clear hfz11_2
                  try clear hfz11_3
                  try clear hfz11_4
                  try clear hfz11_5
                  try clear hfz11_6
                  try clear hfz15_0
                  try clear hfz15_1
                  try clear hfz15_2
                  try clear hfz15_3
                  try clear hfz15_4
                  try clear hfz15_5
                  try clear hfz15_6
                  try clear p2
                  try clear p6
                  obtain ⟨x11_3, x12_3, rfl, HA, HK3, HO_7, HO_11, BK222, HB⟩ := hrel
                  cases gk with
                  | zero => exact absurd HA.out (by simp [v22_Static.l1])
                  | succ k3 =>
                    have H := HA.out
                    clear HA
                    simp only [v22_Static.l1] at H
                    by_cases c19 : x12_3 < (t223.length : Int)
                    · rw [if_pos c19] at H
                      have c19b0 : decide (x12_3 < (t223.length : Int)) = true := decide_eq_true c19
                      clear c19
                      by_cases c20 : 0 ≤ x12_3
                      · rw [if_pos c20] at H
                        have c20b0 : decide (0 ≤ x12_3) = true := decide_eq_true c20
                        clear c20
                        replace H := Option.bind_eq_some_iff.mp H
                        obtain ⟨t230, A210, H⟩ := H
                        replace H : ((v22_added.f k3 x11_3 t230).bind fun t231 => (v22_Static.l1 k3 t223 (wrap64 (a0_1 + a0_2)) x9_2 x10_2 t231 (wrap64 (x12_3 + 1)))) = some r := H
                        have A21 := Aside0.mk A210
                        clear A210
                        replace H := Option.bind_eq_some_iff.mp H
                        obtain ⟨t231, A220, H⟩ := H
                        replace H : (v22_Static.l1 k3 t223 (wrap64 (a0_1 + a0_2)) x9_2 x10_2 t231 (wrap64 (x12_3 + 1))) = some r := H
                        have A22 := Aside0.mk A220
                        clear A220
                        have H' := Aside0.mk H
                        clear H
                        obtain ⟨Ao23, co23, eo23⟩ := Kd.R_slice HO_7.out
                        subst eo23
                        have p229 : 0 ≤ (x12_3 : Int) := of_decide_eq_true (by first | (with_reducible assumption) | assumption)
                        have q229 : x12_3 < (t223.length : Int) := of_decide_eq_true (by first | (with_reducible assumption) | assumption)
                        obtain ⟨ad229, e229, hx229_0⟩ := Kd.at_int (Kd.R_reads' HO_7.out).2.2 x12_3 p229 q229
                        cases e229
                        replace p229 := eq_true p229
                        replace q229 := eq_true q229
                        go_wp2_with (first | (go_at_call 27; (with_reducible refine (v22_Segment.calls (wrap64 (x10_2 + (wrap64 ((wrap64 (a0_1 + a0_2)) * (rd t223 x12_3))))) t230 _ A21.out).mono ?_); rintro e w' ⟨rfl, ⟨nd, rfl⟩⟩; (try first | exact ⟨rfl, _, World.drewN_drewN _ _ _⟩ | exact ⟨rfl, _, Eq.trans (World.drewN_drewN _ _ _) (congrArg (World.drewN _) (Nat.add_assoc _ _ _))⟩); obtain ⟨Ao24, co24, eo24⟩ := Kd.V_slice HO_11.out; subst eo24) | (go_at_call 26; (with_reducible refine (v22_added.calls k3 (fun k_ => (some k_ ≠ (.slice (some ad229) t223.length co23 : Value).ownBlock ∧ k_ ≠ gb222)) _ _ x11_3 t230 t231 _ ?side1 A22.out).mono ?_); (case side1 => exact HO_11.out); rintro e w25 ⟨v232, rfl, ho0, hb⟩; have n0_ := Aside0.mk (Kd.R_below (by (with_reducible repeat (first | apply Kd.R_alloc | apply Kd.R_drewN | apply Kd.R_drew)); exact HO_7.out) hb); have n1_ := Aside0.mk (Kd.V_below (by (with_reducible repeat (first | apply Kd.V_alloc | apply Kd.V_drewN | apply Kd.V_drew)); exact HO_11.out) hb); have n2_ := Aside0.mk (Kd.V_lower (Kd.V_mono (ok' := fun k_ => some k_ ≠ (.slice (some ad229) t223.length co23 : Value).ownBlock ∧ k_ ≠ gb222) ho0 (fun k_ hk_ => ⟨Or.elim hk_ (fun hs_ => hs_.1) (fun hn_ => (Kd.fresh' (Kd.R_lt (by (with_reducible repeat (first | apply Kd.R_alloc | apply Kd.R_drewN | apply Kd.R_drew)); exact HO_7.out)) k_ hn_)), Or.elim hk_ (fun hs_ => hs_.2) (fun hn_ => (Kd.freshB (g := gb222) (o := .cells #[.bool a0_0, .int .i64 a0_1, .int .i64 a0_2, .int .i64 a0_3, .int .i64 a0_4, .int .i64 a0_5, .int .i64 a0_6] 35 (0, 0)) (by (with_reducible repeat (first | refine bN ?_ _ | refine bD ?_ | refine bA ?_ _)); exact BK222.out) k_ hn_))⟩)) (below_size (by repeat (first | (with_reducible first | exact HB.out | apply pA | apply pN | apply p1_ | refine bS ?_ GE222.out) | exact HB.out)))); have n3_ := Aside0.mk (bB (g := gb222) (o := .cells #[.bool a0_0, .int .i64 a0_1, .int .i64 a0_2, .int .i64 a0_3, .int .i64 a0_4, .int .i64 a0_5, .int .i64 a0_6] 35 (0, 0)) (by (with_reducible repeat (first | refine bN ?_ _ | refine bD ?_ | refine bA ?_ _)); exact BK222.out) hb); have n4_ := Aside0.mk (below_step (by repeat (first | (with_reducible first | exact HB.out | apply pA | apply pN | apply p1_ | refine bS ?_ GE222.out) | exact HB.out)) hb); clear HO_7; clear HO_11; clear BK222; clear HB; have HO_7 := n0_; have HO_11 := n1_; have HO233 := n2_; have BK222 := n3_; have HB := n4_; clear n0_ n1_ n2_ n3_ n4_; (try clear hb); (try clear hb2); (try clear hk); (try clear hi); (try clear ho0)))
                        repeat (go_quiet (first | (go_at_call 27; (with_reducible refine (v22_Segment.calls (wrap64 (x10_2 + (wrap64 ((wrap64 (a0_1 + a0_2)) * (rd t223 x12_3))))) t230 _ A21.out).mono ?_); rintro e w' ⟨rfl, ⟨nd, rfl⟩⟩; (try first | exact ⟨rfl, _, World.drewN_drewN _ _ _⟩ | exact ⟨rfl, _, Eq.trans (World.drewN_drewN _ _ _) (congrArg (World.drewN _) (Nat.add_assoc _ _ _))⟩); obtain ⟨Ao24, co24, eo24⟩ := Kd.V_slice HO_11.out; subst eo24) | (go_at_call 26; (with_reducible refine (v22_added.calls k3 (fun k_ => (some k_ ≠ (.slice (some ad229) t223.length co23 : Value).ownBlock ∧ k_ ≠ gb222)) _ _ x11_3 t230 t231 _ ?side1 A22.out).mono ?_); (case side1 => exact HO_11.out); rintro e w25 ⟨v232, rfl, ho0, hb⟩; have n0_ := Aside0.mk (Kd.R_below (by (with_reducible repeat (first | apply Kd.R_alloc | apply Kd.R_drewN | apply Kd.R_drew)); exact HO_7.out) hb); have n1_ := Aside0.mk (Kd.V_below (by (with_reducible repeat (first | apply Kd.V_alloc | apply Kd.V_drewN | apply Kd.V_drew)); exact HO_11.out) hb); have n2_ := Aside0.mk (Kd.V_lower (Kd.V_mono (ok' := fun k_ => some k_ ≠ (.slice (some ad229) t223.length co23 : Value).ownBlock ∧ k_ ≠ gb222) ho0 (fun k_ hk_ => ⟨Or.elim hk_ (fun hs_ => hs_.1) (fun hn_ => (Kd.fresh' (Kd.R_lt (by (with_reducible repeat (first | apply Kd.R_alloc | apply Kd.R_drewN | apply Kd.R_drew)); exact HO_7.out)) k_ hn_)), Or.elim hk_ (fun hs_ => hs_.2) (fun hn_ => (Kd.freshB (g := gb222) (o := .cells #[.bool a0_0, .int .i64 a0_1, .int .i64 a0_2, .int .i64 a0_3, .int .i64 a0_4, .int .i64 a0_5, .int .i64 a0_6] 35 (0, 0)) (by (with_reducible repeat (first | refine bN ?_ _ | refine bD ?_ | refine bA ?_ _)); exact BK222.out) k_ hn_))⟩)) (below_size (by repeat (first | (with_reducible first | exact HB.out | apply pA | apply pN | apply p1_ | refine bS ?_ GE222.out) | exact HB.out)))); have n3_ := Aside0.mk (bB (g := gb222) (o := .cells #[.bool a0_0, .int .i64 a0_1, .int .i64 a0_2, .int .i64 a0_3, .int .i64 a0_4, .int .i64 a0_5, .int .i64 a0_6] 35 (0, 0)) (by (with_reducible repeat (first | refine bN ?_ _ | refine bD ?_ | refine bA ?_ _)); exact BK222.out) hb); have n4_ := Aside0.mk (below_step (by repeat (first | (with_reducible first | exact HB.out | apply pA | apply pN | apply p1_ | refine bS ?_ GE222.out) | exact HB.out)) hb); clear HO_7; clear HO_11; clear BK222; clear HB; have HO_7 := n0_; have HO_11 := n1_; have HO233 := n2_; have BK222 := n3_; have HB := n4_; clear n0_ n1_ n2_ n3_ n4_; (try clear hb); (try clear hb2); (try clear hk); (try clear hi); (try clear ho0))); try go_wp2_with (first | (go_at_call 27; (with_reducible refine (v22_Segment.calls (wrap64 (x10_2 + (wrap64 ((wrap64 (a0_1 + a0_2)) * (rd t223 x12_3))))) t230 _ A21.out).mono ?_); rintro e w' ⟨rfl, ⟨nd, rfl⟩⟩; (try first | exact ⟨rfl, _, World.drewN_drewN _ _ _⟩ | exact ⟨rfl, _, Eq.trans (World.drewN_drewN _ _ _) (congrArg (World.drewN _) (Nat.add_assoc _ _ _))⟩); obtain ⟨Ao24, co24, eo24⟩ := Kd.V_slice HO_11.out; subst eo24) | (go_at_call 26; (with_reducible refine (v22_added.calls k3 (fun k_ => (some k_ ≠ (.slice (some ad229) t223.length co23 : Value).ownBlock ∧ k_ ≠ gb222)) _ _ x11_3 t230 t231 _ ?side1 A22.out).mono ?_); (case side1 => exact HO_11.out); rintro e w25 ⟨v232, rfl, ho0, hb⟩; have n0_ := Aside0.mk (Kd.R_below (by (with_reducible repeat (first | apply Kd.R_alloc | apply Kd.R_drewN | apply Kd.R_drew)); exact HO_7.out) hb); have n1_ := Aside0.mk (Kd.V_below (by (with_reducible repeat (first | apply Kd.V_alloc | apply Kd.V_drewN | apply Kd.V_drew)); exact HO_11.out) hb); have n2_ := Aside0.mk (Kd.V_lower (Kd.V_mono (ok' := fun k_ => some k_ ≠ (.slice (some ad229) t223.length co23 : Value).ownBlock ∧ k_ ≠ gb222) ho0 (fun k_ hk_ => ⟨Or.elim hk_ (fun hs_ => hs_.1) (fun hn_ => (Kd.fresh' (Kd.R_lt (by (with_reducible repeat (first | apply Kd.R_alloc | apply Kd.R_drewN | apply Kd.R_drew)); exact HO_7.out)) k_ hn_)), Or.elim hk_ (fun hs_ => hs_.2) (fun hn_ => (Kd.freshB (g := gb222) (o := .cells #[.bool a0_0, .int .i64 a0_1, .int .i64 a0_2, .int .i64 a0_3, .int .i64 a0_4, .int .i64 a0_5, .int .i64 a0_6] 35 (0, 0)) (by (with_reducible repeat (first | refine bN ?_ _ | refine bD ?_ | refine bA ?_ _)); exact BK222.out) k_ hn_))⟩)) (below_size (by repeat (first | (with_reducible first | exact HB.out | apply pA | apply pN | apply p1_ | refine bS ?_ GE222.out) | exact HB.out)))); have n3_ := Aside0.mk (bB (g := gb222) (o := .cells #[.bool a0_0, .int .i64 a0_1, .int .i64 a0_2, .int .i64 a0_3, .int .i64 a0_4, .int .i64 a0_5, .int .i64 a0_6] 35 (0, 0)) (by (with_reducible repeat (first | refine bN ?_ _ | refine bD ?_ | refine bA ?_ _)); exact BK222.out) hb); have n4_ := Aside0.mk (below_step (by repeat (first | (with_reducible first | exact HB.out | apply pA | apply pN | apply p1_ | refine bS ?_ GE222.out) | exact HB.out)) hb); clear HO_7; clear HO_11; clear BK222; clear HB; have HO_7 := n0_; have HO_11 := n1_; have HO233 := n2_; have BK222 := n3_; have HB := n4_; clear n0_ n1_ n2_ n3_ n4_; (try clear hb); (try clear hb2); (try clear hk); (try clear hi); (try clear ho0))))
                        go_roundg k3
                        case measure => have := HJ4.out; have := HK2.out; have := HK3.out; omega
                        case rel => exact ⟨(t231), (wrap64 (x12_3 + 1)), (by first | rfl | (simp; done) | (simp [*]; done)), H', ⟨by have := HJ4.out; have := HK2.out; have := HK3.out; omega⟩, ⟨by (with_reducible repeat (first | apply Kd.R_alloc | apply Kd.R_drewN | apply Kd.R_drew)); exact HO_7.out⟩, ⟨by (with_reducible repeat (first | apply Kd.V_alloc | apply Kd.V_drewN | apply Kd.V_drew)); exact HO233.out⟩, ⟨by (with_reducible repeat (first | refine bN ?_ _ | refine bD ?_ | refine bA ?_ _)); exact BK222.out⟩, ⟨by repeat (first | (with_reducible first | exact HB.out | apply pA | apply pN | apply p1_ | refine bS ?_ GE222.out) | exact HB.out)⟩⟩
                      · rw [if_neg c20] at H
                        exact absurd H (by simp)
                    · rw [if_neg c19] at H
                      have c19b0 : decide (x12_3 < (t223.length : Int)) = false := decide_eq_false c19
                      clear c19
                      obtain ⟨ji26, hji26⟩ : ∃ j_ : Int, (mx x9_2 (x11_3.length : Int)) = j_ := ⟨_, rfl⟩
                      replace H : (v22_Static.l0 k3 t223 (wrap64 (a0_1 + a0_2)) ji26 (wrap64 (x10_2 + 1))) = some r := by first | (rw [hji26] at H; exact H) | (simp only [hji26] at H ⊢; exact H)
                      have hji26_ : (if x9_2 < (x11_3.length : Int) then (x11_3.length : Int) else x9_2) = ji26 := hji26
                      have H' := Aside0.mk H
                      clear H
                      obtain ⟨Ao27, co27, eo27⟩ := Kd.R_slice HO_7.out
                      subst eo27
                      obtain ⟨Ao28, co28, eo28⟩ := Kd.V_slice HO_11.out
                      subst eo28
                      go_wp2
                      repeat (go_quiet (fail); try go_wp2)
                      go_roundg k3
                      case measure => have := HJ4.out; have := HK2.out; have := HK3.out; omega
                      case rel => exact ⟨(ji26), (wrap64 (x10_2 + 1)), (by first | rfl | (simp; done) | (simp only [← hji26] <;> (first | rfl | simp)) | (simp [*]; done)), (by first | rfl | (simp; done) | (simp [*]; done)), H', ⟨by have := HJ4.out; have := HK2.out; have := HK3.out; omega⟩, ⟨by (with_reducible repeat (first | apply Kd.R_alloc | apply Kd.R_drewN | apply Kd.R_drew)); exact HO_7.out⟩, ⟨by (with_reducible repeat (first | refine bN ?_ _ | refine bD ?_ | refine bA ?_ _)); exact BK222.out⟩, ⟨by repeat (first | (with_reducible first | exact HB.out | apply pA | apply pN | apply p1_ | refine bS ?_ GE222.out) | exact HB.out)⟩⟩
              · rw [if_neg c16] at H
                have c16b0 : decide (x10_2 < 16) = false := decide_eq_false c16
                clear c16
                obtain rfl := Option.some.inj H
                go_wp2
                repeat (go_quiet (fail); try go_wp2)
                go_ret
                exact ⟨by first | rfl | (simp [errW_none, errW_some] <;> rfl) | (simp [*, errW_none, errW_some] <;> rfl), by repeat (first | (with_reducible first | exact HB.out | apply pA | apply pN | apply p1_ | refine bS ?_ GE222.out) | exact HB.out)⟩
        · rw [if_neg c14] at H
          have c14b0 : (a0_4 == a0_5) = false := beq_eq_false_iff_ne.mpr c14
          have c14b1 : (a0_4 != a0_5) = true := bne_iff_ne.mpr c14
          by_cases c29 : (wrap64 (a0_1 + a0_2)) < 0
          · rw [if_pos c29] at H
            have c29b0 : decide ((wrap64 (a0_1 + a0_2)) < 0) = true := decide_eq_true c29
            clear c29
            obtain ⟨ji30, hji30⟩ : ∃ j_ : Int, (wrap64 ((t223.length : Int) - 1)) = j_ := ⟨_, rfl⟩
            replace H : (if 0 ≤ (ji30) then (if (ji30) < (t223.length : Int) then (if 0 < (t223.length : Int) then (some (mn (t223.length : Int) (wrap64 ((wrap64 (Int.tdiv (wrap64 ((wrap64 ((wrap64 ((wrap64 ((wrap64 (-(wrap64 (a0_1 + a0_2)))) * (wrap64 ((rd t223 (ji30)) - (rd t223 0))))) + a0_5)) - a0_4)) - 1)) 16)) + 2)))) else (none)) else (none)) else (none)) = some r := by first | (rw [hji30] at H; exact H) | (simp only [hji30] at H ⊢; exact H)
            have hji30w : (IntKind.i64.wrap ((t223.length : Int) - 1)) = ji30 := (i64_w _).trans hji30
            by_cases c31 : 0 ≤ (ji30)
            · rw [if_pos c31] at H
              have c31b0 : decide (0 ≤ (ji30)) = true := decide_eq_true c31
              clear c31
              by_cases c32 : (ji30) < (t223.length : Int)
              · rw [if_pos c32] at H
                have c32b0 : decide ((ji30) < (t223.length : Int)) = true := decide_eq_true c32
                clear c32
                by_cases c33 : 0 < (t223.length : Int)
                · rw [if_pos c33] at H
                  have c33b0 : decide (0 < (t223.length : Int)) = true := decide_eq_true c33
                  have c33b1 : decide (0 < t223.length) = true := decide_eq_true (by omega)
                  clear c33
                  obtain ⟨ji34, hji34⟩ : ∃ j_ : Int, (mn (t223.length : Int) (wrap64 ((wrap64 (Int.tdiv (wrap64 ((wrap64 ((wrap64 ((wrap64 ((wrap64 (-(wrap64 (a0_1 + a0_2)))) * (wrap64 ((rd t223 (ji30)) - (rd t223 0))))) + a0_5)) - a0_4)) - 1)) 16)) + 2))) = j_ := ⟨_, rfl⟩
                  replace H : (some ji34) = some r := by first | (rw [hji34] at H; exact H) | (simp only [hji34] at H ⊢; exact H)
                  have hji34_ : (if (wrap64 ((wrap64 (Int.tdiv (wrap64 ((wrap64 ((wrap64 ((wrap64 ((wrap64 (-(wrap64 (a0_1 + a0_2)))) * (wrap64 ((rd t223 (ji30)) - (rd t223 0))))) + a0_5)) - a0_4)) - 1)) 16)) + 2)) < (t223.length : Int) then (wrap64 ((wrap64 (Int.tdiv (wrap64 ((wrap64 ((wrap64 ((wrap64 ((wrap64 (-(wrap64 (a0_1 + a0_2)))) * (wrap64 ((rd t223 (ji30)) - (rd t223 0))))) + a0_5)) - a0_4)) - 1)) 16)) + 2)) else (t223.length : Int)) = ji34 := hji34
                  obtain rfl := Option.some.inj H
                  have hcz35_0 : wc.cell? ⟨gb222, 0, none⟩ = some (.bool a0_0) := (bC BK222.out 0).trans rfl
                  have hcz35_1 : wc.cell? ⟨gb222, 1, none⟩ = some (.int .i64 a0_1) := (bC BK222.out 1).trans rfl
                  have hcz35_2 : wc.cell? ⟨gb222, 2, none⟩ = some (.int .i64 a0_2) := (bC BK222.out 2).trans rfl
                  have hcz35_3 : wc.cell? ⟨gb222, 3, none⟩ = some (.int .i64 a0_3) := (bC BK222.out 3).trans rfl
                  have hcz35_4 : wc.cell? ⟨gb222, 4, none⟩ = some (.int .i64 a0_4) := (bC BK222.out 4).trans rfl
                  have hcz35_5 : wc.cell? ⟨gb222, 5, none⟩ = some (.int .i64 a0_5) := (bC BK222.out 5).trans rfl
                  have hcz35_6 : wc.cell? ⟨gb222, 6, none⟩ = some (.int .i64 a0_6) := (bC BK222.out 6).trans rfl
                  have hfz35_0 := bF BK222.out 0
                  have hfz35_1 := bF BK222.out 1
                  have hfz35_2 := bF BK222.out 2
                  have hfz35_3 := bF BK222.out 3
                  have hfz35_4 := bF BK222.out 4
                  have hfz35_5 := bF BK222.out 5
                  have hfz35_6 := bF BK222.out 6
                  obtain ⟨Ao36, co36, eo36⟩ := Kd.R_slice HO_7.out
                  subst eo36
                  have p234 : 0 ≤ ((ji30) : Int) := of_decide_eq_true (by first | (with_reducible assumption) | assumption)
                  have q234 : (ji30) < (t223.length : Int) := of_decide_eq_true (by first | (with_reducible assumption) | assumption)
                  obtain ⟨ad234, e234, hx234_0⟩ := Kd.at_int (Kd.R_reads' HO_7.out).2.2 (ji30) p234 q234
                  cases e234
                  replace p234 := eq_true p234
                  replace q234 := eq_true q234
                  have p235 : 0 ≤ (0 : Int) := (by omega)
                  have q235 : 0 < (t223.length : Int) := of_decide_eq_true (by first | (with_reducible assumption) | assumption)
                  obtain ⟨ad235, e235, hx235_0⟩ := Kd.at_int (Kd.R_reads' HO_7.out).2.2 0 p235 q235
                  obtain rfl : ad234 = ad235 := (by injection e235)
                  have qi235 : (0 < t223.length) = True := eq_true (by omega)
                  (try rw [show ((0 : Int)).toNat = 0 from rfl] at hx235_0)
                  (try rw [Addr.add_zero'] at hx235_0)
                  replace p235 := eq_true p235
                  replace q235 := eq_true q235
                  go_wp2
                  repeat (go_quiet (fail); try go_wp2)
                  go_ret
                  exact ⟨by first | rfl | (simp [errW_none, errW_some] <;> rfl) | (simp only [← hji30, ← hji34]; first | rfl | (simp [errW_none, errW_some] <;> rfl)) | (simp [*, errW_none, errW_some] <;> rfl), by repeat (first | (with_reducible first | exact HB.out | apply pA | apply pN | apply p1_ | refine bS ?_ GE222.out) | exact HB.out)⟩
                · rw [if_neg c33] at H
                  exact absurd H (by simp)
              · rw [if_neg c32] at H
                exact absurd H (by simp)
            · rw [if_neg c31] at H
              exact absurd H (by simp)
          · rw [if_neg c29] at H
            have c29b0 : decide ((wrap64 (a0_1 + a0_2)) < 0) = false := decide_eq_false c29
            clear c29
            obtain ⟨ji37, hji37⟩ : ∃ j_ : Int, (wrap64 ((t223.length : Int) - 1)) = j_ := ⟨_, rfl⟩
            replace H : (if 0 ≤ (ji37) then (if (ji37) < (t223.length : Int) then (if 0 < (t223.length : Int) then (some (mn (t223.length : Int) (wrap64 ((wrap64 (Int.tdiv (wrap64 ((wrap64 ((wrap64 ((wrap64 ((wrap64 (a0_1 + a0_2)) * (wrap64 ((rd t223 (ji37)) - (rd t223 0))))) + a0_5)) - a0_4)) - 1)) 16)) + 2)))) else (none)) else (none)) else (none)) = some r := by first | (rw [hji37] at H; exact H) | (simp only [hji37] at H ⊢; exact H)
            have hji37w : (IntKind.i64.wrap ((t223.length : Int) - 1)) = ji37 := (i64_w _).trans hji37
            by_cases c38 : 0 ≤ (ji37)
            · rw [if_pos c38] at H
              have c38b0 : decide (0 ≤ (ji37)) = true := decide_eq_true c38
              clear c38
              by_cases c39 : (ji37) < (t223.length : Int)
              · rw [if_pos c39] at H
                have c39b0 : decide ((ji37) < (t223.length : Int)) = true := decide_eq_true c39
                clear c39
                by_cases c40 : 0 < (t223.length : Int)
                · rw [if_pos c40] at H
                  have c40b0 : decide (0 < (t223.length : Int)) = true := decide_eq_true c40
                  have c40b1 : decide (0 < t223.length) = true := decide_eq_true (by omega)
                  clear c40
                  obtain ⟨ji41, hji41⟩ : ∃ j_ : Int, (mn (t223.length : Int) (wrap64 ((wrap64 (Int.tdiv (wrap64 ((wrap64 ((wrap64 ((wrap64 ((wrap64 (a0_1 + a0_2)) * (wrap64 ((rd t223 (ji37)) - (rd t223 0))))) + a0_5)) - a0_4)) - 1)) 16)) + 2))) = j_ := ⟨_, rfl⟩
                  replace H : (some ji41) = some r := by first | (rw [hji41] at H; exact H) | (simp only [hji41] at H ⊢; exact H)
                  have hji41_ : (if (wrap64 ((wrap64 (Int.tdiv (wrap64 ((wrap64 ((wrap64 ((wrap64 ((wrap64 (a0_1 + a0_2)) * (wrap64 ((rd t223 (ji37)) - (rd t223 0))))) + a0_5)) - a0_4)) - 1)) 16)) + 2)) < (t223.length : Int) then (wrap64 ((wrap64 (Int.tdiv (wrap64 ((wrap64 ((wrap64 ((wrap64 ((wrap64 (a0_1 + a0_2)) * (wrap64 ((rd t223 (ji37)) - (rd t223 0))))) + a0_5)) - a0_4)) - 1)) 16)) + 2)) else (t223.length : Int)) = ji41 := hji41
                  obtain rfl := Option.some.inj H
                  have hcz42_0 : wc.cell? ⟨gb222, 0, none⟩ = some (.bool a0_0) := (bC BK222.out 0).trans rfl
                  have hcz42_1 : wc.cell? ⟨gb222, 1, none⟩ = some (.int .i64 a0_1) := (bC BK222.out 1).trans rfl
                  have hcz42_2 : wc.cell? ⟨gb222, 2, none⟩ = some (.int .i64 a0_2) := (bC BK222.out 2).trans rfl
                  have hcz42_3 : wc.cell? ⟨gb222, 3, none⟩ = some (.int .i64 a0_3) := (bC BK222.out 3).trans rfl
                  have hcz42_4 : wc.cell? ⟨gb222, 4, none⟩ = some (.int .i64 a0_4) := (bC BK222.out 4).trans rfl
                  have hcz42_5 : wc.cell? ⟨gb222, 5, none⟩ = some (.int .i64 a0_5) := (bC BK222.out 5).trans rfl
                  have hcz42_6 : wc.cell? ⟨gb222, 6, none⟩ = some (.int .i64 a0_6) := (bC BK222.out 6).trans rfl
                  have hfz42_0 := bF BK222.out 0
                  have hfz42_1 := bF BK222.out 1
                  have hfz42_2 := bF BK222.out 2
                  have hfz42_3 := bF BK222.out 3
                  have hfz42_4 := bF BK222.out 4
                  have hfz42_5 := bF BK222.out 5
                  have hfz42_6 := bF BK222.out 6
                  obtain ⟨Ao43, co43, eo43⟩ := Kd.R_slice HO_7.out
                  subst eo43
                  have p236 : 0 ≤ ((ji37) : Int) := of_decide_eq_true (by first | (with_reducible assumption) | assumption)
                  have q236 : (ji37) < (t223.length : Int) := of_decide_eq_true (by first | (with_reducible assumption) | assumption)
                  obtain ⟨ad236, e236, hx236_0⟩ := Kd.at_int (Kd.R_reads' HO_7.out).2.2 (ji37) p236 q236
                  cases e236
                  replace p236 := eq_true p236
                  replace q236 := eq_true q236
                  have p237 : 0 ≤ (0 : Int) := (by omega)
                  have q237 : 0 < (t223.length : Int) := of_decide_eq_true (by first | (with_reducible assumption) | assumption)
                  obtain ⟨ad237, e237, hx237_0⟩ := Kd.at_int (Kd.R_reads' HO_7.out).2.2 0 p237 q237
                  obtain rfl : ad236 = ad237 := (by injection e237)
                  have qi237 : (0 < t223.length) = True := eq_true (by omega)
                  (try rw [show ((0 : Int)).toNat = 0 from rfl] at hx237_0)
                  (try rw [Addr.add_zero'] at hx237_0)
                  replace p237 := eq_true p237
                  replace q237 := eq_true q237
                  go_wp2
                  repeat (go_quiet (fail); try go_wp2)
                  go_ret
                  exact ⟨by first | rfl | (simp [errW_none, errW_some] <;> rfl) | (simp only [← hji37, ← hji41]; first | rfl | (simp [errW_none, errW_some] <;> rfl)) | (simp [*, errW_none, errW_some] <;> rfl), by repeat (first | (with_reducible first | exact HB.out | apply pA | apply pN | apply p1_ | refine bS ?_ GE222.out) | exact HB.out)⟩
                · rw [if_neg c40] at H
                  exact absurd H (by simp)
              · rw [if_neg c39] at H
                exact absurd H (by simp)
            · rw [if_neg c38] at H
              exact absurd H (by simp)

/-! ### v22_Segments: function 15 -/
mutual
def v22_Segments.l0 : Nat → List Int → List Int → Int → Option (List Int)
  | 0, _, _, _ => none
  | k + 1, x0, x3, x4 => if x4 < (x0.length : Int) then (if 0 ≤ x4 then ((v22_Segment.f (rd x0 x4)).bind fun t242 => ((v22_added.f k x3 t242).bind fun t243 => (v22_Segments.l0 k x0 t243 (wrap64 (x4 + 1))))) else (none)) else (v22_Segments.l1 k x3 (([] : List Int)) 0)
def v22_Segments.l1 : Nat → List Int → List Int → Int → Option (List Int)
  | 0, _, _, _ => none
  | k + 1, x3, x5, x6 => if x6 < (x3.length : Int) then (if 0 ≤ x6 then (if x5.length < 17592186044416 then (v22_Segments.l1 k x3 (x5 ++ [rd x3 x6]) (wrap64 (x6 + 1))) else (none)) else (none)) else (some x5)
end
def v22_Segments.f (k : Nat) (l0 : List Int) : Option (List Int) := v22_Segments.l0 k l0 (([] : List Int)) 0
theorem v22_Segments.mono_l : ∀ k, (∀ y0 y1 y2, LeO (v22_Segments.l0 k y0 y1 y2) (v22_Segments.l0 (k + 1) y0 y1 y2)) ∧ (∀ y0 y1 y2, LeO (v22_Segments.l1 k y0 y1 y2) (v22_Segments.l1 (k + 1) y0 y1 y2))
  | 0 => ⟨fun _ _ _ r h => by simp [v22_Segments.l0] at h, fun _ _ _ r h => by simp [v22_Segments.l1] at h⟩
  | k + 1 => by
    obtain ⟨ih0, ih1⟩ := v22_Segments.mono_l k
    refine ⟨?_, ?_⟩
    · intro y0 y1 y2
      unfold v22_Segments.l0
      repeat' first
      | (with_reducible exact ih0 _ _ _)
      | (with_reducible exact ih1 _ _ _)
      | (with_reducible exact v22_added.mono _ _ _)
      | (with_reducible exact LeO.refl _)
      | (with_reducible exact LeO.none _)
      | (with_reducible refine LeO.ite ?_ ?_)
      | (with_reducible refine LeO.bind ?_ (fun _ => ?_))
      | exact ih0 _ _ _
      | exact ih1 _ _ _
      | exact v22_added.mono _ _ _
      | exact LeO.none _
      | refine LeO.ite ?_ ?_
      | refine LeO.bind ?_ (fun _ => ?_)
    · intro y0 y1 y2
      unfold v22_Segments.l1
      repeat' first
      | (with_reducible exact ih0 _ _ _)
      | (with_reducible exact ih1 _ _ _)
      | (with_reducible exact v22_added.mono _ _ _)
      | (with_reducible exact LeO.refl _)
      | (with_reducible exact LeO.none _)
      | (with_reducible refine LeO.ite ?_ ?_)
      | (with_reducible refine LeO.bind ?_ (fun _ => ?_))
      | exact ih0 _ _ _
      | exact ih1 _ _ _
      | exact v22_added.mono _ _ _
      | exact LeO.none _
      | refine LeO.ite ?_ ?_
      | refine LeO.bind ?_ (fun _ => ?_)
theorem v22_Segments.mono : ∀ a0 k, LeO (v22_Segments.f k a0) (v22_Segments.f (k + 1) a0) := by
  intro a0 k
  obtain ⟨ih0, ih1⟩ := v22_Segments.mono_l k
  unfold v22_Segments.f
  repeat' first
      | (with_reducible exact ih0 _ _ _)
      | (with_reducible exact ih1 _ _ _)
      | (with_reducible exact v22_added.mono _ _ _)
      | (with_reducible exact LeO.refl _)
      | (with_reducible exact LeO.none _)
      | (with_reducible refine LeO.ite ?_ ?_)
      | (with_reducible refine LeO.bind ?_ (fun _ => ?_))
      | exact ih0 _ _ _
      | exact ih1 _ _ _
      | exact v22_added.mono _ _ _
      | exact LeO.none _
      | refine LeO.ite ?_ ?_
      | refine LeO.bind ?_ (fun _ => ?_)
set_option maxHeartbeats 8000000 in
set_option maxRecDepth 100000 in
theorem v22_Segments.calls (k : Nat) (A0 : Option Addr) (c0 : Nat) (l0 : List Int) (r : List Int) (w : World) (hr0 : Kd.C (Kd.int .i64) w A0 l0.length l0) (hc0 : l0.length ≤ c0) (h : v22_Segments.f k l0 = some r) :
    Calls Tryd.prog 15 #[.slice A0 l0.length c0] w fun e w' => ∃ v0_ : Value, e = .returned (v0_) ∧ Kd.R (Kd.int .i64) 3 w' w.heap.size (fun _ => True) v0_ r ∧ Below w.heap.size w w' := by
  have HR0 := Aside0.mk hr0
  have HC0 := Aside0.mk hc0
  clear hr0 hc0
  have HB := Aside0.mk (Below.refl w.heap.size w)
  have H : (v22_Segments.l0 k l0 (([] : List Int)) 0) = some r := h
  clear h
  obtain ⟨y238, hy238⟩ : ∃ y_ : List Int, y_ = (([] : List Int)) := ⟨_, rfl⟩
  replace H : (v22_Segments.l0 k l0 y238 0) = some r := by first | (rw [hy238]; with_reducible exact H) | (have H2_ := (Option.bind_some _ _).symm.trans H; rw [hy238]; with_reducible exact H2_) | (have H2_ := (Option.bind_some _ _).symm.trans H; with_reducible exact H2_) | with_reducible exact H | (rw [hy238]; exact H) | exact H
  have Ny238 := Aside0.mk hy238
  clear hy238
  have H' := Aside0.mk H
  clear H
  go_enter Tryd.func15, Tryd.ntmps15
  go_wp2_with (first | ((with_reducible refine gate_dst (N := 7) rfl ?_); refine Kd.R_lit (Kd.int .i64) _ 2 ?hg (N := 7) ?hd (xs := ([] : List Int)) (inner := []) (ok := fun _ => True) (okp := fun _ => True) ?hr ?hp (fun _ hk => hk) trivial (Below.refl _ _) (Nat.le_refl _) (by simp) ?_; (case hd => rfl); (case hg => rfl); (case hr => first | (go_simp; done) | (go_simp; rfl)); (case hp => exact (Reps.none _ _)); intro v239 w2 ho3 hb hg_ hnew_; clear hg_ hnew_; (first | rw [← Ny238.out] at ho3 | (simp only [Int.reduceToNat] at ho3; rw [← Ny238.out] at ho3)); have n0_ := Aside0.mk (Kd.R_lower ho3 (below_size (by repeat (first | (with_reducible first | exact HB.out | apply pA | apply pN | apply p1_) | exact HB.out)))); have n1_ := Aside0.mk (below_step (by repeat (first | (with_reducible first | exact HB.out | apply pA | apply pN | apply p1_) | exact HB.out)) hb); clear HB; have HO240 := n0_; have HB := n1_; clear n0_ n1_; clear hb ho3))
  go_loopg [3, 4] k (fun kq v3 v4 w' => ∃ (x3_1 : List Int) (x4_1 : Int), v4 = .int .i64 x4_1 ∧ Aside0 (v22_Segments.l0 kq l0 x3_1 x4_1 = some r) ∧ Aside0 (kq ≤ k) ∧ Aside0 (Kd.V (Kd.int .i64) 2 w' w.heap.size (fun _ => True) v3 x3_1) ∧ Aside0 (Below w.heap.size w w'))
  case atStart => exact ⟨(y238), (0), (by first | rfl | (simp; done) | (simp [*]; done)), H', ⟨Nat.le_refl _⟩, ⟨Kd.R_V (by (with_reducible repeat (first | apply Kd.R_alloc | apply Kd.R_drewN | apply Kd.R_drew)); exact HO240.out)⟩, ⟨by repeat (first | (with_reducible first | exact HB.out | apply pA | apply pN | apply p1_) | exact HB.out)⟩⟩
  case round =>
    clear H'
    try clear c1
    try clear p2
    obtain ⟨x3_1, x4_1, rfl, HA, HK1, HO_3, HB⟩ := hrel
    cases gk with
    | zero => exact absurd HA.out (by simp [v22_Segments.l0])
    | succ k1 =>
      have H := HA.out
      clear HA
      simp only [v22_Segments.l0] at H
      by_cases c4 : x4_1 < (l0.length : Int)
      · rw [if_pos c4] at H
        have c4b0 : decide (x4_1 < (l0.length : Int)) = true := decide_eq_true c4
        clear c4
        by_cases c5 : 0 ≤ x4_1
        · rw [if_pos c5] at H
          have c5b0 : decide (0 ≤ x4_1) = true := decide_eq_true c5
          clear c5
          replace H := Option.bind_eq_some_iff.mp H
          obtain ⟨t242, A60, H⟩ := H
          replace H : ((v22_added.f k1 x3_1 t242).bind fun t243 => (v22_Segments.l0 k1 l0 t243 (wrap64 (x4_1 + 1)))) = some r := H
          have A6 := Aside0.mk A60
          clear A60
          replace H := Option.bind_eq_some_iff.mp H
          obtain ⟨t243, A70, H⟩ := H
          replace H : (v22_Segments.l0 k1 l0 t243 (wrap64 (x4_1 + 1))) = some r := H
          have A7 := Aside0.mk A70
          clear A70
          have H' := Aside0.mk H
          clear H
          have p241 : 0 ≤ (x4_1 : Int) := of_decide_eq_true (by first | (with_reducible assumption) | assumption)
          have q241 : x4_1 < (l0.length : Int) := of_decide_eq_true (by first | (with_reducible assumption) | assumption)
          obtain ⟨ad241, e241, hx241_0⟩ := Kd.at_int HR0.out x4_1 p241 q241
          cases e241
          replace hx241_0 := (HB.out.cell (World.block_lt_of_cell? w _ hx241_0)).trans hx241_0
          replace p241 := eq_true p241
          replace q241 := eq_true q241
          go_wp2_with (first | ((with_reducible refine gate_callee (f := 27) rfl ?_); refine goesL_ (some 19) rfl rfl Tryd.func27 (by kernel_rfl) rfl #[.int .i64 (rd l0 x4_1)] rfl (by (try simp only [List.map_toArray, List.map_cons, List.map_nil]); first | done | rfl | (simp only [List.length_drop, List.length_take]; rfl)) ?_; (with_reducible refine (v22_Segment.calls (rd l0 x4_1) t242 _ A6.out).mono ?_); rintro e w' ⟨rfl, ⟨nd, rfl⟩⟩; refine ⟨_, rfl, ?_⟩; obtain ⟨Ao8, co8, eo8⟩ := Kd.V_slice HO_3.out; subst eo8) | ((with_reducible refine gate_callee (f := 26) rfl ?_); refine goesL_ (some 20) rfl rfl Tryd.func26 (by kernel_rfl) rfl #[.slice Ao8 x3_1.length co8, .int .i64 t242] rfl (by (try simp only [List.map_toArray, List.map_cons, List.map_nil]); first | done | rfl | (simp only [List.length_drop, List.length_take]; rfl)) ?_; (with_reducible refine (v22_added.calls k1 (fun k_ => True) _ _ x3_1 t242 t243 _ ?side1 A7.out).mono ?_); (case side1 => exact HO_3.out); rintro e w9 ⟨v244, rfl, ho0, hb⟩; refine ⟨_, rfl, ?_⟩; have n0_ := Aside0.mk (Kd.V_below (by (with_reducible repeat (first | apply Kd.V_alloc | apply Kd.V_drewN | apply Kd.V_drew)); exact HO_3.out) hb); have n1_ := Aside0.mk (Kd.V_lower (Kd.V_mono (ok' := fun k_ => True) ho0 (fun k_ hk_ => trivial)) (below_size (by repeat (first | (with_reducible first | exact HB.out | apply pA | apply pN | apply p1_) | exact HB.out)))); have n2_ := Aside0.mk (below_step (by repeat (first | (with_reducible first | exact HB.out | apply pA | apply pN | apply p1_) | exact HB.out)) hb); clear HO_3; clear HB; have HO_3 := n0_; have HO245 := n1_; have HB := n2_; clear n0_ n1_ n2_; (try clear hb); (try clear hb2); (try clear hk); (try clear hi); (try clear ho0)))
          go_roundg k1
          case measure => have := HK1.out; omega
          case rel => exact ⟨(t243), (wrap64 (x4_1 + 1)), (by first | rfl | (simp; done) | (simp [*]; done)), H', ⟨by have := HK1.out; omega⟩, ⟨by (with_reducible repeat (first | apply Kd.V_alloc | apply Kd.V_drewN | apply Kd.V_drew)); exact HO245.out⟩, ⟨by repeat (first | (with_reducible first | exact HB.out | apply pA | apply pN | apply p1_) | exact HB.out)⟩⟩
        · rw [if_neg c5] at H
          exact absurd H (by simp)
      · rw [if_neg c4] at H
        have c4b0 : decide (x4_1 < (l0.length : Int)) = false := decide_eq_false c4
        clear c4
        obtain ⟨y246, hy246⟩ : ∃ y_ : List Int, y_ = (([] : List Int)) := ⟨_, rfl⟩
        replace H : (v22_Segments.l1 k1 x3_1 y246 0) = some r := by first | (rw [hy246]; with_reducible exact H) | (have H2_ := (Option.bind_some _ _).symm.trans H; rw [hy246]; with_reducible exact H2_) | (have H2_ := (Option.bind_some _ _).symm.trans H; with_reducible exact H2_) | with_reducible exact H | (rw [hy246]; exact H) | exact H
        have Ny246 := Aside0.mk hy246
        clear hy246
        have H' := Aside0.mk H
        clear H
        go_wp2_with (first | ((with_reducible refine gate_dst (N := 21) rfl ?_); refine Kd.R_lit (Kd.int .i64) _ 3 ?hg (N := 21) ?hd (xs := ([] : List Int)) (inner := []) (ok := fun _ => True) (okp := fun _ => True) ?hr ?hp (fun _ hk => hk) trivial (Below.refl _ _) (Nat.le_refl _) (by simp) ?_; (case hd => rfl); (case hg => rfl); (case hr => first | (go_simp; done) | (go_simp; rfl)); (case hp => exact (Reps.none _ _)); intro v247 w10 ho11 hb hg_ hnew_; clear hg_ hnew_; (first | rw [← Ny246.out] at ho11 | (simp only [Int.reduceToNat] at ho11; rw [← Ny246.out] at ho11)); have n0_ := Aside0.mk (Kd.V_elder' (by (with_reducible repeat (first | apply Kd.V_alloc | apply Kd.V_drewN | apply Kd.V_drew)); exact HO_3.out) (Kd.R_base ho11) hb); have n1_ := Aside0.mk (Kd.R_lower ho11 (below_size (by repeat (first | (with_reducible first | exact HB.out | apply pA | apply pN | apply p1_) | exact HB.out)))); have n2_ := Aside0.mk (below_step (by repeat (first | (with_reducible first | exact HB.out | apply pA | apply pN | apply p1_) | exact HB.out)) hb); clear HO_3; clear HB; have HO_3 := n0_; have HO248 := n1_; have HB := n2_; clear n0_ n1_ n2_; clear hb ho11))
        go_loopg [5, 6] k1 (fun kq v5 v6 w' => ∃ (x5_2 : List Int) (x6_2 : Int), v6 = .int .i64 x6_2 ∧ Aside0 (v22_Segments.l1 kq x3_1 x5_2 x6_2 = some r) ∧ Aside0 (kq ≤ k1) ∧ Aside0 (Kd.V (Kd.int .i64) 2 w' w.heap.size (fun k_ => some k_ ≠ (v5 : Value).ownBlock) u3 x3_1) ∧ Aside0 (Kd.R (Kd.int .i64) 3 w' w.heap.size (fun _ => True) v5 x5_2) ∧ Aside0 (Below w.heap.size w w'))
        case atStart => exact ⟨(y246), (0), (by first | rfl | (simp; done) | (simp [*]; done)), H', ⟨Nat.le_refl _⟩, ⟨by (with_reducible repeat (first | apply Kd.V_alloc | apply Kd.V_drewN | apply Kd.V_drew)); exact Kd.V_mono HO_3.out (fun _ hk => hk.2)⟩, ⟨by (with_reducible repeat (first | apply Kd.R_alloc | apply Kd.R_drewN | apply Kd.R_drew)); exact HO248.out⟩, ⟨by repeat (first | (with_reducible first | exact HB.out | apply pA | apply pN | apply p1_) | exact HB.out)⟩⟩
        case round =>
          clear H'
          try clear c1
          try clear c2
          try clear p2
          try clear q2
          try clear hx2
          try clear c4
          try clear c4b0
          try clear c5
          try clear c5b0
          try clear p6
          try clear hx241_0
          try clear p2
          try clear p241
          try clear q241
          obtain ⟨x5_2, x6_2, rfl, HA, HK2, HO_3, HO_5, HB⟩ := hrel
          cases gk with
          | zero => exact absurd HA.out (by simp [v22_Segments.l1])
          | succ k2 =>
            have H := HA.out
            clear HA
            simp only [v22_Segments.l1] at H
            by_cases c12 : x6_2 < (x3_1.length : Int)
            · rw [if_pos c12] at H
              have c12b0 : decide (x6_2 < (x3_1.length : Int)) = true := decide_eq_true c12
              clear c12
              by_cases c13 : 0 ≤ x6_2
              · rw [if_pos c13] at H
                have c13b0 : decide (0 ≤ x6_2) = true := decide_eq_true c13
                clear c13
                by_cases c14 : x5_2.length < 17592186044416
                · rw [if_pos c14] at H
                  have LMc14 := Aside0.mk c14
                  clear c14
                  obtain ⟨y250, hy250⟩ : ∃ y_ : List Int, y_ = (x5_2 ++ [rd x3_1 x6_2]) := ⟨_, rfl⟩
                  replace H : (v22_Segments.l1 k2 x3_1 y250 (wrap64 (x6_2 + 1))) = some r := by first | (rw [hy250]; with_reducible exact H) | (have H2_ := (Option.bind_some _ _).symm.trans H; rw [hy250]; with_reducible exact H2_) | (have H2_ := (Option.bind_some _ _).symm.trans H; with_reducible exact H2_) | with_reducible exact H | (rw [hy250]; exact H) | exact H
                  have Ny250 := Aside0.mk hy250
                  clear hy250
                  have H' := Aside0.mk H
                  clear H
                  obtain ⟨Ao15, co15, eo15⟩ := Kd.V_slice HO_3.out
                  subst eo15
                  have p249 : 0 ≤ (x6_2 : Int) := of_decide_eq_true (by first | (with_reducible assumption) | assumption)
                  have q249 : x6_2 < (x3_1.length : Int) := of_decide_eq_true (by first | (with_reducible assumption) | assumption)
                  obtain ⟨ad249, e249, hx249_0⟩ := Kd.at_int (Kd.V_reads' HO_3.out).2.2 x6_2 p249 q249
                  cases e249
                  replace p249 := eq_true p249
                  replace q249 := eq_true q249
                  go_wp2_with (first | ((with_reducible refine gate_builtin (b := .append) (xs := #[.tmp 28, .tmp 33]) rfl ?_); at_builtin; refine Kd.R_append (Kd.int .i64) (w0 := w) w.heap.size rfl (.tmp 28) (.tmp 33) 22 3 (.int .i64 0) 8 rfl Tryd.underlying22 info3 rfl (by decide) (by omega) u5 x5_2 (rd x3_1 x6_2) [.int .i64 (rd x3_1 x6_2)] (fun _ => True) (fun _ => False) rfl rfl ?aP (fun _ hk => hk.elim) ?aF ?aO ?aB ?aS ?aL ?_; (case aP => exact rfl); (case aB => exact (by repeat (first | (with_reducible first | exact HB.out | apply pA | apply pN | apply p1_) | exact HB.out))); (case aF => exact (fun _ _ => trivial)); (case aO => exact (by (with_reducible repeat (first | apply Kd.R_alloc | apply Kd.R_drewN | apply Kd.R_drew)); exact HO_5.out)); (case aS => exact (below_size (by repeat (first | (with_reducible first | exact HB.out | apply pA | apply pN | apply p1_) | exact HB.out)))); (case aL => have := LMc14.out; omega); intro v251 w16 ho hb hg hat; rw [← Ny250.out] at ho; have n0_ := Aside0.mk (Kd.V_afterv (ok := (fun _ => True)) (by (with_reducible repeat (first | apply Kd.V_alloc | apply Kd.V_drewN | apply Kd.V_drew)); exact Kd.V_mono HO_3.out (fun _ hk => ⟨trivial, hk⟩)) hg hat); have n1_ := Aside0.mk (hb); have n2_ := Aside0.mk (ho); clear HO_3; clear HB; clear HO_5; have HO_3 := n0_; have HB := n1_; have HO252 := n2_; clear n0_ n1_ n2_; clear ho hb hg hat))
                  go_roundg k2
                  case measure => have := HK1.out; have := HK2.out; omega
                  case rel => exact ⟨(y250), (wrap64 (x6_2 + 1)), (by first | rfl | (simp; done) | (simp [*]; done)), H', ⟨by have := HK1.out; have := HK2.out; omega⟩, ⟨by (with_reducible repeat (first | apply Kd.V_alloc | apply Kd.V_drewN | apply Kd.V_drew)); exact Kd.V_mono HO_3.out (fun _ hk => hk.2)⟩, ⟨by (with_reducible repeat (first | apply Kd.R_alloc | apply Kd.R_drewN | apply Kd.R_drew)); exact HO252.out⟩, ⟨by repeat (first | (with_reducible first | exact HB.out | apply pA | apply pN | apply p1_) | exact HB.out)⟩⟩
                · rw [if_neg c14] at H
                  exact absurd H (by simp)
              · rw [if_neg c13] at H
                exact absurd H (by simp)
            · rw [if_neg c12] at H
              have c12b0 : decide (x6_2 < (x3_1.length : Int)) = false := decide_eq_false c12
              clear c12
              obtain rfl := Option.some.inj H
              obtain ⟨Ao17, co17, eo17⟩ := Kd.V_slice HO_3.out
              subst eo17
              go_wp2
              go_ret
              exact ⟨_, by first | rfl | (simp [errW_none, errW_some] <;> rfl) | (simp [*, errW_none, errW_some] <;> rfl), by (with_reducible repeat (first | apply Kd.R_alloc | apply Kd.R_drewN | apply Kd.R_drew)); exact HO_5.out, by repeat (first | (with_reducible first | exact HB.out | apply pA | apply pN | apply p1_) | exact HB.out)⟩

/-! ### v22_Counts: function 30 -/
def v22_Counts.f (a0_0 : Int) (a0_1 : Int) (a0_2 : Int) (a0_3 : Int) (a0_4 : Int) (a0_5 : Int) (a0_6 : Int) (a0_7 : Int) (a0_8 : Int) (l1 : List (S31)) : Option (Bool) := if a0_0 ≥ 1 then (if a0_0 ≤ 3 then (if a0_6 ≥ 0 then (if a0_6 < (l1.length : Int) then (if 0 ≤ a0_6 then (some (((rd_T31 l1 a0_6).f1) == 1)) else (none)) else (some false)) else (some false)) else (some false)) else (some false)
set_option maxHeartbeats 8000000 in
set_option maxRecDepth 100000 in
theorem v22_Counts.calls (a0_0 : Int) (a0_1 : Int) (a0_2 : Int) (a0_3 : Int) (a0_4 : Int) (a0_5 : Int) (a0_6 : Int) (a0_7 : Int) (a0_8 : Int) (A1 : Option Addr) (c1 : Nat) (l1 : List (S31)) (r : Bool) (w : World) (hr1 : Kd.C k31 w A1 l1.length l1) (hc1 : l1.length ≤ c1) (h : v22_Counts.f a0_0 a0_1 a0_2 a0_3 a0_4 a0_5 a0_6 a0_7 a0_8 l1 = some r) :
    Calls Tryd.prog 30 #[.agg #[.int .i64 a0_0, .int .i64 a0_1, .int .i64 a0_2, .int .i64 a0_3, .int .i64 a0_4, .int .i64 a0_5, .int .i64 a0_6, .int .i64 a0_7, .int .i32 a0_8], .slice A1 l1.length c1] w fun e w' => e = .returned (.bool r) ∧ Below w.heap.size w w' := by
  have hu47 := Tryd.underlying47
  have HR1 := Aside0.mk hr1
  have HC1 := Aside0.mk hc1
  clear hr1 hc1
  have HB := Aside0.mk (Below.refl w.heap.size w)
  have H : (if a0_0 ≥ 1 then (if a0_0 ≤ 3 then (if a0_6 ≥ 0 then (if a0_6 < (l1.length : Int) then (if 0 ≤ a0_6 then (some (((rd_T31 l1 a0_6).f1) == 1)) else (none)) else (some false)) else (some false)) else (some false)) else (some false)) = some r := h
  clear h
  by_cases c3 : a0_0 ≥ 1
  · rw [if_pos c3] at H
    have c3b0 : decide (1 ≤ a0_0) = true := decide_eq_true c3
    clear c3
    by_cases c4 : a0_0 ≤ 3
    · rw [if_pos c4] at H
      have c4b0 : decide (a0_0 ≤ 3) = true := decide_eq_true c4
      clear c4
      by_cases c5 : a0_6 ≥ 0
      · rw [if_pos c5] at H
        have c5b0 : decide (0 ≤ a0_6) = true := decide_eq_true c5
        clear c5
        by_cases c6 : a0_6 < (l1.length : Int)
        · rw [if_pos c6] at H
          have c6b0 : decide (a0_6 < (l1.length : Int)) = true := decide_eq_true c6
          clear c6
          by_cases c7 : 0 ≤ a0_6
          · rw [if_pos c7] at H
            have c7b0 : decide (0 ≤ a0_6) = true := decide_eq_true c7
            clear c7
            obtain rfl := Option.some.inj H
            go_enter Tryd.func30, Tryd.ntmps30
            go_wp2_with (first | ((with_reducible refine gate_dst (N := 2) rfl ?_); (try (refine gate_guard (by rfl) ?_; dsimp only)); refine box_event ?hg (N := 2) ?hd (cs := #[.int .i64 a0_0, .int .i64 a0_1, .int .i64 a0_2, .int .i64 a0_3, .int .i64 a0_4, .int .i64 a0_5, .int .i64 a0_6, .int .i64 a0_7, .int .i32 a0_8]) (t := 47) ?hr ?_; (case hd => rfl); (case hg => rfl); (case hr => first | (go_simp; done) | (go_simp; rfl)); intro gb253 hg w8 hbox hb; have n0_ := Aside0.mk (below_step (by repeat (first | (with_reducible first | exact HB.out | apply pA | apply pN | apply p1_) | exact HB.out)) hb); have n1_ := Aside0.mk (hbox); have n2_ := Aside0.mk ((by rw [hg]; exact (below_size (by repeat (first | (with_reducible first | exact HB.out | apply pA | apply pN | apply p1_) | exact HB.out))) : w.heap.size ≤ gb253)); have n3_ := Aside0.mk ((by rw [hg]; exact (below_size (by repeat (first | (with_reducible first | exact HB.out | apply pA | apply pN | apply p1_) | exact HB.out))) : w.heap.size ≤ gb253)); clear HB; have HB := n0_; have BK253 := n1_; have GW253 := n2_; have GE253 := n3_; clear n0_ n1_ n2_ n3_; clear hb hbox hg; have hcz9_0 : w8.cell? ⟨gb253, 0, none⟩ = some (.int .i64 a0_0) := (bC BK253.out 0).trans rfl; have hcz9_1 : w8.cell? ⟨gb253, 1, none⟩ = some (.int .i64 a0_1) := (bC BK253.out 1).trans rfl; have hcz9_2 : w8.cell? ⟨gb253, 2, none⟩ = some (.int .i64 a0_2) := (bC BK253.out 2).trans rfl; have hcz9_3 : w8.cell? ⟨gb253, 3, none⟩ = some (.int .i64 a0_3) := (bC BK253.out 3).trans rfl; have hcz9_4 : w8.cell? ⟨gb253, 4, none⟩ = some (.int .i64 a0_4) := (bC BK253.out 4).trans rfl; have hcz9_5 : w8.cell? ⟨gb253, 5, none⟩ = some (.int .i64 a0_5) := (bC BK253.out 5).trans rfl; have hcz9_6 : w8.cell? ⟨gb253, 6, none⟩ = some (.int .i64 a0_6) := (bC BK253.out 6).trans rfl; have hcz9_7 : w8.cell? ⟨gb253, 7, none⟩ = some (.int .i64 a0_7) := (bC BK253.out 7).trans rfl; have hcz9_8 : w8.cell? ⟨gb253, 8, none⟩ = some (.int .i32 a0_8) := (bC BK253.out 8).trans rfl; have hfz9_0 := bF BK253.out 0; have hfz9_1 := bF BK253.out 1; have hfz9_2 := bF BK253.out 2; have hfz9_3 := bF BK253.out 3; have hfz9_4 := bF BK253.out 4; have hfz9_5 := bF BK253.out 5; have hfz9_6 := bF BK253.out 6; have hfz9_7 := bF BK253.out 7; have hfz9_8 := bF BK253.out 8; have p254 : 0 ≤ (a0_6 : Int) := of_decide_eq_true (by first | (with_reducible assumption) | assumption); have q254 : a0_6 < (l1.length : Int) := of_decide_eq_true (by first | (with_reducible assumption) | assumption); obtain ⟨ad254, e254, hx254_0, hx254_1, hx254_2, hx254_3⟩ := at_T31 HR1.out a0_6 p254 q254; cases e254; replace hx254_0 := (HB.out.cell (World.block_lt_of_cell? w _ hx254_0)).trans hx254_0; replace hx254_1 := (HB.out.cell (World.block_lt_of_cell? w _ hx254_1)).trans hx254_1; replace hx254_2 := (HB.out.cell (World.block_lt_of_cell? w _ hx254_2)).trans hx254_2; replace hx254_3 := (HB.out.cell (World.block_lt_of_cell? w _ hx254_3)).trans hx254_3; replace p254 := eq_true p254; replace q254 := eq_true q254))
            go_ret
            exact ⟨by first | rfl | (simp [errW_none, errW_some] <;> rfl) | (simp [*, errW_none, errW_some] <;> rfl), by repeat (first | (with_reducible first | exact HB.out | apply pA | apply pN | apply p1_ | refine bS ?_ GE253.out) | exact HB.out)⟩
          · rw [if_neg c7] at H
            exact absurd H (by simp)
        · rw [if_neg c6] at H
          have c6b0 : decide (a0_6 < (l1.length : Int)) = false := decide_eq_false c6
          clear c6
          obtain rfl := Option.some.inj H
          go_enter Tryd.func30, Tryd.ntmps30
          go_wp2_with (first | ((with_reducible refine gate_dst (N := 2) rfl ?_); (try (refine gate_guard (by rfl) ?_; dsimp only)); refine box_event ?hg (N := 2) ?hd (cs := #[.int .i64 a0_0, .int .i64 a0_1, .int .i64 a0_2, .int .i64 a0_3, .int .i64 a0_4, .int .i64 a0_5, .int .i64 a0_6, .int .i64 a0_7, .int .i32 a0_8]) (t := 47) ?hr ?_; (case hd => rfl); (case hg => rfl); (case hr => first | (go_simp; done) | (go_simp; rfl)); intro gb253 hg w10 hbox hb; have n0_ := Aside0.mk (below_step (by repeat (first | (with_reducible first | exact HB.out | apply pA | apply pN | apply p1_) | exact HB.out)) hb); have n1_ := Aside0.mk (hbox); have n2_ := Aside0.mk ((by rw [hg]; exact (below_size (by repeat (first | (with_reducible first | exact HB.out | apply pA | apply pN | apply p1_) | exact HB.out))) : w.heap.size ≤ gb253)); have n3_ := Aside0.mk ((by rw [hg]; exact (below_size (by repeat (first | (with_reducible first | exact HB.out | apply pA | apply pN | apply p1_) | exact HB.out))) : w.heap.size ≤ gb253)); clear HB; have HB := n0_; have BK253 := n1_; have GW253 := n2_; have GE253 := n3_; clear n0_ n1_ n2_ n3_; clear hb hbox hg; have hcz11_0 : w10.cell? ⟨gb253, 0, none⟩ = some (.int .i64 a0_0) := (bC BK253.out 0).trans rfl; have hcz11_1 : w10.cell? ⟨gb253, 1, none⟩ = some (.int .i64 a0_1) := (bC BK253.out 1).trans rfl; have hcz11_2 : w10.cell? ⟨gb253, 2, none⟩ = some (.int .i64 a0_2) := (bC BK253.out 2).trans rfl; have hcz11_3 : w10.cell? ⟨gb253, 3, none⟩ = some (.int .i64 a0_3) := (bC BK253.out 3).trans rfl; have hcz11_4 : w10.cell? ⟨gb253, 4, none⟩ = some (.int .i64 a0_4) := (bC BK253.out 4).trans rfl; have hcz11_5 : w10.cell? ⟨gb253, 5, none⟩ = some (.int .i64 a0_5) := (bC BK253.out 5).trans rfl; have hcz11_6 : w10.cell? ⟨gb253, 6, none⟩ = some (.int .i64 a0_6) := (bC BK253.out 6).trans rfl; have hcz11_7 : w10.cell? ⟨gb253, 7, none⟩ = some (.int .i64 a0_7) := (bC BK253.out 7).trans rfl; have hcz11_8 : w10.cell? ⟨gb253, 8, none⟩ = some (.int .i32 a0_8) := (bC BK253.out 8).trans rfl; have hfz11_0 := bF BK253.out 0; have hfz11_1 := bF BK253.out 1; have hfz11_2 := bF BK253.out 2; have hfz11_3 := bF BK253.out 3; have hfz11_4 := bF BK253.out 4; have hfz11_5 := bF BK253.out 5; have hfz11_6 := bF BK253.out 6; have hfz11_7 := bF BK253.out 7; have hfz11_8 := bF BK253.out 8))
          go_ret
          exact ⟨by first | rfl | (simp [errW_none, errW_some] <;> rfl) | (simp [*, errW_none, errW_some] <;> rfl), by repeat (first | (with_reducible first | exact HB.out | apply pA | apply pN | apply p1_ | refine bS ?_ GE253.out) | exact HB.out)⟩
      · rw [if_neg c5] at H
        have c5b0 : decide (0 ≤ a0_6) = false := decide_eq_false c5
        clear c5
        obtain rfl := Option.some.inj H
        go_enter Tryd.func30, Tryd.ntmps30
        go_wp2_with (first | ((with_reducible refine gate_dst (N := 2) rfl ?_); (try (refine gate_guard (by rfl) ?_; dsimp only)); refine box_event ?hg (N := 2) ?hd (cs := #[.int .i64 a0_0, .int .i64 a0_1, .int .i64 a0_2, .int .i64 a0_3, .int .i64 a0_4, .int .i64 a0_5, .int .i64 a0_6, .int .i64 a0_7, .int .i32 a0_8]) (t := 47) ?hr ?_; (case hd => rfl); (case hg => rfl); (case hr => first | (go_simp; done) | (go_simp; rfl)); intro gb253 hg w12 hbox hb; have n0_ := Aside0.mk (below_step (by repeat (first | (with_reducible first | exact HB.out | apply pA | apply pN | apply p1_) | exact HB.out)) hb); have n1_ := Aside0.mk (hbox); have n2_ := Aside0.mk ((by rw [hg]; exact (below_size (by repeat (first | (with_reducible first | exact HB.out | apply pA | apply pN | apply p1_) | exact HB.out))) : w.heap.size ≤ gb253)); have n3_ := Aside0.mk ((by rw [hg]; exact (below_size (by repeat (first | (with_reducible first | exact HB.out | apply pA | apply pN | apply p1_) | exact HB.out))) : w.heap.size ≤ gb253)); clear HB; have HB := n0_; have BK253 := n1_; have GW253 := n2_; have GE253 := n3_; clear n0_ n1_ n2_ n3_; clear hb hbox hg; have hcz13_0 : w12.cell? ⟨gb253, 0, none⟩ = some (.int .i64 a0_0) := (bC BK253.out 0).trans rfl; have hcz13_1 : w12.cell? ⟨gb253, 1, none⟩ = some (.int .i64 a0_1) := (bC BK253.out 1).trans rfl; have hcz13_2 : w12.cell? ⟨gb253, 2, none⟩ = some (.int .i64 a0_2) := (bC BK253.out 2).trans rfl; have hcz13_3 : w12.cell? ⟨gb253, 3, none⟩ = some (.int .i64 a0_3) := (bC BK253.out 3).trans rfl; have hcz13_4 : w12.cell? ⟨gb253, 4, none⟩ = some (.int .i64 a0_4) := (bC BK253.out 4).trans rfl; have hcz13_5 : w12.cell? ⟨gb253, 5, none⟩ = some (.int .i64 a0_5) := (bC BK253.out 5).trans rfl; have hcz13_6 : w12.cell? ⟨gb253, 6, none⟩ = some (.int .i64 a0_6) := (bC BK253.out 6).trans rfl; have hcz13_7 : w12.cell? ⟨gb253, 7, none⟩ = some (.int .i64 a0_7) := (bC BK253.out 7).trans rfl; have hcz13_8 : w12.cell? ⟨gb253, 8, none⟩ = some (.int .i32 a0_8) := (bC BK253.out 8).trans rfl; have hfz13_0 := bF BK253.out 0; have hfz13_1 := bF BK253.out 1; have hfz13_2 := bF BK253.out 2; have hfz13_3 := bF BK253.out 3; have hfz13_4 := bF BK253.out 4; have hfz13_5 := bF BK253.out 5; have hfz13_6 := bF BK253.out 6; have hfz13_7 := bF BK253.out 7; have hfz13_8 := bF BK253.out 8))
        go_ret
        exact ⟨by first | rfl | (simp [errW_none, errW_some] <;> rfl) | (simp [*, errW_none, errW_some] <;> rfl), by repeat (first | (with_reducible first | exact HB.out | apply pA | apply pN | apply p1_ | refine bS ?_ GE253.out) | exact HB.out)⟩
    · rw [if_neg c4] at H
      have c4b0 : decide (a0_0 ≤ 3) = false := decide_eq_false c4
      clear c4
      obtain rfl := Option.some.inj H
      go_enter Tryd.func30, Tryd.ntmps30
      go_wp2_with (first | ((with_reducible refine gate_dst (N := 2) rfl ?_); (try (refine gate_guard (by rfl) ?_; dsimp only)); refine box_event ?hg (N := 2) ?hd (cs := #[.int .i64 a0_0, .int .i64 a0_1, .int .i64 a0_2, .int .i64 a0_3, .int .i64 a0_4, .int .i64 a0_5, .int .i64 a0_6, .int .i64 a0_7, .int .i32 a0_8]) (t := 47) ?hr ?_; (case hd => rfl); (case hg => rfl); (case hr => first | (go_simp; done) | (go_simp; rfl)); intro gb253 hg w14 hbox hb; have n0_ := Aside0.mk (below_step (by repeat (first | (with_reducible first | exact HB.out | apply pA | apply pN | apply p1_) | exact HB.out)) hb); have n1_ := Aside0.mk (hbox); have n2_ := Aside0.mk ((by rw [hg]; exact (below_size (by repeat (first | (with_reducible first | exact HB.out | apply pA | apply pN | apply p1_) | exact HB.out))) : w.heap.size ≤ gb253)); have n3_ := Aside0.mk ((by rw [hg]; exact (below_size (by repeat (first | (with_reducible first | exact HB.out | apply pA | apply pN | apply p1_) | exact HB.out))) : w.heap.size ≤ gb253)); clear HB; have HB := n0_; have BK253 := n1_; have GW253 := n2_; have GE253 := n3_; clear n0_ n1_ n2_ n3_; clear hb hbox hg; have hcz15_0 : w14.cell? ⟨gb253, 0, none⟩ = some (.int .i64 a0_0) := (bC BK253.out 0).trans rfl; have hcz15_1 : w14.cell? ⟨gb253, 1, none⟩ = some (.int .i64 a0_1) := (bC BK253.out 1).trans rfl; have hcz15_2 : w14.cell? ⟨gb253, 2, none⟩ = some (.int .i64 a0_2) := (bC BK253.out 2).trans rfl; have hcz15_3 : w14.cell? ⟨gb253, 3, none⟩ = some (.int .i64 a0_3) := (bC BK253.out 3).trans rfl; have hcz15_4 : w14.cell? ⟨gb253, 4, none⟩ = some (.int .i64 a0_4) := (bC BK253.out 4).trans rfl; have hcz15_5 : w14.cell? ⟨gb253, 5, none⟩ = some (.int .i64 a0_5) := (bC BK253.out 5).trans rfl; have hcz15_6 : w14.cell? ⟨gb253, 6, none⟩ = some (.int .i64 a0_6) := (bC BK253.out 6).trans rfl; have hcz15_7 : w14.cell? ⟨gb253, 7, none⟩ = some (.int .i64 a0_7) := (bC BK253.out 7).trans rfl; have hcz15_8 : w14.cell? ⟨gb253, 8, none⟩ = some (.int .i32 a0_8) := (bC BK253.out 8).trans rfl; have hfz15_0 := bF BK253.out 0; have hfz15_1 := bF BK253.out 1; have hfz15_2 := bF BK253.out 2; have hfz15_3 := bF BK253.out 3; have hfz15_4 := bF BK253.out 4; have hfz15_5 := bF BK253.out 5; have hfz15_6 := bF BK253.out 6; have hfz15_7 := bF BK253.out 7; have hfz15_8 := bF BK253.out 8))
      go_ret
      exact ⟨by first | rfl | (simp [errW_none, errW_some] <;> rfl) | (simp [*, errW_none, errW_some] <;> rfl), by repeat (first | (with_reducible first | exact HB.out | apply pA | apply pN | apply p1_ | refine bS ?_ GE253.out) | exact HB.out)⟩
  · rw [if_neg c3] at H
    have c3b0 : decide (1 ≤ a0_0) = false := decide_eq_false c3
    clear c3
    obtain rfl := Option.some.inj H
    go_enter Tryd.func30, Tryd.ntmps30
    go_wp2_with (first | ((with_reducible refine gate_dst (N := 2) rfl ?_); (try (refine gate_guard (by rfl) ?_; dsimp only)); refine box_event ?hg (N := 2) ?hd (cs := #[.int .i64 a0_0, .int .i64 a0_1, .int .i64 a0_2, .int .i64 a0_3, .int .i64 a0_4, .int .i64 a0_5, .int .i64 a0_6, .int .i64 a0_7, .int .i32 a0_8]) (t := 47) ?hr ?_; (case hd => rfl); (case hg => rfl); (case hr => first | (go_simp; done) | (go_simp; rfl)); intro gb253 hg w16 hbox hb; have n0_ := Aside0.mk (below_step (by repeat (first | (with_reducible first | exact HB.out | apply pA | apply pN | apply p1_) | exact HB.out)) hb); have n1_ := Aside0.mk (hbox); have n2_ := Aside0.mk ((by rw [hg]; exact (below_size (by repeat (first | (with_reducible first | exact HB.out | apply pA | apply pN | apply p1_) | exact HB.out))) : w.heap.size ≤ gb253)); have n3_ := Aside0.mk ((by rw [hg]; exact (below_size (by repeat (first | (with_reducible first | exact HB.out | apply pA | apply pN | apply p1_) | exact HB.out))) : w.heap.size ≤ gb253)); clear HB; have HB := n0_; have BK253 := n1_; have GW253 := n2_; have GE253 := n3_; clear n0_ n1_ n2_ n3_; clear hb hbox hg; have hcz17_0 : w16.cell? ⟨gb253, 0, none⟩ = some (.int .i64 a0_0) := (bC BK253.out 0).trans rfl; have hcz17_1 : w16.cell? ⟨gb253, 1, none⟩ = some (.int .i64 a0_1) := (bC BK253.out 1).trans rfl; have hcz17_2 : w16.cell? ⟨gb253, 2, none⟩ = some (.int .i64 a0_2) := (bC BK253.out 2).trans rfl; have hcz17_3 : w16.cell? ⟨gb253, 3, none⟩ = some (.int .i64 a0_3) := (bC BK253.out 3).trans rfl; have hcz17_4 : w16.cell? ⟨gb253, 4, none⟩ = some (.int .i64 a0_4) := (bC BK253.out 4).trans rfl; have hcz17_5 : w16.cell? ⟨gb253, 5, none⟩ = some (.int .i64 a0_5) := (bC BK253.out 5).trans rfl; have hcz17_6 : w16.cell? ⟨gb253, 6, none⟩ = some (.int .i64 a0_6) := (bC BK253.out 6).trans rfl; have hcz17_7 : w16.cell? ⟨gb253, 7, none⟩ = some (.int .i64 a0_7) := (bC BK253.out 7).trans rfl; have hcz17_8 : w16.cell? ⟨gb253, 8, none⟩ = some (.int .i32 a0_8) := (bC BK253.out 8).trans rfl; have hfz17_0 := bF BK253.out 0; have hfz17_1 := bF BK253.out 1; have hfz17_2 := bF BK253.out 2; have hfz17_3 := bF BK253.out 3; have hfz17_4 := bF BK253.out 4; have hfz17_5 := bF BK253.out 5; have hfz17_6 := bF BK253.out 6; have hfz17_7 := bF BK253.out 7; have hfz17_8 := bF BK253.out 8))
    go_ret
    exact ⟨by first | rfl | (simp [errW_none, errW_some] <;> rfl) | (simp [*, errW_none, errW_some] <;> rfl), by repeat (first | (with_reducible first | exact HB.out | apply pA | apply pN | apply p1_ | refine bS ?_ GE253.out) | exact HB.out)⟩

end Go.Proofs.YtnjeliicnbfclaaDoor.P
