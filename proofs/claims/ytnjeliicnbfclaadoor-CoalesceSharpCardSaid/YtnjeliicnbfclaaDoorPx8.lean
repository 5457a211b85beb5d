-- Written by wip/myprint.py, a program of this session's own over the kit's print: functions and their contracts.
import Derived.Test.YtnjeliicnbfclaaDoorPx0
namespace Go.Proofs.YtnjeliicnbfclaaDoor.P
open Go.RowKit Go.Proofs.YtnjeliicnbfclaaDoorW.PrintWords Go.Proofs.YtnjeliicnbfclaaDoorW.PrintLast Go.Proofs.YtnjeliicnbfclaaDoorW.PrintMore
attribute [local go_sem] max2_int min2_int max_two min_two max_three min_three max_four min_four   -- for this text's walks alone
set_option linter.unusedVariables false
set_option linter.unusedSimpArgs false

/-! ### w22_words: function 20 -/
def w22_words.l0 : Nat → List Int → Int → List Int → List Int → Int → Bool → Int → Int → Int → Int → Int → Int → Option (List Int)
  | 0, _, _, _, _, _, _, _, _, _, _, _, _ => none
  | k + 1, x1, x2, x3, x9, x10, x382000, x382001, x382002, x382003, x382004, x382005, x382006 => if x10 < (x1.length : Int) then (if x382006 > 0 then (if (x3.length : Int) > 0 then (if x382006 = 0 then (none) else (if (x3.length : Int) = 0 then (none) else (if 0 ≤ (Int.tmod x10 (x3.length : Int)) then (if (Int.tmod x10 (x3.length : Int)) < (x3.length : Int) then (if (wrap64 ((wrap64 (Int.tdiv (wrap64 (x382005 - x382004)) x382006)) + 1)) = 0 then (none) else (if 0 ≤ x10 then (if x9.length < 17592186044416 then (w22_words.l0 k x1 x2 x3 (x9 ++ [wrap64 ((wrap64 (x2 + (wrap64 ((wrap64 (x382001 + x382002)) * (rd x1 x10))))) + (wrap64 (x382004 + (wrap64 (x382006 * (Int.tmod (wrap64 (rd x3 (Int.tmod x10 (x3.length : Int)))) (wrap64 ((wrap64 (Int.tdiv (wrap64 (x382005 - x382004)) x382006)) + 1))))))))]) (wrap64 (x10 + 1)) x382000 x382001 x382002 x382003 x382004 x382005 x382006) else (none)) else (none))) else (none)) else (none)))) else (if 0 ≤ x10 then (if x9.length < 17592186044416 then (w22_words.l0 k x1 x2 x3 (x9 ++ [wrap64 ((wrap64 (x2 + (wrap64 ((wrap64 (x382001 + x382002)) * (rd x1 x10))))) + x382004)]) (wrap64 (x10 + 1)) x382000 x382001 x382002 x382003 x382004 x382005 x382006) else (none)) else (none))) else (if 0 ≤ x10 then (if x9.length < 17592186044416 then (w22_words.l0 k x1 x2 x3 (x9 ++ [wrap64 ((wrap64 (x2 + (wrap64 ((wrap64 (x382001 + x382002)) * (rd x1 x10))))) + x382004)]) (wrap64 (x10 + 1)) x382000 x382001 x382002 x382003 x382004 x382005 x382006) else (none)) else (none))) else (some x9)
def w22_words.f (k : Nat) (a0_0 : Bool) (a0_1 : Int) (a0_2 : Int) (a0_3 : Int) (a0_4 : Int) (a0_5 : Int) (a0_6 : Int) (l1 : List Int) (a2 : Int) (l3 : List Int) : Option (List Int) := w22_words.l0 k l1 a2 l3 (([] : List Int)) 0 a0_0 a0_1 a0_2 a0_3 a0_4 a0_5 a0_6
theorem w22_words.mono_l : ∀ k, (∀ y0 y1 y2 y3 y4 y5 y6 y7 y8 y9 y10 y11, LeO (w22_words.l0 k y0 y1 y2 y3 y4 y5 y6 y7 y8 y9 y10 y11) (w22_words.l0 (k + 1) y0 y1 y2 y3 y4 y5 y6 y7 y8 y9 y10 y11))
  | 0 => fun _ _ _ _ _ _ _ _ _ _ _ _ r h => by simp [w22_words.l0] at h
  | k + 1 => by
    have ih0 := w22_words.mono_l k
    · intro y0 y1 y2 y3 y4 y5 y6 y7 y8 y9 y10 y11
      unfold w22_words.l0
      repeat' first
      | (with_reducible exact ih0 _ _ _ _ _ _ _ _ _ _ _ _)
      | (with_reducible exact LeO.refl _)
      | (with_reducible exact LeO.none _)
      | (with_reducible refine LeO.ite ?_ ?_)
      | (with_reducible refine LeO.bind ?_ (fun _ => ?_))
      | exact ih0 _ _ _ _ _ _ _ _ _ _ _ _
      | exact LeO.none _
      | refine LeO.ite ?_ ?_
      | refine LeO.bind ?_ (fun _ => ?_)
theorem w22_words.mono : ∀ a0 a1 a2 a3 a4 a5 a6 a7 a8 a9 k, LeO (w22_words.f k a0 a1 a2 a3 a4 a5 a6 a7 a8 a9) (w22_words.f (k + 1) a0 a1 a2 a3 a4 a5 a6 a7 a8 a9) := by
  intro a0 a1 a2 a3 a4 a5 a6 a7 a8 a9 k
  have ih0 := w22_words.mono_l k
  unfold w22_words.f
  repeat' first
      | (with_reducible exact ih0 _ _ _ _ _ _ _ _ _ _ _ _)
      | (with_reducible exact LeO.refl _)
      | (with_reducible exact LeO.none _)
      | (with_reducible refine LeO.ite ?_ ?_)
      | (with_reducible refine LeO.bind ?_ (fun _ => ?_))
      | exact ih0 _ _ _ _ _ _ _ _ _ _ _ _
      | exact LeO.none _
      | refine LeO.ite ?_ ?_
      | refine LeO.bind ?_ (fun _ => ?_)
def w22_words.T8 : Bool × List (List Nat × List Nat) := (true, [([], []), ([], []), ([1], [1]), ([2], [2]), ([], []), ([], []), ([], []), ([6], [6]), ([5, 7], [5, 7]), ([4, 8], [4, 8]), ([9], [9]), ([10], [10]), ([], []), ([11, 12], [11, 12]), ([3, 13], [3, 13]), ([0, 14], [0, 14]), ([15, 0, 1, 2, 3, 4, 5, 6, 7, 8, 9, 10, 11, 12, 13, 14, 15], [0, 15])])
def w22_words.B8 : List Nat := [0, 0, 2, 6, 0, 0, 0, 64, 224, 496, 1008, 2032, 0, 8176, 16382, 32767, 65535]
theorem w22_words.tab8 : rtab .any (opsOf Tryd.f20 8) = w22_words.T8 := by kernel_rfl
theorem w22_words.bits8 : waitsOk w22_words.T8.2 w22_words.B8 = true := by kernel_rfl
def w22_words.T9 : Bool × List (List Nat × List Nat) := (true, [([], []), ([], []), ([], []), ([2], [2]), ([], []), ([4], [4]), ([3, 5], [3, 5]), ([], []), ([], []), ([7, 8], [7, 8]), ([9], [9]), ([6, 10], [6, 10]), ([1, 11], [1, 11]), ([], []), ([12, 13], [12, 13]), ([14], [14]), ([0, 15], [0, 15]), ([16, 16, 0, 1, 2, 3, 4, 5, 6, 7, 8, 9, 10, 11, 12, 13, 14, 15, 16], [0, 16])])
def w22_words.B9 : List Nat := [0, 0, 0, 4, 0, 16, 60, 0, 0, 384, 896, 2044, 4094, 0, 16382, 32766, 65535, 131071]
theorem w22_words.tab9 : rtab .any (opsOf Tryd.f20 9) = w22_words.T9 := by kernel_rfl
theorem w22_words.bits9 : waitsOk w22_words.T9.2 w22_words.B9 = true := by kernel_rfl
set_option maxHeartbeats 8000000 in
set_option maxRecDepth 100000 in
theorem w22_words.calls (k : Nat) (a0_0 : Bool) (a0_1 : Int) (a0_2 : Int) (a0_3 : Int) (a0_4 : Int) (a0_5 : Int) (a0_6 : Int) (A1 : Option Addr) (c1 : Nat) (l1 : List Int) (a2 : Int) (A3 : Option Addr) (c3 : Nat) (l3 : List Int) (r : List Int) (w : World) (hr1 : Kd.C (Kd.int .i64) w A1 l1.length l1) (hc1 : l1.length ≤ c1) (hr3 : Kd.C (Kd.int .u16) w A3 l3.length l3) (hc3 : l3.length ≤ c3) (h : w22_words.f k a0_0 a0_1 a0_2 a0_3 a0_4 a0_5 a0_6 l1 a2 l3 = some r) :
    Calls Tryd.prog 20 #[.agg #[.bool a0_0, .int .i64 a0_1, .int .i64 a0_2, .int .i64 a0_3, .int .i64 a0_4, .int .i64 a0_5, .int .i64 a0_6], .slice A1 l1.length c1, .int .i64 a2, .slice A3 l3.length c3] w fun e w' => ∃ v0_ : Value, e = .returned (v0_) ∧ Kd.R (Kd.int .i64) 3 w' w.heap.size (fun _ => True) v0_ r ∧ Below w.heap.size w w' := by
  have hu35 := Tryd.underlying35
  have HR1 := Aside0.mk hr1
  have HC1 := Aside0.mk hc1
  clear hr1 hc1
  have HR3 := Aside0.mk hr3
  have HC3 := Aside0.mk hc3
  clear hr3 hc3
  have HB := Aside0.mk (Below.refl w.heap.size w)
  have H : (w22_words.l0 k l1 a2 l3 (([] : List Int)) 0 a0_0 a0_1 a0_2 a0_3 a0_4 a0_5 a0_6) = some r := h
  clear h
  obtain ⟨y382, hy382⟩ : ∃ y_ : List Int, y_ = (([] : List Int)) := ⟨_, rfl⟩
  replace H : (w22_words.l0 k l1 a2 l3 y382 0 a0_0 a0_1 a0_2 a0_3 a0_4 a0_5 a0_6) = some r := by first | (rw [hy382]; with_reducible exact H) | (have H2_ := (Option.bind_some _ _).symm.trans H; rw [hy382]; with_reducible exact H2_) | (have H2_ := (Option.bind_some _ _).symm.trans H; with_reducible exact H2_) | with_reducible exact H | (rw [hy382]; exact H) | exact H
  have Ny382 := Aside0.mk hy382
  clear hy382
  have H' := Aside0.mk H
  clear H
  go_enter Tryd.func20, Tryd.ntmps20
  go_wp2_with (first | ((with_reducible refine gate_dst (N := 4) rfl ?_); (try (refine gate_guard (by rfl) ?_; dsimp only)); refine box_event ?hg (N := 4) ?hd (cs := #[.bool a0_0, .int .i64 a0_1, .int .i64 a0_2, .int .i64 a0_3, .int .i64 a0_4, .int .i64 a0_5, .int .i64 a0_6]) (t := 35) ?hr ?_; (case hd => rfl); (case hg => rfl); (case hr => first | (go_simp; done) | (go_simp; rfl)); intro gb381 hg w5 hbox hb; have n0_ := Aside0.mk (below_step (by repeat (first | (with_reducible first | exact HB.out | apply pA | apply pN | apply p1_) | exact HB.out)) hb); have n1_ := Aside0.mk (hbox); have n2_ := Aside0.mk ((by rw [hg]; exact (below_size (by repeat (first | (with_reducible first | exact HB.out | apply pA | apply pN | apply p1_) | exact HB.out))) : w.heap.size ≤ gb381)); have n3_ := Aside0.mk ((by rw [hg]; exact (below_size (by repeat (first | (with_reducible first | exact HB.out | apply pA | apply pN | apply p1_) | exact HB.out))) : w.heap.size ≤ gb381)); clear HB; have HB := n0_; have BK381 := n1_; have GW381 := n2_; have GE381 := n3_; clear n0_ n1_ n2_ n3_; clear hb hbox hg) | ((with_reducible refine gate_dst (N := 13) rfl ?_); (try (refine gate_guard (by rfl) ?_; dsimp only)); refine Kd.R_lit (Kd.int .i64) _ 3 ?hg (N := 13) ?hd (xs := ([] : List Int)) (inner := []) (ok := fun _ => True) (okp := fun _ => True) ?hr ?hp (fun _ hk => hk) trivial (Below.refl _ _) (Nat.le_refl _) (by simp) ?_; (case hd => rfl); (case hg => rfl); (case hr => first | (go_simp; done) | (go_simp; rfl)); (case hp => exact (Reps.none _ _)); intro v383 w6 ho7 hb hg_ hnew_; clear hg_ hnew_; (first | rw [← Ny382.out] at ho7 | (simp only [Int.reduceToNat] at ho7; rw [← Ny382.out] at ho7)); have n0_ := Aside0.mk (Kd.R_lower ho7 (below_size (by repeat (first | (with_reducible first | exact HB.out | apply pA | apply pN | apply p1_ | refine bS ?_ GE381.out) | exact HB.out)))); have n1_ := Aside0.mk (bB (g := gb381) (o := .cells #[.bool a0_0, .int .i64 a0_1, .int .i64 a0_2, .int .i64 a0_3, .int .i64 a0_4, .int .i64 a0_5, .int .i64 a0_6] 35 (0, 0)) (by (with_reducible repeat (first | refine bN ?_ _ | refine bD ?_ | refine bA ?_ _)); exact BK381.out) hb); have n2_ := Aside0.mk (below_step (by repeat (first | (with_reducible first | exact HB.out | apply pA | apply pN | apply p1_ | refine bS ?_ GE381.out) | exact HB.out)) hb); clear BK381; clear HB; have HO384 := n0_; have BK381 := n1_; have HB := n2_; clear n0_ n1_ n2_; clear hb ho7))
  go_loopg [9, 10] k (fun kq v9 v10 w' => ∃ (x9_1 : List Int) (x10_1 : Int), v10 = .int .i64 x10_1 ∧ Aside0 (w22_words.l0 kq l1 a2 l3 x9_1 x10_1 a0_0 a0_1 a0_2 a0_3 a0_4 a0_5 a0_6 = some r) ∧ Aside0 (kq ≤ k) ∧ Aside0 (Kd.R (Kd.int .i64) 3 w' w.heap.size (fun _ => True) v9 x9_1) ∧ Aside0 (w'.heap[gb381]? = some (.cells #[.bool a0_0, .int .i64 a0_1, .int .i64 a0_2, .int .i64 a0_3, .int .i64 a0_4, .int .i64 a0_5, .int .i64 a0_6] 35 (0, 0))) ∧ Aside0 (Below w.heap.size w w'))
  case atStart => exact ⟨(y382), (0), (by first | rfl | (simp; done) | (simp [*]; done)), H', ⟨Nat.le_refl _⟩, ⟨by (with_reducible repeat (first | apply Kd.R_alloc | apply Kd.R_drewN | apply Kd.R_drew)); exact HO384.out⟩, ⟨by (with_reducible repeat (first | refine bN ?_ _ | refine bD ?_ | refine bA ?_ _)); exact BK381.out⟩, ⟨by repeat (first | (with_reducible first | exact HB.out | apply pA | apply pN | apply p1_ | refine bS ?_ GE381.out) | exact HB.out)⟩⟩
  case round =>
    clear H'
    try clear c1
    try clear c2
    try clear p2
    try clear c3
    obtain ⟨x9_1, x10_1, rfl, HA, HK1, HO_9, BK381, HB⟩ := hrel
    cases gk with
    | zero => exact absurd HA.out (by simp [w22_words.l0])
    | succ k1 =>
      have H := HA.out
      clear HA
      simp only [w22_words.l0] at H
      by_cases c8 : x10_1 < (l1.length : Int)
      · rw [if_pos c8] at H
        have c8b0 : decide (x10_1 < (l1.length : Int)) = true := decide_eq_true c8
        clear c8
        by_cases c9 : a0_6 > 0
        · rw [if_pos c9] at H
          have c9b0 : decide (0 < a0_6) = true := decide_eq_true c9
          clear c9
          by_cases c10 : (l3.length : Int) > 0
          · rw [if_pos c10] at H
            have c10b0 : decide (0 < (l3.length : Int)) = true := decide_eq_true c10
            have c10b1 : decide (0 < l3.length) = true := decide_eq_true (by omega)
            clear c10
            by_cases c11 : a0_6 = 0
            · rw [if_pos c11] at H
              exact absurd H (by simp)
            · rw [if_neg c11] at H
              have c11b0 : (a0_6 == 0) = false := beq_eq_false_iff_ne.mpr c11
              have c11b1 : (a0_6 != 0) = true := bne_iff_ne.mpr c11
              by_cases c12 : (l3.length : Int) = 0
              · rw [if_pos c12] at H
                exact absurd H (by simp)
              · rw [if_neg c12] at H
                have c12b0 : ((l3.length : Int) == 0) = false := beq_eq_false_iff_ne.mpr c12
                have c12b1 : ((l3.length : Int) != 0) = true := bne_iff_ne.mpr c12
                have c12b2 : ¬ (l3 = []) := fun h_ => c12 (by rw [h_]; rfl)
                obtain ⟨ji13, hji13⟩ : ∃ j_ : Int, (Int.tmod x10_1 (l3.length : Int)) = j_ := ⟨_, rfl⟩
                replace H : (if 0 ≤ (ji13) then (if (ji13) < (l3.length : Int) then (if (wrap64 ((wrap64 (Int.tdiv (wrap64 (a0_5 - a0_4)) a0_6)) + 1)) = 0 then (none) else (if 0 ≤ x10_1 then (if x9_1.length < 17592186044416 then (w22_words.l0 k1 l1 a2 l3 (x9_1 ++ [wrap64 ((wrap64 (a2 + (wrap64 ((wrap64 (a0_1 + a0_2)) * (rd l1 x10_1))))) + (wrap64 (a0_4 + (wrap64 (a0_6 * (Int.tmod (wrap64 (rd l3 (ji13))) (wrap64 ((wrap64 (Int.tdiv (wrap64 (a0_5 - a0_4)) a0_6)) + 1))))))))]) (wrap64 (x10_1 + 1)) a0_0 a0_1 a0_2 a0_3 a0_4 a0_5 a0_6) else (none)) else (none))) else (none)) else (none)) = some r := by first | (rw [hji13] at H; exact H) | (simp only [hji13] at H ⊢; exact H)
                by_cases c14 : 0 ≤ (ji13)
                · rw [if_pos c14] at H
                  have c14b0 : decide (0 ≤ (ji13)) = true := decide_eq_true c14
                  clear c14
                  by_cases c15 : (ji13) < (l3.length : Int)
                  · rw [if_pos c15] at H
                    have c15b0 : decide ((ji13) < (l3.length : Int)) = true := decide_eq_true c15
                    clear c15
                    by_cases c16 : (wrap64 ((wrap64 (Int.tdiv (wrap64 (a0_5 - a0_4)) a0_6)) + 1)) = 0
                    · rw [if_pos c16] at H
                      exact absurd H (by simp)
                    · rw [if_neg c16] at H
                      have c16b0 : ((wrap64 ((wrap64 (Int.tdiv (wrap64 (a0_5 - a0_4)) a0_6)) + 1)) == 0) = false := beq_eq_false_iff_ne.mpr c16
                      have c16b1 : ((wrap64 ((wrap64 (Int.tdiv (wrap64 (a0_5 - a0_4)) a0_6)) + 1)) != 0) = true := bne_iff_ne.mpr c16
                      by_cases c17 : 0 ≤ x10_1
                      · rw [if_pos c17] at H
                        have c17b0 : decide (0 ≤ x10_1) = true := decide_eq_true c17
                        clear c17
                        by_cases c18 : x9_1.length < 17592186044416
                        · rw [if_pos c18] at H
                          have LMc18 := Aside0.mk c18
                          clear c18
                          obtain ⟨y387, hy387⟩ : ∃ y_ : List Int, y_ = (x9_1 ++ [wrap64 ((wrap64 (a2 + (wrap64 ((wrap64 (a0_1 + a0_2)) * (rd l1 x10_1))))) + (wrap64 (a0_4 + (wrap64 (a0_6 * (Int.tmod (wrap64 (rd l3 (ji13))) (wrap64 ((wrap64 (Int.tdiv (wrap64 (a0_5 - a0_4)) a0_6)) + 1))))))))]) := ⟨_, rfl⟩
                          replace H : (w22_words.l0 k1 l1 a2 l3 y387 (wrap64 (x10_1 + 1)) a0_0 a0_1 a0_2 a0_3 a0_4 a0_5 a0_6) = some r := by first | (rw [hy387]; with_reducible exact H) | (have H2_ := (Option.bind_some _ _).symm.trans H; rw [hy387]; with_reducible exact H2_) | (have H2_ := (Option.bind_some _ _).symm.trans H; with_reducible exact H2_) | with_reducible exact H | (rw [hy387]; exact H) | exact H
                          have Ny387 := Aside0.mk hy387
                          clear hy387
                          have H' := Aside0.mk H
                          clear H
                          have hcz19_0 : wr.cell? ⟨gb381, 0, none⟩ = some (.bool a0_0) := (bC BK381.out 0).trans rfl
                          have hcz19_1 : wr.cell? ⟨gb381, 1, none⟩ = some (.int .i64 a0_1) := (bC BK381.out 1).trans rfl
                          have hcz19_2 : wr.cell? ⟨gb381, 2, none⟩ = some (.int .i64 a0_2) := (bC BK381.out 2).trans rfl
                          have hcz19_3 : wr.cell? ⟨gb381, 3, none⟩ = some (.int .i64 a0_3) := (bC BK381.out 3).trans rfl
                          have hcz19_4 : wr.cell? ⟨gb381, 4, none⟩ = some (.int .i64 a0_4) := (bC BK381.out 4).trans rfl
                          have hcz19_5 : wr.cell? ⟨gb381, 5, none⟩ = some (.int .i64 a0_5) := (bC BK381.out 5).trans rfl
                          have hcz19_6 : wr.cell? ⟨gb381, 6, none⟩ = some (.int .i64 a0_6) := (bC BK381.out 6).trans rfl
                          have hfz19_0 := bF BK381.out 0
                          have hfz19_1 := bF BK381.out 1
                          have hfz19_2 := bF BK381.out 2
                          have hfz19_3 := bF BK381.out 3
                          have hfz19_4 := bF BK381.out 4
                          have hfz19_5 := bF BK381.out 5
                          have hfz19_6 := bF BK381.out 6
                          try go_wp2
                          have n0_ := Aside0.mk (Kd.R_drew HO_9.out)
                          have n1_ := Aside0.mk (bD BK381.out)
                          have n2_ := Aside0.mk (p1_ HB.out)
                          clear HO_9
                          clear BK381
                          clear HB
                          have HO_9 := n0_
                          have BK381 := n1_
                          have HB := n2_
                          clear n0_ n1_ n2_
                          have p385 : 0 ≤ ((ji13) : Int) := of_decide_eq_true (by first | (with_reducible assumption) | assumption)
                          have q385 : (ji13) < (l3.length : Int) := of_decide_eq_true (by first | (with_reducible assumption) | assumption)
                          obtain ⟨ad385, e385, hx385_0⟩ := Kd.at_int HR3.out (ji13) p385 q385
                          have hw385_0 := hx385_0
                          cases e385
                          replace hx385_0 := (HB.out.cell (World.block_lt_of_cell? w _ hx385_0)).trans hx385_0
                          replace p385 := eq_true p385
                          replace q385 := eq_true q385
                          refine start_ (n := 17) (S := fun w' => w'.cell? ⟨gb381, 0, none⟩ = some (.bool a0_0) ∧ w'.cell? ⟨gb381, 1, none⟩ = some (.int .i64 a0_1) ∧ w'.cell? ⟨gb381, 2, none⟩ = some (.int .i64 a0_2) ∧ w'.cell? ⟨gb381, 3, none⟩ = some (.int .i64 a0_3) ∧ w'.cell? ⟨gb381, 4, none⟩ = some (.int .i64 a0_4) ∧ w'.cell? ⟨gb381, 5, none⟩ = some (.int .i64 a0_5) ∧ w'.cell? ⟨gb381, 6, none⟩ = some (.int .i64 a0_6) ∧ w'.cell? (ad385.add ((ji13)).toNat) = some (.int .u16 (rd l3 (ji13)))) (ds := []) #[false, false, false, false, false, false, false, false, false, false, false, false, false, false, false, false, false] (by kernel_rfl) rfl rfl ⟨(bC BK381.out 0).trans rfl, (bC BK381.out 1).trans rfl, (bC BK381.out 2).trans rfl, (bC BK381.out 3).trans rfl, (bC BK381.out 4).trans rfl, (bC BK381.out 5).trans rfl, (bC BK381.out 6).trans rfl, ((HB.out.cell (World.block_lt_of_cell? w _ hw385_0)).trans hw385_0)⟩ (fun hHeld => ?_); refine with_tabW w22_words.tab8 w22_words.bits8 (fun HT_ HW_ => ?_)
                          generalize wr.drew = w20 at HO_9 BK381 HB hx385_0 hHeld ⊢
                          refine pure_ (i := 0) (N := some 44) (v := ?_) (a' := ?_) #[true, false, false, false, false, false, false, false, false, false, false, false, false, false, false, false, false] rfl rfl (any_of HT_.out (by kernel_rfl)) (fun _ _ _ h => h) (Or.inl ⟨by rfl, ?_⟩) ?_ ?_
                          rotate_left
                          · intro w'
                            go_simp
                            with_reducible rfl
                          rotate_left
                          · simp only [Act.put, sI, sZ, sS, i64_w, i32_w]
                            rfl
                          refine pure_ (i := 1) (N := some 45) (v := ?_) (a' := ?_) #[true, true, false, false, false, false, false, false, false, false, false, false, false, false, false, false, false] rfl rfl (any_of HT_.out (by kernel_rfl)) (fun _ _ _ h => h) (Or.inl ⟨by rfl, ?_⟩) ?_ ?_
                          rotate_left
                          · intro w'
                            go_simp
                            with_reducible rfl
                          rotate_left
                          · simp only [Act.put, sI, sZ, sS, i64_w, i32_w]
                            rfl
                          refine pure_ (i := 2) (N := some 46) (v := ?_) (a' := ?_) #[true, true, true, false, false, false, false, false, false, false, false, false, false, false, false, false, false] rfl rfl (any_of HT_.out (by kernel_rfl)) (fun _ _ _ h => h) (Or.inl ⟨by rfl, ?_⟩) ?_ ?_
                          rotate_left
                          · intro w'
                            go_simp
                            with_reducible rfl
                          rotate_left
                          · simp only [Act.put, sI, sZ, sS, i64_w, i32_w]
                            rfl
                          refine pure_ (i := 4) (N := some 48) (v := ?_) (a' := ?_) #[true, true, true, false, true, false, false, false, false, false, false, false, false, false, false, false, false] rfl rfl (any_of HT_.out (by kernel_rfl)) (fun _ _ _ h => h) (Or.inl ⟨by rfl, ?_⟩) ?_ ?_
                          rotate_left
                          · intro w'
                            go_simp
                            with_reducible rfl
                          rotate_left
                          · simp only [Act.put, sI, sZ, sS, i64_w, i32_w]
                            rfl
                          refine pure_ (i := 5) (N := some 49) (v := ?_) (a' := ?_) #[true, true, true, false, true, true, false, false, false, false, false, false, false, false, false, false, false] rfl rfl (any_of HT_.out (by kernel_rfl)) (fun _ _ _ h => h) (Or.inl ⟨by rfl, ?_⟩) ?_ ?_
                          rotate_left
                          · intro w'
                            go_simp
                            with_reducible rfl
                          rotate_left
                          · simp only [Act.put, sI, sZ, sS, i64_w, i32_w]
                            rfl
                          refine pure_ (i := 6) (N := some 50) (v := ?_) (a' := ?_) #[true, true, true, false, true, true, true, false, false, false, false, false, false, false, false, false, false] rfl rfl (any_of HT_.out (by kernel_rfl)) (fun _ _ _ h => h) (Or.inl ⟨by rfl, ?_⟩) ?_ ?_
                          rotate_left
                          · intro w'
                            go_simp
                            with_reducible rfl
                          rotate_left
                          · simp only [Act.put, sI, sZ, sS, i64_w, i32_w]
                            rfl
                          refine pure_ (i := 7) (N := some 51) (v := ?_) (a' := ?_) #[true, true, true, false, true, true, true, true, false, false, false, false, false, false, false, false, false] rfl rfl (any_of HT_.out (by kernel_rfl)) (fun _ _ _ h => h) (Or.inl ⟨by rfl, ?_⟩) ?_ ?_
                          rotate_left
                          · intro w'
                            go_simp
                            with_reducible rfl
                          rotate_left
                          · simp only [Act.put, sI, sZ, sS, i64_w, i32_w]
                            rfl
                          refine pure_ (i := 8) (N := some 52) (v := ?_) (a' := ?_) #[true, true, true, false, true, true, true, true, true, false, false, false, false, false, false, false, false] rfl rfl (any_of HT_.out (by kernel_rfl)) (fun _ _ _ h => h) (Or.inl ⟨by rfl, ?_⟩) ?_ ?_
                          rotate_left
                          · intro w'
                            go_simp
                            with_reducible rfl
                          rotate_left
                          · simp only [Act.put, sI, sZ, sS, i64_w, i32_w]
                            rfl
                          refine pure_ (i := 9) (N := some 53) (v := ?_) (a' := ?_) #[true, true, true, false, true, true, true, true, true, true, false, false, false, false, false, false, false] rfl rfl (any_of HT_.out (by kernel_rfl)) (fun _ _ _ h => h) (Or.inl ⟨by rfl, ?_⟩) ?_ ?_
                          rotate_left
                          · intro w'
                            go_simp
                            with_reducible rfl
                          rotate_left
                          · simp only [Act.put, sI, sZ, sS, i64_w, i32_w]
                            rfl
                          refine pure_ (i := 12) (N := some 56) (v := ?_) (a' := ?_) #[true, true, true, false, true, true, true, true, true, true, false, false, true, false, false, false, false] rfl rfl (any_of HT_.out (by kernel_rfl)) (fun _ _ _ h => h) (Or.inl ⟨by rfl, ?_⟩) ?_ ?_
                          rotate_left
                          · intro w'
                            go_simp
                            with_reducible rfl
                          rotate_left
                          · simp only [Act.put, sI, sZ, sS, i64_w, i32_w]
                            rfl
                          refine take_ (i := 3) (N := some 47) (v := ?_) (a' := ?_) #[true, true, true, true, true, true, true, true, true, true, false, false, true, false, false, false, false] rfl rfl (take_ofW HT_.out HW_.out (by kernel_rfl)) (fun _ _ _ h => h) (Or.inl ⟨by rfl, ?_⟩) hHeld ?_ ?_
                          rotate_left
                          · rintro w' ⟨s0, s1, s2, s3, s4, s5, s6, s7⟩
                            go_simp
                            with_reducible rfl
                          rotate_left
                          · simp only [Act.put, sI, sZ, sS, i64_w, i32_w]
                            rfl
                          refine take_ (i := 10) (N := some 54) (v := ?_) (a' := ?_) #[true, true, true, true, true, true, true, true, true, true, true, false, true, false, false, false, false] rfl rfl (take_ofW HT_.out HW_.out (by kernel_rfl)) (fun _ _ _ h => h) (Or.inl ⟨by rfl, ?_⟩) hHeld ?_ ?_
                          rotate_left
                          · rintro w' ⟨s0, s1, s2, s3, s4, s5, s6, s7⟩
                            go_simp
                            with_reducible rfl
                          rotate_left
                          · simp only [Act.put, sI, sZ, sS, i64_w, i32_w]
                            rfl
                          refine pure_ (i := 11) (N := some 55) (v := ?_) (a' := ?_) #[true, true, true, true, true, true, true, true, true, true, true, true, true, false, false, false, false] rfl rfl (any_of HT_.out (by kernel_rfl)) (fun _ _ _ h => h) (Or.inl ⟨by rfl, ?_⟩) ?_ ?_
                          rotate_left
                          · intro w'
                            go_simp
                            with_reducible rfl
                          rotate_left
                          · simp only [Act.put, sI, sZ, sS, i64_w, i32_w]
                            rfl
                          refine pure_ (i := 13) (N := some 57) (v := ?_) (a' := ?_) #[true, true, true, true, true, true, true, true, true, true, true, true, true, true, false, false, false] rfl rfl (any_of HT_.out (by kernel_rfl)) (fun _ _ _ h => h) (Or.inl ⟨by rfl, ?_⟩) ?_ ?_
                          rotate_left
                          · intro w'
                            go_simp
                            with_reducible rfl
                          rotate_left
                          · simp only [Act.put, sI, sZ, sS, i64_w, i32_w]
                            rfl
                          refine pure_ (i := 14) (N := some 58) (v := ?_) (a' := ?_) #[true, true, true, true, true, true, true, true, true, true, true, true, true, true, true, false, false] rfl rfl (any_of HT_.out (by kernel_rfl)) (fun _ _ _ h => h) (Or.inl ⟨by rfl, ?_⟩) ?_ ?_
                          rotate_left
                          · intro w'
                            go_simp
                            with_reducible rfl
                          rotate_left
                          · simp only [Act.put, sI, sZ, sS, i64_w, i32_w]
                            rfl
                          refine pure_ (i := 15) (N := some 59) (v := ?_) (a' := ?_) #[true, true, true, true, true, true, true, true, true, true, true, true, true, true, true, true, false] rfl rfl (any_of HT_.out (by kernel_rfl)) (fun _ _ _ h => h) (Or.inl ⟨by rfl, ?_⟩) ?_ ?_
                          rotate_left
                          · intro w'
                            go_simp
                            with_reducible rfl
                          rotate_left
                          · simp only [Act.put, sI, sZ, sS, i64_w, i32_w]
                            rfl
                          refine pure_ (i := 16) (N := some 11) (v := ?_) (a' := ?_) #[true, true, true, true, true, true, true, true, true, true, true, true, true, true, true, true, true] rfl rfl (any_of HT_.out (by kernel_rfl)) (fun _ _ _ h => h) (Or.inl ⟨by rfl, ?_⟩) ?_ ?_
                          rotate_left
                          · intro w'
                            go_simp
                            with_reducible rfl
                          rotate_left
                          · simp only [Act.put, sI, sZ, sS, i64_w, i32_w]
                            rfl
                          refine done_ (done_of HT_.out (by kernel_rfl)) ?_
                          try go_wp2
                          have n0_ := Aside0.mk (Kd.R_drew HO_9.out)
                          have n1_ := Aside0.mk (bD BK381.out)
                          have n2_ := Aside0.mk (p1_ HB.out)
                          clear HO_9
                          clear BK381
                          clear HB
                          have HO_9 := n0_
                          have BK381 := n1_
                          have HB := n2_
                          clear n0_ n1_ n2_
                          have p386 : 0 ≤ (x10_1 : Int) := of_decide_eq_true (by first | (with_reducible assumption) | assumption)
                          have q386 : x10_1 < (l1.length : Int) := of_decide_eq_true (by first | (with_reducible assumption) | assumption)
                          obtain ⟨ad386, e386, hx386_0⟩ := Kd.at_int HR1.out x10_1 p386 q386
                          have hw386_0 := hx386_0
                          cases e386
                          replace hx386_0 := (HB.out.cell (World.block_lt_of_cell? w _ hx386_0)).trans hx386_0
                          replace p386 := eq_true p386
                          replace q386 := eq_true q386
                          refine start_ (n := 18) (S := fun w' => w'.cell? ⟨gb381, 0, none⟩ = some (.bool a0_0) ∧ w'.cell? ⟨gb381, 1, none⟩ = some (.int .i64 a0_1) ∧ w'.cell? ⟨gb381, 2, none⟩ = some (.int .i64 a0_2) ∧ w'.cell? ⟨gb381, 3, none⟩ = some (.int .i64 a0_3) ∧ w'.cell? ⟨gb381, 4, none⟩ = some (.int .i64 a0_4) ∧ w'.cell? ⟨gb381, 5, none⟩ = some (.int .i64 a0_5) ∧ w'.cell? ⟨gb381, 6, none⟩ = some (.int .i64 a0_6) ∧ w'.cell? (ad386.add (x10_1).toNat) = some (.int .i64 (rd l1 x10_1))) (ds := []) #[false, false, false, false, false, false, false, false, false, false, false, false, false, false, false, false, false, false] (by kernel_rfl) rfl rfl ⟨(bC BK381.out 0).trans rfl, (bC BK381.out 1).trans rfl, (bC BK381.out 2).trans rfl, (bC BK381.out 3).trans rfl, (bC BK381.out 4).trans rfl, (bC BK381.out 5).trans rfl, (bC BK381.out 6).trans rfl, ((HB.out.cell (World.block_lt_of_cell? w _ hw386_0)).trans hw386_0)⟩ (fun hHeld => ?_); refine with_tabW w22_words.tab9 w22_words.bits9 (fun HT_ HW_ => ?_)
                          generalize w20.drew = w21 at HO_9 BK381 HB hx386_0 hHeld ⊢
                          refine pure_ (i := 0) (N := some 60) (v := ?_) (a' := ?_) #[true, false, false, false, false, false, false, false, false, false, false, false, false, false, false, false, false, false] rfl rfl (any_of HT_.out (by kernel_rfl)) (fun _ _ _ h => h) (Or.inl ⟨by rfl, ?_⟩) ?_ ?_
                          rotate_left
                          · intro w'
                            go_simp
                            with_reducible rfl
                          rotate_left
                          · simp only [Act.put, sI, sZ, sS, i64_w, i32_w]
                            rfl
                          refine pure_ (i := 1) (N := some 61) (v := ?_) (a' := ?_) #[true, true, false, false, false, false, false, false, false, false, false, false, false, false, false, false, false, false] rfl rfl (any_of HT_.out (by kernel_rfl)) (fun _ _ _ h => h) (Or.inl ⟨by rfl, ?_⟩) ?_ ?_
                          rotate_left
                          · intro w'
                            go_simp
                            with_reducible rfl
                          rotate_left
                          · simp only [Act.put, sI, sZ, sS, i64_w, i32_w]
                            rfl
                          refine pure_ (i := 2) (N := some 62) (v := ?_) (a' := ?_) #[true, true, true, false, false, false, false, false, false, false, false, false, false, false, false, false, false, false] rfl rfl (any_of HT_.out (by kernel_rfl)) (fun _ _ _ h => h) (Or.inl ⟨by rfl, ?_⟩) ?_ ?_
                          rotate_left
                          · intro w'
                            go_simp
                            with_reducible rfl
                          rotate_left
                          · simp only [Act.put, sI, sZ, sS, i64_w, i32_w]
                            rfl
                          refine pure_ (i := 4) (N := some 64) (v := ?_) (a' := ?_) #[true, true, true, false, true, false, false, false, false, false, false, false, false, false, false, false, false, false] rfl rfl (any_of HT_.out (by kernel_rfl)) (fun _ _ _ h => h) (Or.inl ⟨by rfl, ?_⟩) ?_ ?_
                          rotate_left
                          · intro w'
                            go_simp
                            with_reducible rfl
                          rotate_left
                          · simp only [Act.put, sI, sZ, sS, i64_w, i32_w]
                            rfl
                          refine pure_ (i := 7) (N := some 67) (v := ?_) (a' := ?_) #[true, true, true, false, true, false, false, true, false, false, false, false, false, false, false, false, false, false] rfl rfl (any_of HT_.out (by kernel_rfl)) (fun _ _ _ h => h) (Or.inl ⟨by rfl, ?_⟩) ?_ ?_
                          rotate_left
                          · intro w'
                            go_simp
                            with_reducible rfl
                          rotate_left
                          · simp only [Act.put, sI, sZ, sS, i64_w, i32_w]
                            rfl
                          refine pure_ (i := 8) (N := some 68) (v := ?_) (a' := ?_) #[true, true, true, false, true, false, false, true, true, false, false, false, false, false, false, false, false, false] rfl rfl (any_of HT_.out (by kernel_rfl)) (fun _ _ _ h => h) (Or.inl ⟨by rfl, ?_⟩) ?_ ?_
                          rotate_left
                          · intro w'
                            go_simp
                            with_reducible rfl
                          rotate_left
                          · simp only [Act.put, sI, sZ, sS, i64_w, i32_w]
                            rfl
                          refine pure_ (i := 9) (N := some 69) (v := ?_) (a' := ?_) #[true, true, true, false, true, false, false, true, true, true, false, false, false, false, false, false, false, false] rfl rfl (any_of HT_.out (by kernel_rfl)) (fun _ _ _ h => h) (Or.inl ⟨by rfl, ?_⟩) ?_ ?_
                          rotate_left
                          · intro w'
                            go_simp
                            with_reducible rfl
                          rotate_left
                          · simp only [Act.put, sI, sZ, sS, i64_w, i32_w]
                            rfl
                          refine pure_ (i := 13) (N := some 73) (v := ?_) (a' := ?_) #[true, true, true, false, true, false, false, true, true, true, false, false, false, true, false, false, false, false] rfl rfl (any_of HT_.out (by kernel_rfl)) (fun _ _ _ h => h) (Or.inl ⟨by rfl, ?_⟩) ?_ ?_
                          rotate_left
                          · intro w'
                            go_simp
                            with_reducible rfl
                          rotate_left
                          · simp only [Act.put, sI, sZ, sS, i64_w, i32_w]
                            rfl
                          refine take_ (i := 3) (N := some 63) (v := ?_) (a' := ?_) #[true, true, true, true, true, false, false, true, true, true, false, false, false, true, false, false, false, false] rfl rfl (take_ofW HT_.out HW_.out (by kernel_rfl)) (fun _ _ _ h => h) (Or.inl ⟨by rfl, ?_⟩) hHeld ?_ ?_
                          rotate_left
                          · rintro w' ⟨s0, s1, s2, s3, s4, s5, s6, s7⟩
                            go_simp
                            with_reducible rfl
                          rotate_left
                          · simp only [Act.put, sI, sZ, sS, i64_w, i32_w]
                            rfl
                          refine take_ (i := 5) (N := some 65) (v := ?_) (a' := ?_) #[true, true, true, true, true, true, false, true, true, true, false, false, false, true, false, false, false, false] rfl rfl (take_ofW HT_.out HW_.out (by kernel_rfl)) (fun _ _ _ h => h) (Or.inl ⟨by rfl, ?_⟩) hHeld ?_ ?_
                          rotate_left
                          · rintro w' ⟨s0, s1, s2, s3, s4, s5, s6, s7⟩
                            go_simp
                            with_reducible rfl
                          rotate_left
                          · simp only [Act.put, sI, sZ, sS, i64_w, i32_w]
                            rfl
                          refine pure_ (i := 6) (N := some 66) (v := ?_) (a' := ?_) #[true, true, true, true, true, true, true, true, true, true, false, false, false, true, false, false, false, false] rfl rfl (any_of HT_.out (by kernel_rfl)) (fun _ _ _ h => h) (Or.inl ⟨by rfl, ?_⟩) ?_ ?_
                          rotate_left
                          · intro w'
                            go_simp
                            with_reducible rfl
                          rotate_left
                          · simp only [Act.put, sI, sZ, sS, i64_w, i32_w]
                            rfl
                          refine take_ (i := 10) (N := some 70) (v := ?_) (a' := ?_) #[true, true, true, true, true, true, true, true, true, true, true, false, false, true, false, false, false, false] rfl rfl (take_ofW HT_.out HW_.out (by kernel_rfl)) (fun _ _ _ h => h) (Or.inl ⟨by rfl, ?_⟩) hHeld ?_ ?_
                          rotate_left
                          · rintro w' ⟨s0, s1, s2, s3, s4, s5, s6, s7⟩
                            go_simp
                            with_reducible rfl
                          rotate_left
                          · simp only [Act.put, sI, sZ, sS, i64_w, i32_w]
                            rfl
                          refine pure_ (i := 11) (N := some 71) (v := ?_) (a' := ?_) #[true, true, true, true, true, true, true, true, true, true, true, true, false, true, false, false, false, false] rfl rfl (any_of HT_.out (by kernel_rfl)) (fun _ _ _ h => h) (Or.inl ⟨by rfl, ?_⟩) ?_ ?_
                          rotate_left
                          · intro w'
                            go_simp
                            with_reducible rfl
                          rotate_left
                          · simp only [Act.put, sI, sZ, sS, i64_w, i32_w]
                            rfl
                          refine pure_ (i := 12) (N := some 72) (v := ?_) (a' := ?_) #[true, true, true, true, true, true, true, true, true, true, true, true, true, true, false, false, false, false] rfl rfl (any_of HT_.out (by kernel_rfl)) (fun _ _ _ h => h) (Or.inl ⟨by rfl, ?_⟩) ?_ ?_
                          rotate_left
                          · intro w'
                            go_simp
                            with_reducible rfl
                          rotate_left
                          · simp only [Act.put, sI, sZ, sS, i64_w, i32_w]
                            rfl
                          refine pure_ (i := 14) (N := some 74) (v := ?_) (a' := ?_) #[true, true, true, true, true, true, true, true, true, true, true, true, true, true, true, false, false, false] rfl rfl (any_of HT_.out (by kernel_rfl)) (fun _ _ _ h => h) (Or.inl ⟨by rfl, ?_⟩) ?_ ?_
                          rotate_left
                          · intro w'
                            go_simp
                            with_reducible rfl
                          rotate_left
                          · simp only [Act.put, sI, sZ, sS, i64_w, i32_w]
                            rfl
                          refine one_ (i := 15) (N := some 75) #[true, true, true, true, true, true, true, true, true, true, true, true, true, true, true, true, false, false] rfl rfl (one_of HT_.out (by kernel_rfl)) (by decide) (fun K hK => ?_)
                          refine value_ (w1 := ?_) (v := ?_) (by rfl) rfl ?_ ?_
                          rotate_left 2
                          · go_simp
                            constructor
                            · rfl
                            · rfl
                          refine hK.out _ _ ⟨(bC (bA BK381.out _) 0).trans rfl, (bC (bA BK381.out _) 1).trans rfl, (bC (bA BK381.out _) 2).trans rfl, (bC (bA BK381.out _) 3).trans rfl, (bC (bA BK381.out _) 4).trans rfl, (bC (bA BK381.out _) 5).trans rfl, (bC (bA BK381.out _) 6).trans rfl, (World.cell?_alloc_lt _ _ _ (World.block_lt_of_cell? _ _ (((HB.out.cell (World.block_lt_of_cell? w _ hw386_0)).trans hw386_0)))).trans (((HB.out.cell (World.block_lt_of_cell? w _ hw386_0)).trans hw386_0))⟩ (fun hHeld => ?_)
                          clear hK K
                          refine norm_ (a' := ?_) ?_ ?_
                          rotate_left
                          · show Act.put _ (some 75) _ = _
                            simp only [Act.put, sI, sZ, sS, i64_w, i32_w]
                            rfl
                          refine one_ (i := 16) (N := some 76) #[true, true, true, true, true, true, true, true, true, true, true, true, true, true, true, true, true, false] rfl rfl (one_of HT_.out (by kernel_rfl)) (by decide) (fun K hK => ?_)
                          refine Kd.R_append_step (Kd.int .i64) (w0 := w) w.heap.size (by rfl) (.tmp 60) (.tmp 75) 22 3 (.int .i64 0) 8 rfl Tryd.underlying22 info3 rfl (by decide) (by omega) u9 x9_1 (wrap64 ((wrap64 (a2 + (wrap64 ((wrap64 (a0_1 + a0_2)) * (rd l1 x10_1))))) + (wrap64 (a0_4 + (wrap64 (a0_6 * (Int.tmod (wrap64 (rd l3 (ji13))) (wrap64 ((wrap64 (Int.tdiv (wrap64 (a0_5 - a0_4)) a0_6)) + 1))))))))) [.int .i64 (wrap64 ((wrap64 (a2 + (wrap64 ((wrap64 (a0_1 + a0_2)) * (rd l1 x10_1))))) + (wrap64 (a0_4 + (wrap64 (a0_6 * (Int.tmod (wrap64 (rd l3 (ji13))) (wrap64 ((wrap64 (Int.tdiv (wrap64 (a0_5 - a0_4)) a0_6)) + 1)))))))))] (fun _ => True) (fun _ => False) rfl rfl ?aP (fun _ hk => hk.elim) ?aF ?aO ?aB ?aS ?aL ?_
                          (case aP => exact rfl)
                          (case aB => exact (by repeat (first | (with_reducible first | exact HB.out | apply pA | apply pN | apply p1_ | refine bS ?_ GE381.out) | exact HB.out)))
                          (case aF => exact (fun _ _ => trivial))
                          (case aO => exact (by (with_reducible repeat (first | apply Kd.R_alloc | apply Kd.R_drewN | apply Kd.R_drew)); exact HO_9.out))
                          (case aS => exact (below_size (by repeat (first | (with_reducible first | exact HB.out | apply pA | apply pN | apply p1_ | refine bS ?_ GE381.out) | exact HB.out))))
                          (case aL => have := LMc18.out; omega)
                          intro v388 w22 ho hb hg hat
                          rw [← Ny387.out] at ho
                          have n0_ := Aside0.mk (blk_grown (g := gb381) (o := .cells #[.bool a0_0, .int .i64 a0_1, .int .i64 a0_2, .int .i64 a0_3, .int .i64 a0_4, .int .i64 a0_5, .int .i64 a0_6] 35 (0, 0)) (by (with_reducible repeat (first | refine bN ?_ _ | refine bD ?_ | refine bA ?_ _)); exact BK381.out) hg (Kd.R_ne HO_9.out BK381.out (by decide)))
                          have n1_ := Aside0.mk (hb)
                          have n2_ := Aside0.mk (ho)
                          clear BK381
                          clear HB
                          clear HO_9
                          have BK381 := n0_
                          have HB := n1_
                          have HO389 := n2_
                          clear n0_ n1_ n2_
                          clear ho hb hg hat
                          refine hK.out _ _ ⟨(bC BK381.out 0).trans rfl, (bC BK381.out 1).trans rfl, (bC BK381.out 2).trans rfl, (bC BK381.out 3).trans rfl, (bC BK381.out 4).trans rfl, (bC BK381.out 5).trans rfl, (bC BK381.out 6).trans rfl, ((HB.out.cell (World.block_lt_of_cell? w _ hw386_0)).trans hw386_0)⟩ (fun hHeld => ?_)
                          clear hK K
                          refine norm_ (a' := ?_) ?_ ?_
                          rotate_left
                          · show Act.put _ (some 76) _ = _
                            simp only [Act.put, sI, sZ, sS, i64_w, i32_w]
                            rfl
                          refine pure_ (i := 17) (N := some 9) (v := ?_) (a' := ?_) #[true, true, true, true, true, true, true, true, true, true, true, true, true, true, true, true, true, true] rfl rfl (any_of HT_.out (by kernel_rfl)) (fun _ _ _ h => h) (Or.inl ⟨by rfl, ?_⟩) ?_ ?_
                          rotate_left
                          · intro w'
                            go_simp
                            with_reducible rfl
                          rotate_left
                          · simp only [Act.put, sI, sZ, sS, i64_w, i32_w]
                            rfl
                          refine done_ (done_of HT_.out (by kernel_rfl)) ?_
                          try go_wp2
                          go_roundg k1
                          case measure => have := HK1.out; omega
                          case rel => exact ⟨(y387), (wrap64 (x10_1 + 1)), (by first | rfl | (simp; done) | (simp [*]; done)), H', ⟨by have := HK1.out; omega⟩, ⟨by (with_reducible repeat (first | apply Kd.R_alloc | apply Kd.R_drewN | apply Kd.R_drew)); exact HO389.out⟩, ⟨by (with_reducible repeat (first | refine bN ?_ _ | refine bD ?_ | refine bA ?_ _)); exact BK381.out⟩, ⟨by repeat (first | (with_reducible first | exact HB.out | apply pA | apply pN | apply p1_ | refine bS ?_ GE381.out) | exact HB.out)⟩⟩
                        · rw [if_neg c18] at H
                          exact absurd H (by simp)
                      · rw [if_neg c17] at H
                        exact absurd H (by simp)
                  · rw [if_neg c15] at H
                    exact absurd H (by simp)
                · rw [if_neg c14] at H
                  exact absurd H (by simp)
          · rw [if_neg c10] at H
            have c10b0 : decide (0 < (l3.length : Int)) = false := decide_eq_false c10
            have c10b1 : decide (0 < l3.length) = false := decide_eq_false (by omega)
            clear c10
            by_cases c23 : 0 ≤ x10_1
            · rw [if_pos c23] at H
              have c23b0 : decide (0 ≤ x10_1) = true := decide_eq_true c23
              clear c23
              by_cases c24 : x9_1.length < 17592186044416
              · rw [if_pos c24] at H
                have LMc24 := Aside0.mk c24
                clear c24
                obtain ⟨y391, hy391⟩ : ∃ y_ : List Int, y_ = (x9_1 ++ [wrap64 ((wrap64 (a2 + (wrap64 ((wrap64 (a0_1 + a0_2)) * (rd l1 x10_1))))) + a0_4)]) := ⟨_, rfl⟩
                replace H : (w22_words.l0 k1 l1 a2 l3 y391 (wrap64 (x10_1 + 1)) a0_0 a0_1 a0_2 a0_3 a0_4 a0_5 a0_6) = some r := by first | (rw [hy391]; with_reducible exact H) | (have H2_ := (Option.bind_some _ _).symm.trans H; rw [hy391]; with_reducible exact H2_) | (have H2_ := (Option.bind_some _ _).symm.trans H; with_reducible exact H2_) | with_reducible exact H | (rw [hy391]; exact H) | exact H
                have Ny391 := Aside0.mk hy391
                clear hy391
                have H' := Aside0.mk H
                clear H
                have hcz25_0 : wr.cell? ⟨gb381, 0, none⟩ = some (.bool a0_0) := (bC BK381.out 0).trans rfl
                have hcz25_1 : wr.cell? ⟨gb381, 1, none⟩ = some (.int .i64 a0_1) := (bC BK381.out 1).trans rfl
                have hcz25_2 : wr.cell? ⟨gb381, 2, none⟩ = some (.int .i64 a0_2) := (bC BK381.out 2).trans rfl
                have hcz25_3 : wr.cell? ⟨gb381, 3, none⟩ = some (.int .i64 a0_3) := (bC BK381.out 3).trans rfl
                have hcz25_4 : wr.cell? ⟨gb381, 4, none⟩ = some (.int .i64 a0_4) := (bC BK381.out 4).trans rfl
                have hcz25_5 : wr.cell? ⟨gb381, 5, none⟩ = some (.int .i64 a0_5) := (bC BK381.out 5).trans rfl
                have hcz25_6 : wr.cell? ⟨gb381, 6, none⟩ = some (.int .i64 a0_6) := (bC BK381.out 6).trans rfl
                have hfz25_0 := bF BK381.out 0
                have hfz25_1 := bF BK381.out 1
                have hfz25_2 := bF BK381.out 2
                have hfz25_3 := bF BK381.out 3
                have hfz25_4 := bF BK381.out 4
                have hfz25_5 := bF BK381.out 5
                have hfz25_6 := bF BK381.out 6
                try go_wp2
                have n0_ := Aside0.mk (Kd.R_drew HO_9.out)
                have n1_ := Aside0.mk (bD BK381.out)
                have n2_ := Aside0.mk (p1_ HB.out)
                clear HO_9
                clear BK381
                clear HB
                have HO_9 := n0_
                have BK381 := n1_
                have HB := n2_
                clear n0_ n1_ n2_
                have p390 : 0 ≤ (x10_1 : Int) := of_decide_eq_true (by first | (with_reducible assumption) | assumption)
                have q390 : x10_1 < (l1.length : Int) := of_decide_eq_true (by first | (with_reducible assumption) | assumption)
                obtain ⟨ad390, e390, hx390_0⟩ := Kd.at_int HR1.out x10_1 p390 q390
                have hw390_0 := hx390_0
                cases e390
                replace hx390_0 := (HB.out.cell (World.block_lt_of_cell? w _ hx390_0)).trans hx390_0
                replace p390 := eq_true p390
                replace q390 := eq_true q390
                refine start_ (n := 18) (S := fun w' => w'.cell? ⟨gb381, 0, none⟩ = some (.bool a0_0) ∧ w'.cell? ⟨gb381, 1, none⟩ = some (.int .i64 a0_1) ∧ w'.cell? ⟨gb381, 2, none⟩ = some (.int .i64 a0_2) ∧ w'.cell? ⟨gb381, 3, none⟩ = some (.int .i64 a0_3) ∧ w'.cell? ⟨gb381, 4, none⟩ = some (.int .i64 a0_4) ∧ w'.cell? ⟨gb381, 5, none⟩ = some (.int .i64 a0_5) ∧ w'.cell? ⟨gb381, 6, none⟩ = some (.int .i64 a0_6) ∧ w'.cell? (ad390.add (x10_1).toNat) = some (.int .i64 (rd l1 x10_1))) (ds := []) #[false, false, false, false, false, false, false, false, false, false, false, false, false, false, false, false, false, false] (by kernel_rfl) rfl rfl ⟨(bC BK381.out 0).trans rfl, (bC BK381.out 1).trans rfl, (bC BK381.out 2).trans rfl, (bC BK381.out 3).trans rfl, (bC BK381.out 4).trans rfl, (bC BK381.out 5).trans rfl, (bC BK381.out 6).trans rfl, ((HB.out.cell (World.block_lt_of_cell? w _ hw390_0)).trans hw390_0)⟩ (fun hHeld => ?_); refine with_tabW w22_words.tab9 w22_words.bits9 (fun HT_ HW_ => ?_)
                generalize wr.drew = w26 at HO_9 BK381 HB hx390_0 hHeld ⊢
                refine pure_ (i := 0) (N := some 60) (v := ?_) (a' := ?_) #[true, false, false, false, false, false, false, false, false, false, false, false, false, false, false, false, false, false] rfl rfl (any_of HT_.out (by kernel_rfl)) (fun _ _ _ h => h) (Or.inl ⟨by rfl, ?_⟩) ?_ ?_
                rotate_left
                · intro w'
                  go_simp
                  with_reducible rfl
                rotate_left
                · simp only [Act.put, sI, sZ, sS, i64_w, i32_w]
                  rfl
                refine pure_ (i := 1) (N := some 61) (v := ?_) (a' := ?_) #[true, true, false, false, false, false, false, false, false, false, false, false, false, false, false, false, false, false] rfl rfl (any_of HT_.out (by kernel_rfl)) (fun _ _ _ h => h) (Or.inl ⟨by rfl, ?_⟩) ?_ ?_
                rotate_left
                · intro w'
                  go_simp
                  with_reducible rfl
                rotate_left
                · simp only [Act.put, sI, sZ, sS, i64_w, i32_w]
                  rfl
                refine pure_ (i := 2) (N := some 62) (v := ?_) (a' := ?_) #[true, true, true, false, false, false, false, false, false, false, false, false, false, false, false, false, false, false] rfl rfl (any_of HT_.out (by kernel_rfl)) (fun _ _ _ h => h) (Or.inl ⟨by rfl, ?_⟩) ?_ ?_
                rotate_left
                · intro w'
                  go_simp
                  with_reducible rfl
                rotate_left
                · simp only [Act.put, sI, sZ, sS, i64_w, i32_w]
                  rfl
                refine pure_ (i := 4) (N := some 64) (v := ?_) (a' := ?_) #[true, true, true, false, true, false, false, false, false, false, false, false, false, false, false, false, false, false] rfl rfl (any_of HT_.out (by kernel_rfl)) (fun _ _ _ h => h) (Or.inl ⟨by rfl, ?_⟩) ?_ ?_
                rotate_left
                · intro w'
                  go_simp
                  with_reducible rfl
                rotate_left
                · simp only [Act.put, sI, sZ, sS, i64_w, i32_w]
                  rfl
                refine pure_ (i := 7) (N := some 67) (v := ?_) (a' := ?_) #[true, true, true, false, true, false, false, true, false, false, false, false, false, false, false, false, false, false] rfl rfl (any_of HT_.out (by kernel_rfl)) (fun _ _ _ h => h) (Or.inl ⟨by rfl, ?_⟩) ?_ ?_
                rotate_left
                · intro w'
                  go_simp
                  with_reducible rfl
                rotate_left
                · simp only [Act.put, sI, sZ, sS, i64_w, i32_w]
                  rfl
                refine pure_ (i := 8) (N := some 68) (v := ?_) (a' := ?_) #[true, true, true, false, true, false, false, true, true, false, false, false, false, false, false, false, false, false] rfl rfl (any_of HT_.out (by kernel_rfl)) (fun _ _ _ h => h) (Or.inl ⟨by rfl, ?_⟩) ?_ ?_
                rotate_left
                · intro w'
                  go_simp
                  with_reducible rfl
                rotate_left
                · simp only [Act.put, sI, sZ, sS, i64_w, i32_w]
                  rfl
                refine pure_ (i := 9) (N := some 69) (v := ?_) (a' := ?_) #[true, true, true, false, true, false, false, true, true, true, false, false, false, false, false, false, false, false] rfl rfl (any_of HT_.out (by kernel_rfl)) (fun _ _ _ h => h) (Or.inl ⟨by rfl, ?_⟩) ?_ ?_
                rotate_left
                · intro w'
                  go_simp
                  with_reducible rfl
                rotate_left
                · simp only [Act.put, sI, sZ, sS, i64_w, i32_w]
                  rfl
                refine pure_ (i := 13) (N := some 73) (v := ?_) (a' := ?_) #[true, true, true, false, true, false, false, true, true, true, false, false, false, true, false, false, false, false] rfl rfl (any_of HT_.out (by kernel_rfl)) (fun _ _ _ h => h) (Or.inl ⟨by rfl, ?_⟩) ?_ ?_
                rotate_left
                · intro w'
                  go_simp
                  with_reducible rfl
                rotate_left
                · simp only [Act.put, sI, sZ, sS, i64_w, i32_w]
                  rfl
                refine take_ (i := 3) (N := some 63) (v := ?_) (a' := ?_) #[true, true, true, true, true, false, false, true, true, true, false, false, false, true, false, false, false, false] rfl rfl (take_ofW HT_.out HW_.out (by kernel_rfl)) (fun _ _ _ h => h) (Or.inl ⟨by rfl, ?_⟩) hHeld ?_ ?_
                rotate_left
                · rintro w' ⟨s0, s1, s2, s3, s4, s5, s6, s7⟩
                  go_simp
                  with_reducible rfl
                rotate_left
                · simp only [Act.put, sI, sZ, sS, i64_w, i32_w]
                  rfl
                refine take_ (i := 5) (N := some 65) (v := ?_) (a' := ?_) #[true, true, true, true, true, true, false, true, true, true, false, false, false, true, false, false, false, false] rfl rfl (take_ofW HT_.out HW_.out (by kernel_rfl)) (fun _ _ _ h => h) (Or.inl ⟨by rfl, ?_⟩) hHeld ?_ ?_
                rotate_left
                · rintro w' ⟨s0, s1, s2, s3, s4, s5, s6, s7⟩
                  go_simp
                  with_reducible rfl
                rotate_left
                · simp only [Act.put, sI, sZ, sS, i64_w, i32_w]
                  rfl
                refine pure_ (i := 6) (N := some 66) (v := ?_) (a' := ?_) #[true, true, true, true, true, true, true, true, true, true, false, false, false, true, false, false, false, false] rfl rfl (any_of HT_.out (by kernel_rfl)) (fun _ _ _ h => h) (Or.inl ⟨by rfl, ?_⟩) ?_ ?_
                rotate_left
                · intro w'
                  go_simp
                  with_reducible rfl
                rotate_left
                · simp only [Act.put, sI, sZ, sS, i64_w, i32_w]
                  rfl
                refine take_ (i := 10) (N := some 70) (v := ?_) (a' := ?_) #[true, true, true, true, true, true, true, true, true, true, true, false, false, true, false, false, false, false] rfl rfl (take_ofW HT_.out HW_.out (by kernel_rfl)) (fun _ _ _ h => h) (Or.inl ⟨by rfl, ?_⟩) hHeld ?_ ?_
                rotate_left
                · rintro w' ⟨s0, s1, s2, s3, s4, s5, s6, s7⟩
                  go_simp
                  with_reducible rfl
                rotate_left
                · simp only [Act.put, sI, sZ, sS, i64_w, i32_w]
                  rfl
                refine pure_ (i := 11) (N := some 71) (v := ?_) (a' := ?_) #[true, true, true, true, true, true, true, true, true, true, true, true, false, true, false, false, false, false] rfl rfl (any_of HT_.out (by kernel_rfl)) (fun _ _ _ h => h) (Or.inl ⟨by rfl, ?_⟩) ?_ ?_
                rotate_left
                · intro w'
                  go_simp
                  with_reducible rfl
                rotate_left
                · simp only [Act.put, sI, sZ, sS, i64_w, i32_w]
                  rfl
                refine pure_ (i := 12) (N := some 72) (v := ?_) (a' := ?_) #[true, true, true, true, true, true, true, true, true, true, true, true, true, true, false, false, false, false] rfl rfl (any_of HT_.out (by kernel_rfl)) (fun _ _ _ h => h) (Or.inl ⟨by rfl, ?_⟩) ?_ ?_
                rotate_left
                · intro w'
                  go_simp
                  with_reducible rfl
                rotate_left
                · simp only [Act.put, sI, sZ, sS, i64_w, i32_w]
                  rfl
                refine pure_ (i := 14) (N := some 74) (v := ?_) (a' := ?_) #[true, true, true, true, true, true, true, true, true, true, true, true, true, true, true, false, false, false] rfl rfl (any_of HT_.out (by kernel_rfl)) (fun _ _ _ h => h) (Or.inl ⟨by rfl, ?_⟩) ?_ ?_
                rotate_left
                · intro w'
                  go_simp
                  with_reducible rfl
                rotate_left
                · simp only [Act.put, sI, sZ, sS, i64_w, i32_w]
                  rfl
                refine one_ (i := 15) (N := some 75) #[true, true, true, true, true, true, true, true, true, true, true, true, true, true, true, true, false, false] rfl rfl (one_of HT_.out (by kernel_rfl)) (by decide) (fun K hK => ?_)
                refine value_ (w1 := ?_) (v := ?_) (by rfl) rfl ?_ ?_
                rotate_left 2
                · go_simp
                  constructor
                  · rfl
                  · rfl
                refine hK.out _ _ ⟨(bC (bA BK381.out _) 0).trans rfl, (bC (bA BK381.out _) 1).trans rfl, (bC (bA BK381.out _) 2).trans rfl, (bC (bA BK381.out _) 3).trans rfl, (bC (bA BK381.out _) 4).trans rfl, (bC (bA BK381.out _) 5).trans rfl, (bC (bA BK381.out _) 6).trans rfl, (World.cell?_alloc_lt _ _ _ (World.block_lt_of_cell? _ _ (((HB.out.cell (World.block_lt_of_cell? w _ hw390_0)).trans hw390_0)))).trans (((HB.out.cell (World.block_lt_of_cell? w _ hw390_0)).trans hw390_0))⟩ (fun hHeld => ?_)
                clear hK K
                refine norm_ (a' := ?_) ?_ ?_
                rotate_left
                · show Act.put _ (some 75) _ = _
                  simp only [Act.put, sI, sZ, sS, i64_w, i32_w]
                  rfl
                refine one_ (i := 16) (N := some 76) #[true, true, true, true, true, true, true, true, true, true, true, true, true, true, true, true, true, false] rfl rfl (one_of HT_.out (by kernel_rfl)) (by decide) (fun K hK => ?_)
                refine Kd.R_append_step (Kd.int .i64) (w0 := w) w.heap.size (by rfl) (.tmp 60) (.tmp 75) 22 3 (.int .i64 0) 8 rfl Tryd.underlying22 info3 rfl (by decide) (by omega) u9 x9_1 (wrap64 ((wrap64 (a2 + (wrap64 ((wrap64 (a0_1 + a0_2)) * (rd l1 x10_1))))) + a0_4)) [.int .i64 (wrap64 ((wrap64 (a2 + (wrap64 ((wrap64 (a0_1 + a0_2)) * (rd l1 x10_1))))) + a0_4))] (fun _ => True) (fun _ => False) rfl rfl ?aP (fun _ hk => hk.elim) ?aF ?aO ?aB ?aS ?aL ?_
                (case aP => exact rfl)
                (case aB => exact (by repeat (first | (with_reducible first | exact HB.out | apply pA | apply pN | apply p1_ | refine bS ?_ GE381.out) | exact HB.out)))
                (case aF => exact (fun _ _ => trivial))
                (case aO => exact (by (with_reducible repeat (first | apply Kd.R_alloc | apply Kd.R_drewN | apply Kd.R_drew)); exact HO_9.out))
                (case aS => exact (below_size (by repeat (first | (with_reducible first | exact HB.out | apply pA | apply pN | apply p1_ | refine bS ?_ GE381.out) | exact HB.out))))
                (case aL => have := LMc24.out; omega)
                intro v392 w27 ho hb hg hat
                rw [← Ny391.out] at ho
                have n0_ := Aside0.mk (blk_grown (g := gb381) (o := .cells #[.bool a0_0, .int .i64 a0_1, .int .i64 a0_2, .int .i64 a0_3, .int .i64 a0_4, .int .i64 a0_5, .int .i64 a0_6] 35 (0, 0)) (by (with_reducible repeat (first | refine bN ?_ _ | refine bD ?_ | refine bA ?_ _)); exact BK381.out) hg (Kd.R_ne HO_9.out BK381.out (by decide)))
                have n1_ := Aside0.mk (hb)
                have n2_ := Aside0.mk (ho)
                clear BK381
                clear HB
                clear HO_9
                have BK381 := n0_
                have HB := n1_
                have HO393 := n2_
                clear n0_ n1_ n2_
                clear ho hb hg hat
                refine hK.out _ _ ⟨(bC BK381.out 0).trans rfl, (bC BK381.out 1).trans rfl, (bC BK381.out 2).trans rfl, (bC BK381.out 3).trans rfl, (bC BK381.out 4).trans rfl, (bC BK381.out 5).trans rfl, (bC BK381.out 6).trans rfl, ((HB.out.cell (World.block_lt_of_cell? w _ hw390_0)).trans hw390_0)⟩ (fun hHeld => ?_)
                clear hK K
                refine norm_ (a' := ?_) ?_ ?_
                rotate_left
                · show Act.put _ (some 76) _ = _
                  simp only [Act.put, sI, sZ, sS, i64_w, i32_w]
                  rfl
                refine pure_ (i := 17) (N := some 9) (v := ?_) (a' := ?_) #[true, true, true, true, true, true, true, true, true, true, true, true, true, true, true, true, true, true] rfl rfl (any_of HT_.out (by kernel_rfl)) (fun _ _ _ h => h) (Or.inl ⟨by rfl, ?_⟩) ?_ ?_
                rotate_left
                · intro w'
                  go_simp
                  with_reducible rfl
                rotate_left
                · simp only [Act.put, sI, sZ, sS, i64_w, i32_w]
                  rfl
                refine done_ (done_of HT_.out (by kernel_rfl)) ?_
                try go_wp2
                go_roundg k1
                case measure => have := HK1.out; omega
                case rel => exact ⟨(y391), (wrap64 (x10_1 + 1)), (by first | rfl | (simp; done) | (simp [*]; done)), H', ⟨by have := HK1.out; omega⟩, ⟨by (with_reducible repeat (first | apply Kd.R_alloc | apply Kd.R_drewN | apply Kd.R_drew)); exact HO393.out⟩, ⟨by (with_reducible repeat (first | refine bN ?_ _ | refine bD ?_ | refine bA ?_ _)); exact BK381.out⟩, ⟨by repeat (first | (with_reducible first | exact HB.out | apply pA | apply pN | apply p1_ | refine bS ?_ GE381.out) | exact HB.out)⟩⟩
              · rw [if_neg c24] at H
                exact absurd H (by simp)
            · rw [if_neg c23] at H
              exact absurd H (by simp)
        · rw [if_neg c9] at H
          have c9b0 : decide (0 < a0_6) = false := decide_eq_false c9
          clear c9
          by_cases c28 : 0 ≤ x10_1
          · rw [if_pos c28] at H
            have c28b0 : decide (0 ≤ x10_1) = true := decide_eq_true c28
            clear c28
            by_cases c29 : x9_1.length < 17592186044416
            · rw [if_pos c29] at H
              have LMc29 := Aside0.mk c29
              clear c29
              obtain ⟨y395, hy395⟩ : ∃ y_ : List Int, y_ = (x9_1 ++ [wrap64 ((wrap64 (a2 + (wrap64 ((wrap64 (a0_1 + a0_2)) * (rd l1 x10_1))))) + a0_4)]) := ⟨_, rfl⟩
              replace H : (w22_words.l0 k1 l1 a2 l3 y395 (wrap64 (x10_1 + 1)) a0_0 a0_1 a0_2 a0_3 a0_4 a0_5 a0_6) = some r := by first | (rw [hy395]; with_reducible exact H) | (have H2_ := (Option.bind_some _ _).symm.trans H; rw [hy395]; with_reducible exact H2_) | (have H2_ := (Option.bind_some _ _).symm.trans H; with_reducible exact H2_) | with_reducible exact H | (rw [hy395]; exact H) | exact H
              have Ny395 := Aside0.mk hy395
              clear hy395
              have H' := Aside0.mk H
              clear H
              have hcz30_0 : wr.cell? ⟨gb381, 0, none⟩ = some (.bool a0_0) := (bC BK381.out 0).trans rfl
              have hcz30_1 : wr.cell? ⟨gb381, 1, none⟩ = some (.int .i64 a0_1) := (bC BK381.out 1).trans rfl
              have hcz30_2 : wr.cell? ⟨gb381, 2, none⟩ = some (.int .i64 a0_2) := (bC BK381.out 2).trans rfl
              have hcz30_3 : wr.cell? ⟨gb381, 3, none⟩ = some (.int .i64 a0_3) := (bC BK381.out 3).trans rfl
              have hcz30_4 : wr.cell? ⟨gb381, 4, none⟩ = some (.int .i64 a0_4) := (bC BK381.out 4).trans rfl
              have hcz30_5 : wr.cell? ⟨gb381, 5, none⟩ = some (.int .i64 a0_5) := (bC BK381.out 5).trans rfl
              have hcz30_6 : wr.cell? ⟨gb381, 6, none⟩ = some (.int .i64 a0_6) := (bC BK381.out 6).trans rfl
              have hfz30_0 := bF BK381.out 0
              have hfz30_1 := bF BK381.out 1
              have hfz30_2 := bF BK381.out 2
              have hfz30_3 := bF BK381.out 3
              have hfz30_4 := bF BK381.out 4
              have hfz30_5 := bF BK381.out 5
              have hfz30_6 := bF BK381.out 6
              try go_wp2
              have n0_ := Aside0.mk (Kd.R_drew HO_9.out)
              have n1_ := Aside0.mk (bD BK381.out)
              have n2_ := Aside0.mk (p1_ HB.out)
              clear HO_9
              clear BK381
              clear HB
              have HO_9 := n0_
              have BK381 := n1_
              have HB := n2_
              clear n0_ n1_ n2_
              have p394 : 0 ≤ (x10_1 : Int) := of_decide_eq_true (by first | (with_reducible assumption) | assumption)
              have q394 : x10_1 < (l1.length : Int) := of_decide_eq_true (by first | (with_reducible assumption) | assumption)
              obtain ⟨ad394, e394, hx394_0⟩ := Kd.at_int HR1.out x10_1 p394 q394
              have hw394_0 := hx394_0
              cases e394
              replace hx394_0 := (HB.out.cell (World.block_lt_of_cell? w _ hx394_0)).trans hx394_0
              replace p394 := eq_true p394
              replace q394 := eq_true q394
              refine start_ (n := 18) (S := fun w' => w'.cell? ⟨gb381, 0, none⟩ = some (.bool a0_0) ∧ w'.cell? ⟨gb381, 1, none⟩ = some (.int .i64 a0_1) ∧ w'.cell? ⟨gb381, 2, none⟩ = some (.int .i64 a0_2) ∧ w'.cell? ⟨gb381, 3, none⟩ = some (.int .i64 a0_3) ∧ w'.cell? ⟨gb381, 4, none⟩ = some (.int .i64 a0_4) ∧ w'.cell? ⟨gb381, 5, none⟩ = some (.int .i64 a0_5) ∧ w'.cell? ⟨gb381, 6, none⟩ = some (.int .i64 a0_6) ∧ w'.cell? (ad394.add (x10_1).toNat) = some (.int .i64 (rd l1 x10_1))) (ds := []) #[false, false, false, false, false, false, false, false, false, false, false, false, false, false, false, false, false, false] (by kernel_rfl) rfl rfl ⟨(bC BK381.out 0).trans rfl, (bC BK381.out 1).trans rfl, (bC BK381.out 2).trans rfl, (bC BK381.out 3).trans rfl, (bC BK381.out 4).trans rfl, (bC BK381.out 5).trans rfl, (bC BK381.out 6).trans rfl, ((HB.out.cell (World.block_lt_of_cell? w _ hw394_0)).trans hw394_0)⟩ (fun hHeld => ?_); refine with_tabW w22_words.tab9 w22_words.bits9 (fun HT_ HW_ => ?_)
              generalize wr.drew = w31 at HO_9 BK381 HB hx394_0 hHeld ⊢
              refine pure_ (i := 0) (N := some 60) (v := ?_) (a' := ?_) #[true, false, false, false, false, false, false, false, false, false, false, false, false, false, false, false, false, false] rfl rfl (any_of HT_.out (by kernel_rfl)) (fun _ _ _ h => h) (Or.inl ⟨by rfl, ?_⟩) ?_ ?_
              rotate_left
              · intro w'
                go_simp
                with_reducible rfl
              rotate_left
              · simp only [Act.put, sI, sZ, sS, i64_w, i32_w]
                rfl
              refine pure_ (i := 1) (N := some 61) (v := ?_) (a' := ?_) #[true, true, false, false, false, false, false, false, false, false, false, false, false, false, false, false, false, false] rfl rfl (any_of HT_.out (by kernel_rfl)) (fun _ _ _ h => h) (Or.inl ⟨by rfl, ?_⟩) ?_ ?_
              rotate_left
              · intro w'
                go_simp
                with_reducible rfl
              rotate_left
              · simp only [Act.put, sI, sZ, sS, i64_w, i32_w]
                rfl
              refine pure_ (i := 2) (N := some 62) (v := ?_) (a' := ?_) #[true, true, true, false, false, false, false, false, false, false, false, false, false, false, false, false, false, false] rfl rfl (any_of HT_.out (by kernel_rfl)) (fun _ _ _ h => h) (Or.inl ⟨by rfl, ?_⟩) ?_ ?_
              rotate_left
              · intro w'
                go_simp
                with_reducible rfl
              rotate_left
              · simp only [Act.put, sI, sZ, sS, i64_w, i32_w]
                rfl
              refine pure_ (i := 4) (N := some 64) (v := ?_) (a' := ?_) #[true, true, true, false, true, false, false, false, false, false, false, false, false, false, false, false, false, false] rfl rfl (any_of HT_.out (by kernel_rfl)) (fun _ _ _ h => h) (Or.inl ⟨by rfl, ?_⟩) ?_ ?_
              rotate_left
              · intro w'
                go_simp
                with_reducible rfl
              rotate_left
              · simp only [Act.put, sI, sZ, sS, i64_w, i32_w]
                rfl
              refine pure_ (i := 7) (N := some 67) (v := ?_) (a' := ?_) #[true, true, true, false, true, false, false, true, false, false, false, false, false, false, false, false, false, false] rfl rfl (any_of HT_.out (by kernel_rfl)) (fun _ _ _ h => h) (Or.inl ⟨by rfl, ?_⟩) ?_ ?_
              rotate_left
              · intro w'
                go_simp
                with_reducible rfl
              rotate_left
              · simp only [Act.put, sI, sZ, sS, i64_w, i32_w]
                rfl
              refine pure_ (i := 8) (N := some 68) (v := ?_) (a' := ?_) #[true, true, true, false, true, false, false, true, true, false, false, false, false, false, false, false, false, false] rfl rfl (any_of HT_.out (by kernel_rfl)) (fun _ _ _ h => h) (Or.inl ⟨by rfl, ?_⟩) ?_ ?_
              rotate_left
              · intro w'
                go_simp
                with_reducible rfl
              rotate_left
              · simp only [Act.put, sI, sZ, sS, i64_w, i32_w]
                rfl
              refine pure_ (i := 9) (N := some 69) (v := ?_) (a' := ?_) #[true, true, true, false, true, false, false, true, true, true, false, false, false, false, false, false, false, false] rfl rfl (any_of HT_.out (by kernel_rfl)) (fun _ _ _ h => h) (Or.inl ⟨by rfl, ?_⟩) ?_ ?_
              rotate_left
              · intro w'
                go_simp
                with_reducible rfl
              rotate_left
              · simp only [Act.put, sI, sZ, sS, i64_w, i32_w]
                rfl
              refine pure_ (i := 13) (N := some 73) (v := ?_) (a' := ?_) #[true, true, true, false, true, false, false, true, true, true, false, false, false, true, false, false, false, false] rfl rfl (any_of HT_.out (by kernel_rfl)) (fun _ _ _ h => h) (Or.inl ⟨by rfl, ?_⟩) ?_ ?_
              rotate_left
              · intro w'
                go_simp
                with_reducible rfl
              rotate_left
              · simp only [Act.put, sI, sZ, sS, i64_w, i32_w]
                rfl
              refine take_ (i := 3) (N := some 63) (v := ?_) (a' := ?_) #[true, true, true, true, true, false, false, true, true, true, false, false, false, true, false, false, false, false] rfl rfl (take_ofW HT_.out HW_.out (by kernel_rfl)) (fun _ _ _ h => h) (Or.inl ⟨by rfl, ?_⟩) hHeld ?_ ?_
              rotate_left
              · rintro w' ⟨s0, s1, s2, s3, s4, s5, s6, s7⟩
                go_simp
                with_reducible rfl
              rotate_left
              · simp only [Act.put, sI, sZ, sS, i64_w, i32_w]
                rfl
              refine take_ (i := 5) (N := some 65) (v := ?_) (a' := ?_) #[true, true, true, true, true, true, false, true, true, true, false, false, false, true, false, false, false, false] rfl rfl (take_ofW HT_.out HW_.out (by kernel_rfl)) (fun _ _ _ h => h) (Or.inl ⟨by rfl, ?_⟩) hHeld ?_ ?_
              rotate_left
              · rintro w' ⟨s0, s1, s2, s3, s4, s5, s6, s7⟩
                go_simp
                with_reducible rfl
              rotate_left
              · simp only [Act.put, sI, sZ, sS, i64_w, i32_w]
                rfl
              refine pure_ (i := 6) (N := some 66) (v := ?_) (a' := ?_) #[true, true, true, true, true, true, true, true, true, true, false, false, false, true, false, false, false, false] rfl rfl (any_of HT_.out (by kernel_rfl)) (fun _ _ _ h => h) (Or.inl ⟨by rfl, ?_⟩) ?_ ?_
              rotate_left
              · intro w'
                go_simp
                with_reducible rfl
              rotate_left
              · simp only [Act.put, sI, sZ, sS, i64_w, i32_w]
                rfl
              refine take_ (i := 10) (N := some 70) (v := ?_) (a' := ?_) #[true, true, true, true, true, true, true, true, true, true, true, false, false, true, false, false, false, false] rfl rfl (take_ofW HT_.out HW_.out (by kernel_rfl)) (fun _ _ _ h => h) (Or.inl ⟨by rfl, ?_⟩) hHeld ?_ ?_
              rotate_left
              · rintro w' ⟨s0, s1, s2, s3, s4, s5, s6, s7⟩
                go_simp
                with_reducible rfl
              rotate_left
              · simp only [Act.put, sI, sZ, sS, i64_w, i32_w]
                rfl
              refine pure_ (i := 11) (N := some 71) (v := ?_) (a' := ?_) #[true, true, true, true, true, true, true, true, true, true, true, true, false, true, false, false, false, false] rfl rfl (any_of HT_.out (by kernel_rfl)) (fun _ _ _ h => h) (Or.inl ⟨by rfl, ?_⟩) ?_ ?_
              rotate_left
              · intro w'
                go_simp
                with_reducible rfl
              rotate_left
              · simp only [Act.put, sI, sZ, sS, i64_w, i32_w]
                rfl
              refine pure_ (i := 12) (N := some 72) (v := ?_) (a' := ?_) #[true, true, true, true, true, true, true, true, true, true, true, true, true, true, false, false, false, false] rfl rfl (any_of HT_.out (by kernel_rfl)) (fun _ _ _ h => h) (Or.inl ⟨by rfl, ?_⟩) ?_ ?_
              rotate_left
              · intro w'
                go_simp
                with_reducible rfl
              rotate_left
              · simp only [Act.put, sI, sZ, sS, i64_w, i32_w]
                rfl
              refine pure_ (i := 14) (N := some 74) (v := ?_) (a' := ?_) #[true, true, true, true, true, true, true, true, true, true, true, true, true, true, true, false, false, false] rfl rfl (any_of HT_.out (by kernel_rfl)) (fun _ _ _ h => h) (Or.inl ⟨by rfl, ?_⟩) ?_ ?_
              rotate_left
              · intro w'
                go_simp
                with_reducible rfl
              rotate_left
              · simp only [Act.put, sI, sZ, sS, i64_w, i32_w]
                rfl
              refine one_ (i := 15) (N := some 75) #[true, true, true, true, true, true, true, true, true, true, true, true, true, true, true, true, false, false] rfl rfl (one_of HT_.out (by kernel_rfl)) (by decide) (fun K hK => ?_)
              refine value_ (w1 := ?_) (v := ?_) (by rfl) rfl ?_ ?_
              rotate_left 2
              · go_simp
                constructor
                · rfl
                · rfl
              refine hK.out _ _ ⟨(bC (bA BK381.out _) 0).trans rfl, (bC (bA BK381.out _) 1).trans rfl, (bC (bA BK381.out _) 2).trans rfl, (bC (bA BK381.out _) 3).trans rfl, (bC (bA BK381.out _) 4).trans rfl, (bC (bA BK381.out _) 5).trans rfl, (bC (bA BK381.out _) 6).trans rfl, (World.cell?_alloc_lt _ _ _ (World.block_lt_of_cell? _ _ (((HB.out.cell (World.block_lt_of_cell? w _ hw394_0)).trans hw394_0)))).trans (((HB.out.cell (World.block_lt_of_cell? w _ hw394_0)).trans hw394_0))⟩ (fun hHeld => ?_)
              clear hK K
              refine norm_ (a' := ?_) ?_ ?_
              rotate_left
              · show Act.put _ (some 75) _ = _
                simp only [Act.put, sI, sZ, sS, i64_w, i32_w]
                rfl
              refine one_ (i := 16) (N := some 76) #[true, true, true, true, true, true, true, true, true, true, true, true, true, true, true, true, true, false] rfl rfl (one_of HT_.out (by kernel_rfl)) (by decide) (fun K hK => ?_)
              refine Kd.R_append_step (Kd.int .i64) (w0 := w) w.heap.size (by rfl) (.tmp 60) (.tmp 75) 22 3 (.int .i64 0) 8 rfl Tryd.underlying22 info3 rfl (by decide) (by omega) u9 x9_1 (wrap64 ((wrap64 (a2 + (wrap64 ((wrap64 (a0_1 + a0_2)) * (rd l1 x10_1))))) + a0_4)) [.int .i64 (wrap64 ((wrap64 (a2 + (wrap64 ((wrap64 (a0_1 + a0_2)) * (rd l1 x10_1))))) + a0_4))] (fun _ => True) (fun _ => False) rfl rfl ?aP (fun _ hk => hk.elim) ?aF ?aO ?aB ?aS ?aL ?_
              (case aP => exact rfl)
              (case aB => exact (by repeat (first | (with_reducible first | exact HB.out | apply pA | apply pN | apply p1_ | refine bS ?_ GE381.out) | exact HB.out)))
              (case aF => exact (fun _ _ => trivial))
              (case aO => exact (by (with_reducible repeat (first | apply Kd.R_alloc | apply Kd.R_drewN | apply Kd.R_drew)); exact HO_9.out))
              (case aS => exact (below_size (by repeat (first | (with_reducible first | exact HB.out | apply pA | apply pN | apply p1_ | refine bS ?_ GE381.out) | exact HB.out))))
              (case aL => have := LMc29.out; omega)
              intro v396 w32 ho hb hg hat
              rw [← Ny395.out] at ho
              have n0_ := Aside0.mk (blk_grown (g := gb381) (o := .cells #[.bool a0_0, .int .i64 a0_1, .int .i64 a0_2, .int .i64 a0_3, .int .i64 a0_4, .int .i64 a0_5, .int .i64 a0_6] 35 (0, 0)) (by (with_reducible repeat (first | refine bN ?_ _ | refine bD ?_ | refine bA ?_ _)); exact BK381.out) hg (Kd.R_ne HO_9.out BK381.out (by decide)))
              have n1_ := Aside0.mk (hb)
              have n2_ := Aside0.mk (ho)
              clear BK381
              clear HB
              clear HO_9
              have BK381 := n0_
              have HB := n1_
              have HO397 := n2_
              clear n0_ n1_ n2_
              clear ho hb hg hat
              refine hK.out _ _ ⟨(bC BK381.out 0).trans rfl, (bC BK381.out 1).trans rfl, (bC BK381.out 2).trans rfl, (bC BK381.out 3).trans rfl, (bC BK381.out 4).trans rfl, (bC BK381.out 5).trans rfl, (bC BK381.out 6).trans rfl, ((HB.out.cell (World.block_lt_of_cell? w _ hw394_0)).trans hw394_0)⟩ (fun hHeld => ?_)
              clear hK K
              refine norm_ (a' := ?_) ?_ ?_
              rotate_left
              · show Act.put _ (some 76) _ = _
                simp only [Act.put, sI, sZ, sS, i64_w, i32_w]
                rfl
              refine pure_ (i := 17) (N := some 9) (v := ?_) (a' := ?_) #[true, true, true, true, true, true, true, true, true, true, true, true, true, true, true, true, true, true] rfl rfl (any_of HT_.out (by kernel_rfl)) (fun _ _ _ h => h) (Or.inl ⟨by rfl, ?_⟩) ?_ ?_
              rotate_left
              · intro w'
                go_simp
                with_reducible rfl
              rotate_left
              · simp only [Act.put, sI, sZ, sS, i64_w, i32_w]
                rfl
              refine done_ (done_of HT_.out (by kernel_rfl)) ?_
              try go_wp2
              go_roundg k1
              case measure => have := HK1.out; omega
              case rel => exact ⟨(y395), (wrap64 (x10_1 + 1)), (by first | rfl | (simp; done) | (simp [*]; done)), H', ⟨by have := HK1.out; omega⟩, ⟨by (with_reducible repeat (first | apply Kd.R_alloc | apply Kd.R_drewN | apply Kd.R_drew)); exact HO397.out⟩, ⟨by (with_reducible repeat (first | refine bN ?_ _ | refine bD ?_ | refine bA ?_ _)); exact BK381.out⟩, ⟨by repeat (first | (with_reducible first | exact HB.out | apply pA | apply pN | apply p1_ | refine bS ?_ GE381.out) | exact HB.out)⟩⟩
            · rw [if_neg c29] at H
              exact absurd H (by simp)
          · rw [if_neg c28] at H
            exact absurd H (by simp)
      · rw [if_neg c8] at H
        have c8b0 : decide (x10_1 < (l1.length : Int)) = false := decide_eq_false c8
        clear c8
        obtain rfl := Option.some.inj H
        go_wp2
        go_ret
        exact ⟨_, by first | rfl | (simp [errW_none, errW_some] <;> rfl) | (simp [*, errW_none, errW_some] <;> rfl), by (with_reducible repeat (first | apply Kd.R_alloc | apply Kd.R_drewN | apply Kd.R_drew)); exact HO_9.out, by repeat (first | (with_reducible first | exact HB.out | apply pA | apply pN | apply p1_ | refine bS ?_ GE381.out) | exact HB.out)⟩

end Go.Proofs.YtnjeliicnbfclaaDoor.P
