/- v22_Form, the reference's form of a description: its contract. -/
import Derived.Test.YtnjeliicnbfclaaDoorPx0
namespace Go.Proofs.YtnjeliicnbfclaaDoor.P
open Go.RowKit Go.Proofs.YtnjeliicnbfclaaDoorW.PrintWords Go.Proofs.YtnjeliicnbfclaaDoorW.PrintLast Go.Proofs.YtnjeliicnbfclaaDoorW.PrintMore
set_option linter.unusedVariables false
set_option linter.unusedSimpArgs false

/-- A walk goes on from any world with these facts. -/
theorem wp_gen {P : Program} {c : Code} {Q : Exit → Act → World → Prop} {a : Act} {w : World} (φ : World → Prop) (h : φ w) (k : ∀ W, φ W → Code.wp P c Q a W) : Code.wp P c Q a w := k w h

def v22_Form.f (a0_0 : Bool) (a0_1 : Int) (a0_2 : Int) (a0_3 : Int) (a0_4 : Int) (a0_5 : Int) (a0_6 : Int) (a0_7 : Bool) : Option (Bool × Int × Int × Int × Int × Int × Int) := if a0_7 = true then (if (Int.tmod a0_6 8) > 0 then (some (a0_0, wrap64 ((wrap64 (a0_1)) * 16777216), wrap64 (a0_2), wrap64 (a0_3), wrap64 (a0_4), wrap64 ((wrap64 (a0_4)) + (wrap64 ((wrap64 ((wrap64 (Int.tmod a0_5 64)) + 1)) * (wrap64 (Int.tmod a0_6 8))))), wrap64 ((wrap64 (Int.tmod a0_5 64)) + 1))) else (some (a0_0, wrap64 ((wrap64 (a0_1)) * 16777216), wrap64 (a0_2), wrap64 (a0_3), wrap64 (a0_4), wrap64 (a0_4), 0))) else (if (Int.tmod a0_6 8) > 0 then (some (a0_0, wrap64 (a0_1), wrap64 (a0_2), wrap64 (a0_3), wrap64 (a0_4), wrap64 ((wrap64 (a0_4)) + (wrap64 ((wrap64 ((wrap64 (Int.tmod a0_5 64)) + 1)) * (wrap64 (Int.tmod a0_6 8))))), wrap64 ((wrap64 (Int.tmod a0_5 64)) + 1))) else (some (a0_0, wrap64 (a0_1), wrap64 (a0_2), wrap64 (a0_3), wrap64 (a0_4), wrap64 (a0_4), 0)))
set_option maxHeartbeats 8000000 in
set_option maxRecDepth 100000 in
theorem v22_Form.calls (a0_0 : Bool) (a0_1 : Int) (a0_2 : Int) (a0_3 : Int) (a0_4 : Int) (a0_5 : Int) (a0_6 : Int) (a0_7 : Bool) (r1 : Bool) (r2 : Int) (r3 : Int) (r4 : Int) (r5 : Int) (r6 : Int) (r7 : Int) (w : World) (h : v22_Form.f a0_0 a0_1 a0_2 a0_3 a0_4 a0_5 a0_6 a0_7 = some (r1, r2, r3, r4, r5, r6, r7)) :
    Calls Tryd.prog 10 #[.agg #[.bool a0_0, .int .i16 a0_1, .int .i16 a0_2, .int .i16 a0_3, .int .i32 a0_4, .int .u16 a0_5, .int .u16 a0_6, .bool a0_7]] w fun e w' => e = .returned (.agg #[.bool r1, .int .i64 r2, .int .i64 r3, .int .i64 r4, .int .i64 r5, .int .i64 r6, .int .i64 r7]) ∧ Below w.heap.size w w' := by
  have hu27 := Tryd.underlying27
  have hu35 := Tryd.underlying35
  have HB := Aside0.mk (Below.refl w.heap.size w)
  have H := h
  unfold v22_Form.f at H
  clear h
  by_cases c2 : a0_7 = true
  · subst c2
    rw [if_pos rfl] at H
    by_cases c3 : (Int.tmod a0_6 8) > 0
    · rw [if_pos c3] at H
      have c3b0 : decide (0 < (Int.tmod a0_6 8)) = true := decide_eq_true c3
      clear c3
      simp only [Option.some.injEq, Prod.mk.injEq] at H
      obtain ⟨rfl, rfl, rfl, rfl, rfl, rfl, rfl⟩ := H
      go_enter Tryd.func10, Tryd.ntmps10
      go_upto_region 4 with (first | ((with_reducible refine gate_dst (N := 1) rfl ?_); refine box_event ?hg (N := 1) ?hd (cs := #[.bool a0_0, .int .i16 a0_1, .int .i16 a0_2, .int .i16 a0_3, .int .i32 a0_4, .int .u16 a0_5, .int .u16 a0_6, .bool true]) (t := 27) ?hr ?_; (case hd => rfl); (case hg => rfl); (case hr => first | (go_simp; done) | (go_simp; rfl)); intro gb161 hg w4 hbox hb; have n0_ := Aside0.mk (below_step (by repeat (first | (with_reducible first | exact HB.out | apply pA | apply pN | apply p1_) | exact HB.out)) hb); have n1_ := Aside0.mk (hbox); have n2_ := Aside0.mk ((by rw [hg]; exact (below_size (by repeat (first | (with_reducible first | exact HB.out | apply pA | apply pN | apply p1_) | exact HB.out))) : w.heap.size ≤ gb161)); have n3_ := Aside0.mk ((by rw [hg]; exact (below_size (by repeat (first | (with_reducible first | exact HB.out | apply pA | apply pN | apply p1_) | exact HB.out))) : w.heap.size ≤ gb161)); clear HB; have HB := n0_; have BK161 := n1_; have GW161 := n2_; have GE161 := n3_; clear n0_ n1_ n2_ n3_; clear hb hbox hg) | ((with_reducible refine gate_dst (N := 2) rfl ?_); refine box_event ?hg (N := 2) ?hd (cs := #[.bool false, .int .i64 0, .int .i64 0, .int .i64 0, .int .i64 0, .int .i64 0, .int .i64 0]) (t := 35) ?hr ?_; (case hd => rfl); (case hg => rfl); (case hr => first | (go_simp; done) | (go_simp; rfl)); intro gb162 hg w5 hbox hb; have n0_ := Aside0.mk (bB (g := gb161) (o := .cells #[.bool a0_0, .int .i16 a0_1, .int .i16 a0_2, .int .i16 a0_3, .int .i32 a0_4, .int .u16 a0_5, .int .u16 a0_6, .bool true] 27 (0, 0)) (by (with_reducible repeat (first | refine bN ?_ _ | refine bD ?_ | refine bA ?_ _)); exact BK161.out) hb); have n1_ := Aside0.mk (below_step (by repeat (first | (with_reducible first | exact HB.out | apply pA | apply pN | apply p1_ | refine bS ?_ GE161.out) | exact HB.out)) hb); have n2_ := Aside0.mk (hbox); have n3_ := Aside0.mk ((by rw [hg]; exact (below_size (by repeat (first | (with_reducible first | exact HB.out | apply pA | apply pN | apply p1_ | refine bS ?_ GE161.out) | exact HB.out))) : w.heap.size ≤ gb162)); have n4_ := Aside0.mk ((by rw [hg]; exact (below_size (by repeat (first | (with_reducible first | exact HB.out | apply pA | apply pN | apply p1_ | refine bS ?_ GE161.out) | exact HB.out))) : w.heap.size ≤ gb162)); have n5_ := Aside0.mk ((by rw [hg]; exact Nat.ne_of_lt (blk_lt (g := gb161) (o := .cells #[.bool a0_0, .int .i16 a0_1, .int .i16 a0_2, .int .i16 a0_3, .int .i32 a0_4, .int .u16 a0_5, .int .u16 a0_6, .bool true] 27 (0, 0)) (by (with_reducible repeat (first | refine bN ?_ _ | refine bD ?_ | refine bA ?_ _)); exact BK161.out)) : gb161 ≠ gb162)); have n6_ := Aside0.mk ((by rw [hg]; exact Nat.ne_of_gt (blk_lt (g := gb161) (o := .cells #[.bool a0_0, .int .i16 a0_1, .int .i16 a0_2, .int .i16 a0_3, .int .i32 a0_4, .int .u16 a0_5, .int .u16 a0_6, .bool true] 27 (0, 0)) (by (with_reducible repeat (first | refine bN ?_ _ | refine bD ?_ | refine bA ?_ _)); exact BK161.out)) : gb162 ≠ gb161)); clear BK161; clear HB; have BK161 := n0_; have HB := n1_; have BK162 := n2_; have GW162 := n3_; have GE162 := n4_; have Nd_ := n5_; have Nc_ := n6_; clear n0_ n1_ n2_ n3_ n4_ n5_ n6_; clear hb hbox hg; have hnb6 := Nd_.out; have hnc6 := Nc_.out; have hcz7_0 : w5.cell? ⟨gb161, 0, none⟩ = some (.bool a0_0) := (bC BK161.out 0).trans rfl; have hcz7_1 : w5.cell? ⟨gb161, 1, none⟩ = some (.int .i16 a0_1) := (bC BK161.out 1).trans rfl; have hcz7_2 : w5.cell? ⟨gb161, 2, none⟩ = some (.int .i16 a0_2) := (bC BK161.out 2).trans rfl; have hcz7_3 : w5.cell? ⟨gb161, 3, none⟩ = some (.int .i16 a0_3) := (bC BK161.out 3).trans rfl; have hcz7_4 : w5.cell? ⟨gb161, 4, none⟩ = some (.int .i32 a0_4) := (bC BK161.out 4).trans rfl; have hcz7_5 : w5.cell? ⟨gb161, 5, none⟩ = some (.int .u16 a0_5) := (bC BK161.out 5).trans rfl; have hcz7_6 : w5.cell? ⟨gb161, 6, none⟩ = some (.int .u16 a0_6) := (bC BK161.out 6).trans rfl; have hcz7_7 : w5.cell? ⟨gb161, 7, none⟩ = some (.bool true) := (bC BK161.out 7).trans rfl; have hfz7_0 := bF BK161.out 0; have hfz7_1 := bF BK161.out 1; have hfz7_2 := bF BK161.out 2; have hfz7_3 := bF BK161.out 3; have hfz7_4 := bF BK161.out 4; have hfz7_5 := bF BK161.out 5; have hfz7_6 := bF BK161.out 6; have hfz7_7 := bF BK161.out 7) | ((with_reducible refine gate_dst (N := 3) rfl ?_); refine box_event ?hg (N := 3) ?hd (cs := #[.bool false, .int .i64 0, .int .i64 0, .int .i64 0, .int .i64 0, .int .i64 0, .int .i64 0]) (t := 35) ?hr ?_; (case hd => rfl); (case hg => rfl); (case hr => first | (go_simp; done) | (go_simp; rfl)); intro gb163 hg w8 hbox hb; have n0_ := Aside0.mk (bB (g := gb161) (o := .cells #[.bool a0_0, .int .i16 a0_1, .int .i16 a0_2, .int .i16 a0_3, .int .i32 a0_4, .int .u16 a0_5, .int .u16 a0_6, .bool true] 27 (0, 0)) (by (with_reducible repeat (first | refine bN ?_ _ | refine bD ?_ | refine bA ?_ _)); exact BK161.out) hb); have n1_ := Aside0.mk (bB (g := gb162) (o := .cells #[.bool false, .int .i64 0, .int .i64 0, .int .i64 0, .int .i64 0, .int .i64 0, .int .i64 0] 35 (0, 0)) (by (with_reducible repeat (first | refine bN ?_ _ | refine bD ?_ | refine bA ?_ _)); exact BK162.out) hb); have n2_ := Aside0.mk (below_step (by repeat (first | (with_reducible first | exact HB.out | apply pA | apply pN | apply p1_ | refine bS ?_ GE161.out | refine bS ?_ GE162.out) | exact HB.out)) hb); have n3_ := Aside0.mk (hbox); have n4_ := Aside0.mk ((by rw [hg]; exact (below_size (by repeat (first | (with_reducible first | exact HB.out | apply pA | apply pN | apply p1_ | refine bS ?_ GE161.out | refine bS ?_ GE162.out) | exact HB.out))) : w.heap.size ≤ gb163)); have n5_ := Aside0.mk ((by rw [hg]; exact (below_size (by repeat (first | (with_reducible first | exact HB.out | apply pA | apply pN | apply p1_ | refine bS ?_ GE161.out | refine bS ?_ GE162.out) | exact HB.out))) : w.heap.size ≤ gb163)); have n6_ := Aside0.mk ((by rw [hg]; exact Nat.ne_of_lt (blk_lt (g := gb161) (o := .cells #[.bool a0_0, .int .i16 a0_1, .int .i16 a0_2, .int .i16 a0_3, .int .i32 a0_4, .int .u16 a0_5, .int .u16 a0_6, .bool true] 27 (0, 0)) (by (with_reducible repeat (first | refine bN ?_ _ | refine bD ?_ | refine bA ?_ _)); exact BK161.out)) : gb161 ≠ gb163)); have n7_ := Aside0.mk ((by rw [hg]; exact Nat.ne_of_gt (blk_lt (g := gb161) (o := .cells #[.bool a0_0, .int .i16 a0_1, .int .i16 a0_2, .int .i16 a0_3, .int .i32 a0_4, .int .u16 a0_5, .int .u16 a0_6, .bool true] 27 (0, 0)) (by (with_reducible repeat (first | refine bN ?_ _ | refine bD ?_ | refine bA ?_ _)); exact BK161.out)) : gb163 ≠ gb161)); have n8_ := Aside0.mk ((by rw [hg]; exact Nat.ne_of_lt (blk_lt (g := gb162) (o := .cells #[.bool false, .int .i64 0, .int .i64 0, .int .i64 0, .int .i64 0, .int .i64 0, .int .i64 0] 35 (0, 0)) (by (with_reducible repeat (first | refine bN ?_ _ | refine bD ?_ | refine bA ?_ _)); exact BK162.out)) : gb162 ≠ gb163)); have n9_ := Aside0.mk ((by rw [hg]; exact Nat.ne_of_gt (blk_lt (g := gb162) (o := .cells #[.bool false, .int .i64 0, .int .i64 0, .int .i64 0, .int .i64 0, .int .i64 0, .int .i64 0] 35 (0, 0)) (by (with_reducible repeat (first | refine bN ?_ _ | refine bD ?_ | refine bA ?_ _)); exact BK162.out)) : gb163 ≠ gb162)); clear BK161; clear BK162; clear HB; have BK161 := n0_; have BK162 := n1_; have HB := n2_; have BK163 := n3_; have GW163 := n4_; have GE163 := n5_; have Nf_ := n6_; have Ne_ := n7_; have Na_ := n8_; have Nb_ := n9_; clear n0_ n1_ n2_ n3_ n4_ n5_ n6_ n7_ n8_ n9_; clear hb hbox hg; have hnb9 := Ne_.out; have hnc9 := Nf_.out; have hnb10 := Nb_.out; have hnc10 := Na_.out; have hcz11_0 : w8.cell? ⟨gb163, 0, none⟩ = some (.bool false) := (bC BK163.out 0).trans rfl; have hcz11_1 : w8.cell? ⟨gb163, 1, none⟩ = some (.int .i64 0) := (bC BK163.out 1).trans rfl; have hcz11_2 : w8.cell? ⟨gb163, 2, none⟩ = some (.int .i64 0) := (bC BK163.out 2).trans rfl; have hcz11_3 : w8.cell? ⟨gb163, 3, none⟩ = some (.int .i64 0) := (bC BK163.out 3).trans rfl; have hcz11_4 : w8.cell? ⟨gb163, 4, none⟩ = some (.int .i64 0) := (bC BK163.out 4).trans rfl; have hcz11_5 : w8.cell? ⟨gb163, 5, none⟩ = some (.int .i64 0) := (bC BK163.out 5).trans rfl; have hcz11_6 : w8.cell? ⟨gb163, 6, none⟩ = some (.int .i64 0) := (bC BK163.out 6).trans rfl; have hfz11_0 := bF BK163.out 0; have hfz11_1 := bF BK163.out 1; have hfz11_2 := bF BK163.out 2; have hfz11_3 := bF BK163.out 3; have hfz11_4 := bF BK163.out 4; have hfz11_5 := bF BK163.out 5; have hfz11_6 := bF BK163.out 6; have hcz12_0 : w8.cell? ⟨gb161, 0, none⟩ = some (.bool a0_0) := (bC BK161.out 0).trans rfl; have hcz12_1 : w8.cell? ⟨gb161, 1, none⟩ = some (.int .i16 a0_1) := (bC BK161.out 1).trans rfl; have hcz12_2 : w8.cell? ⟨gb161, 2, none⟩ = some (.int .i16 a0_2) := (bC BK161.out 2).trans rfl; have hcz12_3 : w8.cell? ⟨gb161, 3, none⟩ = some (.int .i16 a0_3) := (bC BK161.out 3).trans rfl; have hcz12_4 : w8.cell? ⟨gb161, 4, none⟩ = some (.int .i32 a0_4) := (bC BK161.out 4).trans rfl; have hcz12_5 : w8.cell? ⟨gb161, 5, none⟩ = some (.int .u16 a0_5) := (bC BK161.out 5).trans rfl; have hcz12_6 : w8.cell? ⟨gb161, 6, none⟩ = some (.int .u16 a0_6) := (bC BK161.out 6).trans rfl; have hcz12_7 : w8.cell? ⟨gb161, 7, none⟩ = some (.bool true) := (bC BK161.out 7).trans rfl; have hfz12_0 := bF BK161.out 0; have hfz12_1 := bF BK161.out 1; have hfz12_2 := bF BK161.out 2; have hfz12_3 := bF BK161.out 3; have hfz12_4 := bF BK161.out 4; have hfz12_5 := bF BK161.out 5; have hfz12_6 := bF BK161.out 6; have hfz12_7 := bF BK161.out 7; have hcz13_0 : w8.cell? ⟨gb162, 0, none⟩ = some (.bool false) := (bC BK162.out 0).trans rfl; have hcz13_1 : w8.cell? ⟨gb162, 1, none⟩ = some (.int .i64 0) := (bC BK162.out 1).trans rfl; have hcz13_2 : w8.cell? ⟨gb162, 2, none⟩ = some (.int .i64 0) := (bC BK162.out 2).trans rfl; have hcz13_3 : w8.cell? ⟨gb162, 3, none⟩ = some (.int .i64 0) := (bC BK162.out 3).trans rfl; have hcz13_4 : w8.cell? ⟨gb162, 4, none⟩ = some (.int .i64 0) := (bC BK162.out 4).trans rfl; have hcz13_5 : w8.cell? ⟨gb162, 5, none⟩ = some (.int .i64 0) := (bC BK162.out 5).trans rfl; have hcz13_6 : w8.cell? ⟨gb162, 6, none⟩ = some (.int .i64 0) := (bC BK162.out 6).trans rfl; have hfz13_0 := bF BK162.out 0; have hfz13_1 := bF BK162.out 1; have hfz13_2 := bF BK162.out 2; have hfz13_3 := bF BK162.out 3; have hfz13_4 := bF BK162.out 4; have hfz13_5 := bF BK162.out 5; have hfz13_6 := bF BK162.out 6))
      refine wp_gen (fun W => W.heap[gb163]? = some (.cells #[.bool a0_0, .int .i64 (wrap64 ((wrap64 (a0_1)) * 16777216)), .int .i64 (wrap64 (a0_2)), .int .i64 (wrap64 (a0_3)), .int .i64 0, .int .i64 0, .int .i64 0] 35 (0, 0)) ∧ W.heap[gb162]? = some (.cells #[.bool false, .int .i64 0, .int .i64 0, .int .i64 0, .int .i64 0, .int .i64 0, .int .i64 0] 35 (0, 0)) ∧ W.heap[gb161]? = some (.cells #[.bool a0_0, .int .i16 a0_1, .int .i16 a0_2, .int .i16 a0_3, .int .i32 a0_4, .int .u16 a0_5, .int .u16 a0_6, .bool true] 27 (0, 0)) ∧ Below w.heap.size w W) ?_ ?_
      · refine ⟨?_, ?_, ?_, ?_⟩
        · refine blk_put (cs := #[.bool a0_0, .int .i64 (wrap64 (a0_1)), .int .i64 (wrap64 (a0_2)), .int .i64 (wrap64 (a0_3)), .int .i64 0, .int .i64 0, .int .i64 0]) ?_ 1 _ rfl
          refine blk_put (cs := #[.bool a0_0, .int .i64 (wrap64 (a0_1)), .int .i64 (wrap64 (a0_2)), .int .i64 (wrap64 (a0_3)), .int .i64 0, .int .i64 0, .int .i64 0]) ?_ 6 _ rfl
          refine blk_put (cs := #[.bool a0_0, .int .i64 (wrap64 (a0_1)), .int .i64 (wrap64 (a0_2)), .int .i64 (wrap64 (a0_3)), .int .i64 0, .int .i64 0, .int .i64 0]) ?_ 5 _ rfl
          refine blk_put (cs := #[.bool a0_0, .int .i64 (wrap64 (a0_1)), .int .i64 (wrap64 (a0_2)), .int .i64 (wrap64 (a0_3)), .int .i64 0, .int .i64 0, .int .i64 0]) ?_ 4 _ rfl
          refine blk_put (cs := #[.bool a0_0, .int .i64 (wrap64 (a0_1)), .int .i64 (wrap64 (a0_2)), .int .i64 0, .int .i64 0, .int .i64 0, .int .i64 0]) ?_ 3 _ rfl
          refine blk_put (cs := #[.bool a0_0, .int .i64 (wrap64 (a0_1)), .int .i64 0, .int .i64 0, .int .i64 0, .int .i64 0, .int .i64 0]) ?_ 2 _ rfl
          refine blk_put (cs := #[.bool a0_0, .int .i64 0, .int .i64 0, .int .i64 0, .int .i64 0, .int .i64 0, .int .i64 0]) ?_ 1 _ rfl
          refine blk_put (cs := #[.bool false, .int .i64 0, .int .i64 0, .int .i64 0, .int .i64 0, .int .i64 0, .int .i64 0]) ?_ 0 _ rfl
          exact BK163.out
        · iterate 8 refine blk_far ?_ Na_.out _
          exact BK162.out
        · iterate 8 refine blk_far ?_ (Ne.symm hnb9) _
          exact BK161.out
        · iterate 8 refine bS ?_ GE163.out
          exact HB.out
      clear HB BK161 BK162 BK163 hcz11_0 hcz11_1 hcz11_2 hcz11_3 hcz11_4 hcz11_5 hcz11_6 hcz12_0 hcz12_1 hcz12_2 hcz12_3 hcz12_4 hcz12_5 hcz12_6 hcz12_7 hcz13_0 hcz13_1 hcz13_2 hcz13_3 hcz13_4 hcz13_5 hcz13_6
      rintro W1 ⟨hF, hR, hX, hB⟩
      have BK163 := Aside0.mk hF
      have BK162 := Aside0.mk hR
      have HB := Aside0.mk hB
      have q4 : W1.cell? ⟨gb163, 4, none⟩ = some (.int .i64 0) := (bC hF 4).trans rfl
      have q5 : W1.cell? ⟨gb163, 5, none⟩ = some (.int .i64 0) := (bC hF 5).trans rfl
      have q6 : W1.cell? ⟨gb163, 6, none⟩ = some (.int .i64 0) := (bC hF 6).trans rfl
      have x4 : W1.cell? ⟨gb161, 4, none⟩ = some (.int .i32 a0_4) := (bC hX 4).trans rfl
      have x5 : W1.cell? ⟨gb161, 5, none⟩ = some (.int .u16 a0_5) := (bC hX 5).trans rfl
      have x6 : W1.cell? ⟨gb161, 6, none⟩ = some (.int .u16 a0_6) := (bC hX 6).trans rfl
      have f04 := bF hF 4
      have f05 := bF hF 5
      have f06 := bF hF 6
      have f14 := bF hX 4
      have f15 := bF hX 5
      have f16 := bF hX 6
      clear hF hR hX hB
      go_upto_region 9 with (fail)
      refine wp_gen (fun W => W.heap[gb163]? = some (.cells #[.bool a0_0, .int .i64 (wrap64 ((wrap64 (a0_1)) * 16777216)), .int .i64 (wrap64 (a0_2)), .int .i64 (wrap64 (a0_3)), .int .i64 (wrap64 (a0_4)), .int .i64 (wrap64 ((wrap64 (a0_4)) + (wrap64 ((wrap64 ((wrap64 (Int.tmod a0_5 64)) + 1)) * (wrap64 (Int.tmod a0_6 8)))))), .int .i64 (wrap64 ((wrap64 (Int.tmod a0_5 64)) + 1))] 35 (0, 0)) ∧ W.heap[gb162]? = some (.cells #[.bool false, .int .i64 0, .int .i64 0, .int .i64 0, .int .i64 0, .int .i64 0, .int .i64 0] 35 (0, 0)) ∧ Below w.heap.size w W) ?_ ?_
      · refine ⟨?_, ?_, ?_⟩
        · refine blk_put (cs := #[.bool a0_0, .int .i64 (wrap64 ((wrap64 (a0_1)) * 16777216)), .int .i64 (wrap64 (a0_2)), .int .i64 (wrap64 (a0_3)), .int .i64 (wrap64 (a0_4)), .int .i64 (wrap64 (a0_4)), .int .i64 (wrap64 ((wrap64 (Int.tmod a0_5 64)) + 1))]) ?_ 5 _ rfl
          refine blk_put (cs := #[.bool a0_0, .int .i64 (wrap64 ((wrap64 (a0_1)) * 16777216)), .int .i64 (wrap64 (a0_2)), .int .i64 (wrap64 (a0_3)), .int .i64 (wrap64 (a0_4)), .int .i64 (wrap64 (a0_4)), .int .i64 0]) ?_ 6 _ rfl
          refine blk_put (cs := #[.bool a0_0, .int .i64 (wrap64 ((wrap64 (a0_1)) * 16777216)), .int .i64 (wrap64 (a0_2)), .int .i64 (wrap64 (a0_3)), .int .i64 (wrap64 (a0_4)), .int .i64 0, .int .i64 0]) ?_ 5 _ rfl
          refine blk_put (cs := #[.bool a0_0, .int .i64 (wrap64 ((wrap64 (a0_1)) * 16777216)), .int .i64 (wrap64 (a0_2)), .int .i64 (wrap64 (a0_3)), .int .i64 0, .int .i64 0, .int .i64 0]) ?_ 4 _ rfl
          exact BK163.out
        · iterate 4 refine blk_far ?_ Na_.out _
          exact BK162.out
        · iterate 4 refine bS ?_ GE163.out
          exact HB.out
      clear HB BK162 BK163 q4 q5 q6 x4 x5 x6 f04 f05 f06 f14 f15 f16
      rintro W2 ⟨hF, hR, hB⟩
      have BK162 := Aside0.mk hR
      have HB := Aside0.mk hB
      have q0 : W2.cell? ⟨gb163, 0, none⟩ = some (.bool a0_0) := (bC hF 0).trans rfl
      have q1 : W2.cell? ⟨gb163, 1, none⟩ = some (.int .i64 (wrap64 ((wrap64 (a0_1)) * 16777216))) := (bC hF 1).trans rfl
      have q2 : W2.cell? ⟨gb163, 2, none⟩ = some (.int .i64 (wrap64 (a0_2))) := (bC hF 2).trans rfl
      have q3 : W2.cell? ⟨gb163, 3, none⟩ = some (.int .i64 (wrap64 (a0_3))) := (bC hF 3).trans rfl
      have q4 : W2.cell? ⟨gb163, 4, none⟩ = some (.int .i64 (wrap64 (a0_4))) := (bC hF 4).trans rfl
      have q5 : W2.cell? ⟨gb163, 5, none⟩ = some (.int .i64 (wrap64 ((wrap64 (a0_4)) + (wrap64 ((wrap64 ((wrap64 (Int.tmod a0_5 64)) + 1)) * (wrap64 (Int.tmod a0_6 8))))))) := (bC hF 5).trans rfl
      have q6 : W2.cell? ⟨gb163, 6, none⟩ = some (.int .i64 (wrap64 ((wrap64 (Int.tmod a0_5 64)) + 1))) := (bC hF 6).trans rfl
      have r0 : W2.cell? ⟨gb162, 0, none⟩ = some (.bool false) := (bC hR 0).trans rfl
      have f0 := bF hR 0
      have g0 := bF hF 0
      have r1 : W2.cell? ⟨gb162, 1, none⟩ = some (.int .i64 0) := (bC hR 1).trans rfl
      have f1 := bF hR 1
      have g1 := bF hF 1
      have r2 : W2.cell? ⟨gb162, 2, none⟩ = some (.int .i64 0) := (bC hR 2).trans rfl
      have f2 := bF hR 2
      have g2 := bF hF 2
      have r3 : W2.cell? ⟨gb162, 3, none⟩ = some (.int .i64 0) := (bC hR 3).trans rfl
      have f3 := bF hR 3
      have g3 := bF hF 3
      have r4 : W2.cell? ⟨gb162, 4, none⟩ = some (.int .i64 0) := (bC hR 4).trans rfl
      have f4 := bF hR 4
      have g4 := bF hF 4
      have r5 : W2.cell? ⟨gb162, 5, none⟩ = some (.int .i64 0) := (bC hR 5).trans rfl
      have f5 := bF hR 5
      have g5 := bF hF 5
      have r6 : W2.cell? ⟨gb162, 6, none⟩ = some (.int .i64 0) := (bC hR 6).trans rfl
      have f6 := bF hR 6
      have g6 := bF hF 6
      clear hF hR hB
      go_wp2
      refine bodyPost_ret (results_cell_row rfl _ _ gb162 35 #[.bool a0_0, .int .i64 (wrap64 ((wrap64 (a0_1)) * 16777216)), .int .i64 (wrap64 (a0_2)), .int .i64 (wrap64 (a0_3)), .int .i64 (wrap64 (a0_4)), .int .i64 (wrap64 ((wrap64 (a0_4)) + (wrap64 ((wrap64 ((wrap64 (Int.tmod a0_5 64)) + 1)) * (wrap64 (Int.tmod a0_6 8)))))), .int .i64 (wrap64 ((wrap64 (Int.tmod a0_5 64)) + 1))] (0, 0) _ rfl (by
          refine blk_put (cs := #[.bool a0_0, .int .i64 (wrap64 ((wrap64 (a0_1)) * 16777216)), .int .i64 (wrap64 (a0_2)), .int .i64 (wrap64 (a0_3)), .int .i64 (wrap64 (a0_4)), .int .i64 (wrap64 ((wrap64 (a0_4)) + (wrap64 ((wrap64 ((wrap64 (Int.tmod a0_5 64)) + 1)) * (wrap64 (Int.tmod a0_6 8)))))), .int .i64 0]) ?_ 6 _ rfl
          refine blk_put (cs := #[.bool a0_0, .int .i64 (wrap64 ((wrap64 (a0_1)) * 16777216)), .int .i64 (wrap64 (a0_2)), .int .i64 (wrap64 (a0_3)), .int .i64 (wrap64 (a0_4)), .int .i64 0, .int .i64 0]) ?_ 5 _ rfl
          refine blk_put (cs := #[.bool a0_0, .int .i64 (wrap64 ((wrap64 (a0_1)) * 16777216)), .int .i64 (wrap64 (a0_2)), .int .i64 (wrap64 (a0_3)), .int .i64 0, .int .i64 0, .int .i64 0]) ?_ 4 _ rfl
          refine blk_put (cs := #[.bool a0_0, .int .i64 (wrap64 ((wrap64 (a0_1)) * 16777216)), .int .i64 (wrap64 (a0_2)), .int .i64 0, .int .i64 0, .int .i64 0, .int .i64 0]) ?_ 3 _ rfl
          refine blk_put (cs := #[.bool a0_0, .int .i64 (wrap64 ((wrap64 (a0_1)) * 16777216)), .int .i64 0, .int .i64 0, .int .i64 0, .int .i64 0, .int .i64 0]) ?_ 2 _ rfl
          refine blk_put (cs := #[.bool a0_0, .int .i64 0, .int .i64 0, .int .i64 0, .int .i64 0, .int .i64 0, .int .i64 0]) ?_ 1 _ rfl
          refine blk_put (cs := #[.bool false, .int .i64 0, .int .i64 0, .int .i64 0, .int .i64 0, .int .i64 0, .int .i64 0]) ?_ 0 _ rfl
          exact BK162.out) Tryd.underlying35 rfl (by kernel_rfl)) rfl ?_
      refine ⟨rfl, ?_⟩
      iterate 7 refine bS ?_ GE162.out
      exact HB.out
    · rw [if_neg c3] at H
      have c3b0 : decide (0 < (Int.tmod a0_6 8)) = false := decide_eq_false c3
      clear c3
      simp only [Option.some.injEq, Prod.mk.injEq] at H
      obtain ⟨rfl, rfl, rfl, rfl, rfl, rfl, rfl⟩ := H
      go_enter Tryd.func10, Tryd.ntmps10
      go_upto_region 4 with (first | ((with_reducible refine gate_dst (N := 1) rfl ?_); refine box_event ?hg (N := 1) ?hd (cs := #[.bool a0_0, .int .i16 a0_1, .int .i16 a0_2, .int .i16 a0_3, .int .i32 a0_4, .int .u16 a0_5, .int .u16 a0_6, .bool true]) (t := 27) ?hr ?_; (case hd => rfl); (case hg => rfl); (case hr => first | (go_simp; done) | (go_simp; rfl)); intro gb161 hg w4 hbox hb; have n0_ := Aside0.mk (below_step (by repeat (first | (with_reducible first | exact HB.out | apply pA | apply pN | apply p1_) | exact HB.out)) hb); have n1_ := Aside0.mk (hbox); have n2_ := Aside0.mk ((by rw [hg]; exact (below_size (by repeat (first | (with_reducible first | exact HB.out | apply pA | apply pN | apply p1_) | exact HB.out))) : w.heap.size ≤ gb161)); have n3_ := Aside0.mk ((by rw [hg]; exact (below_size (by repeat (first | (with_reducible first | exact HB.out | apply pA | apply pN | apply p1_) | exact HB.out))) : w.heap.size ≤ gb161)); clear HB; have HB := n0_; have BK161 := n1_; have GW161 := n2_; have GE161 := n3_; clear n0_ n1_ n2_ n3_; clear hb hbox hg) | ((with_reducible refine gate_dst (N := 2) rfl ?_); refine box_event ?hg (N := 2) ?hd (cs := #[.bool false, .int .i64 0, .int .i64 0, .int .i64 0, .int .i64 0, .int .i64 0, .int .i64 0]) (t := 35) ?hr ?_; (case hd => rfl); (case hg => rfl); (case hr => first | (go_simp; done) | (go_simp; rfl)); intro gb162 hg w5 hbox hb; have n0_ := Aside0.mk (bB (g := gb161) (o := .cells #[.bool a0_0, .int .i16 a0_1, .int .i16 a0_2, .int .i16 a0_3, .int .i32 a0_4, .int .u16 a0_5, .int .u16 a0_6, .bool true] 27 (0, 0)) (by (with_reducible repeat (first | refine bN ?_ _ | refine bD ?_ | refine bA ?_ _)); exact BK161.out) hb); have n1_ := Aside0.mk (below_step (by repeat (first | (with_reducible first | exact HB.out | apply pA | apply pN | apply p1_ | refine bS ?_ GE161.out) | exact HB.out)) hb); have n2_ := Aside0.mk (hbox); have n3_ := Aside0.mk ((by rw [hg]; exact (below_size (by repeat (first | (with_reducible first | exact HB.out | apply pA | apply pN | apply p1_ | refine bS ?_ GE161.out) | exact HB.out))) : w.heap.size ≤ gb162)); have n4_ := Aside0.mk ((by rw [hg]; exact (below_size (by repeat (first | (with_reducible first | exact HB.out | apply pA | apply pN | apply p1_ | refine bS ?_ GE161.out) | exact HB.out))) : w.heap.size ≤ gb162)); have n5_ := Aside0.mk ((by rw [hg]; exact Nat.ne_of_lt (blk_lt (g := gb161) (o := .cells #[.bool a0_0, .int .i16 a0_1, .int .i16 a0_2, .int .i16 a0_3, .int .i32 a0_4, .int .u16 a0_5, .int .u16 a0_6, .bool true] 27 (0, 0)) (by (with_reducible repeat (first | refine bN ?_ _ | refine bD ?_ | refine bA ?_ _)); exact BK161.out)) : gb161 ≠ gb162)); have n6_ := Aside0.mk ((by rw [hg]; exact Nat.ne_of_gt (blk_lt (g := gb161) (o := .cells #[.bool a0_0, .int .i16 a0_1, .int .i16 a0_2, .int .i16 a0_3, .int .i32 a0_4, .int .u16 a0_5, .int .u16 a0_6, .bool true] 27 (0, 0)) (by (with_reducible repeat (first | refine bN ?_ _ | refine bD ?_ | refine bA ?_ _)); exact BK161.out)) : gb162 ≠ gb161)); clear BK161; clear HB; have BK161 := n0_; have HB := n1_; have BK162 := n2_; have GW162 := n3_; have GE162 := n4_; have Nd_ := n5_; have Nc_ := n6_; clear n0_ n1_ n2_ n3_ n4_ n5_ n6_; clear hb hbox hg; have hnb6 := Nd_.out; have hnc6 := Nc_.out; have hcz7_0 : w5.cell? ⟨gb161, 0, none⟩ = some (.bool a0_0) := (bC BK161.out 0).trans rfl; have hcz7_1 : w5.cell? ⟨gb161, 1, none⟩ = some (.int .i16 a0_1) := (bC BK161.out 1).trans rfl; have hcz7_2 : w5.cell? ⟨gb161, 2, none⟩ = some (.int .i16 a0_2) := (bC BK161.out 2).trans rfl; have hcz7_3 : w5.cell? ⟨gb161, 3, none⟩ = some (.int .i16 a0_3) := (bC BK161.out 3).trans rfl; have hcz7_4 : w5.cell? ⟨gb161, 4, none⟩ = some (.int .i32 a0_4) := (bC BK161.out 4).trans rfl; have hcz7_5 : w5.cell? ⟨gb161, 5, none⟩ = some (.int .u16 a0_5) := (bC BK161.out 5).trans rfl; have hcz7_6 : w5.cell? ⟨gb161, 6, none⟩ = some (.int .u16 a0_6) := (bC BK161.out 6).trans rfl; have hcz7_7 : w5.cell? ⟨gb161, 7, none⟩ = some (.bool true) := (bC BK161.out 7).trans rfl; have hfz7_0 := bF BK161.out 0; have hfz7_1 := bF BK161.out 1; have hfz7_2 := bF BK161.out 2; have hfz7_3 := bF BK161.out 3; have hfz7_4 := bF BK161.out 4; have hfz7_5 := bF BK161.out 5; have hfz7_6 := bF BK161.out 6; have hfz7_7 := bF BK161.out 7) | ((with_reducible refine gate_dst (N := 3) rfl ?_); refine box_event ?hg (N := 3) ?hd (cs := #[.bool false, .int .i64 0, .int .i64 0, .int .i64 0, .int .i64 0, .int .i64 0, .int .i64 0]) (t := 35) ?hr ?_; (case hd => rfl); (case hg => rfl); (case hr => first | (go_simp; done) | (go_simp; rfl)); intro gb163 hg w8 hbox hb; have n0_ := Aside0.mk (bB (g := gb161) (o := .cells #[.bool a0_0, .int .i16 a0_1, .int .i16 a0_2, .int .i16 a0_3, .int .i32 a0_4, .int .u16 a0_5, .int .u16 a0_6, .bool true] 27 (0, 0)) (by (with_reducible repeat (first | refine bN ?_ _ | refine bD ?_ | refine bA ?_ _)); exact BK161.out) hb); have n1_ := Aside0.mk (bB (g := gb162) (o := .cells #[.bool false, .int .i64 0, .int .i64 0, .int .i64 0, .int .i64 0, .int .i64 0, .int .i64 0] 35 (0, 0)) (by (with_reducible repeat (first | refine bN ?_ _ | refine bD ?_ | refine bA ?_ _)); exact BK162.out) hb); have n2_ := Aside0.mk (below_step (by repeat (first | (with_reducible first | exact HB.out | apply pA | apply pN | apply p1_ | refine bS ?_ GE161.out | refine bS ?_ GE162.out) | exact HB.out)) hb); have n3_ := Aside0.mk (hbox); have n4_ := Aside0.mk ((by rw [hg]; exact (below_size (by repeat (first | (with_reducible first | exact HB.out | apply pA | apply pN | apply p1_ | refine bS ?_ GE161.out | refine bS ?_ GE162.out) | exact HB.out))) : w.heap.size ≤ gb163)); have n5_ := Aside0.mk ((by rw [hg]; exact (below_size (by repeat (first | (with_reducible first | exact HB.out | apply pA | apply pN | apply p1_ | refine bS ?_ GE161.out | refine bS ?_ GE162.out) | exact HB.out))) : w.heap.size ≤ gb163)); have n6_ := Aside0.mk ((by rw [hg]; exact Nat.ne_of_lt (blk_lt (g := gb161) (o := .cells #[.bool a0_0, .int .i16 a0_1, .int .i16 a0_2, .int .i16 a0_3, .int .i32 a0_4, .int .u16 a0_5, .int .u16 a0_6, .bool true] 27 (0, 0)) (by (with_reducible repeat (first | refine bN ?_ _ | refine bD ?_ | refine bA ?_ _)); exact BK161.out)) : gb161 ≠ gb163)); have n7_ := Aside0.mk ((by rw [hg]; exact Nat.ne_of_gt (blk_lt (g := gb161) (o := .cells #[.bool a0_0, .int .i16 a0_1, .int .i16 a0_2, .int .i16 a0_3, .int .i32 a0_4, .int .u16 a0_5, .int .u16 a0_6, .bool true] 27 (0, 0)) (by (with_reducible repeat (first | refine bN ?_ _ | refine bD ?_ | refine bA ?_ _)); exact BK161.out)) : gb163 ≠ gb161)); have n8_ := Aside0.mk ((by rw [hg]; exact Nat.ne_of_lt (blk_lt (g := gb162) (o := .cells #[.bool false, .int .i64 0, .int .i64 0, .int .i64 0, .int .i64 0, .int .i64 0, .int .i64 0] 35 (0, 0)) (by (with_reducible repeat (first | refine bN ?_ _ | refine bD ?_ | refine bA ?_ _)); exact BK162.out)) : gb162 ≠ gb163)); have n9_ := Aside0.mk ((by rw [hg]; exact Nat.ne_of_gt (blk_lt (g := gb162) (o := .cells #[.bool false, .int .i64 0, .int .i64 0, .int .i64 0, .int .i64 0, .int .i64 0, .int .i64 0] 35 (0, 0)) (by (with_reducible repeat (first | refine bN ?_ _ | refine bD ?_ | refine bA ?_ _)); exact BK162.out)) : gb163 ≠ gb162)); clear BK161; clear BK162; clear HB; have BK161 := n0_; have BK162 := n1_; have HB := n2_; have BK163 := n3_; have GW163 := n4_; have GE163 := n5_; have Nf_ := n6_; have Ne_ := n7_; have Na_ := n8_; have Nb_ := n9_; clear n0_ n1_ n2_ n3_ n4_ n5_ n6_ n7_ n8_ n9_; clear hb hbox hg; have hnb9 := Ne_.out; have hnc9 := Nf_.out; have hnb10 := Nb_.out; have hnc10 := Na_.out; have hcz11_0 : w8.cell? ⟨gb163, 0, none⟩ = some (.bool false) := (bC BK163.out 0).trans rfl; have hcz11_1 : w8.cell? ⟨gb163, 1, none⟩ = some (.int .i64 0) := (bC BK163.out 1).trans rfl; have hcz11_2 : w8.cell? ⟨gb163, 2, none⟩ = some (.int .i64 0) := (bC BK163.out 2).trans rfl; have hcz11_3 : w8.cell? ⟨gb163, 3, none⟩ = some (.int .i64 0) := (bC BK163.out 3).trans rfl; have hcz11_4 : w8.cell? ⟨gb163, 4, none⟩ = some (.int .i64 0) := (bC BK163.out 4).trans rfl; have hcz11_5 : w8.cell? ⟨gb163, 5, none⟩ = some (.int .i64 0) := (bC BK163.out 5).trans rfl; have hcz11_6 : w8.cell? ⟨gb163, 6, none⟩ = some (.int .i64 0) := (bC BK163.out 6).trans rfl; have hfz11_0 := bF BK163.out 0; have hfz11_1 := bF BK163.out 1; have hfz11_2 := bF BK163.out 2; have hfz11_3 := bF BK163.out 3; have hfz11_4 := bF BK163.out 4; have hfz11_5 := bF BK163.out 5; have hfz11_6 := bF BK163.out 6; have hcz12_0 : w8.cell? ⟨gb161, 0, none⟩ = some (.bool a0_0) := (bC BK161.out 0).trans rfl; have hcz12_1 : w8.cell? ⟨gb161, 1, none⟩ = some (.int .i16 a0_1) := (bC BK161.out 1).trans rfl; have hcz12_2 : w8.cell? ⟨gb161, 2, none⟩ = some (.int .i16 a0_2) := (bC BK161.out 2).trans rfl; have hcz12_3 : w8.cell? ⟨gb161, 3, none⟩ = some (.int .i16 a0_3) := (bC BK161.out 3).trans rfl; have hcz12_4 : w8.cell? ⟨gb161, 4, none⟩ = some (.int .i32 a0_4) := (bC BK161.out 4).trans rfl; have hcz12_5 : w8.cell? ⟨gb161, 5, none⟩ = some (.int .u16 a0_5) := (bC BK161.out 5).trans rfl; have hcz12_6 : w8.cell? ⟨gb161, 6, none⟩ = some (.int .u16 a0_6) := (bC BK161.out 6).trans rfl; have hcz12_7 : w8.cell? ⟨gb161, 7, none⟩ = some (.bool true) := (bC BK161.out 7).trans rfl; have hfz12_0 := bF BK161.out 0; have hfz12_1 := bF BK161.out 1; have hfz12_2 := bF BK161.out 2; have hfz12_3 := bF BK161.out 3; have hfz12_4 := bF BK161.out 4; have hfz12_5 := bF BK161.out 5; have hfz12_6 := bF BK161.out 6; have hfz12_7 := bF BK161.out 7; have hcz13_0 : w8.cell? ⟨gb162, 0, none⟩ = some (.bool false) := (bC BK162.out 0).trans rfl; have hcz13_1 : w8.cell? ⟨gb162, 1, none⟩ = some (.int .i64 0) := (bC BK162.out 1).trans rfl; have hcz13_2 : w8.cell? ⟨gb162, 2, none⟩ = some (.int .i64 0) := (bC BK162.out 2).trans rfl; have hcz13_3 : w8.cell? ⟨gb162, 3, none⟩ = some (.int .i64 0) := (bC BK162.out 3).trans rfl; have hcz13_4 : w8.cell? ⟨gb162, 4, none⟩ = some (.int .i64 0) := (bC BK162.out 4).trans rfl; have hcz13_5 : w8.cell? ⟨gb162, 5, none⟩ = some (.int .i64 0) := (bC BK162.out 5).trans rfl; have hcz13_6 : w8.cell? ⟨gb162, 6, none⟩ = some (.int .i64 0) := (bC BK162.out 6).trans rfl; have hfz13_0 := bF BK162.out 0; have hfz13_1 := bF BK162.out 1; have hfz13_2 := bF BK162.out 2; have hfz13_3 := bF BK162.out 3; have hfz13_4 := bF BK162.out 4; have hfz13_5 := bF BK162.out 5; have hfz13_6 := bF BK162.out 6))
      refine wp_gen (fun W => W.heap[gb163]? = some (.cells #[.bool a0_0, .int .i64 (wrap64 ((wrap64 (a0_1)) * 16777216)), .int .i64 (wrap64 (a0_2)), .int .i64 (wrap64 (a0_3)), .int .i64 0, .int .i64 0, .int .i64 0] 35 (0, 0)) ∧ W.heap[gb162]? = some (.cells #[.bool false, .int .i64 0, .int .i64 0, .int .i64 0, .int .i64 0, .int .i64 0, .int .i64 0] 35 (0, 0)) ∧ W.heap[gb161]? = some (.cells #[.bool a0_0, .int .i16 a0_1, .int .i16 a0_2, .int .i16 a0_3, .int .i32 a0_4, .int .u16 a0_5, .int .u16 a0_6, .bool true] 27 (0, 0)) ∧ Below w.heap.size w W) ?_ ?_
      · refine ⟨?_, ?_, ?_, ?_⟩
        · refine blk_put (cs := #[.bool a0_0, .int .i64 (wrap64 (a0_1)), .int .i64 (wrap64 (a0_2)), .int .i64 (wrap64 (a0_3)), .int .i64 0, .int .i64 0, .int .i64 0]) ?_ 1 _ rfl
          refine blk_put (cs := #[.bool a0_0, .int .i64 (wrap64 (a0_1)), .int .i64 (wrap64 (a0_2)), .int .i64 (wrap64 (a0_3)), .int .i64 0, .int .i64 0, .int .i64 0]) ?_ 6 _ rfl
          refine blk_put (cs := #[.bool a0_0, .int .i64 (wrap64 (a0_1)), .int .i64 (wrap64 (a0_2)), .int .i64 (wrap64 (a0_3)), .int .i64 0, .int .i64 0, .int .i64 0]) ?_ 5 _ rfl
          refine blk_put (cs := #[.bool a0_0, .int .i64 (wrap64 (a0_1)), .int .i64 (wrap64 (a0_2)), .int .i64 (wrap64 (a0_3)), .int .i64 0, .int .i64 0, .int .i64 0]) ?_ 4 _ rfl
          refine blk_put (cs := #[.bool a0_0, .int .i64 (wrap64 (a0_1)), .int .i64 (wrap64 (a0_2)), .int .i64 0, .int .i64 0, .int .i64 0, .int .i64 0]) ?_ 3 _ rfl
          refine blk_put (cs := #[.bool a0_0, .int .i64 (wrap64 (a0_1)), .int .i64 0, .int .i64 0, .int .i64 0, .int .i64 0, .int .i64 0]) ?_ 2 _ rfl
          refine blk_put (cs := #[.bool a0_0, .int .i64 0, .int .i64 0, .int .i64 0, .int .i64 0, .int .i64 0, .int .i64 0]) ?_ 1 _ rfl
          refine blk_put (cs := #[.bool false, .int .i64 0, .int .i64 0, .int .i64 0, .int .i64 0, .int .i64 0, .int .i64 0]) ?_ 0 _ rfl
          exact BK163.out
        · iterate 8 refine blk_far ?_ Na_.out _
          exact BK162.out
        · iterate 8 refine blk_far ?_ (Ne.symm hnb9) _
          exact BK161.out
        · iterate 8 refine bS ?_ GE163.out
          exact HB.out
      clear HB BK161 BK162 BK163 hcz11_0 hcz11_1 hcz11_2 hcz11_3 hcz11_4 hcz11_5 hcz11_6 hcz12_0 hcz12_1 hcz12_2 hcz12_3 hcz12_4 hcz12_5 hcz12_6 hcz12_7 hcz13_0 hcz13_1 hcz13_2 hcz13_3 hcz13_4 hcz13_5 hcz13_6
      rintro W1 ⟨hF, hR, hX, hB⟩
      have BK163 := Aside0.mk hF
      have BK162 := Aside0.mk hR
      have HB := Aside0.mk hB
      have q4 : W1.cell? ⟨gb163, 4, none⟩ = some (.int .i64 0) := (bC hF 4).trans rfl
      have q5 : W1.cell? ⟨gb163, 5, none⟩ = some (.int .i64 0) := (bC hF 5).trans rfl
      have q6 : W1.cell? ⟨gb163, 6, none⟩ = some (.int .i64 0) := (bC hF 6).trans rfl
      have x4 : W1.cell? ⟨gb161, 4, none⟩ = some (.int .i32 a0_4) := (bC hX 4).trans rfl
      have x5 : W1.cell? ⟨gb161, 5, none⟩ = some (.int .u16 a0_5) := (bC hX 5).trans rfl
      have x6 : W1.cell? ⟨gb161, 6, none⟩ = some (.int .u16 a0_6) := (bC hX 6).trans rfl
      have f04 := bF hF 4
      have f05 := bF hF 5
      have f06 := bF hF 6
      have f14 := bF hX 4
      have f15 := bF hX 5
      have f16 := bF hX 6
      clear hF hR hX hB
      go_upto_region 9 with (fail)
      refine wp_gen (fun W => W.heap[gb163]? = some (.cells #[.bool a0_0, .int .i64 (wrap64 ((wrap64 (a0_1)) * 16777216)), .int .i64 (wrap64 (a0_2)), .int .i64 (wrap64 (a0_3)), .int .i64 (wrap64 (a0_4)), .int .i64 (wrap64 (a0_4)), .int .i64 0] 35 (0, 0)) ∧ W.heap[gb162]? = some (.cells #[.bool false, .int .i64 0, .int .i64 0, .int .i64 0, .int .i64 0, .int .i64 0, .int .i64 0] 35 (0, 0)) ∧ Below w.heap.size w W) ?_ ?_
      · refine ⟨?_, ?_, ?_⟩
        · refine blk_put (cs := #[.bool a0_0, .int .i64 (wrap64 ((wrap64 (a0_1)) * 16777216)), .int .i64 (wrap64 (a0_2)), .int .i64 (wrap64 (a0_3)), .int .i64 (wrap64 (a0_4)), .int .i64 0, .int .i64 0]) ?_ 5 _ rfl
          refine blk_put (cs := #[.bool a0_0, .int .i64 (wrap64 ((wrap64 (a0_1)) * 16777216)), .int .i64 (wrap64 (a0_2)), .int .i64 (wrap64 (a0_3)), .int .i64 0, .int .i64 0, .int .i64 0]) ?_ 4 _ rfl
          exact BK163.out
        · iterate 2 refine blk_far ?_ Na_.out _
          exact BK162.out
        · iterate 2 refine bS ?_ GE163.out
          exact HB.out
      clear HB BK162 BK163 q4 q5 q6 x4 x5 x6 f04 f05 f06 f14 f15 f16
      rintro W2 ⟨hF, hR, hB⟩
      have BK162 := Aside0.mk hR
      have HB := Aside0.mk hB
      have q0 : W2.cell? ⟨gb163, 0, none⟩ = some (.bool a0_0) := (bC hF 0).trans rfl
      have q1 : W2.cell? ⟨gb163, 1, none⟩ = some (.int .i64 (wrap64 ((wrap64 (a0_1)) * 16777216))) := (bC hF 1).trans rfl
      have q2 : W2.cell? ⟨gb163, 2, none⟩ = some (.int .i64 (wrap64 (a0_2))) := (bC hF 2).trans rfl
      have q3 : W2.cell? ⟨gb163, 3, none⟩ = some (.int .i64 (wrap64 (a0_3))) := (bC hF 3).trans rfl
      have q4 : W2.cell? ⟨gb163, 4, none⟩ = some (.int .i64 (wrap64 (a0_4))) := (bC hF 4).trans rfl
      have q5 : W2.cell? ⟨gb163, 5, none⟩ = some (.int .i64 (wrap64 (a0_4))) := (bC hF 5).trans rfl
      have q6 : W2.cell? ⟨gb163, 6, none⟩ = some (.int .i64 0) := (bC hF 6).trans rfl
      have r0 : W2.cell? ⟨gb162, 0, none⟩ = some (.bool false) := (bC hR 0).trans rfl
      have f0 := bF hR 0
      have g0 := bF hF 0
      have r1 : W2.cell? ⟨gb162, 1, none⟩ = some (.int .i64 0) := (bC hR 1).trans rfl
      have f1 := bF hR 1
      have g1 := bF hF 1
      have r2 : W2.cell? ⟨gb162, 2, none⟩ = some (.int .i64 0) := (bC hR 2).trans rfl
      have f2 := bF hR 2
      have g2 := bF hF 2
      have r3 : W2.cell? ⟨gb162, 3, none⟩ = some (.int .i64 0) := (bC hR 3).trans rfl
      have f3 := bF hR 3
      have g3 := bF hF 3
      have r4 : W2.cell? ⟨gb162, 4, none⟩ = some (.int .i64 0) := (bC hR 4).trans rfl
      have f4 := bF hR 4
      have g4 := bF hF 4
      have r5 : W2.cell? ⟨gb162, 5, none⟩ = some (.int .i64 0) := (bC hR 5).trans rfl
      have f5 := bF hR 5
      have g5 := bF hF 5
      have r6 : W2.cell? ⟨gb162, 6, none⟩ = some (.int .i64 0) := (bC hR 6).trans rfl
      have f6 := bF hR 6
      have g6 := bF hF 6
      clear hF hR hB
      go_wp2
      refine bodyPost_ret (results_cell_row rfl _ _ gb162 35 #[.bool a0_0, .int .i64 (wrap64 ((wrap64 (a0_1)) * 16777216)), .int .i64 (wrap64 (a0_2)), .int .i64 (wrap64 (a0_3)), .int .i64 (wrap64 (a0_4)), .int .i64 (wrap64 (a0_4)), .int .i64 0] (0, 0) _ rfl (by
          refine blk_put (cs := #[.bool a0_0, .int .i64 (wrap64 ((wrap64 (a0_1)) * 16777216)), .int .i64 (wrap64 (a0_2)), .int .i64 (wrap64 (a0_3)), .int .i64 (wrap64 (a0_4)), .int .i64 (wrap64 (a0_4)), .int .i64 0]) ?_ 6 _ rfl
          refine blk_put (cs := #[.bool a0_0, .int .i64 (wrap64 ((wrap64 (a0_1)) * 16777216)), .int .i64 (wrap64 (a0_2)), .int .i64 (wrap64 (a0_3)), .int .i64 (wrap64 (a0_4)), .int .i64 0, .int .i64 0]) ?_ 5 _ rfl
          refine blk_put (cs := #[.bool a0_0, .int .i64 (wrap64 ((wrap64 (a0_1)) * 16777216)), .int .i64 (wrap64 (a0_2)), .int .i64 (wrap64 (a0_3)), .int .i64 0, .int .i64 0, .int .i64 0]) ?_ 4 _ rfl
          refine blk_put (cs := #[.bool a0_0, .int .i64 (wrap64 ((wrap64 (a0_1)) * 16777216)), .int .i64 (wrap64 (a0_2)), .int .i64 0, .int .i64 0, .int .i64 0, .int .i64 0]) ?_ 3 _ rfl
          refine blk_put (cs := #[.bool a0_0, .int .i64 (wrap64 ((wrap64 (a0_1)) * 16777216)), .int .i64 0, .int .i64 0, .int .i64 0, .int .i64 0, .int .i64 0]) ?_ 2 _ rfl
          refine blk_put (cs := #[.bool a0_0, .int .i64 0, .int .i64 0, .int .i64 0, .int .i64 0, .int .i64 0, .int .i64 0]) ?_ 1 _ rfl
          refine blk_put (cs := #[.bool false, .int .i64 0, .int .i64 0, .int .i64 0, .int .i64 0, .int .i64 0, .int .i64 0]) ?_ 0 _ rfl
          exact BK162.out) Tryd.underlying35 rfl (by kernel_rfl)) rfl ?_
      refine ⟨rfl, ?_⟩
      iterate 7 refine bS ?_ GE162.out
      exact HB.out
  · replace c2 := Bool.eq_false_iff.mpr c2
    subst c2
    rw [if_neg (by decide)] at H
    by_cases c24 : (Int.tmod a0_6 8) > 0
    · rw [if_pos c24] at H
      have c24b0 : decide (0 < (Int.tmod a0_6 8)) = true := decide_eq_true c24
      clear c24
      simp only [Option.some.injEq, Prod.mk.injEq] at H
      obtain ⟨rfl, rfl, rfl, rfl, rfl, rfl, rfl⟩ := H
      go_enter Tryd.func10, Tryd.ntmps10
      go_upto_region 4 with (first | ((with_reducible refine gate_dst (N := 1) rfl ?_); refine box_event ?hg (N := 1) ?hd (cs := #[.bool a0_0, .int .i16 a0_1, .int .i16 a0_2, .int .i16 a0_3, .int .i32 a0_4, .int .u16 a0_5, .int .u16 a0_6, .bool false]) (t := 27) ?hr ?_; (case hd => rfl); (case hg => rfl); (case hr => first | (go_simp; done) | (go_simp; rfl)); intro gb161 hg w4 hbox hb; have n0_ := Aside0.mk (below_step (by repeat (first | (with_reducible first | exact HB.out | apply pA | apply pN | apply p1_) | exact HB.out)) hb); have n1_ := Aside0.mk (hbox); have n2_ := Aside0.mk ((by rw [hg]; exact (below_size (by repeat (first | (with_reducible first | exact HB.out | apply pA | apply pN | apply p1_) | exact HB.out))) : w.heap.size ≤ gb161)); have n3_ := Aside0.mk ((by rw [hg]; exact (below_size (by repeat (first | (with_reducible first | exact HB.out | apply pA | apply pN | apply p1_) | exact HB.out))) : w.heap.size ≤ gb161)); clear HB; have HB := n0_; have BK161 := n1_; have GW161 := n2_; have GE161 := n3_; clear n0_ n1_ n2_ n3_; clear hb hbox hg) | ((with_reducible refine gate_dst (N := 2) rfl ?_); refine box_event ?hg (N := 2) ?hd (cs := #[.bool false, .int .i64 0, .int .i64 0, .int .i64 0, .int .i64 0, .int .i64 0, .int .i64 0]) (t := 35) ?hr ?_; (case hd => rfl); (case hg => rfl); (case hr => first | (go_simp; done) | (go_simp; rfl)); intro gb162 hg w5 hbox hb; have n0_ := Aside0.mk (bB (g := gb161) (o := .cells #[.bool a0_0, .int .i16 a0_1, .int .i16 a0_2, .int .i16 a0_3, .int .i32 a0_4, .int .u16 a0_5, .int .u16 a0_6, .bool false] 27 (0, 0)) (by (with_reducible repeat (first | refine bN ?_ _ | refine bD ?_ | refine bA ?_ _)); exact BK161.out) hb); have n1_ := Aside0.mk (below_step (by repeat (first | (with_reducible first | exact HB.out | apply pA | apply pN | apply p1_ | refine bS ?_ GE161.out) | exact HB.out)) hb); have n2_ := Aside0.mk (hbox); have n3_ := Aside0.mk ((by rw [hg]; exact (below_size (by repeat (first | (with_reducible first | exact HB.out | apply pA | apply pN | apply p1_ | refine bS ?_ GE161.out) | exact HB.out))) : w.heap.size ≤ gb162)); have n4_ := Aside0.mk ((by rw [hg]; exact (below_size (by repeat (first | (with_reducible first | exact HB.out | apply pA | apply pN | apply p1_ | refine bS ?_ GE161.out) | exact HB.out))) : w.heap.size ≤ gb162)); have n5_ := Aside0.mk ((by rw [hg]; exact Nat.ne_of_lt (blk_lt (g := gb161) (o := .cells #[.bool a0_0, .int .i16 a0_1, .int .i16 a0_2, .int .i16 a0_3, .int .i32 a0_4, .int .u16 a0_5, .int .u16 a0_6, .bool false] 27 (0, 0)) (by (with_reducible repeat (first | refine bN ?_ _ | refine bD ?_ | refine bA ?_ _)); exact BK161.out)) : gb161 ≠ gb162)); have n6_ := Aside0.mk ((by rw [hg]; exact Nat.ne_of_gt (blk_lt (g := gb161) (o := .cells #[.bool a0_0, .int .i16 a0_1, .int .i16 a0_2, .int .i16 a0_3, .int .i32 a0_4, .int .u16 a0_5, .int .u16 a0_6, .bool false] 27 (0, 0)) (by (with_reducible repeat (first | refine bN ?_ _ | refine bD ?_ | refine bA ?_ _)); exact BK161.out)) : gb162 ≠ gb161)); clear BK161; clear HB; have BK161 := n0_; have HB := n1_; have BK162 := n2_; have GW162 := n3_; have GE162 := n4_; have Nd_ := n5_; have Nc_ := n6_; clear n0_ n1_ n2_ n3_ n4_ n5_ n6_; clear hb hbox hg; have hnb6 := Nd_.out; have hnc6 := Nc_.out; have hcz7_0 : w5.cell? ⟨gb161, 0, none⟩ = some (.bool a0_0) := (bC BK161.out 0).trans rfl; have hcz7_1 : w5.cell? ⟨gb161, 1, none⟩ = some (.int .i16 a0_1) := (bC BK161.out 1).trans rfl; have hcz7_2 : w5.cell? ⟨gb161, 2, none⟩ = some (.int .i16 a0_2) := (bC BK161.out 2).trans rfl; have hcz7_3 : w5.cell? ⟨gb161, 3, none⟩ = some (.int .i16 a0_3) := (bC BK161.out 3).trans rfl; have hcz7_4 : w5.cell? ⟨gb161, 4, none⟩ = some (.int .i32 a0_4) := (bC BK161.out 4).trans rfl; have hcz7_5 : w5.cell? ⟨gb161, 5, none⟩ = some (.int .u16 a0_5) := (bC BK161.out 5).trans rfl; have hcz7_6 : w5.cell? ⟨gb161, 6, none⟩ = some (.int .u16 a0_6) := (bC BK161.out 6).trans rfl; have hcz7_7 : w5.cell? ⟨gb161, 7, none⟩ = some (.bool false) := (bC BK161.out 7).trans rfl; have hfz7_0 := bF BK161.out 0; have hfz7_1 := bF BK161.out 1; have hfz7_2 := bF BK161.out 2; have hfz7_3 := bF BK161.out 3; have hfz7_4 := bF BK161.out 4; have hfz7_5 := bF BK161.out 5; have hfz7_6 := bF BK161.out 6; have hfz7_7 := bF BK161.out 7) | ((with_reducible refine gate_dst (N := 3) rfl ?_); refine box_event ?hg (N := 3) ?hd (cs := #[.bool false, .int .i64 0, .int .i64 0, .int .i64 0, .int .i64 0, .int .i64 0, .int .i64 0]) (t := 35) ?hr ?_; (case hd => rfl); (case hg => rfl); (case hr => first | (go_simp; done) | (go_simp; rfl)); intro gb163 hg w8 hbox hb; have n0_ := Aside0.mk (bB (g := gb161) (o := .cells #[.bool a0_0, .int .i16 a0_1, .int .i16 a0_2, .int .i16 a0_3, .int .i32 a0_4, .int .u16 a0_5, .int .u16 a0_6, .bool false] 27 (0, 0)) (by (with_reducible repeat (first | refine bN ?_ _ | refine bD ?_ | refine bA ?_ _)); exact BK161.out) hb); have n1_ := Aside0.mk (bB (g := gb162) (o := .cells #[.bool false, .int .i64 0, .int .i64 0, .int .i64 0, .int .i64 0, .int .i64 0, .int .i64 0] 35 (0, 0)) (by (with_reducible repeat (first | refine bN ?_ _ | refine bD ?_ | refine bA ?_ _)); exact BK162.out) hb); have n2_ := Aside0.mk (below_step (by repeat (first | (with_reducible first | exact HB.out | apply pA | apply pN | apply p1_ | refine bS ?_ GE161.out | refine bS ?_ GE162.out) | exact HB.out)) hb); have n3_ := Aside0.mk (hbox); have n4_ := Aside0.mk ((by rw [hg]; exact (below_size (by repeat (first | (with_reducible first | exact HB.out | apply pA | apply pN | apply p1_ | refine bS ?_ GE161.out | refine bS ?_ GE162.out) | exact HB.out))) : w.heap.size ≤ gb163)); have n5_ := Aside0.mk ((by rw [hg]; exact (below_size (by repeat (first | (with_reducible first | exact HB.out | apply pA | apply pN | apply p1_ | refine bS ?_ GE161.out | refine bS ?_ GE162.out) | exact HB.out))) : w.heap.size ≤ gb163)); have n6_ := Aside0.mk ((by rw [hg]; exact Nat.ne_of_lt (blk_lt (g := gb161) (o := .cells #[.bool a0_0, .int .i16 a0_1, .int .i16 a0_2, .int .i16 a0_3, .int .i32 a0_4, .int .u16 a0_5, .int .u16 a0_6, .bool false] 27 (0, 0)) (by (with_reducible repeat (first | refine bN ?_ _ | refine bD ?_ | refine bA ?_ _)); exact BK161.out)) : gb161 ≠ gb163)); have n7_ := Aside0.mk ((by rw [hg]; exact Nat.ne_of_gt (blk_lt (g := gb161) (o := .cells #[.bool a0_0, .int .i16 a0_1, .int .i16 a0_2, .int .i16 a0_3, .int .i32 a0_4, .int .u16 a0_5, .int .u16 a0_6, .bool false] 27 (0, 0)) (by (with_reducible repeat (first | refine bN ?_ _ | refine bD ?_ | refine bA ?_ _)); exact BK161.out)) : gb163 ≠ gb161)); have n8_ := Aside0.mk ((by rw [hg]; exact Nat.ne_of_lt (blk_lt (g := gb162) (o := .cells #[.bool false, .int .i64 0, .int .i64 0, .int .i64 0, .int .i64 0, .int .i64 0, .int .i64 0] 35 (0, 0)) (by (with_reducible repeat (first | refine bN ?_ _ | refine bD ?_ | refine bA ?_ _)); exact BK162.out)) : gb162 ≠ gb163)); have n9_ := Aside0.mk ((by rw [hg]; exact Nat.ne_of_gt (blk_lt (g := gb162) (o := .cells #[.bool false, .int .i64 0, .int .i64 0, .int .i64 0, .int .i64 0, .int .i64 0, .int .i64 0] 35 (0, 0)) (by (with_reducible repeat (first | refine bN ?_ _ | refine bD ?_ | refine bA ?_ _)); exact BK162.out)) : gb163 ≠ gb162)); clear BK161; clear BK162; clear HB; have BK161 := n0_; have BK162 := n1_; have HB := n2_; have BK163 := n3_; have GW163 := n4_; have GE163 := n5_; have Nf_ := n6_; have Ne_ := n7_; have Na_ := n8_; have Nb_ := n9_; clear n0_ n1_ n2_ n3_ n4_ n5_ n6_ n7_ n8_ n9_; clear hb hbox hg; have hnb9 := Ne_.out; have hnc9 := Nf_.out; have hnb10 := Nb_.out; have hnc10 := Na_.out; have hcz11_0 : w8.cell? ⟨gb163, 0, none⟩ = some (.bool false) := (bC BK163.out 0).trans rfl; have hcz11_1 : w8.cell? ⟨gb163, 1, none⟩ = some (.int .i64 0) := (bC BK163.out 1).trans rfl; have hcz11_2 : w8.cell? ⟨gb163, 2, none⟩ = some (.int .i64 0) := (bC BK163.out 2).trans rfl; have hcz11_3 : w8.cell? ⟨gb163, 3, none⟩ = some (.int .i64 0) := (bC BK163.out 3).trans rfl; have hcz11_4 : w8.cell? ⟨gb163, 4, none⟩ = some (.int .i64 0) := (bC BK163.out 4).trans rfl; have hcz11_5 : w8.cell? ⟨gb163, 5, none⟩ = some (.int .i64 0) := (bC BK163.out 5).trans rfl; have hcz11_6 : w8.cell? ⟨gb163, 6, none⟩ = some (.int .i64 0) := (bC BK163.out 6).trans rfl; have hfz11_0 := bF BK163.out 0; have hfz11_1 := bF BK163.out 1; have hfz11_2 := bF BK163.out 2; have hfz11_3 := bF BK163.out 3; have hfz11_4 := bF BK163.out 4; have hfz11_5 := bF BK163.out 5; have hfz11_6 := bF BK163.out 6; have hcz12_0 : w8.cell? ⟨gb161, 0, none⟩ = some (.bool a0_0) := (bC BK161.out 0).trans rfl; have hcz12_1 : w8.cell? ⟨gb161, 1, none⟩ = some (.int .i16 a0_1) := (bC BK161.out 1).trans rfl; have hcz12_2 : w8.cell? ⟨gb161, 2, none⟩ = some (.int .i16 a0_2) := (bC BK161.out 2).trans rfl; have hcz12_3 : w8.cell? ⟨gb161, 3, none⟩ = some (.int .i16 a0_3) := (bC BK161.out 3).trans rfl; have hcz12_4 : w8.cell? ⟨gb161, 4, none⟩ = some (.int .i32 a0_4) := (bC BK161.out 4).trans rfl; have hcz12_5 : w8.cell? ⟨gb161, 5, none⟩ = some (.int .u16 a0_5) := (bC BK161.out 5).trans rfl; have hcz12_6 : w8.cell? ⟨gb161, 6, none⟩ = some (.int .u16 a0_6) := (bC BK161.out 6).trans rfl; have hcz12_7 : w8.cell? ⟨gb161, 7, none⟩ = some (.bool false) := (bC BK161.out 7).trans rfl; have hfz12_0 := bF BK161.out 0; have hfz12_1 := bF BK161.out 1; have hfz12_2 := bF BK161.out 2; have hfz12_3 := bF BK161.out 3; have hfz12_4 := bF BK161.out 4; have hfz12_5 := bF BK161.out 5; have hfz12_6 := bF BK161.out 6; have hfz12_7 := bF BK161.out 7; have hcz13_0 : w8.cell? ⟨gb162, 0, none⟩ = some (.bool false) := (bC BK162.out 0).trans rfl; have hcz13_1 : w8.cell? ⟨gb162, 1, none⟩ = some (.int .i64 0) := (bC BK162.out 1).trans rfl; have hcz13_2 : w8.cell? ⟨gb162, 2, none⟩ = some (.int .i64 0) := (bC BK162.out 2).trans rfl; have hcz13_3 : w8.cell? ⟨gb162, 3, none⟩ = some (.int .i64 0) := (bC BK162.out 3).trans rfl; have hcz13_4 : w8.cell? ⟨gb162, 4, none⟩ = some (.int .i64 0) := (bC BK162.out 4).trans rfl; have hcz13_5 : w8.cell? ⟨gb162, 5, none⟩ = some (.int .i64 0) := (bC BK162.out 5).trans rfl; have hcz13_6 : w8.cell? ⟨gb162, 6, none⟩ = some (.int .i64 0) := (bC BK162.out 6).trans rfl; have hfz13_0 := bF BK162.out 0; have hfz13_1 := bF BK162.out 1; have hfz13_2 := bF BK162.out 2; have hfz13_3 := bF BK162.out 3; have hfz13_4 := bF BK162.out 4; have hfz13_5 := bF BK162.out 5; have hfz13_6 := bF BK162.out 6))
      refine wp_gen (fun W => W.heap[gb163]? = some (.cells #[.bool a0_0, .int .i64 (wrap64 (a0_1)), .int .i64 (wrap64 (a0_2)), .int .i64 (wrap64 (a0_3)), .int .i64 0, .int .i64 0, .int .i64 0] 35 (0, 0)) ∧ W.heap[gb162]? = some (.cells #[.bool false, .int .i64 0, .int .i64 0, .int .i64 0, .int .i64 0, .int .i64 0, .int .i64 0] 35 (0, 0)) ∧ W.heap[gb161]? = some (.cells #[.bool a0_0, .int .i16 a0_1, .int .i16 a0_2, .int .i16 a0_3, .int .i32 a0_4, .int .u16 a0_5, .int .u16 a0_6, .bool false] 27 (0, 0)) ∧ Below w.heap.size w W) ?_ ?_
      · refine ⟨?_, ?_, ?_, ?_⟩
        · refine blk_put (cs := #[.bool a0_0, .int .i64 (wrap64 (a0_1)), .int .i64 (wrap64 (a0_2)), .int .i64 (wrap64 (a0_3)), .int .i64 0, .int .i64 0, .int .i64 0]) ?_ 6 _ rfl
          refine blk_put (cs := #[.bool a0_0, .int .i64 (wrap64 (a0_1)), .int .i64 (wrap64 (a0_2)), .int .i64 (wrap64 (a0_3)), .int .i64 0, .int .i64 0, .int .i64 0]) ?_ 5 _ rfl
          refine blk_put (cs := #[.bool a0_0, .int .i64 (wrap64 (a0_1)), .int .i64 (wrap64 (a0_2)), .int .i64 (wrap64 (a0_3)), .int .i64 0, .int .i64 0, .int .i64 0]) ?_ 4 _ rfl
          refine blk_put (cs := #[.bool a0_0, .int .i64 (wrap64 (a0_1)), .int .i64 (wrap64 (a0_2)), .int .i64 0, .int .i64 0, .int .i64 0, .int .i64 0]) ?_ 3 _ rfl
          refine blk_put (cs := #[.bool a0_0, .int .i64 (wrap64 (a0_1)), .int .i64 0, .int .i64 0, .int .i64 0, .int .i64 0, .int .i64 0]) ?_ 2 _ rfl
          refine blk_put (cs := #[.bool a0_0, .int .i64 0, .int .i64 0, .int .i64 0, .int .i64 0, .int .i64 0, .int .i64 0]) ?_ 1 _ rfl
          refine blk_put (cs := #[.bool false, .int .i64 0, .int .i64 0, .int .i64 0, .int .i64 0, .int .i64 0, .int .i64 0]) ?_ 0 _ rfl
          exact BK163.out
        · iterate 7 refine blk_far ?_ Na_.out _
          exact BK162.out
        · iterate 7 refine blk_far ?_ (Ne.symm hnb9) _
          exact BK161.out
        · iterate 7 refine bS ?_ GE163.out
          exact HB.out
      clear HB BK161 BK162 BK163 hcz11_0 hcz11_1 hcz11_2 hcz11_3 hcz11_4 hcz11_5 hcz11_6 hcz12_0 hcz12_1 hcz12_2 hcz12_3 hcz12_4 hcz12_5 hcz12_6 hcz12_7 hcz13_0 hcz13_1 hcz13_2 hcz13_3 hcz13_4 hcz13_5 hcz13_6
      rintro W1 ⟨hF, hR, hX, hB⟩
      have BK163 := Aside0.mk hF
      have BK162 := Aside0.mk hR
      have HB := Aside0.mk hB
      have q4 : W1.cell? ⟨gb163, 4, none⟩ = some (.int .i64 0) := (bC hF 4).trans rfl
      have q5 : W1.cell? ⟨gb163, 5, none⟩ = some (.int .i64 0) := (bC hF 5).trans rfl
      have q6 : W1.cell? ⟨gb163, 6, none⟩ = some (.int .i64 0) := (bC hF 6).trans rfl
      have x4 : W1.cell? ⟨gb161, 4, none⟩ = some (.int .i32 a0_4) := (bC hX 4).trans rfl
      have x5 : W1.cell? ⟨gb161, 5, none⟩ = some (.int .u16 a0_5) := (bC hX 5).trans rfl
      have x6 : W1.cell? ⟨gb161, 6, none⟩ = some (.int .u16 a0_6) := (bC hX 6).trans rfl
      have f04 := bF hF 4
      have f05 := bF hF 5
      have f06 := bF hF 6
      have f14 := bF hX 4
      have f15 := bF hX 5
      have f16 := bF hX 6
      clear hF hR hX hB
      go_upto_region 9 with (fail)
      refine wp_gen (fun W => W.heap[gb163]? = some (.cells #[.bool a0_0, .int .i64 (wrap64 (a0_1)), .int .i64 (wrap64 (a0_2)), .int .i64 (wrap64 (a0_3)), .int .i64 (wrap64 (a0_4)), .int .i64 (wrap64 ((wrap64 (a0_4)) + (wrap64 ((wrap64 ((wrap64 (Int.tmod a0_5 64)) + 1)) * (wrap64 (Int.tmod a0_6 8)))))), .int .i64 (wrap64 ((wrap64 (Int.tmod a0_5 64)) + 1))] 35 (0, 0)) ∧ W.heap[gb162]? = some (.cells #[.bool false, .int .i64 0, .int .i64 0, .int .i64 0, .int .i64 0, .int .i64 0, .int .i64 0] 35 (0, 0)) ∧ Below w.heap.size w W) ?_ ?_
      · refine ⟨?_, ?_, ?_⟩
        · refine blk_put (cs := #[.bool a0_0, .int .i64 (wrap64 (a0_1)), .int .i64 (wrap64 (a0_2)), .int .i64 (wrap64 (a0_3)), .int .i64 (wrap64 (a0_4)), .int .i64 (wrap64 (a0_4)), .int .i64 (wrap64 ((wrap64 (Int.tmod a0_5 64)) + 1))]) ?_ 5 _ rfl
          refine blk_put (cs := #[.bool a0_0, .int .i64 (wrap64 (a0_1)), .int .i64 (wrap64 (a0_2)), .int .i64 (wrap64 (a0_3)), .int .i64 (wrap64 (a0_4)), .int .i64 (wrap64 (a0_4)), .int .i64 0]) ?_ 6 _ rfl
          refine blk_put (cs := #[.bool a0_0, .int .i64 (wrap64 (a0_1)), .int .i64 (wrap64 (a0_2)), .int .i64 (wrap64 (a0_3)), .int .i64 (wrap64 (a0_4)), .int .i64 0, .int .i64 0]) ?_ 5 _ rfl
          refine blk_put (cs := #[.bool a0_0, .int .i64 (wrap64 (a0_1)), .int .i64 (wrap64 (a0_2)), .int .i64 (wrap64 (a0_3)), .int .i64 0, .int .i64 0, .int .i64 0]) ?_ 4 _ rfl
          exact BK163.out
        · iterate 4 refine blk_far ?_ Na_.out _
          exact BK162.out
        · iterate 4 refine bS ?_ GE163.out
          exact HB.out
      clear HB BK162 BK163 q4 q5 q6 x4 x5 x6 f04 f05 f06 f14 f15 f16
      rintro W2 ⟨hF, hR, hB⟩
      have BK162 := Aside0.mk hR
      have HB := Aside0.mk hB
      have q0 : W2.cell? ⟨gb163, 0, none⟩ = some (.bool a0_0) := (bC hF 0).trans rfl
      have q1 : W2.cell? ⟨gb163, 1, none⟩ = some (.int .i64 (wrap64 (a0_1))) := (bC hF 1).trans rfl
      have q2 : W2.cell? ⟨gb163, 2, none⟩ = some (.int .i64 (wrap64 (a0_2))) := (bC hF 2).trans rfl
      have q3 : W2.cell? ⟨gb163, 3, none⟩ = some (.int .i64 (wrap64 (a0_3))) := (bC hF 3).trans rfl
      have q4 : W2.cell? ⟨gb163, 4, none⟩ = some (.int .i64 (wrap64 (a0_4))) := (bC hF 4).trans rfl
      have q5 : W2.cell? ⟨gb163, 5, none⟩ = some (.int .i64 (wrap64 ((wrap64 (a0_4)) + (wrap64 ((wrap64 ((wrap64 (Int.tmod a0_5 64)) + 1)) * (wrap64 (Int.tmod a0_6 8))))))) := (bC hF 5).trans rfl
      have q6 : W2.cell? ⟨gb163, 6, none⟩ = some (.int .i64 (wrap64 ((wrap64 (Int.tmod a0_5 64)) + 1))) := (bC hF 6).trans rfl
      have r0 : W2.cell? ⟨gb162, 0, none⟩ = some (.bool false) := (bC hR 0).trans rfl
      have f0 := bF hR 0
      have g0 := bF hF 0
      have r1 : W2.cell? ⟨gb162, 1, none⟩ = some (.int .i64 0) := (bC hR 1).trans rfl
      have f1 := bF hR 1
      have g1 := bF hF 1
      have r2 : W2.cell? ⟨gb162, 2, none⟩ = some (.int .i64 0) := (bC hR 2).trans rfl
      have f2 := bF hR 2
      have g2 := bF hF 2
      have r3 : W2.cell? ⟨gb162, 3, none⟩ = some (.int .i64 0) := (bC hR 3).trans rfl
      have f3 := bF hR 3
      have g3 := bF hF 3
      have r4 : W2.cell? ⟨gb162, 4, none⟩ = some (.int .i64 0) := (bC hR 4).trans rfl
      have f4 := bF hR 4
      have g4 := bF hF 4
      have r5 : W2.cell? ⟨gb162, 5, none⟩ = some (.int .i64 0) := (bC hR 5).trans rfl
      have f5 := bF hR 5
      have g5 := bF hF 5
      have r6 : W2.cell? ⟨gb162, 6, none⟩ = some (.int .i64 0) := (bC hR 6).trans rfl
      have f6 := bF hR 6
      have g6 := bF hF 6
      clear hF hR hB
      go_wp2
      refine bodyPost_ret (results_cell_row rfl _ _ gb162 35 #[.bool a0_0, .int .i64 (wrap64 (a0_1)), .int .i64 (wrap64 (a0_2)), .int .i64 (wrap64 (a0_3)), .int .i64 (wrap64 (a0_4)), .int .i64 (wrap64 ((wrap64 (a0_4)) + (wrap64 ((wrap64 ((wrap64 (Int.tmod a0_5 64)) + 1)) * (wrap64 (Int.tmod a0_6 8)))))), .int .i64 (wrap64 ((wrap64 (Int.tmod a0_5 64)) + 1))] (0, 0) _ rfl (by
          refine blk_put (cs := #[.bool a0_0, .int .i64 (wrap64 (a0_1)), .int .i64 (wrap64 (a0_2)), .int .i64 (wrap64 (a0_3)), .int .i64 (wrap64 (a0_4)), .int .i64 (wrap64 ((wrap64 (a0_4)) + (wrap64 ((wrap64 ((wrap64 (Int.tmod a0_5 64)) + 1)) * (wrap64 (Int.tmod a0_6 8)))))), .int .i64 0]) ?_ 6 _ rfl
          refine blk_put (cs := #[.bool a0_0, .int .i64 (wrap64 (a0_1)), .int .i64 (wrap64 (a0_2)), .int .i64 (wrap64 (a0_3)), .int .i64 (wrap64 (a0_4)), .int .i64 0, .int .i64 0]) ?_ 5 _ rfl
          refine blk_put (cs := #[.bool a0_0, .int .i64 (wrap64 (a0_1)), .int .i64 (wrap64 (a0_2)), .int .i64 (wrap64 (a0_3)), .int .i64 0, .int .i64 0, .int .i64 0]) ?_ 4 _ rfl
          refine blk_put (cs := #[.bool a0_0, .int .i64 (wrap64 (a0_1)), .int .i64 (wrap64 (a0_2)), .int .i64 0, .int .i64 0, .int .i64 0, .int .i64 0]) ?_ 3 _ rfl
          refine blk_put (cs := #[.bool a0_0, .int .i64 (wrap64 (a0_1)), .int .i64 0, .int .i64 0, .int .i64 0, .int .i64 0, .int .i64 0]) ?_ 2 _ rfl
          refine blk_put (cs := #[.bool a0_0, .int .i64 0, .int .i64 0, .int .i64 0, .int .i64 0, .int .i64 0, .int .i64 0]) ?_ 1 _ rfl
          refine blk_put (cs := #[.bool false, .int .i64 0, .int .i64 0, .int .i64 0, .int .i64 0, .int .i64 0, .int .i64 0]) ?_ 0 _ rfl
          exact BK162.out) Tryd.underlying35 rfl (by kernel_rfl)) rfl ?_
      refine ⟨rfl, ?_⟩
      iterate 7 refine bS ?_ GE162.out
      exact HB.out
    · rw [if_neg c24] at H
      have c24b0 : decide (0 < (Int.tmod a0_6 8)) = false := decide_eq_false c24
      clear c24
      simp only [Option.some.injEq, Prod.mk.injEq] at H
      obtain ⟨rfl, rfl, rfl, rfl, rfl, rfl, rfl⟩ := H
      go_enter Tryd.func10, Tryd.ntmps10
      go_upto_region 4 with (first | ((with_reducible refine gate_dst (N := 1) rfl ?_); refine box_event ?hg (N := 1) ?hd (cs := #[.bool a0_0, .int .i16 a0_1, .int .i16 a0_2, .int .i16 a0_3, .int .i32 a0_4, .int .u16 a0_5, .int .u16 a0_6, .bool false]) (t := 27) ?hr ?_; (case hd => rfl); (case hg => rfl); (case hr => first | (go_simp; done) | (go_simp; rfl)); intro gb161 hg w4 hbox hb; have n0_ := Aside0.mk (below_step (by repeat (first | (with_reducible first | exact HB.out | apply pA | apply pN | apply p1_) | exact HB.out)) hb); have n1_ := Aside0.mk (hbox); have n2_ := Aside0.mk ((by rw [hg]; exact (below_size (by repeat (first | (with_reducible first | exact HB.out | apply pA | apply pN | apply p1_) | exact HB.out))) : w.heap.size ≤ gb161)); have n3_ := Aside0.mk ((by rw [hg]; exact (below_size (by repeat (first | (with_reducible first | exact HB.out | apply pA | apply pN | apply p1_) | exact HB.out))) : w.heap.size ≤ gb161)); clear HB; have HB := n0_; have BK161 := n1_; have GW161 := n2_; have GE161 := n3_; clear n0_ n1_ n2_ n3_; clear hb hbox hg) | ((with_reducible refine gate_dst (N := 2) rfl ?_); refine box_event ?hg (N := 2) ?hd (cs := #[.bool false, .int .i64 0, .int .i64 0, .int .i64 0, .int .i64 0, .int .i64 0, .int .i64 0]) (t := 35) ?hr ?_; (case hd => rfl); (case hg => rfl); (case hr => first | (go_simp; done) | (go_simp; rfl)); intro gb162 hg w5 hbox hb; have n0_ := Aside0.mk (bB (g := gb161) (o := .cells #[.bool a0_0, .int .i16 a0_1, .int .i16 a0_2, .int .i16 a0_3, .int .i32 a0_4, .int .u16 a0_5, .int .u16 a0_6, .bool false] 27 (0, 0)) (by (with_reducible repeat (first | refine bN ?_ _ | refine bD ?_ | refine bA ?_ _)); exact BK161.out) hb); have n1_ := Aside0.mk (below_step (by repeat (first | (with_reducible first | exact HB.out | apply pA | apply pN | apply p1_ | refine bS ?_ GE161.out) | exact HB.out)) hb); have n2_ := Aside0.mk (hbox); have n3_ := Aside0.mk ((by rw [hg]; exact (below_size (by repeat (first | (with_reducible first | exact HB.out | apply pA | apply pN | apply p1_ | refine bS ?_ GE161.out) | exact HB.out))) : w.heap.size ≤ gb162)); have n4_ := Aside0.mk ((by rw [hg]; exact (below_size (by repeat (first | (with_reducible first | exact HB.out | apply pA | apply pN | apply p1_ | refine bS ?_ GE161.out) | exact HB.out))) : w.heap.size ≤ gb162)); have n5_ := Aside0.mk ((by rw [hg]; exact Nat.ne_of_lt (blk_lt (g := gb161) (o := .cells #[.bool a0_0, .int .i16 a0_1, .int .i16 a0_2, .int .i16 a0_3, .int .i32 a0_4, .int .u16 a0_5, .int .u16 a0_6, .bool false] 27 (0, 0)) (by (with_reducible repeat (first | refine bN ?_ _ | refine bD ?_ | refine bA ?_ _)); exact BK161.out)) : gb161 ≠ gb162)); have n6_ := Aside0.mk ((by rw [hg]; exact Nat.ne_of_gt (blk_lt (g := gb161) (o := .cells #[.bool a0_0, .int .i16 a0_1, .int .i16 a0_2, .int .i16 a0_3, .int .i32 a0_4, .int .u16 a0_5, .int .u16 a0_6, .bool false] 27 (0, 0)) (by (with_reducible repeat (first | refine bN ?_ _ | refine bD ?_ | refine bA ?_ _)); exact BK161.out)) : gb162 ≠ gb161)); clear BK161; clear HB; have BK161 := n0_; have HB := n1_; have BK162 := n2_; have GW162 := n3_; have GE162 := n4_; have Nd_ := n5_; have Nc_ := n6_; clear n0_ n1_ n2_ n3_ n4_ n5_ n6_; clear hb hbox hg; have hnb6 := Nd_.out; have hnc6 := Nc_.out; have hcz7_0 : w5.cell? ⟨gb161, 0, none⟩ = some (.bool a0_0) := (bC BK161.out 0).trans rfl; have hcz7_1 : w5.cell? ⟨gb161, 1, none⟩ = some (.int .i16 a0_1) := (bC BK161.out 1).trans rfl; have hcz7_2 : w5.cell? ⟨gb161, 2, none⟩ = some (.int .i16 a0_2) := (bC BK161.out 2).trans rfl; have hcz7_3 : w5.cell? ⟨gb161, 3, none⟩ = some (.int .i16 a0_3) := (bC BK161.out 3).trans rfl; have hcz7_4 : w5.cell? ⟨gb161, 4, none⟩ = some (.int .i32 a0_4) := (bC BK161.out 4).trans rfl; have hcz7_5 : w5.cell? ⟨gb161, 5, none⟩ = some (.int .u16 a0_5) := (bC BK161.out 5).trans rfl; have hcz7_6 : w5.cell? ⟨gb161, 6, none⟩ = some (.int .u16 a0_6) := (bC BK161.out 6).trans rfl; have hcz7_7 : w5.cell? ⟨gb161, 7, none⟩ = some (.bool false) := (bC BK161.out 7).trans rfl; have hfz7_0 := bF BK161.out 0; have hfz7_1 := bF BK161.out 1; have hfz7_2 := bF BK161.out 2; have hfz7_3 := bF BK161.out 3; have hfz7_4 := bF BK161.out 4; have hfz7_5 := bF BK161.out 5; have hfz7_6 := bF BK161.out 6; have hfz7_7 := bF BK161.out 7) | ((with_reducible refine gate_dst (N := 3) rfl ?_); refine box_event ?hg (N := 3) ?hd (cs := #[.bool false, .int .i64 0, .int .i64 0, .int .i64 0, .int .i64 0, .int .i64 0, .int .i64 0]) (t := 35) ?hr ?_; (case hd => rfl); (case hg => rfl); (case hr => first | (go_simp; done) | (go_simp; rfl)); intro gb163 hg w8 hbox hb; have n0_ := Aside0.mk (bB (g := gb161) (o := .cells #[.bool a0_0, .int .i16 a0_1, .int .i16 a0_2, .int .i16 a0_3, .int .i32 a0_4, .int .u16 a0_5, .int .u16 a0_6, .bool false] 27 (0, 0)) (by (with_reducible repeat (first | refine bN ?_ _ | refine bD ?_ | refine bA ?_ _)); exact BK161.out) hb); have n1_ := Aside0.mk (bB (g := gb162) (o := .cells #[.bool false, .int .i64 0, .int .i64 0, .int .i64 0, .int .i64 0, .int .i64 0, .int .i64 0] 35 (0, 0)) (by (with_reducible repeat (first | refine bN ?_ _ | refine bD ?_ | refine bA ?_ _)); exact BK162.out) hb); have n2_ := Aside0.mk (below_step (by repeat (first | (with_reducible first | exact HB.out | apply pA | apply pN | apply p1_ | refine bS ?_ GE161.out | refine bS ?_ GE162.out) | exact HB.out)) hb); have n3_ := Aside0.mk (hbox); have n4_ := Aside0.mk ((by rw [hg]; exact (below_size (by repeat (first | (with_reducible first | exact HB.out | apply pA | apply pN | apply p1_ | refine bS ?_ GE161.out | refine bS ?_ GE162.out) | exact HB.out))) : w.heap.size ≤ gb163)); have n5_ := Aside0.mk ((by rw [hg]; exact (below_size (by repeat (first | (with_reducible first | exact HB.out | apply pA | apply pN | apply p1_ | refine bS ?_ GE161.out | refine bS ?_ GE162.out) | exact HB.out))) : w.heap.size ≤ gb163)); have n6_ := Aside0.mk ((by rw [hg]; exact Nat.ne_of_lt (blk_lt (g := gb161) (o := .cells #[.bool a0_0, .int .i16 a0_1, .int .i16 a0_2, .int .i16 a0_3, .int .i32 a0_4, .int .u16 a0_5, .int .u16 a0_6, .bool false] 27 (0, 0)) (by (with_reducible repeat (first | refine bN ?_ _ | refine bD ?_ | refine bA ?_ _)); exact BK161.out)) : gb161 ≠ gb163)); have n7_ := Aside0.mk ((by rw [hg]; exact Nat.ne_of_gt (blk_lt (g := gb161) (o := .cells #[.bool a0_0, .int .i16 a0_1, .int .i16 a0_2, .int .i16 a0_3, .int .i32 a0_4, .int .u16 a0_5, .int .u16 a0_6, .bool false] 27 (0, 0)) (by (with_reducible repeat (first | refine bN ?_ _ | refine bD ?_ | refine bA ?_ _)); exact BK161.out)) : gb163 ≠ gb161)); have n8_ := Aside0.mk ((by rw [hg]; exact Nat.ne_of_lt (blk_lt (g := gb162) (o := .cells #[.bool false, .int .i64 0, .int .i64 0, .int .i64 0, .int .i64 0, .int .i64 0, .int .i64 0] 35 (0, 0)) (by (with_reducible repeat (first | refine bN ?_ _ | refine bD ?_ | refine bA ?_ _)); exact BK162.out)) : gb162 ≠ gb163)); have n9_ := Aside0.mk ((by rw [hg]; exact Nat.ne_of_gt (blk_lt (g := gb162) (o := .cells #[.bool false, .int .i64 0, .int .i64 0, .int .i64 0, .int .i64 0, .int .i64 0, .int .i64 0] 35 (0, 0)) (by (with_reducible repeat (first | refine bN ?_ _ | refine bD ?_ | refine bA ?_ _)); exact BK162.out)) : gb163 ≠ gb162)); clear BK161; clear BK162; clear HB; have BK161 := n0_; have BK162 := n1_; have HB := n2_; have BK163 := n3_; have GW163 := n4_; have GE163 := n5_; have Nf_ := n6_; have Ne_ := n7_; have Na_ := n8_; have Nb_ := n9_; clear n0_ n1_ n2_ n3_ n4_ n5_ n6_ n7_ n8_ n9_; clear hb hbox hg; have hnb9 := Ne_.out; have hnc9 := Nf_.out; have hnb10 := Nb_.out; have hnc10 := Na_.out; have hcz11_0 : w8.cell? ⟨gb163, 0, none⟩ = some (.bool false) := (bC BK163.out 0).trans rfl; have hcz11_1 : w8.cell? ⟨gb163, 1, none⟩ = some (.int .i64 0) := (bC BK163.out 1).trans rfl; have hcz11_2 : w8.cell? ⟨gb163, 2, none⟩ = some (.int .i64 0) := (bC BK163.out 2).trans rfl; have hcz11_3 : w8.cell? ⟨gb163, 3, none⟩ = some (.int .i64 0) := (bC BK163.out 3).trans rfl; have hcz11_4 : w8.cell? ⟨gb163, 4, none⟩ = some (.int .i64 0) := (bC BK163.out 4).trans rfl; have hcz11_5 : w8.cell? ⟨gb163, 5, none⟩ = some (.int .i64 0) := (bC BK163.out 5).trans rfl; have hcz11_6 : w8.cell? ⟨gb163, 6, none⟩ = some (.int .i64 0) := (bC BK163.out 6).trans rfl; have hfz11_0 := bF BK163.out 0; have hfz11_1 := bF BK163.out 1; have hfz11_2 := bF BK163.out 2; have hfz11_3 := bF BK163.out 3; have hfz11_4 := bF BK163.out 4; have hfz11_5 := bF BK163.out 5; have hfz11_6 := bF BK163.out 6; have hcz12_0 : w8.cell? ⟨gb161, 0, none⟩ = some (.bool a0_0) := (bC BK161.out 0).trans rfl; have hcz12_1 : w8.cell? ⟨gb161, 1, none⟩ = some (.int .i16 a0_1) := (bC BK161.out 1).trans rfl; have hcz12_2 : w8.cell? ⟨gb161, 2, none⟩ = some (.int .i16 a0_2) := (bC BK161.out 2).trans rfl; have hcz12_3 : w8.cell? ⟨gb161, 3, none⟩ = some (.int .i16 a0_3) := (bC BK161.out 3).trans rfl; have hcz12_4 : w8.cell? ⟨gb161, 4, none⟩ = some (.int .i32 a0_4) := (bC BK161.out 4).trans rfl; have hcz12_5 : w8.cell? ⟨gb161, 5, none⟩ = some (.int .u16 a0_5) := (bC BK161.out 5).trans rfl; have hcz12_6 : w8.cell? ⟨gb161, 6, none⟩ = some (.int .u16 a0_6) := (bC BK161.out 6).trans rfl; have hcz12_7 : w8.cell? ⟨gb161, 7, none⟩ = some (.bool false) := (bC BK161.out 7).trans rfl; have hfz12_0 := bF BK161.out 0; have hfz12_1 := bF BK161.out 1; have hfz12_2 := bF BK161.out 2; have hfz12_3 := bF BK161.out 3; have hfz12_4 := bF BK161.out 4; have hfz12_5 := bF BK161.out 5; have hfz12_6 := bF BK161.out 6; have hfz12_7 := bF BK161.out 7; have hcz13_0 : w8.cell? ⟨gb162, 0, none⟩ = some (.bool false) := (bC BK162.out 0).trans rfl; have hcz13_1 : w8.cell? ⟨gb162, 1, none⟩ = some (.int .i64 0) := (bC BK162.out 1).trans rfl; have hcz13_2 : w8.cell? ⟨gb162, 2, none⟩ = some (.int .i64 0) := (bC BK162.out 2).trans rfl; have hcz13_3 : w8.cell? ⟨gb162, 3, none⟩ = some (.int .i64 0) := (bC BK162.out 3).trans rfl; have hcz13_4 : w8.cell? ⟨gb162, 4, none⟩ = some (.int .i64 0) := (bC BK162.out 4).trans rfl; have hcz13_5 : w8.cell? ⟨gb162, 5, none⟩ = some (.int .i64 0) := (bC BK162.out 5).trans rfl; have hcz13_6 : w8.cell? ⟨gb162, 6, none⟩ = some (.int .i64 0) := (bC BK162.out 6).trans rfl; have hfz13_0 := bF BK162.out 0; have hfz13_1 := bF BK162.out 1; have hfz13_2 := bF BK162.out 2; have hfz13_3 := bF BK162.out 3; have hfz13_4 := bF BK162.out 4; have hfz13_5 := bF BK162.out 5; have hfz13_6 := bF BK162.out 6))
      refine wp_gen (fun W => W.heap[gb163]? = some (.cells #[.bool a0_0, .int .i64 (wrap64 (a0_1)), .int .i64 (wrap64 (a0_2)), .int .i64 (wrap64 (a0_3)), .int .i64 0, .int .i64 0, .int .i64 0] 35 (0, 0)) ∧ W.heap[gb162]? = some (.cells #[.bool false, .int .i64 0, .int .i64 0, .int .i64 0, .int .i64 0, .int .i64 0, .int .i64 0] 35 (0, 0)) ∧ W.heap[gb161]? = some (.cells #[.bool a0_0, .int .i16 a0_1, .int .i16 a0_2, .int .i16 a0_3, .int .i32 a0_4, .int .u16 a0_5, .int .u16 a0_6, .bool false] 27 (0, 0)) ∧ Below w.heap.size w W) ?_ ?_
      · refine ⟨?_, ?_, ?_, ?_⟩
        · refine blk_put (cs := #[.bool a0_0, .int .i64 (wrap64 (a0_1)), .int .i64 (wrap64 (a0_2)), .int .i64 (wrap64 (a0_3)), .int .i64 0, .int .i64 0, .int .i64 0]) ?_ 6 _ rfl
          refine blk_put (cs := #[.bool a0_0, .int .i64 (wrap64 (a0_1)), .int .i64 (wrap64 (a0_2)), .int .i64 (wrap64 (a0_3)), .int .i64 0, .int .i64 0, .int .i64 0]) ?_ 5 _ rfl
          refine blk_put (cs := #[.bool a0_0, .int .i64 (wrap64 (a0_1)), .int .i64 (wrap64 (a0_2)), .int .i64 (wrap64 (a0_3)), .int .i64 0, .int .i64 0, .int .i64 0]) ?_ 4 _ rfl
          refine blk_put (cs := #[.bool a0_0, .int .i64 (wrap64 (a0_1)), .int .i64 (wrap64 (a0_2)), .int .i64 0, .int .i64 0, .int .i64 0, .int .i64 0]) ?_ 3 _ rfl
          refine blk_put (cs := #[.bool a0_0, .int .i64 (wrap64 (a0_1)), .int .i64 0, .int .i64 0, .int .i64 0, .int .i64 0, .int .i64 0]) ?_ 2 _ rfl
          refine blk_put (cs := #[.bool a0_0, .int .i64 0, .int .i64 0, .int .i64 0, .int .i64 0, .int .i64 0, .int .i64 0]) ?_ 1 _ rfl
          refine blk_put (cs := #[.bool false, .int .i64 0, .int .i64 0, .int .i64 0, .int .i64 0, .int .i64 0, .int .i64 0]) ?_ 0 _ rfl
          exact BK163.out
        · iterate 7 refine blk_far ?_ Na_.out _
          exact BK162.out
        · iterate 7 refine blk_far ?_ (Ne.symm hnb9) _
          exact BK161.out
        · iterate 7 refine bS ?_ GE163.out
          exact HB.out
      clear HB BK161 BK162 BK163 hcz11_0 hcz11_1 hcz11_2 hcz11_3 hcz11_4 hcz11_5 hcz11_6 hcz12_0 hcz12_1 hcz12_2 hcz12_3 hcz12_4 hcz12_5 hcz12_6 hcz12_7 hcz13_0 hcz13_1 hcz13_2 hcz13_3 hcz13_4 hcz13_5 hcz13_6
      rintro W1 ⟨hF, hR, hX, hB⟩
      have BK163 := Aside0.mk hF
      have BK162 := Aside0.mk hR
      have HB := Aside0.mk hB
      have q4 : W1.cell? ⟨gb163, 4, none⟩ = some (.int .i64 0) := (bC hF 4).trans rfl
      have q5 : W1.cell? ⟨gb163, 5, none⟩ = some (.int .i64 0) := (bC hF 5).trans rfl
      have q6 : W1.cell? ⟨gb163, 6, none⟩ = some (.int .i64 0) := (bC hF 6).trans rfl
      have x4 : W1.cell? ⟨gb161, 4, none⟩ = some (.int .i32 a0_4) := (bC hX 4).trans rfl
      have x5 : W1.cell? ⟨gb161, 5, none⟩ = some (.int .u16 a0_5) := (bC hX 5).trans rfl
      have x6 : W1.cell? ⟨gb161, 6, none⟩ = some (.int .u16 a0_6) := (bC hX 6).trans rfl
      have f04 := bF hF 4
      have f05 := bF hF 5
      have f06 := bF hF 6
      have f14 := bF hX 4
      have f15 := bF hX 5
      have f16 := bF hX 6
      clear hF hR hX hB
      go_upto_region 9 with (fail)
      refine wp_gen (fun W => W.heap[gb163]? = some (.cells #[.bool a0_0, .int .i64 (wrap64 (a0_1)), .int .i64 (wrap64 (a0_2)), .int .i64 (wrap64 (a0_3)), .int .i64 (wrap64 (a0_4)), .int .i64 (wrap64 (a0_4)), .int .i64 0] 35 (0, 0)) ∧ W.heap[gb162]? = some (.cells #[.bool false, .int .i64 0, .int .i64 0, .int .i64 0, .int .i64 0, .int .i64 0, .int .i64 0] 35 (0, 0)) ∧ Below w.heap.size w W) ?_ ?_
      · refine ⟨?_, ?_, ?_⟩
        · refine blk_put (cs := #[.bool a0_0, .int .i64 (wrap64 (a0_1)), .int .i64 (wrap64 (a0_2)), .int .i64 (wrap64 (a0_3)), .int .i64 (wrap64 (a0_4)), .int .i64 0, .int .i64 0]) ?_ 5 _ rfl
          refine blk_put (cs := #[.bool a0_0, .int .i64 (wrap64 (a0_1)), .int .i64 (wrap64 (a0_2)), .int .i64 (wrap64 (a0_3)), .int .i64 0, .int .i64 0, .int .i64 0]) ?_ 4 _ rfl
          exact BK163.out
        · iterate 2 refine blk_far ?_ Na_.out _
          exact BK162.out
        · iterate 2 refine bS ?_ GE163.out
          exact HB.out
      clear HB BK162 BK163 q4 q5 q6 x4 x5 x6 f04 f05 f06 f14 f15 f16
      rintro W2 ⟨hF, hR, hB⟩
      have BK162 := Aside0.mk hR
      have HB := Aside0.mk hB
      have q0 : W2.cell? ⟨gb163, 0, none⟩ = some (.bool a0_0) := (bC hF 0).trans rfl
      have q1 : W2.cell? ⟨gb163, 1, none⟩ = some (.int .i64 (wrap64 (a0_1))) := (bC hF 1).trans rfl
      have q2 : W2.cell? ⟨gb163, 2, none⟩ = some (.int .i64 (wrap64 (a0_2))) := (bC hF 2).trans rfl
      have q3 : W2.cell? ⟨gb163, 3, none⟩ = some (.int .i64 (wrap64 (a0_3))) := (bC hF 3).trans rfl
      have q4 : W2.cell? ⟨gb163, 4, none⟩ = some (.int .i64 (wrap64 (a0_4))) := (bC hF 4).trans rfl
      have q5 : W2.cell? ⟨gb163, 5, none⟩ = some (.int .i64 (wrap64 (a0_4))) := (bC hF 5).trans rfl
      have q6 : W2.cell? ⟨gb163, 6, none⟩ = some (.int .i64 0) := (bC hF 6).trans rfl
      have r0 : W2.cell? ⟨gb162, 0, none⟩ = some (.bool false) := (bC hR 0).trans rfl
      have f0 := bF hR 0
      have g0 := bF hF 0
      have r1 : W2.cell? ⟨gb162, 1, none⟩ = some (.int .i64 0) := (bC hR 1).trans rfl
      have f1 := bF hR 1
      have g1 := bF hF 1
      have r2 : W2.cell? ⟨gb162, 2, none⟩ = some (.int .i64 0) := (bC hR 2).trans rfl
      have f2 := bF hR 2
      have g2 := bF hF 2
      have r3 : W2.cell? ⟨gb162, 3, none⟩ = some (.int .i64 0) := (bC hR 3).trans rfl
      have f3 := bF hR 3
      have g3 := bF hF 3
      have r4 : W2.cell? ⟨gb162, 4, none⟩ = some (.int .i64 0) := (bC hR 4).trans rfl
      have f4 := bF hR 4
      have g4 := bF hF 4
      have r5 : W2.cell? ⟨gb162, 5, none⟩ = some (.int .i64 0) := (bC hR 5).trans rfl
      have f5 := bF hR 5
      have g5 := bF hF 5
      have r6 : W2.cell? ⟨gb162, 6, none⟩ = some (.int .i64 0) := (bC hR 6).trans rfl
      have f6 := bF hR 6
      have g6 := bF hF 6
      clear hF hR hB
      go_wp2
      refine bodyPost_ret (results_cell_row rfl _ _ gb162 35 #[.bool a0_0, .int .i64 (wrap64 (a0_1)), .int .i64 (wrap64 (a0_2)), .int .i64 (wrap64 (a0_3)), .int .i64 (wrap64 (a0_4)), .int .i64 (wrap64 (a0_4)), .int .i64 0] (0, 0) _ rfl (by
          refine blk_put (cs := #[.bool a0_0, .int .i64 (wrap64 (a0_1)), .int .i64 (wrap64 (a0_2)), .int .i64 (wrap64 (a0_3)), .int .i64 (wrap64 (a0_4)), .int .i64 (wrap64 (a0_4)), .int .i64 0]) ?_ 6 _ rfl
          refine blk_put (cs := #[.bool a0_0, .int .i64 (wrap64 (a0_1)), .int .i64 (wrap64 (a0_2)), .int .i64 (wrap64 (a0_3)), .int .i64 (wrap64 (a0_4)), .int .i64 0, .int .i64 0]) ?_ 5 _ rfl
          refine blk_put (cs := #[.bool a0_0, .int .i64 (wrap64 (a0_1)), .int .i64 (wrap64 (a0_2)), .int .i64 (wrap64 (a0_3)), .int .i64 0, .int .i64 0, .int .i64 0]) ?_ 4 _ rfl
          refine blk_put (cs := #[.bool a0_0, .int .i64 (wrap64 (a0_1)), .int .i64 (wrap64 (a0_2)), .int .i64 0, .int .i64 0, .int .i64 0, .int .i64 0]) ?_ 3 _ rfl
          refine blk_put (cs := #[.bool a0_0, .int .i64 (wrap64 (a0_1)), .int .i64 0, .int .i64 0, .int .i64 0, .int .i64 0, .int .i64 0]) ?_ 2 _ rfl
          refine blk_put (cs := #[.bool a0_0, .int .i64 0, .int .i64 0, .int .i64 0, .int .i64 0, .int .i64 0, .int .i64 0]) ?_ 1 _ rfl
          refine blk_put (cs := #[.bool false, .int .i64 0, .int .i64 0, .int .i64 0, .int .i64 0, .int .i64 0, .int .i64 0]) ?_ 0 _ rfl
          exact BK162.out) Tryd.underlying35 rfl (by kernel_rfl)) rfl ?_
      refine ⟨rfl, ?_⟩
      iterate 7 refine bS ?_ GE162.out
      exact HB.out
end Go.Proofs.YtnjeliicnbfclaaDoor.P
