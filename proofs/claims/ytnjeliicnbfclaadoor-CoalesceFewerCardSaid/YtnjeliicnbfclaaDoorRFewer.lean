/- CoalesceFewer: its row with the table listed, and its card. -/
import Derived.Test.YtnjeliicnbfclaaDoorR1
import Derived.Test.YtnjeliicnbfclaaDoorLh
namespace Go.Proofs.YtnjeliicnbfclaaDoor.coalesceFewer
open Go.ChangeShapes Go.WideShapes Go.ChangeAt Go.RowKit Go.Proofs.YtnjeliicnbfclaaDoor.R Go.Proofs.YtnjeliicnbfclaaDoorW Go.Proofs.YtnjeliicnbfclaaDoorW.PrintWords
open Go.ChangeMaps (open_string shut_string)
set_option linter.unusedVariables false

theorem walk (b0 b7 : Bool) (n1 n2 n3 n4 n5 n6 a1 a2 : Int) (w : World) (x1 : (Lit.int .i16 n1).wf = true) (x2 : (Lit.int .i16 n2).wf = true) (x3 : (Lit.int .i16 n3).wf = true) (x4 : (Lit.int .i32 n4).wf = true) (x5 : (Lit.int .u16 n5).wf = true) (x6 : (Lit.int .u16 n6).wf = true) (w1 : (Lit.int .u64 a1).wf = true) (w2 : (Lit.int .u64 a2).wf = true) (HT : P.Tab w) :
    Calls Tryd.prog 8 #[.agg #[.bool b0, .int .i16 n1, .int .i16 n2, .int .i16 n3, .int .i32 n4, .int .u16 n5, .int .u16 n6, .bool b7], .int .u64 a1, .int .u64 a2] w fun e w' => e = .returned (.bool true) ∧ Below w.heap.size w w' := by
  have y1 := P.wf_u64' w1
  have y2 := P.wf_u64' w2
  obtain ⟨k, h⟩ := P.fewer_pure b0 n1 n2 n3 n4 n5 n6 b7 a1 a2 x1 x2 x3 x4 x5 x6 y1.1 y1.2 y2.1 y2.2
  exact P.w22_CFewer.calls k b0 n1 n2 n3 n4 n5 n6 b7 a1 a2 true w h HT

set_option maxRecDepth 100000 in
theorem contract (H : Type) (enc : TypeId × Value → H) (W : World) (base : Nat) (args : Array Value) (ds gs : List (DataW H)) (before : List MemPlace)
    (hval0 : ∀ (j : Nat) t v, Tryd.f8.params[j]? = some t → args[j]? = some v → Value.okWide Tryd.prog W .any base t v)
    (hW : DataW.Whole enc Tryd.prog Tryd.f8.params.toList Rows.coalesceFewerSpec.vars false W args.toList ds gs before)
    (hsz0 : (DataW.weightsEach Tryd.prog (Tryd.f8.params.toList ++ Rows.coalesceFewerSpec.plain.varTypes Tryd.prog) (ds ++ gs)).all (· ≤ reachBytes) = true) (hL : laidMetH Tryd.prog theLaid W) :
    Calls Tryd.prog 8 args W fun e W' => ∃ v, e = .returned v ∧ Rows.coalesceFewerSpec.post enc Tryd.prog Tryd.f8 false true false false W args v W' := by
  have hsz : (DataW.weightsEach Tryd.prog (Tryd.f8.params.toList ++ Rows.coalesceFewerSpec.plain.varTypes Tryd.prog) (ds ++ gs)).all (· ≤ reachBytes) = true := hsz0
  have hval : ∀ (j : Nat) t v, Tryd.f8.params[j]? = some t → args[j]? = some v → Value.okWide Tryd.prog W .any base t v := hval0
  have hW' := hW
  obtain ⟨p, q, hA0, hV, rfl, hfz, hnd⟩ := hW
  have hA : DataW.TrodAll enc Tryd.prog W 0 (fun _ => true) true Tryd.f8.params.toList args.toList ds p := hA0
  rw [Tryd.params8] at hA hval hsz
  obtain ⟨v0, vs0, d0, ds0, p0, q0, hargs, rfl, rfl, h0, r0⟩ := trodAll_cons hA
  obtain ⟨v1, vs1, d1, ds1, p1, q1, rfl, rfl, rfl, h1, r1⟩ := trodAll_cons r0
  obtain ⟨v2, vs2, d2, ds2, p2, q2, rfl, rfl, rfl, h2, r2⟩ := trodAll_cons r1
  obtain ⟨rfl, rfl, rfl⟩ := trodAll_nil r2
  obtain rfl : args = #[v0, v1, v2] := by cases args; simp_all
  obtain ⟨rfl, rfl⟩ := trodVars_none hV
  have k0 := h0
  have lt0 : ∀ x ∈ p0, x.block < W.heap.size := by obtain ⟨m, hm⟩ := k0; exact DataW.trod_lt m _ _ _ hm
  obtain ⟨b0, n1, n2, n3, n4, n5, n6, b7, hraw⟩ := open_raw (hval 0 27 v0 rfl rfl) h0
  obtain ⟨rfl, x1, x2, x3, x4, x5, x6⟩ := hraw
  obtain ⟨a1, rfl, rfl, rfl, w1⟩ := open_int Tryd.underlying38 (hval 1 38 v1 rfl rfl) h1
  obtain ⟨a2, rfl, rfl, rfl, w2⟩ := open_int Tryd.underlying38 (hval 2 38 v2 rfl rfl) h2
  clear hA0 hval0 hsz0 hsz
  refine (walk b0 b7 n1 n2 n3 n4 n5 n6 a1 a2 W x1 x2 x3 x4 x5 x6 w1 w2 (tab hL)).mono fun e W' ⟨he, bel⟩ => ?_
  subst he
  exact ⟨_, rfl, _, _, _, [], _, [], hW', trodAll_mk1 (shut_bool Tryd.underlying4 _), (trodAll_cons_mk (Below.trod laidOut (by kernel_rfl) (of_decide_eq_true (by kernel_rfl)) k0 bel lt0) (trodAll_cons_mk (shut_int Tryd.underlying38 w1) (trodAll_cons_mk (shut_int Tryd.underlying38 w2) trodAll_mk0))), rfl, bel.frame _, fun h => by cases h⟩

theorem laid_met (os : Os) : laidMet Tryd.prog Rows.coalesceFewerRow.laid ((laidWorld os).forCall (fun _ _ => 0) ⟨#[], #[.agg #[.bool false, .int .i16 0, .int .i16 0, .int .i16 0, .int .i32 0, .int .u16 0, .int .u16 0, .bool false], .int .u64 0, .int .u64 0], []⟩).memory :=
  laidMet_of_run' 8 (by kernel_rfl) (by kernel_rfl)
theorem reads (os : Os) {H : Type} (enc : TypeId × Value → H) : ∃ places, DataW.whole enc Tryd.prog ((laidWorld os).forCall (fun _ _ => 0) ⟨#[], #[.agg #[.bool false, .int .i16 0, .int .i16 0, .int .i16 0, .int .i32 0, .int .u16 0, .int .u16 0, .bool false], .int .u64 0, .int .u64 0], []⟩).memory Tryd.f8.params.toList Rows.coalesceFewerSpec.vars false (#[.agg #[.bool false, .int .i16 0, .int .i16 0, .int .i16 0, .int .i32 0, .int .u16 0, .int .u16 0, .bool false], .int .u64 0, .int .u64 0] : Array Value).toList 8 = some ([.agg [.lit (.bool false), .lit (.int .i16 0), .lit (.int .i16 0), .lit (.int .i16 0), .lit (.int .i32 0), .lit (.int .u16 0), .lit (.int .u16 0), .lit (.bool false)], .lit (.int .u64 0), .lit (.int .u64 0)], [], places) :=
  ⟨[], by kernel_rfl⟩

set_option maxRecDepth 100000 in
theorem lifted (os : Os) (started : os.Started) (H : Type) (enc : TypeId × Value → H) (F : Stop.Interp) :
    ReturnsInHanded {} Tryd.checked os 8 .any ((OpenSpec.ofChange Rows.coalesceFewerSpec).preRow enc Tryd.prog Tryd.f8 Rows.coalesceFewerRow.domain false Rows.coalesceFewerRow.laid) (((OpenSpec.ofChange Rows.coalesceFewerSpec).at F).post enc Tryd.prog Tryd.f8 false true false false) := by
  obtain ⟨places, hx⟩ := reads os enc
  refine returnsInHanded_of_row (C := Tryd.checked) (s := OpenSpec.ofChange Rows.coalesceFewerSpec) own started (by kernel_rfl) Tryd.func8
    (witness_row_at (enc := enc) (C := Tryd.checked) false (laidWorld os) #[.agg #[.bool false, .int .i16 0, .int .i16 0, .int .i16 0, .int .i32 0, .int .u16 0, .int .u16 0, .bool false], .int .u64 0, .int .u64 0] rfl (by kernel_rfl) (by kernel_rfl) (by kernel_rfl)
      (OpenSpec.preRow_of_cond 8 hx (by kernel_rfl) (fun k hk => by cases hk) (by kernel_rfl) (laid_met os))) ?_
  intro W base args ds gs before hval hW _ _ hsz hL _ _
  exact contract H enc W base args ds gs before hval hW hsz hL

theorem said : Rows.CoalesceFewerSaid :=
  OpenClaim.holds_of_cond 8 Tryd.f8 rfl rfl rfl rfl rfl rfl rfl ⟨rfl, rfl, rfl, rfl, rfl⟩ rfl rfl rfl rfl rfl (by kernel_rfl) Tryd.func8 (by kernel_rfl)
    (of_decide_eq_true (by kernel_rfl)) (by unfold Func.isWrapper; first | (rw [if_pos (by decide +kernel)]; kernel_rfl) | (rw [if_neg (by decide +kernel)]; exact ⟨rfl, rfl⟩))
    (fun os started H enc _ F => by rw [OpenClaim.pre_eq_preRow]; exact lifted os started H enc F)

/-- No parameter wants a stand-in; the program's own looks are off. -/
theorem plain (f : FuncId) (fn : Func) (hf : Tryd.pinned.checked.prog.funcNamed "warpwright/warpwrightlaw22.CoalesceFewer" = some f) (hfn : Tryd.pinned.checked.prog.funcs[f]? = some fn) :
    false = Tryd.pinned.checked.prog.looks [] ∧ ∀ (j : Nat) t, fn.params[j]? = some t → Tryd.pinned.checked.prog.wantsStandIn t = false := by
  obtain rfl : f = 8 := Option.some.inj ((show Tryd.prog.funcNamed "warpwright/warpwrightlaw22.CoalesceFewer" = some 8 by kernel_rfl).symm.trans hf) |>.symm
  obtain rfl : fn = Tryd.f8 := (Option.some.inj (Tryd.func8.symm.trans hfn)).symm
  refine ⟨by kernel_rfl, fun j t ht => ?_⟩
  rw [Tryd.params8] at ht
  have hm := Array.mem_of_getElem? ht
  have hall : ∀ u ∈ (#[27, 38, 38] : Array TypeId), Tryd.prog.wantsStandIn u = false := by
    intro u hu
    simp only [List.mem_toArray, List.mem_cons, List.not_mem_nil, or_false] at hu
    rcases hu with rfl | rfl | rfl <;> kernel_rfl
  exact hall t hm

end Go.Proofs.YtnjeliicnbfclaaDoor.coalesceFewer
namespace Go.Proofs.YtnjeliicnbfclaaDoor
open Go.Proofs.YtnjeliicnbfclaaDoor.coalesceFewer in
/-- The card. -/
theorem coalesceFewer_card : Rows.CoalesceFewerCardSaid :=
  Claim7.holds_tied_plain_at .later [] _ _ _ _ coalesceFewer.said (fun _ h => by cases h) (by kernel_rfl) (fun _ h => by cases h) coalesceFewer_row_tie rfl ⟨rfl, rfl⟩ (by kernel_rfl) rfl coalesceFewer.plain (by kernel_rfl)
end Go.Proofs.YtnjeliicnbfclaaDoor
