/- CoalesceBounds: its row with the table listed, and its card. -/
import Derived.Test.YtnjeliicnbfclaaDoorR1
import Derived.Test.YtnjeliicnbfclaaDoorLg
namespace Go.Proofs.YtnjeliicnbfclaaDoor.coalesceBounds
open Go.ChangeShapes Go.WideShapes Go.ChangeAt Go.RowKit Go.Proofs.YtnjeliicnbfclaaDoor.R Go.Proofs.YtnjeliicnbfclaaDoorW Go.Proofs.YtnjeliicnbfclaaDoorW.PrintWords
open Go.ChangeMaps (open_string shut_string)
set_option linter.unusedVariables false

theorem walk (b0 b7 : Bool) (n1 n2 n3 n4 n5 n6 c0 c1 c2 : Int) (a2 : Option Addr) (len2 cap2 : Nat) (z2 : List Int) (w : World) (x1 : (Lit.int .i16 n1).wf = true) (x2 : (Lit.int .i16 n2).wf = true) (x3 : (Lit.int .i16 n3).wf = true) (x4 : (Lit.int .i32 n4).wf = true) (x5 : (Lit.int .u16 n5).wf = true) (x6 : (Lit.int .u16 n6).wf = true) (u0 : (Lit.int .i64 c0).wf = true) (u1 : (Lit.int .i64 c1).wf = true) (u2 : (Lit.int .i64 c2).wf = true)
    (w2 : IsRow .u16 w a2 len2 cap2 z2) (y2 : len2 * 2 ≤ 140737488351232) (HT : P.Tab w) :
    Calls Tryd.prog 6 #[.agg #[.bool b0, .int .i16 n1, .int .i16 n2, .int .i16 n3, .int .i32 n4, .int .u16 n5, .int .u16 n6, .bool b7], .agg #[.int .i64 c0, .int .i64 c1, .int .i64 c2], .slice a2 len2 cap2] w fun e w' => e = .returned (.bool true) ∧ Below w.heap.size w w' := by
  obtain ⟨l2, rfl, hr2, hm2, hw2, hc2⟩ := ReadsInt.ofRowC w2
  obtain ⟨k, h⟩ := P.bounds_pure b0 n1 n2 n3 n4 n5 n6 b7 c0 c1 c2 l2 x1 x2 x3 x4 x5 x6 u0 u1 u2 hw2 (by omega)
  exact P.w22_CBounds.calls k b0 n1 n2 n3 n4 n5 n6 b7 c0 c1 c2 _ _ l2 true w (Kd.C_of_reads (d := (0 : Int)) (h1 := fun _ => rfl) hr2) hc2 h HT

set_option maxRecDepth 100000 in
theorem contract (H : Type) (enc : TypeId × Value → H) (W : World) (base : Nat) (args : Array Value) (ds gs : List (DataW H)) (before : List MemPlace)
    (hval0 : ∀ (j : Nat) t v, Tryd.f6.params[j]? = some t → args[j]? = some v → Value.okWide Tryd.prog W .any base t v)
    (hW : DataW.Whole enc Tryd.prog Tryd.f6.params.toList Rows.coalesceBoundsSpec.vars false W args.toList ds gs before)
    (hsz0 : (DataW.weightsEach Tryd.prog (Tryd.f6.params.toList ++ Rows.coalesceBoundsSpec.plain.varTypes Tryd.prog) (ds ++ gs)).all (· ≤ reachBytes) = true) (hL : laidMetH Tryd.prog theLaid W) :
    Calls Tryd.prog 6 args W fun e W' => ∃ v, e = .returned v ∧ Rows.coalesceBoundsSpec.post enc Tryd.prog Tryd.f6 false true false false W args v W' := by
  have hsz : (DataW.weightsEach Tryd.prog (Tryd.f6.params.toList ++ Rows.coalesceBoundsSpec.plain.varTypes Tryd.prog) (ds ++ gs)).all (· ≤ reachBytes) = true := hsz0
  have hval : ∀ (j : Nat) t v, Tryd.f6.params[j]? = some t → args[j]? = some v → Value.okWide Tryd.prog W .any base t v := hval0
  have hW' := hW
  obtain ⟨p, q, hA0, hV, rfl, hfz, hnd⟩ := hW
  have hA : DataW.TrodAll enc Tryd.prog W 0 (fun _ => true) true Tryd.f6.params.toList args.toList ds p := hA0
  rw [Tryd.params6] at hA hval hsz
  obtain ⟨v0, vs0, d0, ds0, p0, q0, hargs, rfl, rfl, h0, r0⟩ := trodAll_cons hA
  obtain ⟨v1, vs1, d1, ds1, p1, q1, rfl, rfl, rfl, h1, r1⟩ := trodAll_cons r0
  obtain ⟨v2, vs2, d2, ds2, p2, q2, rfl, rfl, rfl, h2, r2⟩ := trodAll_cons r1
  obtain ⟨rfl, rfl, rfl⟩ := trodAll_nil r2
  obtain rfl : args = #[v0, v1, v2] := by cases args; simp_all
  obtain ⟨rfl, rfl⟩ := trodVars_none hV
  have k0 := h0
  have lt0 : ∀ x ∈ p0, x.block < W.heap.size := by obtain ⟨m, hm⟩ := k0; exact DataW.trod_lt m _ _ _ hm
  obtain ⟨b0, n1, n2, n3, n4, n5, n6, b7, hraw⟩ := open_raw (hval 0 27 v0 rfl rfl) h0
  obtain ⟨rfl, x1, x2, x3, x4, x5, x6⟩ := hraw
  have k1 := h1
  have lt1 : ∀ x ∈ p1, x.block < W.heap.size := by obtain ⟨m, hm⟩ := k1; exact DataW.trod_lt m _ _ _ hm
  obtain ⟨c0, c1, c2, rfl, u0, u1, u2⟩ := open_arr3 (hval 1 51 v1 rfl rfl) h1
  have k2 := h2
  have lt2 : ∀ x ∈ p2, x.block < W.heap.size := by obtain ⟨m, hm⟩ := k2; exact DataW.trod_lt m _ _ _ hm
  obtain ⟨a2, len2, cap2, rfl⟩ := okWide_slice Tryd.underlying52 (hval 2 52 v2 rfl rfl)
  obtain ⟨z2, w2⟩ : ∃ zs, IsRow .u16 W a2 len2 cap2 zs := by
    obtain ⟨fuel, hf⟩ := h2
    rcases open_ints Tryd.underlying52 Tryd.underlying25 (by kernel_rfl) hf with ⟨hcs, _⟩ | ⟨x, l, c, zs, hcs, _, hl, hm, hz, _, hcell, hwz⟩
    · simp [Value.cells] at hcs
      obtain ⟨rfl, rfl, rfl⟩ := hcs
      exact ⟨[], .inl ⟨rfl, rfl, rfl, rfl⟩⟩
    · simp [Value.cells] at hcs
      obtain ⟨rfl, rfl, rfl⟩ := hcs
      exact ⟨zs, .inr ⟨_, rfl, hl, hm, by simpa using hz, hcell, hwz⟩⟩
  have y2 : len2 * 2 ≤ 140737488351232 := PrintWords.sized_ints hsz (j := 2) (t := 52) rfl rfl Tryd.underlying52 Tryd.underlying25 (by kernel_rfl) (by kernel_rfl) h2
  clear hA0 hval0 hsz0 hsz
  refine (walk b0 b7 n1 n2 n3 n4 n5 n6 c0 c1 c2 a2 len2 cap2 z2 W x1 x2 x3 x4 x5 x6 u0 u1 u2 w2 y2 (tab hL)).mono fun e W' ⟨he, bel⟩ => ?_
  subst he
  exact ⟨_, rfl, _, _, _, [], _, [], hW', trodAll_mk1 (shut_bool Tryd.underlying4 _), (trodAll_cons_mk (Below.trod laidOut (by kernel_rfl) (of_decide_eq_true (by kernel_rfl)) k0 bel lt0) (trodAll_cons_mk (Below.trod laidOut (by kernel_rfl) (of_decide_eq_true (by kernel_rfl)) k1 bel lt1) (trodAll_cons_mk (Below.trod laidOut (by kernel_rfl) (of_decide_eq_true (by kernel_rfl)) k2 bel lt2) trodAll_mk0))), rfl, bel.frame _, fun h => by cases h⟩

theorem laid_met (os : Os) : laidMet Tryd.prog Rows.coalesceBoundsRow.laid ((laidWorld os).forCall (fun _ _ => 0) ⟨#[], #[.agg #[.bool false, .int .i16 0, .int .i16 0, .int .i16 0, .int .i32 0, .int .u16 0, .int .u16 0, .bool false], .agg #[.int .i64 0, .int .i64 0, .int .i64 0], .slice none 0 0], []⟩).memory :=
  laidMet_of_run' 8 (by kernel_rfl) (by kernel_rfl)
theorem reads (os : Os) {H : Type} (enc : TypeId × Value → H) : ∃ places, DataW.whole enc Tryd.prog ((laidWorld os).forCall (fun _ _ => 0) ⟨#[], #[.agg #[.bool false, .int .i16 0, .int .i16 0, .int .i16 0, .int .i32 0, .int .u16 0, .int .u16 0, .bool false], .agg #[.int .i64 0, .int .i64 0, .int .i64 0], .slice none 0 0], []⟩).memory Tryd.f6.params.toList Rows.coalesceBoundsSpec.vars false (#[.agg #[.bool false, .int .i16 0, .int .i16 0, .int .i16 0, .int .i32 0, .int .u16 0, .int .u16 0, .bool false], .agg #[.int .i64 0, .int .i64 0, .int .i64 0], .slice none 0 0] : Array Value).toList 8 = some ([.agg [.lit (.bool false), .lit (.int .i16 0), .lit (.int .i16 0), .lit (.int .i16 0), .lit (.int .i32 0), .lit (.int .u16 0), .lit (.int .u16 0), .lit (.bool false)], .agg [.lit (.int .i64 0), .lit (.int .i64 0), .lit (.int .i64 0)], .nil], [], places) :=
  ⟨[], by kernel_rfl⟩

set_option maxRecDepth 100000 in
theorem lifted (os : Os) (started : os.Started) (H : Type) (enc : TypeId × Value → H) (F : Stop.Interp) :
    ReturnsInHanded {} Tryd.checked os 6 .any ((OpenSpec.ofChange Rows.coalesceBoundsSpec).preRow enc Tryd.prog Tryd.f6 Rows.coalesceBoundsRow.domain false Rows.coalesceBoundsRow.laid) (((OpenSpec.ofChange Rows.coalesceBoundsSpec).at F).post enc Tryd.prog Tryd.f6 false true false false) := by
  obtain ⟨places, hx⟩ := reads os enc
  refine returnsInHanded_of_row (C := Tryd.checked) (s := OpenSpec.ofChange Rows.coalesceBoundsSpec) own started (by kernel_rfl) Tryd.func6
    (witness_row_at (enc := enc) (C := Tryd.checked) false (laidWorld os) #[.agg #[.bool false, .int .i16 0, .int .i16 0, .int .i16 0, .int .i32 0, .int .u16 0, .int .u16 0, .bool false], .agg #[.int .i64 0, .int .i64 0, .int .i64 0], .slice none 0 0] rfl (by kernel_rfl) (by kernel_rfl) (by kernel_rfl)
      (OpenSpec.preRow_of_cond 8 hx (by kernel_rfl) (fun k hk => by cases hk) (by kernel_rfl) (laid_met os))) ?_
  intro W base args ds gs before hval hW _ _ hsz hL _ _
  exact contract H enc W base args ds gs before hval hW hsz hL

theorem said : Rows.CoalesceBoundsSaid :=
  OpenClaim.holds_of_cond 6 Tryd.f6 rfl rfl rfl rfl rfl rfl rfl ⟨rfl, rfl, rfl, rfl, rfl⟩ rfl rfl rfl rfl rfl (by kernel_rfl) Tryd.func6 (by kernel_rfl)
    (of_decide_eq_true (by kernel_rfl)) (by unfold Func.isWrapper; first | (rw [if_pos (by decide +kernel)]; kernel_rfl) | (rw [if_neg (by decide +kernel)]; exact ⟨rfl, rfl⟩))
    (fun os started H enc _ F => by rw [OpenClaim.pre_eq_preRow]; exact lifted os started H enc F)

/-- No parameter wants a stand-in; the program's own looks are off. -/
theorem plain (f : FuncId) (fn : Func) (hf : Tryd.pinned.checked.prog.funcNamed "warpwright/warpwrightlaw22.CoalesceBounds" = some f) (hfn : Tryd.pinned.checked.prog.funcs[f]? = some fn) :
    false = Tryd.pinned.checked.prog.looks [] ∧ ∀ (j : Nat) t, fn.params[j]? = some t → Tryd.pinned.checked.prog.wantsStandIn t = false := by
  obtain rfl : f = 6 := Option.some.inj ((show Tryd.prog.funcNamed "warpwright/warpwrightlaw22.CoalesceBounds" = some 6 by kernel_rfl).symm.trans hf) |>.symm
  obtain rfl : fn = Tryd.f6 := (Option.some.inj (Tryd.func6.symm.trans hfn)).symm
  refine ⟨by kernel_rfl, fun j t ht => ?_⟩
  rw [Tryd.params6] at ht
  have hm := Array.mem_of_getElem? ht
  have hall : ∀ u ∈ (#[27, 51, 52] : Array TypeId), Tryd.prog.wantsStandIn u = false := by
    intro u hu
    simp only [List.mem_toArray, List.mem_cons, List.not_mem_nil, or_false] at hu
    rcases hu with rfl | rfl | rfl <;> kernel_rfl
  exact hall t hm

end Go.Proofs.YtnjeliicnbfclaaDoor.coalesceBounds
namespace Go.Proofs.YtnjeliicnbfclaaDoor
open Go.Proofs.YtnjeliicnbfclaaDoor.coalesceBounds in
/-- The card. -/
theorem coalesceBounds_card : Rows.CoalesceBoundsCardSaid :=
  Claim7.holds_tied_plain_at .later [] _ _ _ _ coalesceBounds.said (fun _ h => by cases h) (by kernel_rfl) (fun _ h => by cases h) coalesceBounds_row_tie rfl ⟨rfl, rfl⟩ (by kernel_rfl) rfl coalesceBounds.plain (by kernel_rfl)
end Go.Proofs.YtnjeliicnbfclaaDoor
