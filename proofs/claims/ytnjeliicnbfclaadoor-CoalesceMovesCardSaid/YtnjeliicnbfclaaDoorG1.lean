/- coalesce.Segments: its answer as a plain list, and its contract. -/
import Derived.Test.YtnjeliicnbfclaaDoorPx0
import Derived.Test.YtnjeliicnbfclaaDoorGP
import Derived.Lib.Hide
import Derived.Test.YtnjeliicnbfclaaDoorShelfP
import Derived.RangeFuncNested
import Derived.RangeFuncBound
import Derived.RangeFuncCalls
import Derived.RangeFuncLeaves
import Derived.Shelf.Abstract
import Derived.Shelf.RegionOpen
import Derived.WalkKit
import Derived.OwnWalkIn
import Derived.TacticsInMore
import Derived.LoopNIn
import Derived.LoopIn
import Derived.Maps.OwnIn
import Derived.Maps.OwnSet
namespace Go.Proofs.YtnjeliicnbfclaaDoor.P
open Go.RowKit Go.Maps Go.Sort Go.Shelf Go.Proofs.YtnjeliicnbfclaaDoorW.PrintWords Go.Proofs.YtnjeliicnbfclaaDoorW.PrintLast Go.Proofs.YtnjeliicnbfclaaDoorW.PrintMore
set_option linter.unusedVariables false
set_option linter.unusedSimpArgs false

/-- A slice of whole numbers that is read: its cells. -/
theorem C_int_at {q : IntKind} {w : World} {A : Option Addr} {n : Nat} {xs : List Int} (h : Kd.C (Kd.int q) w A n xs) (hp : 0 < n) : ∃ ad, A = some ad ∧ ∀ j, j < n → w.cell? (ad.add j) = some (.int q (xs.getD j 0)) := by
  obtain ⟨hl, _, h2⟩ := h
  obtain ⟨ad, e, hc⟩ := h2 hp
  refine ⟨ad, e, fun j hj => ?_⟩
  obtain ⟨c, _, hK, hcell⟩ := hc j _ (List.getElem?_eq_getElem (show j < xs.length by omega))
  have hK' : c = [.int q xs[j]] := hK
  have := hcell 0 (.int q xs[j]) (by rw [hK']; rfl)
  rw [List.getD_eq_getElem?_getD, List.getElem?_eq_getElem (show j < xs.length by omega)]
  simpa [Kd.int, Kd.scalar] using this

theorem setS_succ {H : Type} (l : List Int) (k : Nat) (hk : k < l.length) : setS (H := H) (l.take (k + 1)) = (setS (l.take k)).put (.int .i64 (l.getD k 0 / 16)) (.agg []) := by
  rw [List.take_add_one, List.getElem?_eq_getElem hk, Option.toList_some, setS_snoc, List.getD_eq_getElem?_getD, List.getElem?_eq_getElem hk]
  rfl

def coalesce_Segments.f (l0 : List Int) : Option (List Int) := if l0.length ≤ 17592186044416 ∧ l0.all (fun x => (Lit.int .i64 x).wf) = true then some (segs l0) else none

theorem law3 : Keyed Tryd.prog 3 := int_keyed Tryd.underlying3

theorem wf_bounds {x : Int} (h : (Lit.int .i64 x).wf = true) : -9223372036854775808 ≤ x ∧ x ≤ 9223372036854775807 := by
  simp only [Lit.wf, decide_eq_true_eq, Bool.and_eq_true] at h
  have e1 : IntKind.i64.min = -9223372036854775808 := by rfl
  have e2 : IntKind.i64.max = 9223372036854775807 := by rfl
  omega
theorem wf_of {x : Int} (h1 : -9223372036854775808 ≤ x) (h2 : x ≤ 9223372036854775807) : (Lit.int .i64 x).wf = true := by
  simp only [Lit.wf, decide_eq_true_eq, Bool.and_eq_true]
  have e1 : IntKind.i64.min = -9223372036854775808 := by rfl
  have e2 : IntKind.i64.max = 9223372036854775807 := by rfl
  omega

/-- slices.Sort's two contracts here. -/
theorem sortsA (m : Nat) : AnyZI.SortsIn Tryd.prog Tryd.sortedA_ren Fence.wide m :=
  ⟨fun blk off cap ss W hH hblk hsz => callsIn_wide.2 (AnyM.slices_Sort_int Tryd.sortA blk off cap ss W hH hblk hsz),
   fun p cap W => callsIn_wide.2 (AnyM.slices_Sort_int_none Tryd.sortA p cap W)⟩

set_option maxRecDepth 100000 in
set_option maxHeartbeats 1000000 in
theorem coalesce_Segments.calls (A0 : Option Addr) (c0 : Nat) (l0 : List Int) (r : List Int) (w : World) (hr0 : Kd.C (Kd.int .i64) w A0 l0.length l0) (hc0 : l0.length ≤ c0) (h : coalesce_Segments.f l0 = some r) :
    Calls Tryd.prog 14 #[.slice A0 l0.length c0] w fun e w' => ∃ v0_ : Value, e = .returned (v0_) ∧ Kd.R (Kd.int .i64) 3 w' w.heap.size (fun _ => True) v0_ r ∧ Below w.heap.size w w' := by
  unfold coalesce_Segments.f at h
  split at h
  · rename_i hb
    obtain ⟨hlen, hwf⟩ := hb
    obtain rfl := Option.some.inj h
    clear h
    have HR := Aside0.mk (C_int_at hr0)
    have HW := Aside0.mk hwf
    clear hr0 hwf
    refine (callsIn_wide (n := 6)).1 ?_
    have hfK : Fence.wide.fn 29 := trivial
    have hfS : Fence.wide.fn 28 := trivial
    have hmm := @run_makeMap Tryd.prog
    refine callsIn_of_wp Tryd.func14 rfl trivial ?_ rfl
    simp only [Tryd.ntmps14, List.size_toArray, List.length_cons, List.length_nil, Nat.reduceAdd, Nat.reduceSub, Array.replicate_succ, Array.replicate_zero, List.push_toArray, List.append_toArray, List.nil_append, List.cons_append]
    gi_wp2
    gi_loopw [9] (fun i wr => ∃ k : Nat, k ≤ l0.length ∧ i = .int .i64 k ∧ wr.ownsMap Tryd.prog 3 unitElem w.heap.size k (setS (H := Unit) (l0.take k)) ∧ Below w.heap.size w wr)
      (fun i _ => l0.length - (Go.RowKit.intOf i).toNat)
    case atStart => exact ⟨0, Nat.zero_le _, rfl, by rw [List.take_zero, setS_nil]; exact World.ownsMap_made _ _ _ _, (Below.refl _ _).alloc (Nat.le_refl _) _⟩
    case round =>
      obtain ⟨k, hk, rfl, hown, hB⟩ := hrel
      by_cases hlt : k < l0.length
      · obtain ⟨ad, rfl, hc⟩ := HR.out (by omega)
        have hcx : wr.cell? (ad.add k) = some (.int .i64 (l0.getD k 0)) := pw_cell_below hB (hc k hlt)
        have hw1 : (Lit.int .i64 (l0.getD k 0)).wf = true := List.all_eq_true.1 HW.out _ (by rw [List.getD_eq_getElem?_getD, List.getElem?_eq_getElem hlt]; exact List.getElem_mem hlt)
        obtain ⟨wb1, wb2⟩ := wf_bounds hw1
        have hkey : keyOf Tryd.prog 3 (.int .i64 (l0.getD k 0 / 16)) = some (.int .i64 (l0.getD k 0 / 16)) := keyOf_int_mk Tryd.underlying3 (wf_of (by omega) (by omega))
        generalize hx : l0.getD k 0 = x at *
        have Hx := Lib.hid hx
        clear hx hw1 hc
        gi_wp2_with (first
          | (gi_at_mapUpdate; refine wpListIn_mapUpdate_own _ rfl _ _ _ 67 rfl 3 68 law3 Tryd.underlying67 (unitElem (H := Unit)) w.heap.size k _ rfl hown (by unfold maxLen; omega) _ _ _ rfl rfl hkey _ [] unitElem_mk ?_; intro w1 hown1 hgrow1))
        go_roundw
        case rel => exact ⟨k + 1, by omega, by go_num, by rw [setS_succ l0 k hlt, Hx.out]; exact hown1, hB.grown hgrow1 hB.size (fun j hj => by cases hj; exact Nat.le_refl _)⟩
        case measure => simp [Go.RowKit.intOf]; omega
      · obtain rfl : k = l0.length := by omega
        rw [List.take_length] at hown
        have hsz := size_setS (H := Unit) l0
        have hbl := hown.lt
        have hseq : SeqGives Fence.wide 2 Tryd.prog 35 #[.pointer (some ⟨wr.heap.size, 0, none⟩)] encZ (fun ss => ss.Perm (intKeys (setS (H := Unit) l0))) (Maps.size (setS (H := Unit) l0)) (wr.alloc (.cells #[.map (some w.heap.size)] 67)) :=
          AnyZI.keys_gives (ρ := Tryd.keysA_ren) { Tryd.keysA with } Fence.wide _ trivial rfl (by omega) wr.heap.size w.heap.size l0.length (setS (H := Unit) l0) _ (by simp) (by simp) (by
            obtain ⟨es, clock, hb, Ft, hs, hD⟩ := hown
            exact ⟨es, clock, (Below.heap_alloc _ _ w.heap.size hbl).trans hb, Ft, hs, hD⟩)
        have cK : ∀ mb W, CallsIn Fence.wide 5 Tryd.prog 29 #[.map mb] W fun e w' => e = .returned (.func (.func 35) #[] #[.pointer (some ⟨W.heap.size, 0, none⟩)]) ∧ w' = W.alloc (.cells #[.map mb] 67) := fun mb W => AnyZI.keys_in Tryd.keysA Fence.wide 5 trivial rfl mb W
        have cS := AnyZI.sorted_in Tryd.sortedA Fence.wide 5 trivial trivial trivial trivial rfl (by omega) (sortsA _) (enters_of Tryd.func34 (by kernel_rfl) rfl) 35 #[.pointer (some ⟨wr.heap.size, 0, none⟩)] trivial (enters_of Tryd.func35 (by kernel_rfl) rfl) _ _ (by unfold maxLen; omega) (by omega) _ hseq
        change CallsIn _ _ Tryd.prog 28 _ _ _ at cS
        gi_wp2_with (first
          | (gi_at_call 29; refine (cK _ _).mono ?_; rintro e w' ⟨rfl, rfl⟩)
          | (gi_at_call 28; refine cS.mono ?_; rintro e w' ⟨v, ss, rfl, hS, hrow, hnil, hb⟩))
        go_ret
        have hB2 : Below w.heap.size w (wr.alloc (.cells #[.map (some w.heap.size)] 67)) := hB.alloc hB.size _
        have hseg := perm_segs hS
        have hlen2 : ss.length = (segs l0).length := by rw [← hseg, List.length_mergeSort]
        rw [hseg, hlen2] at hrow
        refine ⟨v, rfl, Kd.R_of_own (enc := Value.int .i64) (h1 := fun _ => rfl) (own_weaken hrow (by have := hB.size; simp; omega)) (fun _ _ => trivial), hB2.trans (hb.mono ?_)⟩
        have := hB.size
        simp
        omega
  · cases h
end Go.Proofs.YtnjeliicnbfclaaDoor.P
