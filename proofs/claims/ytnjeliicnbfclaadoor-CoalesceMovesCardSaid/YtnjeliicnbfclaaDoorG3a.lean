/- The bits' functions, and the iterator over the ones of a number. -/
import Derived.Test.YtnjeliicnbfclaaDoorPx0
import Derived.Test.YtnjeliicnbfclaaDoorGB
import Derived.Test.YtnjeliicnbfclaaDoorShelfP
import Derived.Lib.Hide
import Derived.RangeFuncNested
import Derived.RangeFuncBound
import Derived.RangeFuncCalls
import Derived.RangeFuncLeaves
import Derived.RangeFuncRecord
import Derived.Shelf.Abstract
import Derived.Shelf.RegionOpen
import Derived.WalkKit
import Derived.OwnWalkIn
import Derived.TacticsInMore
import Derived.LoopNIn
import Derived.LoopIn
import Derived.OneCell
import Derived.Laws.Bits64b
import Derived.Laws.Bits128
namespace Go.Proofs.YtnjeliicnbfclaaDoor.P
open Go.RowKit Go.Shelf Go.Proofs.YtnjeliicnbfclaaDoorW.PrintWords
set_option linter.unusedVariables false
set_option linter.unusedSimpArgs false

def oc1 (a : Int) : Int := IntKind.u64.wrap (Go.bits .and .u64 (a / 2) 6148914691236517205 + Go.bits .and .u64 a 6148914691236517205)
def oc2 (a : Int) : Int := IntKind.u64.wrap (Go.bits .and .u64 (a / 4) 3689348814741910323 + Go.bits .and .u64 a 3689348814741910323)
def oc3 (a : Int) : Int := Go.bits .and .u64 (IntKind.u64.wrap (a / 16 + a)) 1085102592571150095
def oc4 (a : Int) : Int := IntKind.u64.wrap (a + a / 256)
def oc5 (a : Int) : Int := IntKind.u64.wrap (a + a / 65536)
def oc6 (a : Int) : Int := Go.bits .and .i64 (wrap64 (IntKind.u64.wrap (a + a / 4294967296))) 127

theorem u64_w (x : Nat) (h : x < 18446744073709551616) : IntKind.u64.wrap (x : Int) = x := by
  have : IntKind.u64.wrap (x : Int) = (x : Int) % 18446744073709551616 := rfl
  omega

theorem and_add (a b m s : Nat) (q : Int) (hq : q = (m : Int)) (ha : a < 18446744073709551616) (hb : b < 18446744073709551616) (hm : m < 18446744073709551616) (hs : (a &&& m) + (b &&& m) = s) (hlt : s < 18446744073709551616) :
    IntKind.u64.wrap (Go.bits .and .u64 (a : Int) q + Go.bits .and .u64 (b : Int) q) = (s : Int) := by
  rw [hq, bits_and_u64_nat _ _ ha hm, bits_and_u64_nat _ _ hb hm, ← Int.natCast_add, hs, u64_w _ hlt]
theorem add_w (a b s : Nat) (hs : a + b = s) (hlt : s < 18446744073709551616) : IntKind.u64.wrap ((a : Int) + (b : Int)) = (s : Int) := by
  rw [← Int.natCast_add, hs, u64_w _ hlt]
theorem div_cast (a k : Nat) (q : Int) (hq : q = (k : Int)) : ((a : Int) / q) = ((a / k : Nat) : Int) := by rw [hq]; rfl

theorem oc1_eq (x y : Nat) (hx : x < 18446744073709551616) (hy : (x / 2 &&& 6148914691236517205) + (x &&& 6148914691236517205) = y) (h1 : y < 18446744073709551616) : oc1 (x : Int) = (y : Int) := by
  unfold oc1
  rw [div_cast x 2 2 rfl]
  exact and_add (x / 2) x 6148914691236517205 y _ rfl (Nat.lt_of_le_of_lt (Nat.div_le_self _ _) hx) hx (by decide) hy h1
theorem oc2_eq (y z : Nat) (h1 : y < 18446744073709551616) (hz : (y / 4 &&& 3689348814741910323) + (y &&& 3689348814741910323) = z) (h2 : z < 18446744073709551616) : oc2 (y : Int) = (z : Int) := by
  unfold oc2
  rw [div_cast y 4 4 rfl]
  exact and_add (y / 4) y 3689348814741910323 z _ rfl (Nat.lt_of_le_of_lt (Nat.div_le_self _ _) h1) h1 (by decide) hz h2
theorem oc3_eq (z u : Nat) (h3 : z / 16 + z < 18446744073709551616) (hu : ((z / 16 + z) &&& 1085102592571150095) = u) : oc3 (z : Int) = (u : Int) := by
  unfold oc3
  rw [div_cast z 16 16 rfl, add_w (z / 16) z _ rfl h3]
  have := bits_and_u64_nat (z / 16 + z) 1085102592571150095 h3 (by decide)
  rw [hu] at this
  exact this
theorem oc4_eq (u v : Nat) (hv : u + u / 256 = v) (h5 : v < 18446744073709551616) : oc4 (u : Int) = (v : Int) := by
  unfold oc4
  rw [div_cast u 256 256 rfl]
  exact add_w u (u / 256) v hv h5
theorem oc5_eq (v t : Nat) (ht : v + v / 65536 = t) (h6 : t < 18446744073709551616) : oc5 (v : Int) = (t : Int) := by
  unfold oc5
  rw [div_cast v 65536 65536 rfl]
  exact add_w v (v / 65536) t ht h6
theorem wrap64_nat (q : Nat) (h : q < 9223372036854775808) : wrap64 (q : Int) = q := by unfold wrap64; omega
theorem oc6_eq (t q n : Nat) (hq : t + t / 4294967296 = q) (h7 : q < 9223372036854775808) (hn : q % 128 = n) : oc6 (t : Int) = (n : Int) := by
  unfold oc6
  rw [div_cast t 4294967296 4294967296 rfl, add_w t (t / 4294967296) q hq (Nat.lt_trans h7 (by decide)), i64_and127, wrap64_nat q h7, ← hn]
  rfl
theorem oc_eq (x : Nat) (hx : x < 18446744073709551616) : oc6 (oc5 (oc4 (oc3 (oc2 (oc1 (x : Int)))))) = ((onesAt 64 0 x).length : Int) := by
  obtain ⟨y, z, u, v, t, hy, h1, hz, h2, h3, hu, hv, h5, ht, h6, h7, h8⟩ := swar_ex x hx
  rw [oc1_eq x y hx hy h1, oc2_eq y z h1 hz h2, oc3_eq z u h3 hu, oc4_eq u v hv h5, oc5_eq v t ht h6]
  exact oc6_eq t _ _ rfl h7 h8

set_option maxRecDepth 100000 in
theorem ones_count (x : Nat) (hx : x < 18446744073709551616) (w : World) : Calls Tryd.prog 22 #[.int .u64 x] w fun e w' => e = .returned (.int .i64 (onesAt 64 0 x).length) ∧ w = w' := by
  have E := oc_eq x hx
  rw [← E]
  clear E
  generalize hy : (x : Int) = y
  clear hy
  go_enter Tryd.func22, Tryd.ntmps22
  go_wp2
  go_ret
  exact ⟨rfl, rfl⟩

theorem tz64 (x : Nat) (hx : x < 18446744073709551616) (w : World) (hT : TabAt 0 Lib.deBruijn64tab w) : Calls Tryd.prog 24 #[.int .u64 x] w fun e w' => e = .returned (.int .i64 (Lib.ctz 64 x)) ∧ w = w' :=
  (Any7.bits_TrailingZeros64 Tryd.lays7n29 x hx w (fun _ => hT)).mono fun e w' ⟨h1, h2⟩ => ⟨h1, h2.symm⟩
theorem lz64 (x : Nat) (hx : x < 18446744073709551616) (w : World) : Calls Tryd.prog 25 #[.int .u64 x] w fun e w' => e = .returned (.int .i64 (64 - (Lib.bitLen x : Int))) ∧ w = w' :=
  (Any.bits_LeadingZeros64 Tryd.lays134 (x : Int) w (by omega) (by omega)).mono fun e w' ⟨h1, h2⟩ => ⟨h1, h2.symm⟩

theorem ones_calls (x : Int) (w : World) : Calls Tryd.prog 23 #[.int .u64 x] w fun e w' => e = .returned (.func (.func 31) #[] #[.pointer (some ⟨w.heap.size, 0, none⟩)]) ∧ w' = w.alloc (.cells #[.int .u64 x] 38) := by
  go_enter Tryd.func23, Tryd.ntmps23
  go_wp2
  go_ret
  exact ⟨rfl, rfl⟩

attribute [local go_sem] Oper.semAt_some

/-- What the iterator's cell still holds, for a loop's measure. -/
def heldN (B : Nat) (w : World) : Nat := match w.cell? ⟨B, 0, none⟩ with
  | some (.int _ x) => x.toNat
  | _ => 0

set_option maxRecDepth 100000 in
set_option maxHeartbeats 1000000 in
/-- The iterator: every place of a one, in order. -/
theorem ones1_in (n l B : Nat) (hn : 1 ≤ n) (x0 : Nat) (hx0 : x0 < 18446744073709551616) (J : List Nat → Nat → World → Prop)
    (hcell : ∀ pre x W, J pre x W → W.heap[B]? = some (.cells #[.int .u64 (x : Int)] 38 (0, 0)))
    (hT : ∀ pre x W, J pre x W → TabAt 0 Lib.deBruijn64tab W)
    (hset : ∀ pre x W (x' : Nat), J pre x W → J pre x' (W.setCell ⟨B, 0, none⟩ (.int .u64 (x' : Int))))
    (hY : ∀ (pre : List Nat) (x : Nat) W, J pre x W → pre ++ onesAt 64 0 x = onesAt 64 0 x0 → x ≠ 0 → Lib.ctz 64 x < 64 →
      YieldAt Fence.wide (n - 1) Tryd.prog l #[.int .i64 (Lib.ctz 64 x)] W fun e W' => e = .returned (.bool true) ∧ J (pre ++ [Lib.ctz 64 x]) x W')
    (W : World) (h0 : J [] x0 W) :
    CallsIn Fence.wide n Tryd.prog 31 #[.func (.yield l) #[] #[], .pointer (some ⟨B, 0, none⟩)] W fun e W' => (∃ v, e = .returned v) ∧ J (onesAt 64 0 x0) 0 W' := by
  have hf24 : Fence.wide.fn 24 := trivial
  refine callsIn_of_wp Tryd.func31 rfl trivial ?_ rfl
  simp only [Tryd.ntmps31, List.size_toArray, List.length_cons, List.length_nil, Nat.reduceAdd, Nat.reduceSub, Array.replicate_succ, Array.replicate_zero, List.push_toArray, List.append_toArray, List.nil_append, List.cons_append]
  gi_wp2
  gi_loopw [] (fun wr => ∃ (pre : List Nat) (x : Nat), J pre x wr ∧ x < 18446744073709551616 ∧ pre ++ onesAt 64 0 x = onesAt 64 0 x0)
    (fun wr => heldN B wr)
  case atStart => exact ⟨[], x0, h0, hx0, rfl⟩
  case round =>
    obtain ⟨pre, x, hJ, hx, hpre⟩ := hrel
    have hb := hcell _ _ _ hJ
    have hc := cell_of_one hb
    by_cases hz : x = 0
    · subst hz
      have ht : ((0 : Nat) : Int) = 0 := rfl
      rw [ht] at hc
      clear hb
      gi_wp2
      go_end0
      rw [onesAt_zero, List.append_nil] at hpre
      exact ⟨⟨_, rfl⟩, hpre ▸ hJ⟩
    · have htne : (((x : Nat) : Int) != 0) = true := by simp; omega
      have htz := hT _ _ _ hJ
      have hctz : Lib.ctz 64 x = Lib.ctzFrom 64 x := by simp [Lib.ctz, hz]
      have hlt64 : Lib.ctz 64 x < 64 := (Lib.lowest_bit 64 x hz (by omega)).2
      have hstep := onesAt_step 64 0 x hz (by omega)
      obtain ⟨fn, tmps, assign, body, hy, hR⟩ := hY pre x wr hJ hpre hz hlt64
      have HY := Lib.hid hy
      clear hb
      have HS := Lib.hid hstep
      have HC := Lib.hid hctz
      have HP := Lib.hid hpre
      clear hstep hctz hpre
      gi_wp2_with (gi_at_call 24; refine (callsIn_wide.2 (tz64 x hx _ htz)).mono ?_; rintro e w' ⟨rfl, rfl⟩)
      refine hR.mono ?_
      rintro e W3 ⟨rfl, hJ3⟩
      have hc3 := cell_of_one (hcell _ _ _ hJ3)
      have hf3 := free_of_one (hcell _ _ _ hJ3)
      have hval : Go.bits .and .u64 (x : Int) ((x : Int) - 1) = ((x &&& (x - 1) : Nat) : Int) := by
        rw [show ((x : Int) - 1) = ((x - 1 : Nat) : Int) by omega, bits_and_u64_nat _ _ hx (by omega)]
      have HV := Lib.hid hval
      clear hval hc
      gi_wp2
      go_roundw
      case rel =>
        refine ⟨pre ++ [Lib.ctz 64 x], x &&& (x - 1), ?_, Nat.lt_of_le_of_lt Nat.and_le_left hx, ?_⟩
        · have := hset _ _ _ (x &&& (x - 1)) hJ3
          rw [← HV.out] at this
          exact this
        · rw [← HP.out, HS.out, HC.out]
          simp
      case measure =>
        have hb1 := hcell _ _ _ (hset _ _ _ (x &&& (x - 1)) hJ3)
        have hb2 := hcell _ _ _ hJ
        have e1 : heldN B (W3.setCell ⟨B, 0, none⟩ (.int .u64 (Go.bits .and .u64 (x : Int) ((x : Int) - 1)))) = x &&& (x - 1) := by
          rw [HV.out]
          unfold heldN
          rw [cell_of_one hb1]
          rfl
        have e2 : heldN B wr = x := by
          unfold heldN
          rw [cell_of_one hb2]
          rfl
        rw [e1, e2]
        exact and_pred_lt x hz

end Go.Proofs.YtnjeliicnbfclaaDoor.P
