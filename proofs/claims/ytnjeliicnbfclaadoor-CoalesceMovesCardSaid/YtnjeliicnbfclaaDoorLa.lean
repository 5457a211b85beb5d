/- Plain laws of the reference's small functions of layer 22: what their printed forms answer. -/
import Derived.Test.YtnjeliicnbfclaaDoorPx1
namespace Go.Proofs.YtnjeliicnbfclaaDoor.P
open Go.RowKit Go.Proofs.YtnjeliicnbfclaaDoorW.PrintWords Go.Proofs.YtnjeliicnbfclaaDoorW.PrintLast Go.Proofs.YtnjeliicnbfclaaDoorW.PrintMore
set_option linter.unusedVariables false
set_option linter.unusedSimpArgs false

/-- For all great k, g answers r. -/
def Ev {α : Type} (g : Nat → Option α) (r : α) : Prop := ∃ K, ∀ k, K ≤ k → g k = some r
theorem Ev.of {α : Type} {x : Option α} {r : α} (h : x = some r) : Ev (fun _ => x) r := ⟨0, fun _ _ => h⟩
theorem Ev.all {α : Type} {F : Nat → Option α} {r : α} (h : ∀ k, F k = some r) : Ev F r := ⟨0, fun k _ => h k⟩
theorem Ev.done {α : Type} {F : Nat → Option α} {r : α} (n : Nat) (h : ∀ k, F (k + n) = some r) : Ev F r := by
  refine ⟨n, fun k hk => ?_⟩
  obtain ⟨j, rfl⟩ : ∃ j, k = j + n := ⟨k - n, by omega⟩
  exact h j
theorem Ev.next {α : Type} {F H : Nat → Option α} {r : α} (n : Nat) (h : Ev H r) (e : ∀ k, F (k + n) = H k) : Ev F r := by
  obtain ⟨K, h⟩ := h
  refine ⟨K + n, fun k hk => ?_⟩
  obtain ⟨j, rfl⟩ : ∃ j, k = j + n := ⟨k - n, by omega⟩
  rw [e]
  exact h j (by omega)
/-- A call answers a; with this the rest is H. -/
theorem Ev.step {α β : Type} {g : Nat → Option α} {a : α} {F H : Nat → Option β} {r : β} (hg : Ev g a) (hh : Ev H r) (e : ∀ k, g k = some a → F k = H k) : Ev F r := by
  obtain ⟨K, hg⟩ := hg
  obtain ⟨K', hh⟩ := hh
  refine ⟨K + K', fun k hk => ?_⟩
  rw [e k (hg k (by omega))]
  exact hh k (by omega)
theorem Ev.some {α : Type} {g : Nat → Option α} {r : α} (h : Ev g r) : ∃ k, g k = Option.some r := by
  obtain ⟨K, h⟩ := h
  exact ⟨K, h K (Nat.le_refl _)⟩
theorem Ev.congr {α : Type} {g g' : Nat → Option α} {r : α} (h : Ev g r) (e : ∀ k, g' k = g k) : Ev g' r := by
  obtain ⟨K, h⟩ := h
  exact ⟨K, fun k hk => (e k).trans (h k hk)⟩

theorem w64 {n : Int} (h1 : -9223372036854775808 ≤ n) (h2 : n ≤ 9223372036854775807) : wrap64 n = n := by unfold wrap64; omega
theorem rd_nat (l : List Int) (i : Nat) : rd l (i : Int) = l.getD i 0 := by simp [rd]

/-! ### SameInts -/
theorem sameInts_l0 (l : List Int) (hl : l.length < 9223372036854775807) : ∀ (d i : Nat), i + d = l.length → Ev (fun k => v22_SameInts.l0 k l l (i : Int)) true
  | 0, i, h => Ev.done 1 fun k => by
    simp only [v22_SameInts.l0]
    rw [if_neg (by omega)]
  | d + 1, i, h => Ev.next 1 (sameInts_l0 l hl d (i + 1) (by omega)) fun k => by
    simp only [v22_SameInts.l0]
    rw [if_pos (by omega), if_pos (by omega), if_pos (by omega), if_pos trivial, w64 (by omega) (by omega)]
    rfl
theorem sameInts (l : List Int) (hl : l.length < 9223372036854775807) : Ev (fun k => v22_SameInts.f k l l) true := by
  refine (sameInts_l0 l hl l.length 0 (by omega)).congr fun k => ?_
  unfold v22_SameInts.f
  rw [if_pos rfl]
  rfl

theorem take_next {α : Type} (l : List α) (z : α) (i : Nat) (h : i < l.length) : l.take (i + 1) = l.take i ++ [l.getD i z] := by
  rw [List.take_add_one]
  simp [List.getD, List.getElem?_eq_getElem h]
/-! ### Lanes -/
def lanesOf (s : Nat) : List Int := (onesAt 64 0 s).map fun (i : Nat) => (i : Int)
theorem onesAt_mod (g : Nat) : ∀ (f b x : Nat), onesAt (f + g) b (x % 2 ^ f) = onesAt f b x
  | 0, b, x => by
    rw [Nat.pow_zero, Nat.mod_one, Nat.zero_add, onesAt_zero]
    rfl
  | f + 1, b, x => by
    have h1 : x % 2 ^ (f + 1) % 2 = x % 2 := by
      rw [Nat.pow_succ, Nat.mul_comm, Nat.mod_mul_right_mod]
    have h2 : x % 2 ^ (f + 1) / 2 = x / 2 % 2 ^ f := by
      rw [Nat.pow_succ, Nat.mul_comm, Nat.mod_mul]
      omega
    rw [show f + 1 + g = (f + g) + 1 by omega, onesAt, onesAt, h1, h2, onesAt_mod g f (b + 1) (x / 2)]

theorem lanes_l0 (lanes act : Int) (L x : Nat) (hL : min (max lanes 0) 64 = (L : Int)) (hact : act = (x : Int)) (hx : x < 18446744073709551616) :
    ∀ (d i : Nat) (acc : List Int), i + d = L → acc.length ≤ i → Ev (fun k => v22_Lanes.l0 k lanes act acc (i : Int)) (acc ++ (onesAt d i (x / 2 ^ i)).map fun (i : Nat) => (i : Int))
  | 0, i, acc, h, hacc => by
    refine Ev.done 2 fun k => ?_
    simp only [v22_Lanes.l0, v22_Lanes.j1]
    by_cases h1 : (i : Int) < lanes
    · rw [if_pos h1, if_neg (by simp; omega)]
      simp [onesAt]
    · rw [if_neg h1, if_neg (by simp)]
      simp [onesAt]
  | d + 1, i, acc, h, hacc => by
    have e0 : IntKind.u64.wrap (i : Int) = (i : Int) := u64_w i (by omega)
    have e1 : Go.bits .and .u64 (shr .u64 act (i : Int)) 1 = ((x / 2 ^ i % 2 : Nat) : Int) := by
      have hs : shr .u64 act (i : Int) = ((x / 2 ^ i : Nat) : Int) := by
        have hb : IntKind.u64.bits = 64 := rfl
        have hm : min ((i : Int)).toNat IntKind.u64.bits = i := by rw [hb]; omega
        rw [shr, hm, hact]
        exact_mod_cast rfl
      have hq := bits_and_u64_nat (x / 2 ^ i) 1 (Nat.lt_of_le_of_lt (Nat.div_le_self _ _) hx) (by decide)
      rw [Nat.and_one_is_mod] at hq
      rw [hs]
      exact hq
    have e2 : x / 2 ^ (i + 1) = x / 2 ^ i / 2 := by rw [Nat.pow_succ, Nat.div_div_eq_div_mul]
    by_cases hb : x / 2 ^ i % 2 = 1
    · have ih := lanes_l0 lanes act L x hL hact hx d (i + 1) (acc ++ [(i : Int)]) (by omega) (by simp; omega)
      rw [onesAt, if_pos hb, List.map_cons, ← e2, ← List.singleton_append, ← List.append_assoc]
      refine Ev.next 2 ih fun k => ?_
      simp only [v22_Lanes.l0, v22_Lanes.j1]
      rw [if_pos (by omega), if_pos (by simp; omega), e0, e1, if_pos (by omega), if_pos (by omega), if_pos (by omega), w64 (by omega) (by omega)]
      rfl
    · have ih := lanes_l0 lanes act L x hL hact hx d (i + 1) acc (by omega) (by omega)
      rw [onesAt, if_neg hb, ← e2]
      refine Ev.next 2 ih fun k => ?_
      simp only [v22_Lanes.l0, v22_Lanes.j1]
      rw [if_pos (by omega), if_pos (by simp; omega), e0, e1, if_pos (by omega), if_neg (by omega), w64 (by omega) (by omega)]
      rfl
theorem refLanes (lanes act : Int) (h1 : 0 ≤ act) (h2 : act < 18446744073709551616) : Ev (fun k => v22_Lanes.f k lanes act) (lanesOf (setOfLanes lanes act)) := by
  obtain ⟨x, rfl⟩ := Int.eq_ofNat_of_zero_le h1
  have hL : min (max lanes 0) 64 = (((min (max lanes 0) 64).toNat : Nat) : Int) := by omega
  have h := lanes_l0 lanes (x : Int) _ x hL rfl (by omega) (min (max lanes 0) 64).toNat 0 [] (by omega) (by simp)
  have e : lanesOf (setOfLanes lanes (x : Int)) = [] ++ (onesAt (min (max lanes 0) 64).toNat 0 (x / 2 ^ 0)).map fun (i : Nat) => (i : Int) := by
    unfold lanesOf setOfLanes
    rw [Int.toNat_natCast, Nat.pow_zero, Nat.div_one, List.nil_append]
    generalize hm : (min (max lanes 0) 64).toNat = m
    have := onesAt_mod (64 - m) m 0 x
    rw [show m + (64 - m) = 64 by omega] at this
    rw [this]
  rw [e]
  exact h.congr fun k => rfl
end Go.Proofs.YtnjeliicnbfclaaDoor.P
