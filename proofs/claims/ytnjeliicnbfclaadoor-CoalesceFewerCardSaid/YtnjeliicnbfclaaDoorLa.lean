/- Plain laws of the reference's small functions of layer 22: what their printed forms answer. -/
import Derived.Test.YtnjeliicnbfclaaDoorPx3
namespace Go.Proofs.YtnjeliicnbfclaaDoor.P
open Go.RowKit Go.Proofs.YtnjeliicnbfclaaDoorW.PrintWords Go.Proofs.YtnjeliicnbfclaaDoorW.PrintLast Go.Proofs.YtnjeliicnbfclaaDoorW.PrintMore
set_option linter.unusedVariables false
set_option linter.unusedSimpArgs false

/-- For all great k, g answers r. -/
def Ev {α : Type} (g : Nat → Option α) (r : α) : Prop := ∃ K, ∀ k, K ≤ k → g k = some r
theorem Ev.of {α : Type} {x : Option α} {r : α} (h : x = some r) : Ev (fun _ => x) r := ⟨0, fun _ _ => h⟩
theorem Ev.all {α : Type} {F : Nat → Option α} {r : α} (h : ∀ k, F k = some r) : Ev F r := ⟨0, fun k _ => h k⟩
theorem Ev.done {α : Type} {F : Nat → Option α} {r : α} (n : Nat) (h : ∀ k, F (k + n) = some r) : Ev F r := by
  refine ⟨n, fun k hk => ?_⟩
  obtain ⟨j, rfl⟩ : ∃ j, k = j + n := ⟨k - n, by omega⟩
  exact h j
theorem Ev.next {α : Type} {F H : Nat → Option α} {r : α} (n : Nat) (h : Ev H r) (e : ∀ k, F (k + n) = H k) : Ev F r := by
  obtain ⟨K, h⟩ := h
  refine ⟨K + n, fun k hk => ?_⟩
  obtain ⟨j, rfl⟩ : ∃ j, k = j + n := ⟨k - n, by omega⟩
  rw [e]
  exact h j (by omega)
/-- A call answers a; with this the rest is H. -/
theorem Ev.step {α β : Type} {g : Nat → Option α} {a : α} {F H : Nat → Option β} {r : β} (hg : Ev g a) (hh : Ev H r) (e : ∀ k, g k = some a → F k = H k) : Ev F r := by
  obtain ⟨K, hg⟩ := hg
  obtain ⟨K', hh⟩ := hh
  refine ⟨K + K', fun k hk => ?_⟩
  rw [e k (hg k (by omega))]
  exact hh k (by omega)
theorem Ev.some {α : Type} {g : Nat → Option α} {r : α} (h : Ev g r) : ∃ k, g k = Option.some r := by
  obtain ⟨K, h⟩ := h
  exact ⟨K, h K (Nat.le_refl _)⟩
theorem Ev.congr {α : Type} {g g' : Nat → Option α} {r : α} (h : Ev g r) (e : ∀ k, g' k = g k) : Ev g' r := by
  obtain ⟨K, h⟩ := h
  exact ⟨K, fun k hk => (e k).trans (h k hk)⟩

theorem w64 {n : Int} (h1 : -9223372036854775808 ≤ n) (h2 : n ≤ 9223372036854775807) : wrap64 n = n := by unfold wrap64; omega
theorem rd_nat (l : List Int) (i : Nat) : rd l (i : Int) = l.getD i 0 := by simp [rd]

/-! ### SameInts -/
theorem sameInts_l0 (l : List Int) (hl : l.length < 9223372036854775807) : ∀ (d i : Nat), i + d = l.length → Ev (fun k => v22_SameInts.l0 k l l (i : Int)) true
  | 0, i, h => Ev.done 1 fun k => by
    simp only [v22_SameInts.l0]
    rw [if_neg (by omega)]
  | d + 1, i, h => Ev.next 1 (sameInts_l0 l hl d (i + 1) (by omega)) fun k => by
    simp only [v22_SameInts.l0]
    rw [if_pos (by omega), if_pos (by omega), if_pos (by omega), if_pos trivial, w64 (by omega) (by omega)]
    rfl
theorem sameInts (l : List Int) (hl : l.length < 9223372036854775807) : Ev (fun k => v22_SameInts.f k l l) true := by
  refine (sameInts_l0 l hl l.length 0 (by omega)).congr fun k => ?_
  unfold v22_SameInts.f
  rw [if_pos rfl]
  rfl

/-! ### Segment, added, Segments -/
theorem segment (a : Int) (h1 : -9223372036854775808 ≤ a) (h2 : a ≤ 9223372036854775807) : v22_Segment.f a = Option.some (a / 16) := by
  unfold v22_Segment.f
  have e1 := Int.tmod_eq_emod (a := a) (b := 16)
  have e2 := Int.tdiv_eq_ediv (a := a) (b := 16)
  by_cases hd : 0 ≤ a ∨ (16 : Int) ∣ a
  · rw [if_pos hd] at e1 e2
    rw [if_neg (by omega), w64 (by omega) (by omega)]
    congr 1
    omega
  · rw [if_neg hd] at e1 e2
    have hs : Int.sign 16 = 1 := rfl
    have hn : ((Int.natAbs 16 : Nat) : Int) = 16 := rfl
    rw [hs] at e2
    rw [if_pos (by omega), w64 (n := Int.tdiv a 16) (by omega) (by omega), w64 (by omega) (by omega)]
    congr 1
    omega

theorem ins_drop (l : List Int) (n : Int) : ∀ i : Nat, (∀ j, j < i → l.getD j 0 < n) → i ≤ l.length → ins l n = l.take i ++ ins (l.drop i) n := by
  induction l with
  | nil => intro i _ h; simp at h; subst h; simp
  | cons x l ih =>
    intro i hlt hi
    cases i with
    | zero => simp
    | succ i =>
      have h0 : x < n := by simpa using hlt 0 (by omega)
      have := ih i (fun j hj => by simpa using hlt (j + 1) (by omega)) (by simpa using hi)
      simp only [List.take_succ_cons, List.drop_succ_cons, List.cons_append]
      rw [ins, if_neg (by omega), if_neg (by omega), this]

theorem added_l0 (l : List Int) (n : Int) (hl : l.length < 17592186044415) : ∀ (d i : Nat), i + d = l.length → (∀ j, j < i → l.getD j 0 < n) → Ev (fun k => v22_added.l0 k l n (i : Int)) (ins l n)
  | 0, i, h, hlt => by
    refine Ev.done 1 fun k => ?_
    simp only [v22_added.l0]
    have e : ((i : Int)).toNat = i := by omega
    rw [if_neg (by omega), Option.bind_some, if_pos (by omega), if_pos (by omega), e]
    have hi : i = l.length := by omega
    subst hi
    rw [ins_drop l n l.length hlt (Nat.le_refl _)]
    simp only [Option.bind_some, List.take_length, List.nil_append, List.drop_length, ins, List.append_nil, List.length_nil, List.length_append, List.length_cons]
    rw [if_pos (by omega), if_pos (by omega), if_pos (by omega)]
  | d + 1, i, h, hlt => by
    have hi : i < l.length := by omega
    by_cases hc : l.getD i 0 < n
    · refine Ev.next 1 (added_l0 l n hl d (i + 1) (by omega) (fun j hj => ?_)) fun k => ?_
      · by_cases hj' : j = i
        · subst hj'; exact hc
        · exact hlt j (by omega)
      · simp only [v22_added.l0]
        rw [rd_nat, if_pos (by omega), if_pos (by omega), if_pos hc, w64 (by omega) (by omega)]
        rfl
    · have hdrop : l.drop i = l.getD i 0 :: l.drop (i + 1) := by
        rw [List.drop_eq_getElem_cons hi]
        simp [List.getD, List.getElem?_eq_getElem hi]
      refine Ev.done 1 fun k => ?_
      simp only [v22_added.l0]
      rw [rd_nat, if_pos (by omega), if_pos (by omega), if_neg hc]
      have hins := ins_drop l n i hlt (by omega)
      rw [hdrop] at hins
      by_cases he : l.getD i 0 = n
      · rw [if_pos he, hins, ins, if_neg (by omega), if_pos he.symm, ← hdrop, List.take_append_drop]
      · rw [if_neg he, hins, ins, if_pos (by omega)]
        have e : ((i : Int)).toNat = i := by omega
        simp only [Option.bind_some, List.nil_append, e, List.length_nil, List.length_append, List.length_take, List.length_drop, List.length_cons]
        rw [if_pos (by omega), if_pos (by omega), if_pos (by omega), if_pos (by omega), hdrop]
        simp
theorem take_next {α : Type} (l : List α) (z : α) (i : Nat) (h : i < l.length) : l.take (i + 1) = l.take i ++ [l.getD i z] := by
  rw [List.take_add_one]
  simp [List.getD, List.getElem?_eq_getElem h]
theorem added (l : List Int) (n : Int) (hl : l.length < 17592186044415) : Ev (fun k => v22_added.f k l n) (ins l n) := by
  refine (added_l0 l n hl l.length 0 (by omega) (fun j hj => by omega)).congr fun k => ?_
  rfl

theorem segments_l1 (l : List Int) (hl : l.length < 17592186044415) : ∀ (d i : Nat), i + d = l.length → Ev (fun k => v22_Segments.l1 k l (l.take i) (i : Int)) l
  | 0, i, h => by
    refine Ev.done 1 fun k => ?_
    simp only [v22_Segments.l1]
    rw [if_neg (by omega)]
    congr 1
    have : i = l.length := by omega
    subst this
    exact List.take_length
  | d + 1, i, h => by
    have hi : i < l.length := by omega
    refine Ev.next 1 (segments_l1 l hl d (i + 1) (by omega)) fun k => ?_
    simp only [v22_Segments.l1]
    rw [if_pos (by omega), if_pos (by omega), if_pos (by simp; omega), w64 (by omega) (by omega), rd_nat, take_next l 0 i hi]
    rfl
theorem segments_l0 (xs : List Int) (hl : xs.length < 17592186044415) (hw : ∀ x ∈ xs, -9223372036854775808 ≤ x ∧ x ≤ 9223372036854775807) : ∀ (d i : Nat), i + d = xs.length → Ev (fun k => v22_Segments.l0 k xs (segs (xs.take i)) (i : Int)) (segs xs)
  | 0, i, h => by
    have : i = xs.length := by omega
    subst this
    rw [List.take_length]
    have hlen := length_segs xs
    refine Ev.next 1 (segments_l1 (segs xs) (by omega) (segs xs).length 0 (by omega)) fun k => ?_
    simp only [v22_Segments.l0]
    rw [if_neg (by omega)]
    rfl
  | d + 1, i, h => by
    have hi : i < xs.length := by omega
    have hx := hw (xs.getD i 0) (by simp [List.getD, List.getElem?_eq_getElem hi])
    have hlen := length_segs (xs.take i)
    have hstep : segs (xs.take (i + 1)) = ins (segs (xs.take i)) (xs.getD i 0 / 16) := by
      rw [take_next xs 0 i hi]
      simp [segs, List.foldl_append]
    have ih := segments_l0 xs hl hw d (i + 1) (by omega)
    rw [hstep] at ih
    refine Ev.next 1 (H := fun k => (v22_added.f k (segs (xs.take i)) (xs.getD i 0 / 16)).bind fun t => v22_Segments.l0 k xs t ((i + 1 : Nat) : Int)) ?_ fun k => ?_
    · exact Ev.step (added (segs (xs.take i)) (xs.getD i 0 / 16) (by simp at hlen; omega)) ih fun k hk => by rw [hk]; rfl
    · simp only [v22_Segments.l0]
      rw [if_pos (by omega), if_pos (by omega), w64 (by omega) (by omega), rd_nat, segment _ hx.1 hx.2]
      rfl
theorem refSegments (xs : List Int) (hl : xs.length < 17592186044415) (hw : ∀ x ∈ xs, -9223372036854775808 ≤ x ∧ x ≤ 9223372036854775807) : Ev (fun k => v22_Segments.f k xs) (segs xs) :=
  (segments_l0 xs hl hw xs.length 0 (by omega)).congr fun k => rfl

/-! ### Lanes -/
def lanesOf (s : Nat) : List Int := (onesAt 64 0 s).map fun (i : Nat) => (i : Int)
theorem onesAt_mod (g : Nat) : ∀ (f b x : Nat), onesAt (f + g) b (x % 2 ^ f) = onesAt f b x
  | 0, b, x => by
    rw [Nat.pow_zero, Nat.mod_one, Nat.zero_add, onesAt_zero]
    rfl
  | f + 1, b, x => by
    have h1 : x % 2 ^ (f + 1) % 2 = x % 2 := by
      rw [Nat.pow_succ, Nat.mul_comm, Nat.mod_mul_right_mod]
    have h2 : x % 2 ^ (f + 1) / 2 = x / 2 % 2 ^ f := by
      rw [Nat.pow_succ, Nat.mul_comm, Nat.mod_mul]
      omega
    rw [show f + 1 + g = (f + g) + 1 by omega, onesAt, onesAt, h1, h2, onesAt_mod g f (b + 1) (x / 2)]

theorem lanes_l0 (lanes act : Int) (L x : Nat) (hL : min (max lanes 0) 64 = (L : Int)) (hact : act = (x : Int)) (hx : x < 18446744073709551616) :
    ∀ (d i : Nat) (acc : List Int), i + d = L → acc.length ≤ i → Ev (fun k => v22_Lanes.l0 k lanes act acc (i : Int)) (acc ++ (onesAt d i (x / 2 ^ i)).map fun (i : Nat) => (i : Int))
  | 0, i, acc, h, hacc => by
    refine Ev.done 2 fun k => ?_
    simp only [v22_Lanes.l0, v22_Lanes.j1]
    by_cases h1 : (i : Int) < lanes
    · rw [if_pos h1, if_neg (by simp; omega)]
      simp [onesAt]
    · rw [if_neg h1, if_neg (by simp)]
      simp [onesAt]
  | d + 1, i, acc, h, hacc => by
    have e0 : IntKind.u64.wrap (i : Int) = (i : Int) := u64_w i (by omega)
    have e1 : Go.bits .and .u64 (shr .u64 act (i : Int)) 1 = ((x / 2 ^ i % 2 : Nat) : Int) := by
      have hs : shr .u64 act (i : Int) = ((x / 2 ^ i : Nat) : Int) := by
        have hb : IntKind.u64.bits = 64 := rfl
        have hm : min ((i : Int)).toNat IntKind.u64.bits = i := by rw [hb]; omega
        rw [shr, hm, hact]
        exact_mod_cast rfl
      have hq := bits_and_u64_nat (x / 2 ^ i) 1 (Nat.lt_of_le_of_lt (Nat.div_le_self _ _) hx) (by decide)
      rw [Nat.and_one_is_mod] at hq
      rw [hs]
      exact hq
    have e2 : x / 2 ^ (i + 1) = x / 2 ^ i / 2 := by rw [Nat.pow_succ, Nat.div_div_eq_div_mul]
    by_cases hb : x / 2 ^ i % 2 = 1
    · have ih := lanes_l0 lanes act L x hL hact hx d (i + 1) (acc ++ [(i : Int)]) (by omega) (by simp; omega)
      rw [onesAt, if_pos hb, List.map_cons, ← e2, ← List.singleton_append, ← List.append_assoc]
      refine Ev.next 2 ih fun k => ?_
      simp only [v22_Lanes.l0, v22_Lanes.j1]
      rw [if_pos (by omega), if_pos (by simp; omega), e0, e1, if_pos (by omega), if_pos (by omega), if_pos (by omega), w64 (by omega) (by omega)]
      rfl
    · have ih := lanes_l0 lanes act L x hL hact hx d (i + 1) acc (by omega) (by omega)
      rw [onesAt, if_neg hb, ← e2]
      refine Ev.next 2 ih fun k => ?_
      simp only [v22_Lanes.l0, v22_Lanes.j1]
      rw [if_pos (by omega), if_pos (by simp; omega), e0, e1, if_pos (by omega), if_neg (by omega), w64 (by omega) (by omega)]
      rfl
theorem refLanes (lanes act : Int) (h1 : 0 ≤ act) (h2 : act < 18446744073709551616) : Ev (fun k => v22_Lanes.f k lanes act) (lanesOf (setOfLanes lanes act)) := by
  obtain ⟨x, rfl⟩ := Int.eq_ofNat_of_zero_le h1
  have hL : min (max lanes 0) 64 = (((min (max lanes 0) 64).toNat : Nat) : Int) := by omega
  have h := lanes_l0 lanes (x : Int) _ x hL rfl (by omega) (min (max lanes 0) 64).toNat 0 [] (by omega) (by simp)
  have e : lanesOf (setOfLanes lanes (x : Int)) = [] ++ (onesAt (min (max lanes 0) 64).toNat 0 (x / 2 ^ 0)).map fun (i : Nat) => (i : Int) := by
    unfold lanesOf setOfLanes
    rw [Int.toNat_natCast, Nat.pow_zero, Nat.div_one, List.nil_append]
    generalize hm : (min (max lanes 0) 64).toNat = m
    have := onesAt_mod (64 - m) m 0 x
    rw [show m + (64 - m) = 64 by omega] at this
    rw [this]
  rw [e]
  exact h.congr fun k => rfl
end Go.Proofs.YtnjeliicnbfclaaDoor.P
