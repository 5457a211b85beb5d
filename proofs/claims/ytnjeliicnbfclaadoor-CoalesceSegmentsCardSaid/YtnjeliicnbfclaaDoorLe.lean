/- Plain law: CoalesceSegments' printed form answers true. -/
import Derived.Test.YtnjeliicnbfclaaDoorLc
import Derived.Test.YtnjeliicnbfclaaDoorPx6
namespace Go.Proofs.YtnjeliicnbfclaaDoor.P
open Go.RowKit Go.Proofs.YtnjeliicnbfclaaDoorW.PrintWords Go.Proofs.YtnjeliicnbfclaaDoorW.PrintLast Go.Proofs.YtnjeliicnbfclaaDoorW.PrintMore
set_option linter.unusedVariables false
set_option linter.unusedSimpArgs false
set_option linter.unusedSectionVars false

theorem segments_f (xs : List Int) (hl : xs.length ≤ 17592186044416) (hw : ∀ x ∈ xs, -9223372036854775808 ≤ x ∧ x ≤ 9223372036854775807) : coalesce_Segments.f xs = some (segs xs) := by
  unfold coalesce_Segments.f
  rw [if_pos ⟨hl, List.all_eq_true.2 fun x hx => wf_of (hw x hx).1 (hw x hx).2⟩]
theorem getD_mem (l : List Int) (i : Nat) (h : i < l.length) : l.getD i 0 ∈ l := by
  simp [List.getD, List.getElem?_eq_getElem h]

section
variable (a : List Int) (ha : ∀ x ∈ a, -1099511627776 < x ∧ x < 1099511627776) (hl : a.length ≤ 60)
include ha hl

theorem seg_bound (i : Nat) (h : i < (segs a).length) : ∃ x ∈ a, x / 16 = (segs a).getD i 0 := (mem_segs _ _).1 (getD_mem _ _ h)

/-- One word's segments: is it in one of the first ones? -/
theorem csegs_l5 (n : Nat) (hn : n < a.length) (hs : Ev (fun k => w22_CSegments.l4 k true a (segs a) ((n + 1 : Nat) : Int)) true) :
    ∀ (d i : Nat) (b : Bool), i + d = (segs a).length → (b = true ↔ ∃ j, j < i ∧ (segs a).getD j 0 = a.getD n 0 / 16) → Ev (fun k => w22_CSegments.l5 k true a (segs a) (n : Int) b (i : Int)) true
  | 0, i, b, h, hb => by
    have hseg := (mem_segs (a.getD n 0 / 16) a).2 ⟨_, getD_mem a n hn, rfl⟩
    obtain ⟨j, hj, hje⟩ := List.getElem_of_mem hseg
    have hbt : b = true := hb.2 ⟨j, by omega, by simp [List.getD, List.getElem?_eq_getElem hj, hje]⟩
    have hlen := length_segs a
    refine Ev.next 1 hs fun k => ?_
    simp only [w22_CSegments.l5]
    rw [if_neg (by omega), if_pos hbt, w64 (by omega) (by omega)]
    rfl
  | d + 1, i, b, h, hb => by
    have hlen := length_segs a
    have hi : i < (segs a).length := by omega
    obtain ⟨x, hx, hxe⟩ := seg_bound a ha hl i hi
    have hxb := ha x hx
    have hnb := ha _ (getD_mem a n hn)
    have hq : -68719476736 ≤ (segs a).getD i 0 ∧ (segs a).getD i 0 ≤ 68719476736 := by omega
    by_cases hbt : b = true
    · have ih := csegs_l5 n hn hs d (i + 1) true (by omega) ⟨fun _ => by obtain ⟨j, hj, e⟩ := hb.1 hbt; exact ⟨j, by omega, e⟩, fun _ => rfl⟩
      refine Ev.next 1 ih fun k => ?_
      simp only [w22_CSegments.l5]
      rw [if_pos (by omega), if_pos hbt, w64 (by omega) (by omega)]
      rfl
    · have hno : ¬ ∃ j, j < i ∧ (segs a).getD j 0 = a.getD n 0 / 16 := fun e => hbt (hb.2 e)
      by_cases hin : (segs a).getD i 0 = a.getD n 0 / 16
      · have ih := csegs_l5 n hn hs d (i + 1) true (by omega) ⟨fun _ => ⟨i, by omega, hin⟩, fun _ => rfl⟩
        refine Ev.next 1 ih fun k => ?_
        simp only [w22_CSegments.l5]
        rw [if_pos (by omega), if_neg hbt, if_pos (by omega), if_pos (by omega), if_pos (by omega), rd_nat, rd_nat, w64 (n := 16 * (segs a).getD i 0) (by omega) (by omega), if_pos (by omega), w64 (n := 16 * (segs a).getD i 0 + 16) (by omega) (by omega), w64 (by omega) (by omega)]
        rw [show decide (a.getD n 0 < 16 * (segs a).getD i 0 + 16) = true from decide_eq_true (by omega)]
        rfl
      · have ih := csegs_l5 n hn hs d (i + 1) false (by omega) ⟨fun e => (by cases e), fun ⟨j, hj, e⟩ => by
          by_cases hji : j = i
          · subst hji; exact absurd e hin
          · exact absurd ⟨j, by omega, e⟩ hno⟩
        refine Ev.next 1 ih fun k => ?_
        simp only [w22_CSegments.l5]
        rw [if_pos (by omega), if_neg hbt, if_pos (by omega), if_pos (by omega), if_pos (by omega), rd_nat, rd_nat, w64 (n := 16 * (segs a).getD i 0) (by omega) (by omega), w64 (n := 16 * (segs a).getD i 0 + 16) (by omega) (by omega), w64 (n := (i : Int) + 1) (by omega) (by omega)]
        by_cases hge : a.getD n 0 ≥ 16 * (segs a).getD i 0
        · rw [if_pos hge, show decide (a.getD n 0 < 16 * (segs a).getD i 0 + 16) = false from decide_eq_false (by omega)]
          rfl
        · rw [if_neg hge]
          rfl
theorem csegs_l4 : ∀ (d n : Nat), n + d = a.length → Ev (fun k => w22_CSegments.l4 k true a (segs a) (n : Int)) true
  | 0, n, h => by
    refine Ev.done 1 fun k => ?_
    simp only [w22_CSegments.l4]
    rw [if_neg (by omega)]
  | d + 1, n, h => by
    refine Ev.next 1 (csegs_l5 a ha hl n (by omega) (csegs_l4 d (n + 1) (by omega)) (segs a).length 0 false (by omega) ⟨fun e => (by cases e), fun ⟨j, hj, _⟩ => by omega⟩) fun k => ?_
    simp only [w22_CSegments.l4]
    rw [if_pos (by omega)]
    rfl

theorem csegs_l3 (i : Nat) (hi : i < (segs a).length) (hs : Ev (fun k => w22_CSegments.l2 k true a (segs a) ((segs a).map (· + 1)) ((i + 1 : Nat) : Int)) true) :
    ∀ (d n : Nat) (b : Bool), n + d = a.length → (b = true ↔ ∃ j, j < n ∧ (segs a).getD i 0 = a.getD j 0 / 16) → Ev (fun k => w22_CSegments.l3 k true a (segs a) ((segs a).map (· + 1)) (i : Int) b (n : Int)) true
  | 0, n, b, h, hb => by
    obtain ⟨x, hx, hxe⟩ := seg_bound a ha hl i hi
    have hxb := ha x hx
    obtain ⟨j, hj, hje⟩ := List.getElem_of_mem hx
    have hbt : b = true := hb.2 ⟨j, by omega, by rw [← hxe]; simp [List.getD, List.getElem?_eq_getElem hj, hje]⟩
    have hlen := length_segs a
    have ht : ((segs a).map (· + 1)).getD i 0 = (segs a).getD i 0 + 1 := by
      simp [List.getD, List.getElem?_eq_getElem hi]
    have hq : -68719476736 ≤ (segs a).getD i 0 ∧ (segs a).getD i 0 ≤ 68719476736 := by omega
    refine Ev.next 1 hs fun k => ?_
    simp only [w22_CSegments.l3]
    rw [if_neg (by omega), if_pos hbt, if_pos (by omega), if_pos (by simp; omega), if_pos (by omega), rd_nat, rd_nat, ht, w64 (n := (segs a).getD i 0 + 1) (by omega) (by omega), if_pos rfl, w64 (n := (i : Int) + 1) (by omega) (by omega)]
    by_cases h0 : (i : Int) > 0
    · have hp : (segs a).getD (i - 1) 0 < (segs a).getD i 0 := by
        have h1 : i - 1 < (segs a).length := by omega
        simp only [List.getD, List.getElem?_eq_getElem hi, List.getElem?_eq_getElem h1, Option.getD_some]
        exact List.pairwise_iff_getElem.1 (inc_segs a) _ _ _ _ (by omega)
      rw [if_pos h0, w64 (n := (i : Int) - 1) (by omega) (by omega), if_pos (by omega), if_pos (by omega), show (i : Int) - 1 = ((i - 1 : Nat) : Int) by omega, rd_nat, if_neg (by omega)]
      rfl
    · rw [if_neg h0]
      rfl
  | d + 1, n, b, h, hb => by
    have hlen := length_segs a
    have hn : n < a.length := by omega
    obtain ⟨x, hx, hxe⟩ := seg_bound a ha hl i hi
    have hxb := ha x hx
    have hnb := ha _ (getD_mem a n hn)
    have hq : -68719476736 ≤ (segs a).getD i 0 ∧ (segs a).getD i 0 ≤ 68719476736 := by omega
    by_cases hbt : b = true
    · have ih := csegs_l3 i hi hs d (n + 1) true (by omega) ⟨fun _ => by obtain ⟨j, hj, e⟩ := hb.1 hbt; exact ⟨j, by omega, e⟩, fun _ => rfl⟩
      refine Ev.next 1 ih fun k => ?_
      simp only [w22_CSegments.l3]
      rw [if_pos (by omega), if_pos hbt, w64 (by omega) (by omega)]
      rfl
    · have hno : ¬ ∃ j, j < n ∧ (segs a).getD i 0 = a.getD j 0 / 16 := fun e => hbt (hb.2 e)
      by_cases hin : (segs a).getD i 0 = a.getD n 0 / 16
      · have ih := csegs_l3 i hi hs d (n + 1) true (by omega) ⟨fun _ => ⟨n, by omega, hin⟩, fun _ => rfl⟩
        refine Ev.next 1 ih fun k => ?_
        simp only [w22_CSegments.l3]
        rw [if_pos (by omega), if_neg hbt, if_pos (by omega), if_pos (by omega), if_pos (by omega), rd_nat, rd_nat, w64 (n := 16 * (segs a).getD i 0) (by omega) (by omega), if_pos (by omega), w64 (n := 16 * (segs a).getD i 0 + 16) (by omega) (by omega), w64 (by omega) (by omega)]
        rw [show decide (a.getD n 0 < 16 * (segs a).getD i 0 + 16) = true from decide_eq_true (by omega)]
        rfl
      · have ih := csegs_l3 i hi hs d (n + 1) false (by omega) ⟨fun e => (by cases e), fun ⟨j, hj, e⟩ => by
          by_cases hji : j = n
          · subst hji; exact absurd e hin
          · exact absurd ⟨j, by omega, e⟩ hno⟩
        refine Ev.next 1 ih fun k => ?_
        simp only [w22_CSegments.l3]
        rw [if_pos (by omega), if_neg hbt, if_pos (by omega), if_pos (by omega), if_pos (by omega), rd_nat, rd_nat, w64 (n := 16 * (segs a).getD i 0) (by omega) (by omega), w64 (n := 16 * (segs a).getD i 0 + 16) (by omega) (by omega), w64 (n := (n : Int) + 1) (by omega) (by omega)]
        by_cases hge : a.getD n 0 ≥ 16 * (segs a).getD i 0
        · rw [if_pos hge, show decide (a.getD n 0 < 16 * (segs a).getD i 0 + 16) = false from decide_eq_false (by omega)]
          rfl
        · rw [if_neg hge]
          rfl
theorem csegs_l2 : ∀ (d i : Nat), i + d = (segs a).length → Ev (fun k => w22_CSegments.l2 k true a (segs a) ((segs a).map (· + 1)) (i : Int)) true
  | 0, i, h => by
    refine Ev.next 1 (csegs_l4 a ha hl a.length 0 (by omega)) fun k => ?_
    simp only [w22_CSegments.l2]
    rw [if_neg (by omega)]
    rfl
  | d + 1, i, h => by
    refine Ev.next 1 (csegs_l3 a ha hl i (by omega) (csegs_l2 d (i + 1) (by omega)) a.length 0 false (by omega) ⟨fun e => (by cases e), fun ⟨j, hj, _⟩ => by omega⟩) fun k => ?_
    simp only [w22_CSegments.l2]
    rw [if_pos (by omega)]
    rfl

/-- The turned list. -/
def turned (a : List Int) (t i : Nat) : List Int := (List.range i).map fun j => a.getD ((j + t) % a.length) 0

theorem turned_segs (t : Nat) : segs (turned a t (2 * a.length)) = segs a := by
  refine segs_mem_ext fun y => ?_
  unfold turned
  rw [List.mem_map]
  constructor
  · rintro ⟨j, hj, rfl⟩
    have := List.mem_range.1 hj
    exact getD_mem a _ (Nat.mod_lt _ (by omega))
  · intro hy
    obtain ⟨n, hn, rfl⟩ := List.getElem_of_mem hy
    refine ⟨(n + (a.length - t % a.length)) , ?_, ?_⟩
    · exact List.mem_range.2 (by omega)
    · have ht : (n + (a.length - t % a.length) + t) % a.length = n := by
        have h1 := Nat.div_add_mod t a.length
        have h2 : t % a.length < a.length := Nat.mod_lt _ (by omega)
        have : n + (a.length - t % a.length) + t = n + a.length * (t / a.length + 1) := by
          rw [Nat.mul_add, Nat.mul_one]
          omega
        rw [this, Nat.add_mul_mod_self_left, Nat.mod_eq_of_lt hn]
      rw [ht]
      simp [List.getD, List.getElem?_eq_getElem hn]

theorem csegs_l1 (t : Nat) (ht : t < 256) : ∀ (d i : Nat), i + d = 2 * a.length → Ev (fun k => w22_CSegments.l1 k (t : Int) true a (turned a t i) (a.map (· + 16)) (i : Int)) true
  | 0, i, h => by
    have hi : i = 2 * a.length := by omega
    subst hi
    have hlen := length_segs a
    have s1 := segments_f a (by omega) (fun x hx => by have := ha x hx; omega)
    have s2 := segments_f (a.map (· + 16)) (by simp; omega) (fun x hx => by
      obtain ⟨z, hz, rfl⟩ := List.mem_map.1 hx
      have := ha z hz
      omega)
    have e2 : segs (a.map (· + 16)) = (segs a).map (· + 1) := segs_shift 1 a
    have hmem : ∀ x ∈ turned a t (2 * a.length), x ∈ a := fun x hx => by
      unfold turned at hx
      obtain ⟨j, hj, rfl⟩ := List.mem_map.1 hx
      have := List.mem_range.1 hj
      exact getD_mem a _ (Nat.mod_lt _ (by omega))
    have s3 := segments_f (turned a t (2 * a.length)) (by simp [turned]; omega) (fun x hx => by have := ha x (hmem x hx); omega)
    rw [turned_segs a ha hl] at s3
    refine Ev.next 1 (H := fun k => (v22_SameInts.f k (segs a) (segs a)).bind fun t334 => w22_CSegments.j3 k true a (segs a) ((segs a).map (· + 1)) (!t334)) ?_ fun k => ?_
    · refine Ev.step (sameInts (segs a) (by omega)) (Ev.next 1 (csegs_l2 a ha hl (segs a).length 0 (by omega)) (F := fun k => w22_CSegments.j3 k true a (segs a) ((segs a).map (· + 1)) false) fun k => ?_) fun k hk => ?_
      · simp only [w22_CSegments.j3]
        rw [if_neg (by simp)]
        rfl
      · rw [hk]
        rfl
    · simp only [w22_CSegments.l1]
      rw [w64 (n := 2 * (a.length : Int)) (by omega) (by omega), if_neg (by omega), s1, Option.bind_some, s2, Option.bind_some, e2, if_pos (by simp), s3, Option.bind_some]
  | d + 1, i, h => by
    have hpos : 0 < a.length := by omega
    have ih := csegs_l1 t ht d (i + 1) (by omega)
    have hm : Int.tmod ((i : Int) + (t : Int)) (a.length : Int) = (((i + t) % a.length : Nat) : Int) := rfl
    have hlt : (i + t) % a.length < a.length := Nat.mod_lt _ hpos
    have e : turned a t (i + 1) = turned a t i ++ [a.getD ((i + t) % a.length) 0] := by
      unfold turned
      rw [List.range_succ, List.map_append]
      rfl
    rw [e] at ih
    refine Ev.next 1 ih fun k => ?_
    simp only [w22_CSegments.l1]
    rw [w64 (n := 2 * (a.length : Int)) (by omega) (by omega), if_pos (by omega), if_neg (by omega), w64 (n := (t : Int)) (by omega) (by omega), w64 (n := (i : Int) + (t : Int)) (by omega) (by omega), hm, if_pos (by omega), if_pos (by omega), if_pos (by simp [turned]; omega), rd_nat, w64 (by omega) (by omega)]
    rfl
end

theorem tmod_small (x : Int) : -1099511627776 < Int.tmod x 1099511627776 ∧ Int.tmod x 1099511627776 < 1099511627776 := by
  have h1 := Int.tmod_lt_of_pos x (b := 1099511627776) (by omega)
  have h2 := Int.lt_tmod_of_pos x (b := 1099511627776) (by omega)
  omega
def cut (l : List Int) (i : Nat) : List Int := (l.take i).map fun x => Int.tmod x 1099511627776
theorem csegs_fin (l : List Int) (t : Nat) (ht : t < 256) (i : Nat) (hi : i ≤ 60) : Ev (fun k => w22_CSegments.j1 k (t : Int) true (cut l i) [] ((cut l i).map (· + 16))) true := by
  have hb : ∀ x ∈ cut l i, -1099511627776 < x ∧ x < 1099511627776 := fun x hx => by
    obtain ⟨z, _, rfl⟩ := List.mem_map.1 hx
    exact tmod_small z
  refine Ev.next 1 (csegs_l1 (cut l i) hb (by simp [cut]; omega) t ht (2 * (cut l i).length) 0 (by omega)) fun k => ?_
  simp only [w22_CSegments.j1]
  rfl
theorem csegs_l0 (l : List Int) (hl : l.length < 9223372036854775807) (t : Nat) (ht : t < 256) : ∀ (d i : Nat), i + d = 60 → i ≤ l.length → Ev (fun k => w22_CSegments.l0 k l (t : Int) true (cut l i) [] ((cut l i).map (· + 16)) (i : Int)) true
  | 0, i, h, hi => by
    refine Ev.next 1 (csegs_fin l t ht i (by omega)) fun k => ?_
    simp only [w22_CSegments.l0]
    by_cases h1 : (i : Int) < (l.length : Int)
    · rw [if_pos h1, if_neg (by omega)]
    · rw [if_neg h1]
  | d + 1, i, h, hi => by
    by_cases hlt : i < l.length
    · have ih := csegs_l0 l hl t ht d (i + 1) (by omega) (by omega)
      have e : cut l (i + 1) = cut l i ++ [Int.tmod (l.getD i 0) 1099511627776] := by
        unfold cut
        rw [take_next l 0 i hlt, List.map_append]
        rfl
      rw [e, List.map_append] at ih
      have hs := tmod_small (l.getD i 0)
      have hcl : (cut l i).length < 17592186044416 := by simp [cut]; omega
      refine Ev.next 1 ih fun k => ?_
      simp only [w22_CSegments.l0]
      rw [if_pos (by omega), if_pos (by omega), if_pos (by omega), if_pos hcl, if_pos (by simpa using hcl), rd_nat, w64 (n := Int.tmod (l.getD i 0) 1099511627776 + 16) (by omega) (by omega), w64 (n := (i : Int) + 1) (by omega) (by omega)]
      rfl
    · refine Ev.next 1 (csegs_fin l t ht i (by omega)) fun k => ?_
      simp only [w22_CSegments.l0]
      rw [if_neg (by omega)]

theorem csegs_pure : w22_CSegments.Pure := by
  intro l0 a1 hm hy hw w1
  have b1 : 0 ≤ a1 ∧ a1 < 256 := by
    simp only [Lit.wf, decide_eq_true_eq, Bool.and_eq_true] at w1
    have e1 : IntKind.u8.min = 0 := by rfl
    have e2 : IntKind.u8.max = 255 := by rfl
    omega
  obtain ⟨t, rfl⟩ := Int.eq_ofNat_of_zero_le b1.1
  refine (Ev.step examples (csegs_l0 l0 (by omega) t (by omega) 60 0 (by omega) (by omega)) fun k hk => ?_).some
  unfold w22_CSegments.f
  rw [hk, Option.bind_some, if_pos rfl]
  rfl
end Go.Proofs.YtnjeliicnbfclaaDoor.P
