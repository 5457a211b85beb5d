/- Plain law: the reference's Moves answers what Moves answers. -/
import Derived.Test.YtnjeliicnbfclaaDoorLn
import Derived.Test.YtnjeliicnbfclaaDoorPx4
namespace Go.Proofs.YtnjeliicnbfclaaDoor.P
open Go.RowKit Go.Proofs.YtnjeliicnbfclaaDoorW.PrintWords Go.Proofs.YtnjeliicnbfclaaDoorW.PrintLast Go.Proofs.YtnjeliicnbfclaaDoorW.PrintMore
set_option linter.unusedVariables false
set_option linter.unusedSimpArgs false
set_option linter.unusedSectionVars false

/-! ### the distinct pairs -/
theorem foldP_mem : ∀ (ps acc : List (Int × Int)) (p : Int × Int), p ∈ ps.foldl addP acc ↔ p ∈ acc ∨ p ∈ ps
  | [], acc, p => by simp
  | q :: ps, acc, p => by
    rw [List.foldl_cons, foldP_mem ps]
    unfold addP
    split
    · rename_i h
      constructor
      · rintro (h1 | h1)
        · exact .inl h1
        · exact .inr (List.mem_cons_of_mem _ h1)
      · rintro (h1 | h1)
        · exact .inl h1
        · rcases List.mem_cons.1 h1 with rfl | h1
          · exact .inl h
          · exact .inr h1
    · simp only [List.mem_append, List.mem_cons, List.not_mem_nil, or_false]
      constructor
      · rintro ((h1 | h1) | h1)
        · exact .inl h1
        · exact .inr (.inl h1)
        · exact .inr (.inr h1)
      · rintro (h1 | h1 | h1)
        · exact .inl (.inl h1)
        · exact .inl (.inr h1)
        · exact .inr h1
theorem foldP_nodup : ∀ (ps acc : List (Int × Int)), acc.Nodup → (ps.foldl addP acc).Nodup
  | [], acc, h => h
  | q :: ps, acc, h => by
    rw [List.foldl_cons]
    refine foldP_nodup ps _ ?_
    unfold addP
    split
    · exact h
    · rename_i hq
      rw [List.nodup_append]
      refine ⟨h, by simp, fun a ha b hb => ?_⟩
      rw [List.mem_singleton] at hb
      subst hb
      rintro rfl
      exact hq ha

/-- The words of one array's accesses. -/
def wordsA (es : List S47) (ar : List S31) (a : Int) : List Int := (es.filter fun x => decide (x.f6 = a) && cnt ar x).map fun x => x.f7
theorem wordsA_mem (es : List S47) (ar : List S31) (a y : Int) : y ∈ segs (wordsA es ar a) ↔ (a, y) ∈ pairs es ar := by
  rw [mem_segs]
  unfold wordsA pairs
  simp only [List.mem_map, List.mem_filter, Bool.and_eq_true, decide_eq_true_eq, Prod.mk.injEq]
  constructor
  · rintro ⟨x, ⟨e, ⟨he, h6, hc⟩, rfl⟩, rfl⟩
    exact ⟨e, ⟨he, hc⟩, h6, rfl⟩
  · rintro ⟨e, ⟨he, hc⟩, h6, h7⟩
    exact ⟨e.f7, ⟨e, ⟨he, h6, hc⟩, rfl⟩, h7⟩
def sumA (es : List S47) (ar : List S31) : Nat → Nat
  | 0 => 0
  | n + 1 => sumA es ar n + (segs (wordsA es ar (n : Int))).length
theorem wordsA_le (es : List S47) (ar : List S31) (a : Int) : (segs (wordsA es ar a)).length ≤ es.length := by
  have h1 := length_segs (wordsA es ar a)
  have h2 : (wordsA es ar a).length ≤ es.length := by
    unfold wordsA
    rw [List.length_map]
    exact List.length_filter_le _ _
  omega
theorem countP_split (n : Int) : ∀ L : List (Int × Int), L.countP (fun p => decide (p.1 < n + 1)) = L.countP (fun p => decide (p.1 < n)) + L.countP (fun p => decide (p.1 = n))
  | [] => by simp
  | p :: L => by
    rw [List.countP_cons, List.countP_cons, List.countP_cons, countP_split n L]
    by_cases h1 : p.1 < n
    · rw [if_pos (by simp; omega), if_pos (by simpa using h1), if_neg (by simp; omega)]
      omega
    · by_cases h2 : p.1 = n
      · rw [if_pos (by simp; omega), if_neg (by simpa using h1), if_pos (by simpa using h2)]
        omega
      · rw [if_neg (by simp; omega), if_neg (by simpa using h1), if_neg (by simpa using h2)]
        omega
theorem countP_at (es : List S47) (ar : List S31) (a : Int) : ((pairs es ar).foldl addP []).countP (fun p => decide (p.1 = a)) = (segs (wordsA es ar a)).length := by
  rw [List.countP_eq_length_filter]
  have hn : ((((pairs es ar).foldl addP []).filter fun p => decide (p.1 = a)).map fun p => p.2).Nodup := by
    refine List.pairwise_map.2 ?_
    have := (foldP_nodup (pairs es ar) [] List.nodup_nil).filter (fun p => decide (p.1 = a))
    refine List.Pairwise.imp_of_mem ?_ this
    intro p q hp hq hne he
    have h1 := (List.mem_filter.1 hp).2
    have h2 := (List.mem_filter.1 hq).2
    simp only [decide_eq_true_eq] at h1 h2
    exact hne (Prod.ext (h1.trans h2.symm) he)
  have hm : ∀ y, y ∈ ((((pairs es ar).foldl addP []).filter fun p => decide (p.1 = a)).map fun p => p.2) ↔ y ∈ segs (wordsA es ar a) := by
    intro y
    rw [wordsA_mem, List.mem_map]
    constructor
    · rintro ⟨p, hp, rfl⟩
      obtain ⟨h1, h2⟩ := List.mem_filter.1 hp
      simp only [decide_eq_true_eq] at h2
      have := (foldP_mem _ _ _).1 h1
      rw [← h2]
      simpa using this
    · intro h
      refine ⟨(a, y), List.mem_filter.2 ⟨(foldP_mem _ _ _).2 (.inr h), by simp⟩, rfl⟩
  have h1 := nodup_sub _ _ hn (fun y hy => (hm y).1 hy)
  have h2 := nodup_sub _ _ (inc_nodup (inc_segs (wordsA es ar a))) (fun y hy => (hm y).2 hy)
  rw [List.length_map] at h1 h2
  omega
theorem cnt_bounds {ar : List S31} {x : S47} (h : cnt ar x = true) : 0 ≤ x.f6 ∧ x.f6 < ar.length := by
  unfold cnt at h
  simp only [Bool.and_eq_true, decide_eq_true_eq] at h
  exact ⟨h.2.1, h.2.2.1⟩
theorem sumA_count (es : List S47) (ar : List S31) : ∀ n : Nat, ((pairs es ar).foldl addP []).countP (fun p => decide (p.1 < (n : Int))) = sumA es ar n
  | 0 => by
    rw [sumA, List.countP_eq_zero]
    intro p hp
    have := (foldP_mem _ _ _).1 hp
    simp only [List.not_mem_nil, false_or] at this
    unfold pairs at this
    obtain ⟨x, hx, rfl⟩ := List.mem_map.1 this
    have := cnt_bounds (List.mem_filter.1 hx).2
    simp
    omega
  | n + 1 => by
    have h := countP_split (n : Int) ((pairs es ar).foldl addP [])
    rw [show (((n + 1 : Nat)) : Int) = (n : Int) + 1 by omega, h, sumA_count es ar n, countP_at, sumA]
theorem sumA_all (es : List S47) (ar : List S31) : sumA es ar ar.length = ((pairs es ar).foldl addP []).length := by
  rw [← sumA_count]
  refine List.countP_eq_length.2 fun p hp => ?_
  have := (foldP_mem _ _ _).1 hp
  simp only [List.not_mem_nil, false_or] at this
  unfold pairs at this
  obtain ⟨x, hx, rfl⟩ := List.mem_map.1 this
  have := cnt_bounds (List.mem_filter.1 hx).2
  simp
  omega
theorem sumA_le (es : List S47) (ar : List S31) : ∀ n, sumA es ar n ≤ n * es.length
  | 0 => by simp [sumA]
  | n + 1 => by
    have := sumA_le es ar n
    have := wordsA_le es ar (n : Int)
    rw [sumA, Nat.add_mul, Nat.one_mul]
    omega

/-! ### the reference's Moves -/
theorem counts (x : S47) (ar : List S31) : v22_Counts.f x.f0 x.f1 x.f2 x.f3 x.f4 x.f5 x.f6 x.f7 x.f8 ar = some (cnt ar x) := by
  unfold v22_Counts.f cnt
  by_cases h1 : x.f0 ≥ 1
  · rw [if_pos h1]
    by_cases h2 : x.f0 ≤ 3
    · rw [if_pos h2]
      have h3 : (decide (x.f0 = 1) || decide (x.f0 = 2) || decide (x.f0 = 3)) = true := by simp; omega
      rw [h3]
      by_cases h4 : x.f6 ≥ 0
      · rw [if_pos h4]
        by_cases h5 : x.f6 < (ar.length : Int)
        · rw [if_pos h5, if_pos h4]
          simp [h4, h5]
          rfl
        · rw [if_neg h5]
          simp [h5]
      · rw [if_neg h4]
        simp
        omega
    · rw [if_neg h2]
      have h3 : (decide (x.f0 = 1) || decide (x.f0 = 2) || decide (x.f0 = 3)) = false := by simp; omega
      rw [h3]
      rfl
  · rw [if_neg h1]
    have h3 : (decide (x.f0 = 1) || decide (x.f0 = 2) || decide (x.f0 = 3)) = false := by simp; omega
    rw [h3]
    rfl
theorem rd47_nat (l : List S47) (i : Nat) : rd_T47 l (i : Int) = l.getD i z47 := by simp [rd_T47]
section
variable (es : List S47) (ar : List S31) (he : es.length ≤ 100) (har : ar.length ≤ 12) (hw : ∀ x ∈ es, -9223372036854775808 ≤ x.f7 ∧ x.f7 ≤ 9223372036854775807)
include he har hw
theorem wordsA_step (a : Int) (i : Nat) (hi : i < es.length) : segs (wordsA (es.take (i + 1)) ar a) = if (decide ((es.getD i z47).f6 = a) && cnt ar (es.getD i z47)) = true then ins (segs (wordsA (es.take i) ar a)) ((es.getD i z47).f7 / 16) else segs (wordsA (es.take i) ar a) := by
  unfold wordsA
  rw [take_next es z47 i hi, List.filter_append, List.map_append]
  by_cases h : (decide ((es.getD i z47).f6 = a) && cnt ar (es.getD i z47)) = true
  · rw [if_pos h, List.filter_cons_of_pos (p := fun x => decide (x.f6 = a) && cnt ar x) h]
    simp [segs, List.foldl_append]
  · rw [if_neg h, List.filter_cons_of_neg (p := fun x => decide (x.f6 = a) && cnt ar x) h]
    simp
theorem moves_l1 (a : Nat) (ha : a < 12) (acc : Nat) (hacc : acc ≤ 10000) (r : Int) (hr : Ev (fun k => v22_Moves.l0 k es ar ((acc + (segs (wordsA es ar (a : Int))).length : Nat) : Int) ((a + 1 : Nat) : Int)) r) :
    ∀ (d i : Nat), i + d = es.length → Ev (fun k => v22_Moves.l1 k es ar (acc : Int) (a : Int) (segs (wordsA (es.take i) ar (a : Int))) (i : Int)) r
  | 0, i, h => by
    have hi : i = es.length := by omega
    subst hi
    have hle := wordsA_le es ar (a : Int)
    rw [List.take_length]
    refine Ev.next 1 hr fun k => ?_
    simp only [v22_Moves.l1]
    rw [if_neg (by omega), w64 (by omega) (by omega), w64 (by omega) (by omega)]
    rfl
  | d + 1, i, h => by
    have hi : i < es.length := by omega
    have hx := hw (es.getD i z47) (by simp [List.getD, List.getElem?_eq_getElem hi])
    have ih := moves_l1 a ha acc hacc r hr d (i + 1) (by omega)
    have hst := wordsA_step es ar he har hw (a : Int) i hi
    have hle : (segs (wordsA (es.take i) ar (a : Int))).length ≤ 100 := by
      have := wordsA_le (es.take i) ar (a : Int)
      simp at this
      omega
    by_cases h6 : (es.getD i z47).f6 = (a : Int)
    · by_cases hc : cnt ar (es.getD i z47) = true
      · rw [hst, if_pos (by rw [h6, hc]; simp)] at ih
        refine Ev.next 2 (H := fun k => (v22_added.f k (segs (wordsA (es.take i) ar (a : Int))) ((es.getD i z47).f7 / 16)).bind fun t263 => v22_Moves.l1 k es ar (acc : Int) (a : Int) t263 ((i + 1 : Nat) : Int)) ?_ fun k => ?_
        · exact Ev.step (added (segs (wordsA (es.take i) ar (a : Int))) ((es.getD i z47).f7 / 16) (by omega)) ih fun k hk => by rw [hk]; rfl
        · simp only [v22_Moves.l1, v22_Moves.j2]
          rw [if_pos (by omega), if_pos (by omega), rd47_nat, if_pos h6, counts, hc, Option.bind_some, if_pos rfl, if_pos (by omega), if_pos (by omega), segment _ hx.1 hx.2, Option.bind_some, w64 (by omega) (by omega)]
          rfl
      · rw [hst, if_neg (by rw [Bool.eq_false_iff.mpr hc]; simp)] at ih
        refine Ev.next 2 ih fun k => ?_
        simp only [v22_Moves.l1, v22_Moves.j2]
        rw [if_pos (by omega), if_pos (by omega), rd47_nat, if_pos h6, counts, Bool.eq_false_iff.mpr hc, Option.bind_some, if_neg (by simp), w64 (by omega) (by omega)]
        rfl
    · rw [hst, if_neg (by rw [decide_eq_false h6]; simp)] at ih
      refine Ev.next 2 ih fun k => ?_
      simp only [v22_Moves.l1, v22_Moves.j2]
      rw [if_pos (by omega), if_pos (by omega), rd47_nat, if_neg h6, if_neg (by simp), w64 (by omega) (by omega)]
      rfl
theorem moves_l0 : ∀ (d a : Nat), a + d = ar.length → Ev (fun k => v22_Moves.l0 k es ar (sumA es ar a : Int) (a : Int)) (sumA es ar ar.length : Int)
  | 0, a, h => by
    have : a = ar.length := by omega
    subst this
    refine Ev.done 1 fun k => ?_
    simp only [v22_Moves.l0]
    rw [if_neg (by omega)]
  | d + 1, a, h => by
    have ih := moves_l0 d (a + 1) (by omega)
    have hle := sumA_le es ar a
    have hb : a * es.length ≤ 12 * 100 := Nat.mul_le_mul (by omega) he
    refine Ev.next 1 (moves_l1 es ar he har hw a (by omega) (sumA es ar a) (by omega) _ (by rw [sumA] at ih; exact ih) es.length 0 (by omega)) fun k => ?_
    simp only [v22_Moves.l0]
    rw [if_pos (by omega)]
    rfl
theorem refMoves : Ev (fun k => v22_Moves.f k es ar) (((pairs es ar).foldl addP []).length : Int) := by
  have h := moves_l0 es ar he har hw ar.length 0 (by omega)
  rw [sumA_all] at h
  exact h
end
end Go.Proofs.YtnjeliicnbfclaaDoor.P
