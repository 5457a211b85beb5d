/- Plain laws of pairs of an array and a segment (the first part of Lm, over fewer imports). -/
import Derived.Test.YtnjeliicnbfclaaDoorLb
import Derived.Test.YtnjeliicnbfclaaDoorG2
namespace Go.Proofs.YtnjeliicnbfclaaDoor.P
open Go.RowKit Go.Proofs.YtnjeliicnbfclaaDoorW.PrintWords Go.Proofs.YtnjeliicnbfclaaDoorW.PrintLast Go.Proofs.YtnjeliicnbfclaaDoorW.PrintMore
set_option linter.unusedVariables false
set_option linter.unusedSimpArgs false
set_option linter.unusedSectionVars false

/-! ### the distinct pairs -/
theorem foldP_mem : ∀ (ps acc : List (Int × Int)) (p : Int × Int), p ∈ ps.foldl addP acc ↔ p ∈ acc ∨ p ∈ ps
  | [], acc, p => by simp
  | q :: ps, acc, p => by
    rw [List.foldl_cons, foldP_mem ps]
    unfold addP
    split
    · rename_i h
      constructor
      · rintro (h1 | h1)
        · exact .inl h1
        · exact .inr (List.mem_cons_of_mem _ h1)
      · rintro (h1 | h1)
        · exact .inl h1
        · rcases List.mem_cons.1 h1 with rfl | h1
          · exact .inl h
          · exact .inr h1
    · simp only [List.mem_append, List.mem_cons, List.not_mem_nil, or_false]
      constructor
      · rintro ((h1 | h1) | h1)
        · exact .inl h1
        · exact .inr (.inl h1)
        · exact .inr (.inr h1)
      · rintro (h1 | h1 | h1)
        · exact .inl (.inl h1)
        · exact .inl (.inr h1)
        · exact .inr h1
theorem foldP_nodup : ∀ (ps acc : List (Int × Int)), acc.Nodup → (ps.foldl addP acc).Nodup
  | [], acc, h => h
  | q :: ps, acc, h => by
    rw [List.foldl_cons]
    refine foldP_nodup ps _ ?_
    unfold addP
    split
    · exact h
    · rename_i hq
      rw [List.nodup_append]
      refine ⟨h, by simp, fun a ha b hb => ?_⟩
      rw [List.mem_singleton] at hb
      subst hb
      rintro rfl
      exact hq ha

/-- The words of one array's accesses. -/
def wordsA (es : List S47) (ar : List S31) (a : Int) : List Int := (es.filter fun x => decide (x.f6 = a) && cnt ar x).map fun x => x.f7
theorem wordsA_mem (es : List S47) (ar : List S31) (a y : Int) : y ∈ segs (wordsA es ar a) ↔ (a, y) ∈ pairs es ar := by
  rw [mem_segs]
  unfold wordsA pairs
  simp only [List.mem_map, List.mem_filter, Bool.and_eq_true, decide_eq_true_eq, Prod.mk.injEq]
  constructor
  · rintro ⟨x, ⟨e, ⟨he, h6, hc⟩, rfl⟩, rfl⟩
    exact ⟨e, ⟨he, hc⟩, h6, rfl⟩
  · rintro ⟨e, ⟨he, hc⟩, h6, h7⟩
    exact ⟨e.f7, ⟨e, ⟨he, h6, hc⟩, rfl⟩, h7⟩
def sumA (es : List S47) (ar : List S31) : Nat → Nat
  | 0 => 0
  | n + 1 => sumA es ar n + (segs (wordsA es ar (n : Int))).length
theorem wordsA_le (es : List S47) (ar : List S31) (a : Int) : (segs (wordsA es ar a)).length ≤ es.length := by
  have h1 := length_segs (wordsA es ar a)
  have h2 : (wordsA es ar a).length ≤ es.length := by
    unfold wordsA
    rw [List.length_map]
    exact List.length_filter_le _ _
  omega
theorem countP_split (n : Int) : ∀ L : List (Int × Int), L.countP (fun p => decide (p.1 < n + 1)) = L.countP (fun p => decide (p.1 < n)) + L.countP (fun p => decide (p.1 = n))
  | [] => by simp
  | p :: L => by
    rw [List.countP_cons, List.countP_cons, List.countP_cons, countP_split n L]
    by_cases h1 : p.1 < n
    · rw [if_pos (by simp; omega), if_pos (by simpa using h1), if_neg (by simp; omega)]
      omega
    · by_cases h2 : p.1 = n
      · rw [if_pos (by simp; omega), if_neg (by simpa using h1), if_pos (by simpa using h2)]
        omega
      · rw [if_neg (by simp; omega), if_neg (by simpa using h1), if_neg (by simpa using h2)]
        omega
theorem countP_at (es : List S47) (ar : List S31) (a : Int) : ((pairs es ar).foldl addP []).countP (fun p => decide (p.1 = a)) = (segs (wordsA es ar a)).length := by
  rw [List.countP_eq_length_filter]
  have hn : ((((pairs es ar).foldl addP []).filter fun p => decide (p.1 = a)).map fun p => p.2).Nodup := by
    refine List.pairwise_map.2 ?_
    have := (foldP_nodup (pairs es ar) [] List.nodup_nil).filter (fun p => decide (p.1 = a))
    refine List.Pairwise.imp_of_mem ?_ this
    intro p q hp hq hne he
    have h1 := (List.mem_filter.1 hp).2
    have h2 := (List.mem_filter.1 hq).2
    simp only [decide_eq_true_eq] at h1 h2
    exact hne (Prod.ext (h1.trans h2.symm) he)
  have hm : ∀ y, y ∈ ((((pairs es ar).foldl addP []).filter fun p => decide (p.1 = a)).map fun p => p.2) ↔ y ∈ segs (wordsA es ar a) := by
    intro y
    rw [wordsA_mem, List.mem_map]
    constructor
    · rintro ⟨p, hp, rfl⟩
      obtain ⟨h1, h2⟩ := List.mem_filter.1 hp
      simp only [decide_eq_true_eq] at h2
      have := (foldP_mem _ _ _).1 h1
      rw [← h2]
      simpa using this
    · intro h
      refine ⟨(a, y), List.mem_filter.2 ⟨(foldP_mem _ _ _).2 (.inr h), by simp⟩, rfl⟩
  have h1 := nodup_sub _ _ hn (fun y hy => (hm y).1 hy)
  have h2 := nodup_sub _ _ (inc_nodup (inc_segs (wordsA es ar a))) (fun y hy => (hm y).2 hy)
  rw [List.length_map] at h1 h2
  omega
theorem cnt_bounds {ar : List S31} {x : S47} (h : cnt ar x = true) : 0 ≤ x.f6 ∧ x.f6 < ar.length := by
  unfold cnt at h
  simp only [Bool.and_eq_true, decide_eq_true_eq] at h
  exact ⟨h.2.1, h.2.2.1⟩
theorem sumA_count (es : List S47) (ar : List S31) : ∀ n : Nat, ((pairs es ar).foldl addP []).countP (fun p => decide (p.1 < (n : Int))) = sumA es ar n
  | 0 => by
    rw [sumA, List.countP_eq_zero]
    intro p hp
    have := (foldP_mem _ _ _).1 hp
    simp only [List.not_mem_nil, false_or] at this
    unfold pairs at this
    obtain ⟨x, hx, rfl⟩ := List.mem_map.1 this
    have := cnt_bounds (List.mem_filter.1 hx).2
    simp
    omega
  | n + 1 => by
    have h := countP_split (n : Int) ((pairs es ar).foldl addP [])
    rw [show (((n + 1 : Nat)) : Int) = (n : Int) + 1 by omega, h, sumA_count es ar n, countP_at, sumA]
theorem sumA_all (es : List S47) (ar : List S31) : sumA es ar ar.length = ((pairs es ar).foldl addP []).length := by
  rw [← sumA_count]
  refine List.countP_eq_length.2 fun p hp => ?_
  have := (foldP_mem _ _ _).1 hp
  simp only [List.not_mem_nil, false_or] at this
  unfold pairs at this
  obtain ⟨x, hx, rfl⟩ := List.mem_map.1 this
  have := cnt_bounds (List.mem_filter.1 hx).2
  simp
  omega
theorem sumA_le (es : List S47) (ar : List S31) : ∀ n, sumA es ar n ≤ n * es.length
  | 0 => by simp [sumA]
  | n + 1 => by
    have := sumA_le es ar n
    have := wordsA_le es ar (n : Int)
    rw [sumA, Nat.add_mul, Nat.one_mul]
    omega

end Go.Proofs.YtnjeliicnbfclaaDoor.P
