/- Plain law: CoalesceFewer's printed form answers true. -/
import Derived.Test.YtnjeliicnbfclaaDoorLf
import Derived.Test.YtnjeliicnbfclaaDoorPx11
namespace Go.Proofs.YtnjeliicnbfclaaDoor.P
open Go.RowKit Go.Proofs.YtnjeliicnbfclaaDoorW.PrintWords Go.Proofs.YtnjeliicnbfclaaDoorW.PrintLast Go.Proofs.YtnjeliicnbfclaaDoorW.PrintMore
set_option linter.unusedVariables false
set_option linter.unusedSimpArgs false

theorem ones_test (s i : Nat) : i ∈ onesAt 64 0 s ↔ i < 64 ∧ s.testBit i = true := by
  rw [onesAt_mem, Nat.sub_zero, Nat.testBit_eq_decide_div_mod_eq]
  simp
theorem ones_and (x y : Nat) : ∀ i ∈ onesAt 64 0 (x &&& y), i ∈ onesAt 64 0 x := by
  intro i hi
  rw [ones_test, Nat.testBit_and] at hi
  rw [ones_test]
  simp only [Bool.and_eq_true] at hi
  exact ⟨hi.1, hi.2.1⟩
theorem ones_mod (x m : Nat) : ∀ i ∈ onesAt 64 0 (x % 2 ^ m), i ∈ onesAt 64 0 x := by
  intro i hi
  rw [ones_test, Nat.testBit_mod_two_pow] at hi
  rw [ones_test]
  simp only [Bool.and_eq_true] at hi
  exact ⟨hi.1, hi.2.2⟩
theorem wf_u64' {x : Int} (h : (Lit.int .u64 x).wf = true) : 0 ≤ x ∧ x < 18446744073709551616 := by
  simp only [Lit.wf, decide_eq_true_eq, Bool.and_eq_true] at h
  have e1 : IntKind.u64.min = 0 := by rfl
  have e2 : IntKind.u64.max = 18446744073709551615 := by rfl
  omega
theorem set64 (x : Nat) (hx : x < 18446744073709551616) : setOfLanes 64 (x : Int) = x := by
  unfold setOfLanes
  have e : (min (max (64 : Int) 0) 64).toNat = 64 := rfl
  rw [e, Int.toNat_natCast]
  exact Nat.mod_eq_of_lt hx
theorem set20 (x : Nat) : setOfLanes 20 (x : Int) = x % 2 ^ 20 := by
  unfold setOfLanes
  have e : (min (max (20 : Int) 0) 64).toNat = 20 := rfl
  rw [e, Int.toNat_natCast]

theorem fewer_j1 {an : Bool} {a1 a2 a3 lo hi st N : Int} (hf : Formed an a1 a2 a3 lo hi st N) (x y : Nat) (hx : x < 18446744073709551616) (hy : y < 18446744073709551616) (hi2 : Int) (h2 : coalesce_Static.f an a1 a2 a3 lo hi2 st 64 (x : Int) = some (staticV an (a1 + a2) lo hi2 st x)) (h2' : staticV an (a1 + a2) lo hi2 st x ≤ staticV an (a1 + a2) lo hi st x) (g : Int) :
    Ev (fun k => w22_CFewer.j1 k (x : Int) (y : Int) true (staticV an (a1 + a2) lo hi st x) an a1 a2 a3 lo hi st an a1 a2 g (wrap64 (lo + 5)) (wrap64 (hi + 5)) st an a1 a2 a3 lo hi2 st) true := by
  have hsp := hf.span
  have := hf.a11; have := hf.a12; have := hf.a21; have := hf.a22; have := hf.lo1; have := hf.lo2
  have hxy : x &&& y < 18446744073709551616 := Nat.lt_of_le_of_lt Nat.and_le_left hx
  have s1 := hf.static an 64 ((x &&& y : Nat) : Int) (by omega) (by omega) (by omega) (by omega)
  rw [set64 _ hxy] at s1
  have m1 := staticV_mono an (a1 + a2) lo hi lo hi st st (x &&& y) x hxy hx (ones_and x y) Iff.rfl (by omega) (fun h0 => (hsp.2.2.2 h0).1)
  have s2 := stat_is an a1 a2 g (lo + 5) (hi + 5) st 64 (x : Int) (by omega) (by omega) (by omega) (by omega) (by omega) (by omega) (by omega) (by omega) (by by_cases h0 : st = 0; exact .inl h0; exact .inr (by have := (hsp.2.2.2 h0).1; omega)) (by omega) (by omega) (by omega) (by omega)
  rw [set64 x hx] at s2
  have m2 : staticV an (a1 + a2) (lo + 5) (hi + 5) st x = staticV an (a1 + a2) lo hi st x := by
    rw [staticV_eq, staticV_eq, show hi + 5 - (lo + 5) = hi - lo by omega]
  have s4 := hf.static an 20 (x : Int) (by omega) (by omega) (by omega) (by omega)
  rw [set20] at s4
  have h20 : x % 2 ^ 20 < 2 ^ 64 := Nat.lt_of_lt_of_le (Nat.mod_lt _ (by decide)) (by decide)
  have m4 := staticV_mono an (a1 + a2) lo hi lo hi st st (x % 2 ^ 20) x h20 hx (ones_mod x 20) Iff.rfl (by omega) (fun h0 => (hsp.2.2.2 h0).1)
  refine Ev.done 1 fun k => ?_
  simp only [w22_CFewer.j1]
  rw [bits_and_u64_nat x y hx hy, s1, Option.bind_some, if_pos m1, w64 (n := lo + 5) (by omega) (by omega), w64 (n := hi + 5) (by omega) (by omega), s2, Option.bind_some, m2, if_pos rfl, h2, Option.bind_some, if_pos h2', s4, Option.bind_some, if_pos m4]

theorem fewer_pure (n0 : Bool) (n1 n2 n3 n4 n5 n6 : Int) (b7 : Bool) (x y : Int) (w1 : (Lit.int .i16 n1).wf = true) (w2 : (Lit.int .i16 n2).wf = true) (w3 : (Lit.int .i16 n3).wf = true) (w4 : (Lit.int .i32 n4).wf = true) (w5 : (Lit.int .u16 n5).wf = true) (w6 : (Lit.int .u16 n6).wf = true)
    (hx1 : 0 ≤ x) (hx2 : x < 18446744073709551616) (hy1 : 0 ≤ y) (hy2 : y < 18446744073709551616) :
    ∃ k, w22_CFewer.f k n0 n1 n2 n3 n4 n5 n6 b7 x y = some true := by
  obtain ⟨a1, a2, a3, lo, hi, st, N, hform, hf⟩ := form_is n0 n1 n2 n3 n4 n5 n6 b7 w1 w2 w3 w4 w5 w6
  obtain ⟨x, rfl⟩ := Int.eq_ofNat_of_zero_le hx1
  obtain ⟨y, rfl⟩ := Int.eq_ofNat_of_zero_le hy1
  have hsp := hf.span
  have := hf.a11; have := hf.a12; have := hf.a21; have := hf.a22; have := hf.lo1; have := hf.lo2; have := hf.st1; have := hf.st2
  have hx : x < 18446744073709551616 := by omega
  have s0 := hf.static n0 64 (x : Int) (by omega) (by omega) (by omega) (by omega)
  rw [set64 x hx] at s0
  have same := fewer_j1 hf x y hx (by omega) hi s0 (Int.le_refl _) (wrap64 (7 - a3))
  have body : Ev (fun k => if st > 0 then (w22_CFewer.j0 k (x : Int) (y : Int) true (staticV n0 (a1 + a2) lo hi st x) (decide ((wrap64 (hi - st)) > lo)) n0 a1 a2 a3 lo hi st n0 a1 a2 (wrap64 (7 - a3)) (wrap64 (lo + 5)) (wrap64 (hi + 5)) st n0 a1 a2 a3 lo hi st)
      else (w22_CFewer.j0 k (x : Int) (y : Int) true (staticV n0 (a1 + a2) lo hi st x) false n0 a1 a2 a3 lo hi st n0 a1 a2 (wrap64 (7 - a3)) (wrap64 (lo + 5)) (wrap64 (hi + 5)) st n0 a1 a2 a3 lo hi st)) true := by
    by_cases h1 : st > 0
    · have hw : wrap64 (hi - st) = hi - st := w64 (by omega) (by omega)
      by_cases h3 : hi - st > lo
      · have s3 := stat_is n0 a1 a2 a3 lo (hi - st) st 64 (x : Int) (by omega) (by omega) (by omega) (by omega) (by omega) (by omega) (by omega) (by omega) (.inr (by omega)) (by omega) (by omega) (by omega) (by omega)
        rw [set64 x hx] at s3
        have m3 := staticV_mono n0 (a1 + a2) lo (hi - st) lo hi st st x x hx hx (fun i h => h) Iff.rfl (by omega) (fun h0 => (hsp.2.2.2 h0).1)
        refine Ev.next 1 (fewer_j1 hf x y hx (by omega) (hi - st) s3 m3 (wrap64 (7 - a3))) fun k => ?_
        rw [if_pos h1, hw]
        simp only [w22_CFewer.j0]
        rw [if_pos (decide_eq_true h3), hw]
      · refine Ev.next 1 same fun k => ?_
        rw [if_pos h1, hw]
        simp only [w22_CFewer.j0]
        rw [if_neg (by simpa using h3)]
    · refine Ev.next 1 same fun k => ?_
      rw [if_neg h1]
      simp only [w22_CFewer.j0]
      rw [if_neg (by simp)]
  refine (Ev.step examples body fun k hk => ?_).some
  unfold w22_CFewer.f
  rw [hk, Option.bind_some, if_pos rfl, hform, Option.bind_some]
  simp only []
  rw [s0, Option.bind_some]
end Go.Proofs.YtnjeliicnbfclaaDoor.P
