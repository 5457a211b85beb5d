/- Plain law: the words that the lanes access. -/
import Derived.Test.YtnjeliicnbfclaaDoorLc
import Derived.Test.YtnjeliicnbfclaaDoorPx8
namespace Go.Proofs.YtnjeliicnbfclaaDoor.P
open Go.RowKit Go.Proofs.YtnjeliicnbfclaaDoorW.PrintWords Go.Proofs.YtnjeliicnbfclaaDoorW.PrintLast Go.Proofs.YtnjeliicnbfclaaDoorW.PrintMore
set_option linter.unusedVariables false
set_option linter.unusedSimpArgs false

/-! ### the words -/
def wordAt (S lo st N c : Int) (pick l : List Int) (i : Nat) : Int := c + S * l.getD i 0 + (lo + (if 0 < st ∧ pick ≠ [] then st * (pick.getD (i % pick.length) 0 % (N + 1)) else 0))
theorem words_l0 (an : Bool) (a1 a2 a3 lo hi st N c : Int) (pick : List Int) (s : Nat) (h11 : -2199023255552 ≤ a1) (h12 : a1 ≤ 2199023255552) (h21 : -2199023255552 ≤ a2) (h22 : a2 ≤ 2199023255552)
    (hlo1 : -1125899906842624 ≤ lo) (hlo2 : lo ≤ 1125899906842624) (hst : 0 ≤ st) (hst2 : st ≤ 64) (hN : 0 ≤ N) (hN2 : N ≤ 7) (hhi : hi = lo + st * N) (hc1 : -1125899906842624 ≤ c) (hc2 : c ≤ 1125899906842624)
    (hp : ∀ p ∈ pick, 0 ≤ p ∧ p < 65536) (hpl : pick.length < 9223372036854775807) :
    ∀ (d i : Nat), i + d = (onesAt 64 0 s).length → Ev (fun k => w22_words.l0 k (lanesOf s) c pick ((List.range i).map (wordAt (a1 + a2) lo st N c pick (lanesOf s))) (i : Int) an a1 a2 a3 lo hi st) ((List.range (onesAt 64 0 s).length).map (wordAt (a1 + a2) lo st N c pick (lanesOf s)))
  | 0, i, h => by
    have hi' : i = (onesAt 64 0 s).length := by omega
    subst hi'
    refine Ev.done 1 fun k => ?_
    simp only [w22_words.l0]
    rw [if_neg (by rw [lanesOf_length]; omega)]
  | d + 1, i, h => by
    have hi' : i < (onesAt 64 0 s).length := by omega
    have hlen := onesAt_length 64 0 s
    have hlt := onesAt_lt s i hi'
    have ih := words_l0 an a1 a2 a3 lo hi st N c pick s h11 h12 h21 h22 hlo1 hlo2 hst hst2 hN hN2 hhi hc1 hc2 hp hpl d (i + 1) (by omega)
    rw [List.range_succ, List.map_append, List.map_singleton] at ih
    have hb := mul_bound (a1 + a2) (by omega) (by omega) ((onesAt 64 0 s).getD i 0)
    have hS : wrap64 (a1 + a2) = a1 + a2 := w64 (by omega) (by omega)
    refine Ev.next 1 ih fun k => ?_
    simp only [w22_words.l0]
    rw [if_pos (by rw [lanesOf_length]; omega), hS, rd_nat, lanesOf_getD s i hi', w64 (n := (a1 + a2) * (((onesAt 64 0 s).getD i 0 : Nat) : Int)) (by omega) (by omega), w64 (n := c + (a1 + a2) * (((onesAt 64 0 s).getD i 0 : Nat) : Int)) (by omega) (by omega), w64 (n := (i : Int) + 1) (by omega) (by omega)]
    have hlen2 : ((List.range i).map (wordAt (a1 + a2) lo st N c pick (lanesOf s))).length < 17592186044416 := by simp; omega
    have plain : ¬ (0 < st ∧ pick ≠ []) → wordAt (a1 + a2) lo st N c pick (lanesOf s) i = wrap64 (c + (a1 + a2) * (((onesAt 64 0 s).getD i 0 : Nat) : Int) + lo) := fun hno => by
      unfold wordAt
      rw [if_neg hno, lanesOf_getD s i hi', w64 (by omega) (by omega)]
      omega
    by_cases h1 : st > 0
    · rw [if_pos h1]
      by_cases h2 : (pick.length : Int) > 0
      · have hpn : pick ≠ [] := by rintro rfl; simp at h2
        have hm : Int.tmod (i : Int) (pick.length : Int) = ((i % pick.length : Nat) : Int) := rfl
        have hml : i % pick.length < pick.length := Nat.mod_lt _ (by omega)
        have hpi := hp (pick.getD (i % pick.length) 0) (by simp [List.getD, List.getElem?_eq_getElem hml])
        have hsub : wrap64 (hi - lo) = st * N := by
          have : 0 ≤ st * N := Int.mul_nonneg hst hN
          have : st * N ≤ 64 * 7 := Int.mul_le_mul hst2 hN2 hN (by omega)
          rw [hhi, w64 (by omega) (by omega)]
          omega
        have hdiv : Int.tdiv (st * N) st = N := Int.mul_tdiv_cancel_left N (by omega)
        have hmod : Int.tmod (pick.getD (i % pick.length) 0) (N + 1) = pick.getD (i % pick.length) 0 % (N + 1) := Int.tmod_eq_emod_of_nonneg hpi.1
        have hm1 : 0 ≤ pick.getD (i % pick.length) 0 % (N + 1) := Int.emod_nonneg _ (by omega)
        have hm2 : pick.getD (i % pick.length) 0 % (N + 1) < N + 1 := Int.emod_lt_of_pos _ (by omega)
        have hp1 : 0 ≤ st * (pick.getD (i % pick.length) 0 % (N + 1)) := Int.mul_nonneg hst hm1
        have hp2 : st * (pick.getD (i % pick.length) 0 % (N + 1)) ≤ 64 * 7 := Int.mul_le_mul hst2 (by omega) hm1 (by omega)
        rw [if_pos h2, if_neg (by omega), if_neg (by omega), hm, if_pos (by omega), if_pos (by omega), hsub, hdiv, w64 (n := N) (by omega) (by omega), w64 (n := N + 1) (by omega) (by omega), if_neg (by omega), if_pos (by omega), if_pos hlen2, rd_nat, w64 (n := pick.getD (i % pick.length) 0) (by omega) (by omega), hmod, w64 (n := st * (pick.getD (i % pick.length) 0 % (N + 1))) (by omega) (by omega), w64 (n := lo + st * (pick.getD (i % pick.length) 0 % (N + 1))) (by omega) (by omega), w64 (by omega) (by omega)]
        have : wordAt (a1 + a2) lo st N c pick (lanesOf s) i = c + (a1 + a2) * (((onesAt 64 0 s).getD i 0 : Nat) : Int) + (lo + st * (pick.getD (i % pick.length) 0 % (N + 1))) := by
          unfold wordAt
          rw [if_pos ⟨h1, hpn⟩, lanesOf_getD s i hi']
        rw [this]
        rfl
      · rw [if_neg h2, if_pos (by omega), if_pos hlen2, plain (fun ⟨_, hq⟩ => h2 (by have := List.length_pos_iff.2 hq; omega))]
        rfl
    · rw [if_neg h1, if_pos (by omega), if_pos hlen2, plain (fun ⟨hq, _⟩ => h1 hq)]
      rfl
end Go.Proofs.YtnjeliicnbfclaaDoor.P
