/- Plain laws: CoalesceBounds' and CoalesceFewer's printed forms answer true. -/
import Derived.Test.YtnjeliicnbfclaaDoorLw
import Derived.Test.YtnjeliicnbfclaaDoorLf
import Derived.Test.YtnjeliicnbfclaaDoorPx9
namespace Go.Proofs.YtnjeliicnbfclaaDoor.P
open Go.RowKit Go.Proofs.YtnjeliicnbfclaaDoorW.PrintWords Go.Proofs.YtnjeliicnbfclaaDoorW.PrintLast Go.Proofs.YtnjeliicnbfclaaDoorW.PrintMore
set_option linter.unusedVariables false
set_option linter.unusedSimpArgs false

/-- The words of the lanes. -/
def wordsV (S lo st N c : Int) (pick : List Int) (s : Nat) : List Int := (List.range (onesAt 64 0 s).length).map (wordAt S lo st N c pick (lanesOf s))
theorem words_ev {an : Bool} {a1 a2 a3 lo hi st N : Int} (hf : Formed an a1 a2 a3 lo hi st N) (an' : Bool) (c : Int) (pick : List Int) (s : Nat) (hc1 : -1125899906842624 ≤ c) (hc2 : c ≤ 1125899906842624)
    (hp : ∀ p ∈ pick, 0 ≤ p ∧ p < 65536) (hpl : pick.length < 9223372036854775807) :
    Ev (fun k => w22_words.f k an' a1 a2 a3 lo hi st (lanesOf s) c pick) (wordsV (a1 + a2) lo st N c pick s) := by
  have := hf.a11; have := hf.a12; have := hf.a21; have := hf.a22; have := hf.lo1; have := hf.lo2
  have h := words_l0 an' a1 a2 a3 lo hi st N c pick s (by omega) (by omega) (by omega) (by omega) (by omega) (by omega) hf.st1 hf.st2 hf.n1 hf.n2 hf.hi hc1 hc2 hp hpl (onesAt 64 0 s).length 0 (by omega)
  exact h

/-- Each word: its lane, and an element of the rest. -/
theorem word_in {an : Bool} {a1 a2 a3 lo hi st N : Int} (hf : Formed an a1 a2 a3 lo hi st N) (c : Int) (pick : List Int) (s : Nat) : ∀ x ∈ wordsV (a1 + a2) lo st N c pick s, ∃ i ∈ onesAt 64 0 s, ∃ r : Int, x = c + (a1 + a2) * (i : Int) + (lo + r) ∧ 0 ≤ r ∧ r ≤ hi - lo := by
  intro x hx
  obtain ⟨i, hi, rfl⟩ := List.mem_map.1 hx
  have hi := List.mem_range.1 hi
  refine ⟨(onesAt 64 0 s).getD i 0, by simp [List.getD, List.getElem?_eq_getElem hi], _, by unfold wordAt; rw [lanesOf_getD s i hi], ?_⟩
  have e := hf.hi
  have hsp := hf.span
  split
  · have h1 : 0 ≤ pick.getD (i % pick.length) 0 % (N + 1) := Int.emod_nonneg _ (by have := hf.n1; omega)
    have h2 : pick.getD (i % pick.length) 0 % (N + 1) < N + 1 := Int.emod_lt_of_pos _ (by have := hf.n1; omega)
    have h3 := Int.mul_nonneg hf.st1 h1
    have h4 : st * (pick.getD (i % pick.length) 0 % (N + 1)) ≤ st * N := Int.mul_le_mul_of_nonneg_left (by omega) hf.st1
    omega
  · omega
theorem wordsV_length (S lo st N c : Int) (pick : List Int) (s : Nat) : (wordsV S lo st N c pick s).length = (onesAt 64 0 s).length := by simp [wordsV]

theorem bounds_le {an : Bool} {a1 a2 a3 lo hi st N : Int} (hf : Formed an a1 a2 a3 lo hi st N) (c : Int) (pick : List Int) (s : Nat) (h : s < 2 ^ 64) : ((segs (wordsV (a1 + a2) lo st N c pick s)).length : Int) ≤ staticV false (a1 + a2) lo hi st s := by
  have hlen := length_segs (wordsV (a1 + a2) lo st N c pick s)
  rw [wordsV_length] at hlen
  have hin := word_in hf c pick s
  have hsp := hf.span
  rw [staticV_eq]
  by_cases hz : onesAt 64 0 s = []
  · rw [if_pos (.inr hz)]
    omega
  · rw [if_neg (show ¬ (false = true ∨ onesAt 64 0 s = []) from fun h' => h'.elim (fun h'' => by cases h'') hz)]
    by_cases h0 : st = 0
    · rw [if_pos h0]
      have e : segs (wordsV (a1 + a2) lo st N c pick s) = segs (laneWords (c + lo) (a1 + a2) (onesAt 64 0 s)) := by
        refine segs_mem_ext fun y => ?_
        rw [laneWords_mem]
        have h00 := hsp.2.2.1 h0
        constructor
        · intro hy
          obtain ⟨i, hi, r, e, r1, r2⟩ := hin y hy
          exact ⟨i, hi, by omega⟩
        · rintro ⟨i, hi, rfl⟩
          obtain ⟨j, hj, hje⟩ := List.getElem_of_mem hi
          refine List.mem_map.2 ⟨j, List.mem_range.2 hj, ?_⟩
          unfold wordAt
          rw [if_neg (by omega), lanesOf_getD s j hj, List.getD, List.getElem?_eq_getElem hj]
          simp only [Option.getD_some, hje]
          omega
      rw [e]
      have := segs_le_most (a1 + a2) (onesAt 64 0 s) (c + lo)
      omega
    · rw [if_neg h0]
      have hs0 : s ≠ 0 := fun e => hz ((onesAt_nil s h).2 e)
      obtain ⟨n, hn, hn64, hend⟩ := ends s hs0 h
      unfold wideV
      rw [hn]
      have hlt := (hsp.2.2.2 h0).1
      -- the least word's lane
      have hwide : ∃ m : Int, ∀ x ∈ wordsV (a1 + a2) lo st N c pick s, m ≤ x ∧ x ≤ m + (max (a1 + a2) (-(a1 + a2)) * (n : Int) + (hi - lo)) := by
        obtain ⟨i0, l0, hl⟩ := List.exists_cons_of_ne_nil hz
        have hct : Lib.ctz 64 s ∈ onesAt 64 0 s := by
          rw [onesAt_step 64 0 s hs0 h]
          unfold Lib.ctz
          rw [if_neg hs0]
          simp
        have hbl : Lib.bitLen s - 1 ∈ onesAt 64 0 s := by
          have e := onesAt_last 64 0 s hs0 h
          have hb : Lib.bitLenAux 64 s = Lib.bitLen s := rfl
          have := List.mem_of_getLast? e
          rw [hb] at this
          simpa using this
        have hcb := ctz_lt_bitLen s hs0 h
        generalize a1 + a2 = S at *
        by_cases hS : 0 ≤ S
        · refine ⟨c + S * (Lib.ctz 64 s : Nat) + lo, fun x hx => ?_⟩
          obtain ⟨i, hi, r, e, r1, r2⟩ := hin x hx
          have g1 := onesAt_head s hs0 h i hi
          have g2 := onesAt_end s hs0 h i hi
          have m1 : S * ((Lib.ctz 64 s : Nat) : Int) ≤ S * (i : Int) := Int.mul_le_mul_of_nonneg_left (by omega) hS
          have m2 : S * (i : Int) ≤ S * ((Lib.ctz 64 s : Nat) : Int) + S * (n : Int) := by
            rw [← Int.mul_add]
            exact Int.mul_le_mul_of_nonneg_left (by omega) hS
          rw [show max S (-S) = S by omega]
          omega
        · refine ⟨c + S * ((Lib.bitLen s - 1 : Nat) : Int) + lo, fun x hx => ?_⟩
          obtain ⟨i, hi, r, e, r1, r2⟩ := hin x hx
          have g1 := onesAt_head s hs0 h i hi
          have g2 := onesAt_end s hs0 h i hi
          have m1 : S * ((Lib.bitLen s - 1 : Nat) : Int) ≤ S * (i : Int) := Int.mul_le_mul_of_nonpos_left (by omega) (by omega)
          have m2 : S * (i : Int) ≤ S * ((Lib.bitLen s - 1 : Nat) : Int) + (-S) * (n : Int) := by
            have : (-S) * (((Lib.bitLen s - 1 : Nat) : Int) - i) ≤ (-S) * (n : Int) := Int.mul_le_mul_of_nonneg_left (by omega) (by omega)
            rw [Int.mul_sub, Int.neg_mul, Int.neg_mul] at this
            omega
          rw [show max S (-S) = -S by omega]
          omega
      obtain ⟨m, hm⟩ := hwide
      have hp : 0 ≤ max (a1 + a2) (-(a1 + a2)) * (n : Int) := Int.mul_nonneg (by omega) (by omega)
      generalize max (a1 + a2) (-(a1 + a2)) * (n : Int) = y at *
      have := segs_width (xs := wordsV (a1 + a2) lo st N c pick s) (m := m) (wide := y + (hi - lo)) hm (by omega)
      omega

theorem segments_b (xs : List Int) (hl : xs.length ≤ 17592186044416) (hw : ∀ x ∈ xs, -9223372036854775808 ≤ x ∧ x ≤ 9223372036854775807) : coalesce_Segments.f xs = some (segs xs) := by
  unfold coalesce_Segments.f
  rw [if_pos ⟨hl, List.all_eq_true.2 fun x hx => wf_of (hw x hx).1 (hw x hx).2⟩]
theorem and63 (x : Int) : 0 ≤ Go.bits .and .i64 x 63 ∧ Go.bits .and .i64 x 63 ≤ 63 := by
  have e : Go.bits .and .i64 x 63 = IntKind.i64.wrap ((BitVec.ofInt 64 x &&& BitVec.ofInt 64 63).toNat : Int) := rfl
  have h : (BitVec.ofInt 64 x &&& BitVec.ofInt 64 63).toNat ≤ 63 := by
    rw [BitVec.toNat_and]
    exact Nat.and_le_right
  have e2 : ∀ n : Nat, n ≤ 63 → IntKind.i64.wrap (n : Int) = n := by
    intro n hn
    rw [IntKind.wrap_i64]
    omega
  rw [e, e2 _ h]
  omega

theorem bounds_pure (n0 : Bool) (n1 n2 n3 n4 n5 n6 : Int) (b7 : Bool) (c0 c1 c2 : Int) (pick : List Int) (w1 : (Lit.int .i16 n1).wf = true) (w2 : (Lit.int .i16 n2).wf = true) (w3 : (Lit.int .i16 n3).wf = true) (w4 : (Lit.int .i32 n4).wf = true) (w5 : (Lit.int .u16 n5).wf = true) (w6 : (Lit.int .u16 n6).wf = true)
    (v0 : (Lit.int .i64 c0).wf = true) (v1 : (Lit.int .i64 c1).wf = true) (v2 : (Lit.int .i64 c2).wf = true) (hp : ∀ p ∈ pick, (Lit.int .u16 p).wf = true) (hpl : pick.length < 9223372036854775807) :
    ∃ k, w22_CBounds.f k n0 n1 n2 n3 n4 n5 n6 b7 c0 c1 c2 pick = some true := by
  obtain ⟨a1, a2, a3, lo, hi, st, N, hform, hf⟩ := form_is false n1 n2 n3 n4 n5 n6 b7 w1 w2 w3 w4 w5 w6
  have k1 := wf_bounds v1
  have k0 := wf_bounds v0
  have hlanes := and63 c1
  have hact : 0 ≤ IntKind.u64.wrap c2 ∧ IntKind.u64.wrap c2 < 18446744073709551616 := by
    have : IntKind.u64.wrap c2 = c2 % 18446744073709551616 := rfl
    omega
  have hlw : wrap64 (1 + Go.bits .and .i64 c1 63) = 1 + Go.bits .and .i64 c1 63 := w64 (by omega) (by omega)
  have hlan := refLanes (1 + Go.bits .and .i64 c1 63) (IntKind.u64.wrap c2) hact.1 hact.2
  have hstat := fun an' => hf.static an' (1 + Go.bits .and .i64 c1 63) (IntKind.u64.wrap c2) (by omega) (by omega) hact.1 hact.2
  have hany := stat_is true 0 0 0 0 0 0 (1 + Go.bits .and .i64 c1 63) (IntKind.u64.wrap c2) (by omega) (by omega) (by omega) (by omega) (by omega) (by omega) (by omega) (by omega) (.inl rfl) (by omega) (by omega) hact.1 hact.2
  have hslt := set_lt (1 + Go.bits .and .i64 c1 63) (IntKind.u64.wrap c2)
  generalize setOfLanes (1 + Go.bits .and .i64 c1 63) (IntKind.u64.wrap c2) = s at *
  have hc1 := Int.tmod_lt_of_pos c0 (b := 1073741824) (by omega)
  have hc2 := Int.lt_tmod_of_pos c0 (b := 1073741824) (by omega)
  have hw := words_ev hf false (Int.tmod c0 1073741824) pick s (by omega) (by omega) (fun p hpp => by have := wf_u16 (hp p hpp); omega) hpl
  have hlen64 := onesAt_length 64 0 s
  have hseg : coalesce_Segments.f (wordsV (a1 + a2) lo st N (Int.tmod c0 1073741824) pick s) = some (segs (wordsV (a1 + a2) lo st N (Int.tmod c0 1073741824) pick s)) := by
    refine segments_b _ (by rw [wordsV_length]; omega) fun x hx => ?_
    obtain ⟨i, hi, r, e, r1, r2⟩ := word_in hf (Int.tmod c0 1073741824) pick s x hx
    have hi64 := (onesAt_mem 64 0 s i).1 hi
    have hsp := hf.span
    have := hf.a11; have := hf.a12; have := hf.a21; have := hf.a22; have := hf.lo1; have := hf.lo2
    have hm := mul_bound (a1 + a2) (by omega) (by omega) i
    omega
  have hle := bounds_le hf (Int.tmod c0 1073741824) pick s hslt
  have hle2 := staticV_le false (a1 + a2) lo hi st s
  have hanyv : staticV true (0 + 0) 0 0 0 s = ((onesAt 64 0 s).length : Int) := by
    unfold staticV
    exact if_pos (.inl rfl)
  refine (Ev.step examples (Ev.step hlan (Ev.step hw (Ev.all (F := fun _ => some true) fun _ => rfl) (F := fun k => (w22_words.f k false a1 a2 a3 lo hi st (lanesOf s) (Int.tmod c0 1073741824) pick).bind fun t413 => ((coalesce_Segments.f t413).bind fun t417 => (if (t417.length : Int) ≤ staticV false (a1 + a2) lo hi st s then some true else some false))) fun k hk => ?_)
    (F := fun k => (v22_Lanes.f k (1 + Go.bits .and .i64 c1 63) (IntKind.u64.wrap c2)).bind fun t409 => ((w22_words.f k false a1 a2 a3 lo hi st t409 (Int.tmod c0 1073741824) pick).bind fun t413 => ((coalesce_Segments.f t413).bind fun t417 => (if (t417.length : Int) ≤ staticV false (a1 + a2) lo hi st s then (if staticV false (a1 + a2) lo hi st s ≤ (t409.length : Int) then (if ((onesAt 64 0 s).length : Int) = (t409.length : Int) then some true else some false) else some false) else some false)))) fun k hk => ?_) fun k hk => ?_).some
  · simp only [hk, Option.bind_some, hseg]
    rw [if_pos hle]
  · simp only [hk, Option.bind_some]
    rw [lanesOf_length, if_pos hle2, if_pos rfl]
  · unfold w22_CBounds.f
    simp only [hk, Option.bind_some, hform, hlw, hstat, hany, hanyv, if_pos]
end Go.Proofs.YtnjeliicnbfclaaDoor.P
