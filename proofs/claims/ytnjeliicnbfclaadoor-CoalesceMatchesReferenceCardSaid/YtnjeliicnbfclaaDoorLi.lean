/- Plain law: CoalesceMatchesReference's printed form answers true. -/
import Derived.Test.YtnjeliicnbfclaaDoorLf
import Derived.Test.YtnjeliicnbfclaaDoorLm
import Derived.Test.YtnjeliicnbfclaaDoorPx5
namespace Go.Proofs.YtnjeliicnbfclaaDoor.P
open Go.RowKit Go.Proofs.YtnjeliicnbfclaaDoorW.PrintWords Go.Proofs.YtnjeliicnbfclaaDoorW.PrintLast Go.Proofs.YtnjeliicnbfclaaDoorW.PrintMore
set_option linter.unusedVariables false
set_option linter.unusedSimpArgs false
set_option linter.unusedSectionVars false

theorem andm63 (x : Int) : 0 ≤ Go.bits .and .i64 x 63 ∧ Go.bits .and .i64 x 63 ≤ 63 := by
  have e : Go.bits .and .i64 x 63 = IntKind.i64.wrap ((BitVec.ofInt 64 x &&& BitVec.ofInt 64 63).toNat : Int) := rfl
  have h : (BitVec.ofInt 64 x &&& BitVec.ofInt 64 63).toNat ≤ 63 := by
    rw [BitVec.toNat_and]
    exact Nat.and_le_right
  have e2 : ∀ n : Nat, n ≤ 63 → IntKind.i64.wrap (n : Int) = n := by
    intro n hn
    rw [IntKind.wrap_i64]
    omega
  rw [e, e2 _ h]
  omega
theorem u64_range (n : Int) : 0 ≤ IntKind.u64.wrap n ∧ IntKind.u64.wrap n < 18446744073709551616 := by
  have : IntKind.u64.wrap n = n % 18446744073709551616 := rfl
  omega
theorem xor_range (a b : Int) : 0 ≤ Go.bits .xor .u64 a b ∧ Go.bits .xor .u64 a b < 18446744073709551616 := by
  have e : ∃ n, Go.bits .xor .u64 a b = IntKind.u64.wrap n := ⟨_, rfl⟩
  obtain ⟨n, hn⟩ := e
  rw [hn]
  exact u64_range n
theorem segments_is (xs : List Int) (hl : xs.length ≤ 17592186044416) (hw : ∀ x ∈ xs, -9223372036854775808 ≤ x ∧ x ≤ 9223372036854775807) : coalesce_Segments.f xs = some (segs xs) := by
  unfold coalesce_Segments.f
  rw [if_pos ⟨hl, List.all_eq_true.2 fun x hx => wf_of (hw x hx).1 (hw x hx).2⟩]
theorem moves_is (es : List S47) (ar : List S31) (hl : es.length ≤ 17592186044416) (hw : ∀ x ∈ es, wfI x.f6 = true ∧ wfI x.f7 = true) : coalesce_Moves.f es ar = some (((pairs es ar).foldl addP []).length : Int) := by
  unfold coalesce_Moves.f
  rw [if_pos ⟨hl, List.all_eq_true.2 fun x hx => by rw [(hw x hx).1, (hw x hx).2]; rfl⟩]

section
variable (l : List Int) (es : List S47) (hl : l.length ≤ 100) (he : es.length ≤ 100) (hw : ∀ x ∈ l, -9223372036854775808 ≤ x ∧ x ≤ 9223372036854775807) (hwe : ∀ x ∈ es, wfI x.f6 = true ∧ wfI x.f7 = true)
include hl he hw hwe
theorem match_end (ar : List S31) (har : ar.length ≤ 12) (x11 : Int) (an : Bool) (a1 a2 a3 lo hi st : Int) : Ev (fun k => w22_CMatchesReference.j4 k l es true ar x11 false an a1 a2 a3 lo hi st) true := by
  have s1 := segments_is l (by omega) hw
  have hlen := length_segs l
  have hm := refMoves es ar he har (fun x hx => wfI_bounds (hwe x hx).2)
  refine Ev.next 1 (H := fun k => (v22_Segments.f k l).bind fun t298 => ((v22_SameInts.f k (segs l) t298).bind fun t301 => (if t301 = true then ((coalesce_Moves.f es ar).bind fun t302 => ((v22_Moves.f k es ar).bind fun t303 => (if t302 = t303 then (some true) else (some false)))) else (some false)))) ?_ fun k => ?_
  · refine Ev.step (refSegments l (by omega) hw) (Ev.step (F := fun k => (v22_SameInts.f k (segs l) (segs l)).bind fun t301 => (if t301 = true then ((coalesce_Moves.f es ar).bind fun t302 => ((v22_Moves.f k es ar).bind fun t303 => (if t302 = t303 then (some true) else (some false)))) else (some false))) (sameInts (segs l) (by omega)) (Ev.step hm (Ev.all (F := fun _ => some true) fun _ => rfl)
      (F := fun k => (coalesce_Moves.f es ar).bind fun t302 => ((v22_Moves.f k es ar).bind fun t303 => (if t302 = t303 then (some true) else (some false)))) fun k hk => ?_) fun k hk => ?_) fun k hk => ?_
    · rw [moves_is es ar (by omega) hwe, Option.bind_some, hk, Option.bind_some, if_pos rfl]
    · rw [hk, Option.bind_some, if_pos rfl]
    · rw [hk, Option.bind_some]
  · simp only [w22_CMatchesReference.j4]
    rw [if_neg (by simp), s1, Option.bind_some]

theorem match_l1 (ar : List S31) (har : ar.length ≤ 12) {an : Bool} {a1 a2 a3 lo hi st N : Int} (hf : Formed an a1 a2 a3 lo hi st N) :
    ∀ (d i : Nat), i + d = 8 → Ev (fun k => w22_CMatchesReference.l1 k l es true ar (i : Int) an a1 a2 a3 lo hi st) true
  | 0, i, h => by
    refine Ev.next 1 (match_end l es hl he hw hwe ar har (i : Int) an a1 a2 a3 lo hi st) fun k => ?_
    simp only [w22_CMatchesReference.l1]
    rw [show decide ((i : Int) < 8) = false from decide_eq_false (by omega)]
    split <;> rfl
  | d + 1, i, h => by
    by_cases hi' : i < l.length
    · have ih := match_l1 ar har hf d (i + 1) (by omega)
      have hx := hw (l.getD i 0) (by simp [List.getD, List.getElem?_eq_getElem hi'])
      have hsp := hf.span
      have h6 : lo = hi ↔ st = 0 := by
        constructor
        · intro e
          by_cases h0 : st = 0
          · exact h0
          · have := (hsp.2.2.2 h0).1
            omega
        · intro h0
          exact (hsp.2.2.1 h0).symm
      have r1 := u64_range (l.getD i 0)
      have r2 := xor_range 18446744073709551615 (IntKind.u64.wrap (l.getD i 0))
      have r3 := andm63 (l.getD i 0)
      have s1 := hf.static an (l.getD i 0) (IntKind.u64.wrap (l.getD i 0)) hx.1 hx.2 r1.1 r1.2
      have s2 := hf.static an (1 + Go.bits .and .i64 (l.getD i 0) 63) (Go.bits .xor .u64 18446744073709551615 (IntKind.u64.wrap (l.getD i 0))) (by omega) (by omega) r2.1 r2.2
      have e1 := refStatic an a1 a2 a3 lo hi st (l.getD i 0) (IntKind.u64.wrap (l.getD i 0)) _ s1 h6
      have e2 := refStatic an a1 a2 a3 lo hi st (1 + Go.bits .and .i64 (l.getD i 0) 63) (Go.bits .xor .u64 18446744073709551615 (IntKind.u64.wrap (l.getD i 0))) _ s2 h6
      generalize staticV an (a1 + a2) lo hi st (setOfLanes (l.getD i 0) (IntKind.u64.wrap (l.getD i 0))) = v1 at *
      generalize staticV an (a1 + a2) lo hi st (setOfLanes (1 + Go.bits .and .i64 (l.getD i 0) 63) (Go.bits .xor .u64 18446744073709551615 (IntKind.u64.wrap (l.getD i 0)))) = v2 at *
      refine Ev.next 2 (H := fun k => (v22_Static.f k an a1 a2 a3 lo hi st (l.getD i 0) (IntKind.u64.wrap (l.getD i 0))).bind fun t288 => (if v1 = t288 then ((v22_Static.f k an a1 a2 a3 lo hi st (1 + Go.bits .and .i64 (l.getD i 0) 63) (Go.bits .xor .u64 18446744073709551615 (IntKind.u64.wrap (l.getD i 0)))).bind fun t294 => (if v2 = t294 then (w22_CMatchesReference.l1 k l es true ar ((i + 1 : Nat) : Int) an a1 a2 a3 lo hi st) else (some false))) else (some false))) ?_ fun k => ?_
      · refine Ev.step e1 (Ev.step e2 ih (F := fun k => (v22_Static.f k an a1 a2 a3 lo hi st (1 + Go.bits .and .i64 (l.getD i 0) 63) (Go.bits .xor .u64 18446744073709551615 (IntKind.u64.wrap (l.getD i 0)))).bind fun t294 => (if v2 = t294 then (w22_CMatchesReference.l1 k l es true ar ((i + 1 : Nat) : Int) an a1 a2 a3 lo hi st) else (some false))) fun k hk => ?_) fun k hk => ?_
        · rw [hk, Option.bind_some, if_pos rfl]
        · rw [hk, Option.bind_some, if_pos rfl]
      · simp only [w22_CMatchesReference.l1, w22_CMatchesReference.j4]
        rw [if_pos (by omega), show decide ((i : Int) < 8) = true from decide_eq_true (by omega), if_pos rfl, if_pos (by omega), if_pos (by omega), rd_nat, s1, Option.bind_some, w64 (n := 1 + Go.bits .and .i64 (l.getD i 0) 63) (by omega) (by omega), s2, w64 (n := (i : Int) + 1) (by omega) (by omega)]
        rfl
    · refine Ev.next 1 (match_end l es hl he hw hwe ar har (i : Int) an a1 a2 a3 lo hi st) fun k => ?_
      simp only [w22_CMatchesReference.l1]
      rw [if_neg (by omega)]

theorem match_j2 (ar : List S31) (har : ar.length ≤ 12) (n0 : Bool) (n1 n2 n3 n4 n5 n6 : Int) (b7 : Bool) (w1 : (Lit.int .i16 n1).wf = true) (w2 : (Lit.int .i16 n2).wf = true) (w3 : (Lit.int .i16 n3).wf = true) (w4 : (Lit.int .i32 n4).wf = true) (w5 : (Lit.int .u16 n5).wf = true) (w6 : (Lit.int .u16 n6).wf = true) :
    Ev (fun k => w22_CMatchesReference.j2 k l es true ar n0 n1 n2 n3 n4 n5 n6 b7) true := by
  obtain ⟨a1, a2, a3, lo, hi, st, N, hform, hf⟩ := form_is n0 n1 n2 n3 n4 n5 n6 b7 w1 w2 w3 w4 w5 w6
  refine Ev.next 1 (match_l1 l es hl he hw hwe ar har hf 8 0 (by omega)) fun k => ?_
  simp only [w22_CMatchesReference.j2]
  rw [hform, Option.bind_some]
  rfl
theorem match_l0 (n0 : Bool) (n1 n2 n3 n4 n5 n6 : Int) (b7 : Bool) (w1 : (Lit.int .i16 n1).wf = true) (w2 : (Lit.int .i16 n2).wf = true) (w3 : (Lit.int .i16 n3).wf = true) (w4 : (Lit.int .i32 n4).wf = true) (w5 : (Lit.int .u16 n5).wf = true) (w6 : (Lit.int .u16 n6).wf = true) :
    ∀ (d i : Nat) (ar : List S31), i + d = 12 → ar.length = i → Ev (fun k => w22_CMatchesReference.l0 k l es true ar (i : Int) n0 n1 n2 n3 n4 n5 n6 b7) true
  | 0, i, ar, h, har => by
    refine Ev.next 1 (match_j2 l es hl he hw hwe ar (by omega) n0 n1 n2 n3 n4 n5 n6 b7 w1 w2 w3 w4 w5 w6) fun k => ?_
    simp only [w22_CMatchesReference.l0]
    by_cases h1 : (i : Int) < (l.length : Int)
    · rw [if_pos h1, if_neg (by omega)]
    · rw [if_neg h1]
  | d + 1, i, ar, h, har => by
    by_cases hi' : i < l.length
    · refine Ev.next 1 (match_l0 n0 n1 n2 n3 n4 n5 n6 b7 w1 w2 w3 w4 w5 w6 d (i + 1) (ar ++ [(⟨(⟨#[]⟩ : ByteArray), Go.bits .and .i64 (rd l (i : Int)) 3, 0, 64⟩ : S31)]) (by omega) (by simp [har])) fun k => ?_
      simp only [w22_CMatchesReference.l0]
      rw [if_pos (by omega), if_pos (by omega), if_pos (by omega), if_pos (by omega), w64 (by omega) (by omega)]
      rfl
    · refine Ev.next 1 (match_j2 l es hl he hw hwe ar (by omega) n0 n1 n2 n3 n4 n5 n6 b7 w1 w2 w3 w4 w5 w6) fun k => ?_
      simp only [w22_CMatchesReference.l0]
      rw [if_neg (by omega)]
end

theorem match_pure (l : List Int) (es : List S47) (n0 : Bool) (n1 n2 n3 n4 n5 n6 : Int) (b7 : Bool) (w1 : (Lit.int .i16 n1).wf = true) (w2 : (Lit.int .i16 n2).wf = true) (w3 : (Lit.int .i16 n3).wf = true) (w4 : (Lit.int .i32 n4).wf = true) (w5 : (Lit.int .u16 n5).wf = true) (w6 : (Lit.int .u16 n6).wf = true)
    (hw : ∀ x ∈ l, (Lit.int .i64 x).wf = true) (hwe : ∀ x ∈ es, wfI x.f6 = true ∧ wfI x.f7 = true) :
    ∃ k, w22_CMatchesReference.f k l es n0 n1 n2 n3 n4 n5 n6 b7 = some true := by
  by_cases hl : (l.length : Int) > 100
  · refine (Ev.step examples (Ev.done 1 (F := fun k => w22_CMatchesReference.j0 k l es true true n0 n1 n2 n3 n4 n5 n6 b7) (r := true) fun k => ?_) fun k hk => ?_).some
    · simp only [w22_CMatchesReference.j0]
      rw [if_pos trivial]
    · unfold w22_CMatchesReference.f
      rw [hk, Option.bind_some, if_pos rfl, if_pos hl]
  · by_cases he : (es.length : Int) > 100
    · refine (Ev.step examples (Ev.done 1 (F := fun k => w22_CMatchesReference.j0 k l es true true n0 n1 n2 n3 n4 n5 n6 b7) (r := true) fun k => ?_) fun k hk => ?_).some
      · simp only [w22_CMatchesReference.j0]
        rw [if_pos trivial]
      · unfold w22_CMatchesReference.f
        rw [hk, Option.bind_some, if_pos rfl, if_neg hl, decide_eq_true he]
    · refine (Ev.step examples (Ev.next 1 (F := fun k => w22_CMatchesReference.j0 k l es true false n0 n1 n2 n3 n4 n5 n6 b7) (match_l0 l es (by omega) (by omega) (fun x hx => wf_bounds (hw x hx)) hwe n0 n1 n2 n3 n4 n5 n6 b7 w1 w2 w3 w4 w5 w6 12 0 [] (by omega) rfl) fun k => ?_) fun k hk => ?_).some
      · simp only [w22_CMatchesReference.j0]
        rw [if_neg (by simp)]
        rfl
      · unfold w22_CMatchesReference.f
        rw [hk, Option.bind_some, if_pos rfl, if_neg hl, decide_eq_false he]
end Go.Proofs.YtnjeliicnbfclaaDoor.P
