/- Plain law: CoalesceMoves' printed form answers true. -/
import Derived.Test.YtnjeliicnbfclaaDoorLc
import Derived.Test.YtnjeliicnbfclaaDoorLq
import Derived.Test.YtnjeliicnbfclaaDoorPx13
namespace Go.Proofs.YtnjeliicnbfclaaDoor.P
open Go.RowKit Go.Proofs.YtnjeliicnbfclaaDoorW.PrintWords Go.Proofs.YtnjeliicnbfclaaDoorW.PrintLast Go.Proofs.YtnjeliicnbfclaaDoorW.PrintMore
set_option linter.unusedVariables false
set_option linter.unusedSimpArgs false

abbrev arM : List S31 := [(⟨(⟨#[]⟩ : ByteArray), 1, 0, 256⟩ : S31), (⟨(⟨#[]⟩ : ByteArray), 2, 0, 256⟩ : S31), (⟨(⟨#[]⟩ : ByteArray), 1, 0, 256⟩ : S31), (⟨(⟨#[]⟩ : ByteArray), 3, 0, 256⟩ : S31)]
def evM (x : S49) : S47 := ⟨1 + x.f0 % 3, 0, 0, 0, 0, 0, x.f1 % 4, x.f2, 0⟩
def wsM (es : List S47) (a : Int) : List Int := (es.filter fun x => decide (x.f6 = a)).map fun x => x.f7
def mM (es : List S47) : Nat := ((pairs es arM).foldl addP []).length
structure GoodM (x : S47) : Prop where
  k : x.f0 = 1 ∨ x.f0 = 2 ∨ x.f0 = 3
  a : x.f6 = 0 ∨ x.f6 = 1 ∨ x.f6 = 2 ∨ x.f6 = 3
  lo : 0 ≤ x.f7
  hi : x.f7 ≤ 255

theorem good_ev (x : S49) (h0 : 0 ≤ x.f0) (h1 : 0 ≤ x.f1) (h2 : 0 ≤ x.f2) (h3 : x.f2 < 256) : GoodM (evM x) := by
  refine ⟨?_, ?_, h2, by show x.f2 ≤ 255; omega⟩
  · show 1 + x.f0 % 3 = 1 ∨ 1 + x.f0 % 3 = 2 ∨ 1 + x.f0 % 3 = 3
    omega
  · show x.f1 % 4 = 0 ∨ x.f1 % 4 = 1 ∨ x.f1 % 4 = 2 ∨ x.f1 % 4 = 3
    omega

theorem cntM {x : S47} (h : GoodM x) : cnt arM x = decide (x.f6 = 0 ∨ x.f6 = 2) := by
  obtain ⟨k, a, _, _⟩ := h
  have h1 : (decide (x.f0 = 1) || decide (x.f0 = 2) || decide (x.f0 = 3)) = true := by
    rcases k with k | k | k <;> simp [k]
  unfold cnt
  rw [h1]
  rcases a with a | a | a | a <;> rw [a] <;> rfl

theorem words_at (es : List S47) (h : ∀ x ∈ es, GoodM x) (a : Int) (ha : a = 0 ∨ a = 2) : wordsA es arM a = wsM es a := by
  unfold wordsA wsM
  congr 1
  refine List.filter_congr fun x hx => ?_
  rw [cntM (h x hx)]
  by_cases e : x.f6 = a
  · rw [decide_eq_true e, decide_eq_true (by omega)]
    rfl
  · rw [decide_eq_false e]
    rfl
theorem words_off (es : List S47) (h : ∀ x ∈ es, GoodM x) (a : Int) (ha : a = 1 ∨ a = 3) : wordsA es arM a = [] := by
  unfold wordsA
  rw [List.map_eq_nil_iff, List.filter_eq_nil_iff]
  intro x hx
  rw [cntM (h x hx)]
  simp only [Bool.and_eq_true, decide_eq_true_eq, not_and]
  omega
theorem mM_sum (es : List S47) (h : ∀ x ∈ es, GoodM x) : mM es = (segs (wsM es 0)).length + (segs (wsM es 2)).length := by
  have e := sumA_all es arM
  have h4 : arM.length = 4 := rfl
  rw [h4] at e
  simp only [sumA] at e
  unfold mM
  rw [← e]
  have c0 : ((0 : Nat) : Int) = 0 := rfl
  have c1 : ((1 : Nat) : Int) = 1 := rfl
  have c2 : ((2 : Nat) : Int) = 2 := rfl
  have c3 : ((3 : Nat) : Int) = 3 := rfl
  rw [c0, c1, c2, c3, words_at es h 0 (.inl rfl), words_off es h 1 (.inl rfl), words_at es h 2 (.inr rfl), words_off es h 3 (.inr rfl)]
  show 0 + (segs (wsM es 0)).length + 0 + (segs (wsM es 2)).length + 0 = _
  omega

theorem segs_len0 (xs : List Int) : (segs xs).length = 0 ↔ xs.length = 0 := by
  constructor
  · intro h
    have := List.length_eq_zero_iff.1 h
    rcases xs with _ | ⟨x, xs⟩
    · rfl
    · have hm : x / 16 ∈ segs (x :: xs) := (mem_segs _ _).2 ⟨x, by simp, rfl⟩
      rw [this] at hm
      cases hm
  · intro h
    rw [List.length_eq_zero_iff.1 h]
    rfl

theorem pairs_snoc (es : List S47) (e : S47) : pairs (es ++ [e]) arM = if cnt arM e then pairs es arM ++ [(e.f6, e.f7 / 16)] else pairs es arM := by
  unfold pairs
  rw [List.filter_append, List.map_append]
  by_cases h : cnt arM e <;> simp [h]
theorem mM_snoc (es : List S47) (e : S47) : mM es ≤ mM (es ++ [e]) ∧ mM (es ++ [e]) ≤ mM es + 1 ∧ (cnt arM e = false → mM (es ++ [e]) = mM es) := by
  unfold mM
  rw [pairs_snoc]
  by_cases h : cnt arM e
  · rw [if_pos h, List.foldl_append, List.foldl_cons, List.foldl_nil]
    refine ⟨?_, ?_, fun h' => by rw [h] at h'; cases h'⟩ <;>
    · unfold addP
      split <;> simp
  · rw [if_neg h]
    simp
theorem mM_le (es : List S47) : mM es ≤ es.length := by
  have : ∀ (ps acc : List (Int × Int)), (ps.foldl addP acc).length ≤ acc.length + ps.length := by
    intro ps
    induction ps with
    | nil => intro acc; simp
    | cons p ps ih =>
      intro acc
      have h1 := ih (addP acc p)
      have h2 : (addP acc p).length ≤ acc.length + 1 := by
        unfold addP
        split <;> simp
      rw [List.foldl_cons]
      simp
      omega
  have h := this (pairs es arM) []
  have h2 : (pairs es arM).length ≤ es.length := by
    unfold pairs
    rw [List.length_map]
    exact List.length_filter_le _ _
  unfold mM
  simp at h
  omega

theorem movesM (es : List S47) (h : ∀ x ∈ es, wfI x.f6 = true ∧ wfI x.f7 = true) (hl : es.length ≤ 100) : coalesce_Moves.f es arM = some (mM es : Int) := by
  unfold coalesce_Moves.f mM
  rw [if_pos ⟨by omega, by
    rw [List.all_eq_true]
    intro x hx
    have := h x hx
    rw [this.1, this.2]
    rfl⟩]
theorem good_wf {x : S47} (h : GoodM x) : wfI x.f6 = true ∧ wfI x.f7 = true := by
  obtain ⟨_, a, lo, hi⟩ := h
  exact ⟨wfI_of (by omega) (by omega), wfI_of (by omega) (by omega)⟩
theorem segsM (xs : List Int) (h : ∀ x ∈ xs, 0 ≤ x ∧ x ≤ 255) (hl : xs.length ≤ 100) : coalesce_Segments.f xs = some (segs xs) := by
  unfold coalesce_Segments.f
  rw [if_pos ⟨by omega, by
    rw [List.all_eq_true]
    intro x hx
    have := h x hx
    exact wf_of (by omega) (by omega)⟩]
theorem wsM_good (es : List S47) (h : ∀ x ∈ es, GoodM x) (a : Int) : ∀ x ∈ wsM es a, 0 ≤ x ∧ x ≤ 255 := by
  intro y hy
  obtain ⟨x, hx, rfl⟩ := List.mem_map.1 hy
  have := h x (List.mem_filter.1 hx).1
  exact ⟨this.lo, this.hi⟩
theorem wsM_le (es : List S47) (a : Int) : (wsM es a).length ≤ es.length := by
  unfold wsM
  rw [List.length_map]
  exact List.length_filter_le _ _
theorem wsM_snoc (es : List S47) (e : S47) (a : Int) : wsM (es ++ [e]) a = if e.f6 = a then wsM es a ++ [e.f7] else wsM es a := by
  unfold wsM
  rw [List.filter_append, List.map_append]
  by_cases h : e.f6 = a <;> simp [h]

/-- The last part of the law. -/
theorem moves_tail (l : List S49) (es : List S47) (h : ∀ x ∈ es, GoodM x) (hl : es.length ≤ 60) (i : Int) :
    Ev (fun k => w22_CMoves.j1 k l true arM es [wsM es 0, wsM es 2] (mM es : Int) i false) true := by
  have l0 := wsM_le es 0
  have l2 := wsM_le es 2
  have s0 := length_segs (wsM es 0)
  have s2 := length_segs (wsM es 2)
  have sum := mM_sum es h
  have z0 := segs_len0 (wsM es 0)
  have z2 := segs_len0 (wsM es 2)
  have hf : coalesce_Moves.f (([] ++ es) ++ [(⟨4, 0, 0, 0, 0, 0, 0, 0, 0⟩ : S47), (⟨1, 0, 0, 0, 0, 0, 4, 3, 0⟩ : S47), (⟨1, 0, 0, 0, 0, 0, (-1), 3, 0⟩ : S47), (⟨9, 0, 0, 0, 0, 0, 0, 999, 0⟩ : S47)]) arM = some (mM es : Int) := by
    rw [List.nil_append, movesM _ ?_ (by simp; omega)]
    · have e : pairs (es ++ [(⟨4, 0, 0, 0, 0, 0, 0, 0, 0⟩ : S47), (⟨1, 0, 0, 0, 0, 0, 4, 3, 0⟩ : S47), (⟨1, 0, 0, 0, 0, 0, (-1), 3, 0⟩ : S47), (⟨9, 0, 0, 0, 0, 0, 0, 999, 0⟩ : S47)]) arM = pairs es arM := by
        unfold pairs
        rw [List.filter_append]
        have : ([(⟨4, 0, 0, 0, 0, 0, 0, 0, 0⟩ : S47), (⟨1, 0, 0, 0, 0, 0, 4, 3, 0⟩ : S47), (⟨1, 0, 0, 0, 0, 0, (-1), 3, 0⟩ : S47), (⟨9, 0, 0, 0, 0, 0, 0, 999, 0⟩ : S47)] : List S47).filter (cnt arM) = [] := by rfl
        rw [this, List.append_nil]
      unfold mM
      rw [e]
    · intro x hx
      rcases List.mem_append.1 hx with hx | hx
      · exact good_wf (h x hx)
      · simp only [List.mem_cons, List.not_mem_nil, or_false] at hx
        rcases hx with rfl | rfl | rfl | rfl <;> exact ⟨wfI_of (by decide) (by decide), wfI_of (by decide) (by decide)⟩
  have hj : ∀ k, w22_CMoves.j4 (k + 1) true = some true := fun k => by simp only [w22_CMoves.j4]
  refine Ev.done 2 fun k => ?_
  simp only [w22_CMoves.j1, w22_access.f, Option.bind_some]
  have r0 : rd_L5 [wsM es 0, wsM es 2] 0 = wsM es 0 := rfl
  have r1 : rd_L5 [wsM es 0, wsM es 2] 1 = wsM es 2 := rfl
  rw [if_neg (by decide), if_pos (by simp), if_pos (by simp), r0, r1, segsM _ (wsM_good es h 0) (by omega), Option.bind_some, segsM _ (wsM_good es h 2) (by omega), Option.bind_some, if_pos (by simp; omega), if_pos (by simp; omega),
    w64 (n := ((wsM es 0).length : Int) + ((wsM es 2).length : Int)) (by omega) (by omega), w64 (n := ((segs (wsM es 0)).length : Int) + ((segs (wsM es 2)).length : Int)) (by omega) (by omega), if_pos (by omega), if_pos ?_, if_pos (by omega), hf, Option.bind_some, if_pos rfl]
  · exact hj _
  · rw [Bool.beq_eq_decide_eq, decide_eq_true_eq, Bool.eq_iff_iff]
    simp only [beq_iff_eq]
    omega

theorem moves_loop (l : List S49) (hu : ∀ x ∈ l, (0 ≤ x.f0 ∧ x.f0 < 256) ∧ (0 ≤ x.f1 ∧ x.f1 < 256) ∧ (0 ≤ x.f2 ∧ x.f2 < 256)) :
    ∀ (d i : Nat), i ≤ l.length → i + d = 60 →
      Ev (fun k => w22_CMoves.l0 k l true arM ((l.take i).map evM) [wsM ((l.take i).map evM) 0, wsM ((l.take i).map evM) 2] (mM ((l.take i).map evM) : Int) (i : Int)) true := by
  intro d
  induction d with
  | zero =>
    intro i hi h
    have hg : ∀ x ∈ (l.take i).map evM, GoodM x := by
      intro x hx
      obtain ⟨y, hy, rfl⟩ := List.mem_map.1 hx
      have := hu y (List.mem_of_mem_take hy)
      exact good_ev y this.1.1 this.2.1.1 this.2.2.1 this.2.2.2
    have ht := moves_tail l _ hg (by simp; omega) (i : Int)
    refine Ev.next 1 ht fun k => ?_
    simp only [w22_CMoves.l0]
    by_cases hlt : (i : Int) < (l.length : Int)
    · rw [if_pos hlt, decide_eq_false (by omega)]
    · rw [if_neg hlt]
  | succ d ih =>
    intro i hi h
    have hg : ∀ x ∈ (l.take i).map evM, GoodM x := by
      intro x hx
      obtain ⟨y, hy, rfl⟩ := List.mem_map.1 hx
      have := hu y (List.mem_of_mem_take hy)
      exact good_ev y this.1.1 this.2.1.1 this.2.2.1 this.2.2.2
    have hlen : ((l.take i).map evM).length = i := by simp; omega
    by_cases hlt : i < l.length
    · have ih := ih (i + 1) (by omega) (by omega)
      have hx := hu (l.getD i z49) (by simp [List.getD, List.getElem?_eq_getElem hlt])
      have hgx : GoodM (evM (l.getD i z49)) := good_ev _ hx.1.1 hx.2.1.1 hx.2.2.1 hx.2.2.2
      rw [take_next l z49 i hlt, List.map_append, List.map_singleton] at ih
      generalize hes : (l.take i).map evM = es at *
      have hr : rd_T49 l (i : Int) = l.getD i z49 := by simp [rd_T49]
      generalize l.getD i z49 = x at *
      obtain ⟨⟨a1, a2⟩, ⟨b1, b2⟩, ⟨c1, c2⟩⟩ := hx
      have m0 : Int.tmod x.f0 3 = x.f0 % 3 := Int.tmod_eq_emod_of_nonneg a1
      have m1 : Int.tmod x.f1 4 = x.f1 % 4 := Int.tmod_eq_emod_of_nonneg b1
      have acc : w22_access.f (wrap64 (1 + wrap64 (Int.tmod x.f0 3))) (wrap64 (Int.tmod x.f1 4)) (wrap64 x.f2) = some (1 + x.f0 % 3, 0, 0, 0, 0, 0, x.f1 % 4, x.f2, 0) := by
        rw [m0, m1, w64 (n := x.f0 % 3) (by omega) (by omega), w64 (n := x.f1 % 4) (by omega) (by omega), w64 (n := x.f2) (by omega) (by omega), w64 (by omega) (by omega)]
        rfl
      have hgall : ∀ y ∈ es ++ [evM x], GoodM y := by
        intro y hy
        rcases List.mem_append.1 hy with hy | hy
        · exact hg y hy
        · rw [List.mem_singleton.1 hy]
          exact hgx
      have hmv : coalesce_Moves.f (es ++ [evM x]) arM = some (mM (es ++ [evM x]) : Int) := movesM _ (fun y hy => good_wf (hgall y hy)) (by simp; omega)
      obtain ⟨n1, n2, n3⟩ := mM_snoc es (evM x)
      have hle := mM_le es
      have hcn := cntM hgx
      have e6 : (evM x).f6 = x.f1 % 4 := rfl
      have e7 : (evM x).f7 = x.f2 := rfl
      have hj2 : ∀ ws : List (List Int), ws = [wsM (es ++ [evM x]) 0, wsM (es ++ [evM x]) 2] →
          Ev (fun k => w22_CMoves.j2 k l true arM (es ++ [evM x]) ws (mM es : Int) (i : Int) (1 + x.f0 % 3) 0 0 0 0 0 (x.f1 % 4) x.f2 0) true := by
        rintro ws rfl
        refine Ev.next 2 ih fun k => ?_
        simp only [w22_CMoves.j2, w22_CMoves.j3]
        rw [hmv, Option.bind_some, if_neg (by omega), w64 (n := (mM es : Int) + 1) (by omega) (by omega), if_neg (by omega), w64 (n := (i : Int) + 1) (by omega) (by omega)]
        by_cases hgt : (mM (es ++ [evM x]) : Int) > (mM es : Int)
        · have hc : ¬ cnt arM (evM x) = false := fun hc => by
            have := n3 hc
            omega
          have ht : ((Int.tmod (x.f1 % 4) 2 : Int) == 1) = false := by
            rw [hcn, e6] at hc
            rw [Int.tmod_eq_emod_of_nonneg (by omega)]
            have : x.f1 % 4 = 0 ∨ x.f1 % 4 = 2 := by
              rcases Decidable.em (x.f1 % 4 = 0 ∨ x.f1 % 4 = 2) with h' | h'
              · exact h'
              · exact absurd (decide_eq_false h') hc
            rw [beq_eq_false_iff_ne]
            omega
          rw [if_pos hgt, ht, if_neg (by decide)]
          rfl
        · rw [if_neg hgt, if_neg (by decide)]
          rfl
      have l0' := wsM_le es 0
      have l2' := wsM_le es 2
      refine Ev.next 2 (H := fun k => w22_CMoves.j2 k l true arM (es ++ [evM x]) [wsM (es ++ [evM x]) 0, wsM (es ++ [evM x]) 2] (mM es : Int) (i : Int) (1 + x.f0 % 3) 0 0 0 0 0 (x.f1 % 4) x.f2 0) (hj2 _ rfl) fun k => ?_
      simp only [w22_CMoves.l0, w22_CMoves.j1]
      rw [if_pos (by omega), decide_eq_true (by omega), if_pos rfl, if_pos (by omega), if_pos (by omega), hr, acc, Option.bind_some]
      dsimp only
      rw [if_pos (by omega), Option.bind_some]
      have hev : (⟨1 + x.f0 % 3, 0, 0, 0, 0, 0, x.f1 % 4, x.f2, 0⟩ : S47) = evM x := rfl
      rw [hev]
      rcases hgx.a with h6 | h6 | h6 | h6 <;> rw [e6] at h6
      · have w0 := wsM_snoc es (evM x) 0
        have w2 := wsM_snoc es (evM x) 2
        rw [e6, e7, h6] at w0 w2
        rw [if_pos rfl] at w0
        rw [if_neg (by omega)] at w2
        have t0 : Int.tmod 0 2 = 0 := rfl
        have t1 : wrap64 (Int.tdiv 0 2) = 0 := by unfold wrap64; rfl
        have r0 : rd_L5 [wsM es 0, wsM es 2] 0 = wsM es 0 := rfl
        rw [h6, t0, t1, if_pos rfl, if_pos (by omega), if_pos (by simp), r0, if_pos (by omega), w0, w2]
        rfl
      · have w0 := wsM_snoc es (evM x) 0
        have w2 := wsM_snoc es (evM x) 2
        rw [e6, e7, h6] at w0 w2
        rw [if_neg (by omega)] at w0 w2
        have t0 : Int.tmod 1 2 = 1 := rfl
        rw [h6, t0, if_neg (by omega), w0, w2]
      · have w0 := wsM_snoc es (evM x) 0
        have w2 := wsM_snoc es (evM x) 2
        rw [e6, e7, h6] at w0 w2
        rw [if_neg (by omega)] at w0
        rw [if_pos rfl] at w2
        have t0 : Int.tmod 2 2 = 0 := rfl
        have t1 : wrap64 (Int.tdiv 2 2) = 1 := by unfold wrap64; rfl
        have r0 : rd_L5 [wsM es 0, wsM es 2] 1 = wsM es 2 := rfl
        rw [h6, t0, t1, if_pos rfl, if_pos (by omega), if_pos (by simp), r0, if_pos (by omega), w0, w2]
        rfl
      · have w0 := wsM_snoc es (evM x) 0
        have w2 := wsM_snoc es (evM x) 2
        rw [e6, e7, h6] at w0 w2
        rw [if_neg (by omega)] at w0 w2
        have t0 : Int.tmod 3 2 = 1 := rfl
        rw [h6, t0, if_neg (by omega), w0, w2]
    · have ht := moves_tail l _ hg (by omega) (i : Int)
      refine Ev.next 1 ht fun k => ?_
      simp only [w22_CMoves.l0]
      rw [if_neg (by omega)]

theorem moves_pure (l : List S49) (hu : ∀ x ∈ l, (0 ≤ x.f0 ∧ x.f0 < 256) ∧ (0 ≤ x.f1 ∧ x.f1 < 256) ∧ (0 ≤ x.f2 ∧ x.f2 < 256)) : ∃ k, w22_CMoves.f k l = some true := by
  refine (Ev.step (F := fun k => w22_CMoves.f k l) examples (moves_loop l hu 60 0 (by omega) rfl) fun k hk => ?_).some
  unfold w22_CMoves.f
  rw [hk, Option.bind_some, if_pos rfl]
  rfl
end Go.Proofs.YtnjeliicnbfclaaDoor.P
