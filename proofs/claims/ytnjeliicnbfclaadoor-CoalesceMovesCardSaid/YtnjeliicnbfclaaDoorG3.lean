/- coalesce.Static: its answer as a plain number, and its contract. -/
import Derived.Test.YtnjeliicnbfclaaDoorG1
import Derived.Test.YtnjeliicnbfclaaDoorG3a
import Derived.RangeFuncBox
import Derived.Maps.AppendAt
namespace Go.Proofs.YtnjeliicnbfclaaDoor.P
open Go.RowKit Go.Maps Go.Shelf Go.Proofs.YtnjeliicnbfclaaDoorW.PrintWords Go.Proofs.YtnjeliicnbfclaaDoorW.PrintLast Go.Proofs.YtnjeliicnbfclaaDoorW.PrintMore
attribute [local go_sem] Oper.semAt_some
attribute [local go_sem high] max2_int min2_int
set_option linter.unusedVariables false
set_option linter.unusedSimpArgs false

theorem clamp_set (act L : Nat) (hL : L ≤ 64) (hact : act < 18446744073709551616) : IntKind.u64.wrap ((act : Int) * 2 ^ (64 - (L : Int)).toNat) / 2 ^ (64 - (L : Int)).toNat = ((act % 2 ^ L : Nat) : Int) := by
  have e : (64 - (L : Int)).toNat = 64 - L := by omega
  rw [e]
  have hw : IntKind.u64.wrap ((act : Int) * 2 ^ (64 - L)) = (((act * 2 ^ (64 - L)) % 18446744073709551616 : Nat) : Int) := by
    have : IntKind.u64.wrap ((act : Int) * 2 ^ (64 - L)) = ((act : Int) * 2 ^ (64 - L)) % 18446744073709551616 := rfl
    rw [this]
    simp
  rw [hw]
  have e2 : (18446744073709551616 : Nat) = 2 ^ L * 2 ^ (64 - L) := by rw [← Nat.pow_add, show L + (64 - L) = 64 by omega]
  have e3 : (act * 2 ^ (64 - L)) % 18446744073709551616 = (act % 2 ^ L) * 2 ^ (64 - L) := by rw [e2, Nat.mul_mod_mul_right]
  rw [e3]
  have e4 : ((((act % 2 ^ L) * 2 ^ (64 - L) : Nat) : Int)) / 2 ^ (64 - L) = (((act % 2 ^ L) * 2 ^ (64 - L) / 2 ^ (64 - L) : Nat) : Int) := by simp
  rw [e4, Nat.mul_div_cancel _ (Nat.two_pow_pos _)]


/-- The words of the active lanes, for one c. -/
def laneWords (c S : Int) (l : List Nat) : List Int := l.map fun (i : Nat) => c + S * (i : Int)
/-- The greatest number of segments, for the first k values of c. -/
def mostS (S : Int) (l : List Nat) : Nat → Nat
  | 0 => 0
  | k + 1 => max (mostS S l k) (segs (laneWords (k : Int) S l)).length

theorem rangeFunc_wide {n : Nat} {P : Program} {g : Operand} {ps : Array Tmp} {assign body : Code} {Q : Exit → Act → World → Prop} {a : Act} {w : World} (f : FuncId) (lb : Array Value) (hg : a.eval g = .func (.func f) #[] lb)
    (hent : ∀ (args : Array Value) (W : World), (callFunc f args).run P W = .ok (.enter f args) W)
    (h : ∀ (fn : FuncId) (R : Loop), R = { state := .ready, pending := none, fn := fn, tmps := a.tmps, params := ps, assign := assign, body := body, defers := w.heap.size } →
      CallsIn Fence.wide (n - 1) P f (#[.func (.yield (w.heap.size + 1)) #[] #[]] ++ lb) ((w.alloc (.deferred (some []))).alloc (.loop R)) (rangePost Fence.wide n P (w.heap.size + 1) Q { a with defers := [{ target := .collected w.heap.size, args := #[] }] ++ a.defers })) :
    (Code.rangeFunc g ps assign body).wpIn Fence.wide n P Q a w := by
  refine wpIn_rangeFunc ?_
  intro fn hfn
  obtain ⟨W1, hW1⟩ : ∃ W1, (w.alloc (.deferred (some []))).alloc (.loop { state := .ready, pending := none, fn := fn, tmps := a.tmps, params := ps, assign := assign, body := body, defers := w.heap.size }) = W1 := ⟨_, rfl⟩
  have he : (Instr.enterLoop fn a.tmps ps assign body none).run P w = .ok (w.heap.size + 1, [{ target := .collected w.heap.size, args := #[] }]) W1 := by
    rw [← hW1]
    exact run_enterLoop_outer _ _ _ _ _
  have hh := h fn _ rfl
  rw [hW1] at hh
  clear h
  have hr : Fence.wide.round = none := rfl
  rw [hr]
  refine ⟨w.heap.size + 1, [{ target := .collected w.heap.size, args := #[] }], W1, { target := .fn (.func f) lb, args := #[.func (.yield (w.heap.size + 1)) #[] #[]] }, W1, f, #[.func (.yield (w.heap.size + 1)) #[] #[]] ++ lb, W1, ?_⟩
  refine And.intro he (And.intro ?_ (And.intro (fun f' hf' => trivial) (And.intro ?_ (And.intro ?_ ?_))))
  · have hc : ∀ v, a.eval (.const v) = v := fun v => rfl
    simp [resolve, rangeCall, hg, hc, Sem.run_pure, Deferred.ofValue]
  · simp [invoke, go_sem]
    exact hent _ _
  · intro h_
    simp [Fence.wide] at h_
  · exact hh

theorem zip_one (t : Tmp) (v : Value) (T : Array Value) : Array.foldl (fun (tmps : Array Value) (x : Tmp × Value) => match x with | (t, a) => tmps.setIfInBounds t a) T (#[t].zip #[v]) = T.setIfInBounds t v := by simp

theorem mul_bound (S : Int) (h1 : -4398046511104 ≤ S) (h2 : S ≤ 4398046511104) : ∀ i : Nat, -(4398046511104 * (i : Int)) ≤ S * (i : Int) ∧ S * (i : Int) ≤ 4398046511104 * (i : Int)
  | 0 => by simp
  | i + 1 => by
    have ih := mul_bound S h1 h2 i
    have e : S * ((i + 1 : Nat) : Int) = S * (i : Int) + S := by rw [Int.natCast_succ, Int.mul_add, Int.mul_one]
    rw [e]
    omega
theorem lane_wrap (S : Int) (h1 : -4398046511104 ≤ S) (h2 : S ≤ 4398046511104) (k i : Nat) (hk : k ≤ 16) (hi : i < 64) : wrap64 ((k : Int) + wrap64 (S * (i : Int))) = (k : Int) + S * (i : Int) := by
  have hb := mul_bound S h1 h2 i
  generalize S * (i : Int) = p at *
  unfold wrap64
  omega

def marks (rs : List Nat) : List Deferred := rs.map fun r => { target := .collected r, args := #[] }

theorem leaves_marks {n : Nat} {fn : Func} {tmps : Array Value} {R : Ending → World → Prop} : ∀ (rs : List Nat) (W : World), (∀ r ∈ rs, W.heap[r]? = some (.deferred (some []))) → rs.Nodup →
    (∀ W', W.heap.size = W'.heap.size → (∀ i, i ∉ rs → W'.heap[i]? = W.heap[i]?) → W'.os = W.os → W'.tape = W.tape → W'.output = W.output → ∃ v, (results fn tmps).run Tryd.prog W' = .ok v W' ∧ R (.returned v) W') →
    LeavesInM Fence.wide n Tryd.prog fn tmps R (marks rs) .returning W
  | [], W, _, _, h => h W rfl (fun _ _ => rfl) rfl rfl rfl
  | r :: rs, W, hd, hn, h => by
    have hr := hd r (by simp)
    obtain ⟨hn1, hn2⟩ := List.nodup_cons.1 hn
    refine ⟨by simp, .inl ⟨r, _, rfl, run_takeDeferred hr, ?_⟩⟩
    refine leaves_marks rs _ (fun q hq => ?_) hn2 fun W' h1 h2 h3 h4 h5 => ?_
    · rw [World.putObj_heap_other (fun e => hn1 (by rw [← e]; exact hq))]
      exact hd q (by simp [hq])
    · refine h W' (by rw [← h1]; simp) (fun i hi => ?_) h3 h4 h5
      have hi1 : i ≠ r := fun e => hi (by simp [e])
      have hi2 : i ∉ rs := fun e => hi (by simp [e])
      rw [h2 i hi2, World.putObj_heap_other hi1]

theorem bitLenAux_le : ∀ f x, Lib.bitLenAux f x ≤ f
  | 0, _ => by simp [Lib.bitLenAux]
  | f + 1, x => by
    have := bitLenAux_le f (x / 2)
    unfold Lib.bitLenAux
    split <;> omega
theorem le_last : ∀ (l : List Nat) (x y : Nat), l.Pairwise (· < ·) → x ∈ l → l.getLast? = some y → x ≤ y
  | [], _, _, _, h, _ => by cases h
  | [a], x, y, _, h, hl => by
    simp at h hl
    omega
  | a :: b :: l, x, y, hp, h, hl => by
    obtain ⟨h1, h2⟩ := List.pairwise_cons.1 hp
    have hl' : (b :: l).getLast? = some y := by simpa [List.getLast?_cons_cons] using hl
    rcases List.mem_cons.1 h with rfl | h
    · have := h1 b (by simp)
      have := le_last (b :: l) b y h2 (by simp) hl'
      omega
    · exact le_last (b :: l) x y h2 h hl'
theorem ctz_lt_bitLen (s : Nat) (h0 : s ≠ 0) (h : s < 2 ^ 64) : Lib.ctz 64 s < Lib.bitLen s := by
  have e := onesAt_step 64 0 s h0 h
  have hl := onesAt_last 64 0 s h0 h
  have hc : Lib.ctz 64 s = Lib.ctzFrom 64 s := by simp [Lib.ctz, h0]
  have hm := le_last _ (0 + Lib.ctzFrom 64 s) _ (onesAt_inc 64 0 s) (by rw [e]; simp) hl
  have hp : 1 ≤ Lib.bitLen s := by
    unfold Lib.bitLen Lib.bitLenAux
    rw [if_neg h0]
    omega
  unfold Lib.bitLen at hp ⊢
  omega
theorem wide_calc (S a4 a5 : Int) (n bl ct : Nat) (h1 : -4398046511104 ≤ S) (h2 : S ≤ 4398046511104) (b41 : -1125899906842624 ≤ a4) (b42 : a4 ≤ 1125899906842624) (b51 : -1125899906842624 ≤ a5) (b52 : a5 ≤ 1125899906842624) (b45 : a4 < a5) (hs1 : ct < 64) (hs2 : bl ≤ 64) (hs3 : ct < bl) :
    min (n : Int) (wrap64 (wrap64 ((wrap64 (wrap64 (wrap64 (wrap64 (max S (-S) * (63 - (64 - (bl : Int)) - (ct : Int))) + a5) - a4) - 1)).tdiv 16) + 2)) = min (n : Int) ((max S (-S) * ((bl : Int) - 1 - (ct : Int)) + a5 - a4 - 1) / 16 + 2) := by
  have e : (63 - (64 - (bl : Int)) - (ct : Int)) = ((bl - 1 - ct : Nat) : Int) := by omega
  have e2 : ((bl : Int) - 1 - (ct : Int)) = ((bl - 1 - ct : Nat) : Int) := by omega
  rw [e, e2]
  have hb := mul_bound (max S (-S)) (by omega) (by omega) (bl - 1 - ct)
  have hp : 0 ≤ max S (-S) * ((bl - 1 - ct : Nat) : Int) := Int.mul_nonneg (by omega) (by omega)
  have hn : (bl - 1 - ct) < 64 := by omega
  generalize hm : max S (-S) * ((bl - 1 - ct : Nat) : Int) = p at *
  have w1 : wrap64 p = p := by unfold wrap64; omega
  have w2 : wrap64 (p + a5) = p + a5 := by unfold wrap64; omega
  have w3 : wrap64 (p + a5 - a4) = p + a5 - a4 := by unfold wrap64; omega
  have w4 : wrap64 (p + a5 - a4 - 1) = p + a5 - a4 - 1 := by unfold wrap64; omega
  rw [w1, w2, w3, w4, Int.tdiv_eq_ediv_of_nonneg (by omega)]
  have w5 : wrap64 ((p + a5 - a4 - 1) / 16) = (p + a5 - a4 - 1) / 16 := by unfold wrap64; omega
  rw [w5]
  have w6 : wrap64 ((p + a5 - a4 - 1) / 16 + 2) = (p + a5 - a4 - 1) / 16 + 2 := by unfold wrap64; omega
  rw [w6]

theorem f_words (k s : Nat) (S : Int) (hk : k ≤ 16) (h1 : -4398046511104 ≤ S) (h2 : S ≤ 4398046511104) : coalesce_Segments.f (laneWords k S (onesAt 64 0 s)) = some (segs (laneWords k S (onesAt 64 0 s))) := by
  unfold coalesce_Segments.f
  have hl : (laneWords k S (onesAt 64 0 s)).length ≤ 17592186044416 := by
    have := onesAt_length 64 0 s
    rw [laneWords, List.length_map]
    omega
  have ha : (laneWords k S (onesAt 64 0 s)).all (fun x => (Lit.int .i64 x).wf) = true := ?_
  · rw [if_pos ⟨hl, ha⟩]
  rw [List.all_eq_true]
  intro x hx
  obtain ⟨i, hi, rfl⟩ := List.mem_map.1 hx
  have hi' := (onesAt_mem 64 0 s i).1 hi
  have hb := mul_bound S h1 h2 i
  generalize S * (i : Int) = p at *
  exact wf_of (by omega) (by omega)

theorem Tryd.info3 : (Tryd.prog.info? 3).map (fun i => (i.zero, i.size, i.bytes)) = some (some (.int .i64 0), 1, 8) := by kernel_rfl

theorem tab_below {w w' : World} (h : TabAt 0 Lib.deBruijn64tab w) (hb : Below w.heap.size w w') : TabAt 0 Lib.deBruijn64tab w' := fun j hj => pw_cell_below hb (h j hj)

set_option maxRecDepth 100000 in
set_option maxHeartbeats 4000000 in
theorem static_loop (a1 a2 a3 a4 a5 a6 : Int) (lanes : Int) (act L s : Nat) (hL : min (max lanes 0) 64 = (L : Int)) (hsv : act % 2 ^ L = s) (hl1 : -9223372036854775808 ≤ lanes) (hl2 : lanes ≤ 9223372036854775807) (hact : act < 18446744073709551616)
    (b11 : -2199023255552 ≤ a1) (b12 : a1 ≤ 2199023255552) (b21 : -2199023255552 ≤ a2) (b22 : a2 ≤ 2199023255552) (t6 : (a6 == 0) = true) (w : World) (hT : TabAt 0 Lib.deBruijn64tab w)
    (hz : onesAt 64 0 s ≠ []) :
    CallsIn Fence.wide 6 Tryd.prog 11 #[.agg #[.bool false, .int .i64 a1, .int .i64 a2, .int .i64 a3, .int .i64 a4, .int .i64 a5, .int .i64 a6], .int .i64 lanes, .int .u64 (act : Int)] w fun e w' => e = .returned (.int .i64 (mostS (a1 + a2) (onesAt 64 0 s) 16 : Nat)) ∧ Below w.heap.size w w' := by
  have hf22 : Fence.wide.fn 22 := trivial
  have hf23 : Fence.wide.fn 23 := trivial
  have hf14 : Fence.wide.fn 14 := trivial
  have hm1 : min (max lanes 0) 64 ≤ 64 := by omega
  have hm2 : 0 ≤ min (max lanes 0) 64 := by omega
  have hm3 : L ≤ 64 := by omega
  have hs : s < 18446744073709551616 := by rw [← hsv]; exact Nat.lt_of_le_of_lt (Nat.mod_le _ _) hact
  have HL := Lib.hid hL
  have HSV := Lib.hid hsv
  clear hL hsv
  refine callsIn_of_wp_marks Tryd.func11 rfl trivial ?_ rfl
  simp only [Tryd.ntmps11, List.size_toArray, List.length_cons, List.length_nil, Nat.reduceAdd, Nat.reduceSub, Array.replicate_succ, Array.replicate_zero, List.push_toArray, List.append_toArray, List.nil_append, List.cons_append]
  gi_wp2_with fail
  rw [HL.out]
  rw [clamp_set act L (by omega) hact, HSV.out]
  clear hm1 hm2
  refine (callsIn_wide.2 (ones_count s hs _)).mono ?_
  rintro e w' ⟨rfl, rfl⟩
  have hlen := onesAt_length 64 0 s
  generalize hn : (onesAt 64 0 s).length = n at *
  have t0 : ((n : Int) == 0) = false := by
    have : n ≠ 0 := by rw [← hn]; intro e; exact hz (List.length_eq_zero_iff.1 e)
    simp
    omega
  have HN := Lib.hid hn
  clear hn
  gi_wp2
  refine wpIn_loop (fun a wr => ∃ (k : Nat) (rs : List Nat) (u11 u12 u13 u46 u47 u48 u49 u50 u51 u52 u53 u54 u55 u56 u57 u58 u59 u60 u61 u62 u63 u64 : Value), a = { tmps := #[.agg #[.bool false, .int .i64 a1, .int .i64 a2, .int .i64 a3, .int .i64 a4, .int .i64 a5, .int .i64 a6], .int .i64 L, .int .u64 act, .pointer (some ⟨w.heap.size, 0, none⟩), undef, undef, .int .i64 0, .int .u64 s, .int .i64 n, .pointer (some ⟨w.heap.size + 1, 0, none⟩), .int .i64 (mostS (a1 + a2) (onesAt 64 0 s) k : Nat), u11, u12, u13, undef, undef, undef, .int .i64 lanes, .int .i64 (max lanes 0), .int .i64 L, .int .u64 act, .int .i64 L, .int .i64 (64 - (L : Int)), .int .u64 (IntKind.u64.wrap ((act : Int) * 2 ^ (64 - L))), .int .i64 L, .int .i64 (64 - (L : Int)), .int .u64 s, .int .u64 s, .int .i64 n, .int .i64 n, .bool false, .bool false, .pointer (some ⟨w.heap.size, 0, none⟩), .bool false, .bool false, undef, .pointer (some ⟨w.heap.size, 1, none⟩), .int .i64 a1, .pointer (some ⟨w.heap.size, 2, none⟩), .int .i64 a2, .int .i64 (a1 + a2), .pointer (some ⟨w.heap.size, 4, none⟩), .pointer (some ⟨w.heap.size, 6, none⟩), .int .i64 a6, .bool true, .int .i64 k, u46, u47, u48, u49, u50, u51, u52, u53, u54, u55, u56, u57, u58, u59, u60, u61, u62, u63, u64, undef, undef, undef, undef, undef, undef, undef, undef, undef, undef, undef, undef, undef, undef, undef, undef, undef, undef, undef, undef, undef, undef, undef, undef, undef, undef, undef, undef], defers := marks rs } ∧ k ≤ 16 ∧
      wr.heap[w.heap.size]? = some (.cells #[.bool false, .int .i64 a1, .int .i64 a2, .int .i64 a3, .int .i64 a4, .int .i64 a5, .int .i64 a6] 35 (0, 0)) ∧ wr.heap[w.heap.size + 1]? = some (.cells #[.int .i64 (a1 + a2)] 2 (0, 0)) ∧
      Below w.heap.size w wr ∧ (∀ r ∈ rs, w.heap.size + 2 ≤ r ∧ r < wr.heap.size ∧ wr.heap[r]? = some (.deferred (some []))) ∧ rs.Nodup)
    (fun a _ => 16 - (Go.RowKit.intOf (a.tmps.getD 45 undef)).toNat) ?_ ?_
  · exact ⟨0, [], undef, undef, undef, undef, undef, undef, undef, undef, undef, undef, undef, undef, undef, undef, undef, undef, undef, undef, undef, undef, undef, undef, rfl, by omega, (Below.heap_alloc _ _ _ (by simp)).trans (World.alloc_heap_new w _), (by have h_ := World.alloc_heap_new (w.alloc (.cells #[.bool false, .int .i64 a1, .int .i64 a2, .int .i64 a3, .int .i64 a4, .int .i64 a5, .int .i64 a6] 35)) (.cells #[.int .i64 (a1 + a2)] 2); rwa [World.size_alloc] at h_), ((Below.refl _ w).alloc (Nat.le_refl _) _).alloc (by simp) _, (fun r hr => by cases hr), List.nodup_nil⟩
  · rintro a wr ⟨k, rs, u11, u12, u13, u46, u47, u48, u49, u50, u51, u52, u53, u54, u55, u56, u57, u58, u59, u60, u61, u62, u63, u64, rfl, hk, hbf, hbs, hB, hrs, hnd⟩
    by_cases hlt : k < 16
    · have tk : decide ((k : Int) < 16) = true := by simp; omega
      gi_wp2_with (gi_at_call 23; refine (callsIn_wide.2 (ones_calls s _)).mono ?_; rintro e w' ⟨rfl, rfl⟩)
      obtain ⟨W0, hW0⟩ : ∃ W0, (((wr.alloc (.cells #[.int .i64 (k : Int)] 2)).alloc (.cells #[.slice none 0 0] 22)).alloc (.cells #[.int .u64 (s : Int)] 38)) = W0 := ⟨_, rfl⟩
      have hs0 : W0.heap.size = wr.heap.size + 3 := by rw [← hW0]; simp
      have hB0 : Below wr.heap.size wr W0 := by rw [← hW0]; exact (((Below.refl _ wr).alloc (Nat.le_refl _) _).alloc (by simp) _).alloc (by simp; omega) _
      have hbc : Boxed W0 wr.heap.size 2 (.int .i64 k) := by rw [← hW0]; exact ((Boxed.new _ _ _).alloc _).alloc _
      have hbl : Boxed W0 (wr.heap.size + 1) 22 (.slice none 0 0) := by
        rw [← hW0]
        have h_ := (Boxed.new (wr.alloc (.cells #[.int .i64 (k : Int)] 2)) 22 (.slice none 0 0)).alloc (.cells #[.int .u64 (s : Int)] 38)
        rwa [World.size_alloc] at h_
      have hbx : Boxed W0 (wr.heap.size + 2) 38 (.int .u64 s) := by
        rw [← hW0]
        have h_ := Boxed.new ((wr.alloc (.cells #[.int .i64 (k : Int)] 2)).alloc (.cells #[.slice none 0 0] 22)) 38 (.int .u64 (s : Int))
        rwa [World.size_alloc, World.size_alloc] at h_
      rw [hW0]
      clear hW0
      refine rangeFunc_wide 31 #[.pointer (some ⟨wr.heap.size + 2, 0, none⟩)] (by rfl) (enters_of Tryd.func31 (by kernel_rfl) rfl) ?_
      intro fn R hR
      have hi3 := info_parts Tryd.info3
      obtain ⟨i0, hi, hz0, hz1, hz2⟩ := hi3
      have hkey := ones1_in 5 (W0.heap.size + 1) (wr.heap.size + 2) (by omega) s hs
        (fun (pre : List Nat) (x : Nat) (W : World) => W.heap[W0.heap.size + 1]? = some (.loop R) ∧ W.heap[W0.heap.size]? = some (.deferred (some [])) ∧ Boxed W wr.heap.size 2 (.int .i64 k) ∧ Boxed W (wr.heap.size + 2) 38 (.int .u64 x) ∧
          (∃ v, Boxed W (wr.heap.size + 1) 22 v ∧ W.ownsRow wr.heap.size 3 1 v pre.length ((laneWords k (a1 + a2) pre).map (.int .i64))) ∧ Below wr.heap.size wr W ∧ wr.heap.size + 5 ≤ W.heap.size)
        (fun pre x W h => h.2.2.2.1) (fun pre x W h => tab_below (tab_below hT hB) (h.2.2.2.2.2.1)) ?set ?yield ((W0.alloc (.deferred (some []))).alloc (.loop R)) ?start
      case set =>
        rintro pre x W x' ⟨h1, h2, h3, h4, ⟨v, h5, h6⟩, h7, h8⟩
        refine ⟨(Below.heap_setCell W _ _ _ (by simp; omega)).trans h1, (Below.heap_setCell W _ _ _ (by simp; omega)).trans h2, (Below.heap_setCell W _ _ _ (by simp)).trans h3, Boxed.set _ h4, ⟨v, (Below.heap_setCell W _ _ _ (by simp)).trans h5, ownsRow_setCell_other h6 ?_ _⟩, h7.setCell (p := ⟨wr.heap.size + 2, 0, none⟩) (by simp) _, by simpa using h8⟩
        exact (Boxed.not_row h4 (by decide) h6).symm
      case start =>
        have e1 := World.alloc_heap_new (W0.alloc (.deferred (some []))) (.loop R)
        rw [World.size_alloc] at e1
        have e2 := (Below.heap_alloc (W0.alloc (.deferred (some []))) (.loop R) W0.heap.size (by simp)).trans (World.alloc_heap_new W0 (.deferred (some [])))
        exact ⟨e1, e2, (hbc.alloc _).alloc _, (hbx.alloc _).alloc _, ⟨_, (hbl.alloc _).alloc _, World.ownsRow_nil _ _ _ _⟩, (hB0.alloc (by omega) _).alloc (by simp; omega) _, by simp; omega⟩
      case yield =>
        rintro pre x W ⟨h1, h2, h3, h4, ⟨v, h5, h6⟩, h7, h8⟩ hpre hx0 hct
        have hy := run_yield (P := Tryd.prog) (args := #[.int .i64 (Lib.ctz 64 x : Nat)]) h1 (by rw [hR]; rfl)
        have eA := congrArg Loop.assign hR
        have eB := congrArg Loop.body hR
        have eT := congrArg Loop.tmps hR
        have eP := congrArg Loop.params hR
        have eS := congrArg Loop.state hR
        dsimp only at eA eB eT eP eS
        refine ⟨_, _, _, _, hy, ?_⟩
        refine roundIn_of_wpIn trivial ?_
        have hbr := run_beginRound (P := Tryd.prog) h1 eS
        obtain ⟨W2, hW2⟩ : ∃ W2, W.putObj (W0.heap.size + 1) (.loop { R with state := .busy }) = W2 := ⟨_, rfl⟩
        have g0 : W.grownBy W2 (some (W0.heap.size + 1)) := by rw [← hW2]; exact grownBy_putObj' _ _ _
        have g1 : W2.heap[W0.heap.size + 1]? = some (.loop { R with state := .busy }) := by rw [← hW2]; exact World.putObj_heap_same (Array.getElem?_eq_some_iff.1 h1).1
        have g2 : W2.heap[W0.heap.size]? = some (.deferred (some [])) := by rw [← hW2]; exact (World.putObj_heap_other (by omega)).trans h2
        have g3 : Boxed W2 wr.heap.size 2 (.int .i64 k) := h3.kept g0 (by simp; omega)
        have g4 : Boxed W2 (wr.heap.size + 2) 38 (.int .u64 x) := h4.kept g0 (by simp; omega)
        have g5 : Boxed W2 (wr.heap.size + 1) 22 v := h5.kept g0 (by simp; omega)
        have g6 := ownsRow_putObj h6 (.loop { R with state := .busy }) h1 rfl
        have g7 : Below wr.heap.size wr W2 := h7.grown g0 h7.size (fun j hj => by cases hj; omega)
        have g8 : wr.heap.size + 5 ≤ W2.heap.size := by rw [← hW2]; simpa using h8
        rw [hW2] at hbr g6
        rw [eA, eB, eT, eP]
        rw [zip_one]
        change Code.wpIn _ _ _ _ _ { tmps := #[.agg #[.bool false, .int .i64 a1, .int .i64 a2, .int .i64 a3, .int .i64 a4, .int .i64 a5, .int .i64 a6], .int .i64 L, .int .u64 act, .pointer (some ⟨w.heap.size, 0, none⟩), undef, undef, .int .i64 0, .int .u64 s, .int .i64 n, .pointer (some ⟨w.heap.size + 1, 0, none⟩), .int .i64 (mostS (a1 + a2) (onesAt 64 0 s) k : Nat), .pointer (some ⟨wr.heap.size, 0, none⟩), .pointer (some ⟨wr.heap.size + 1, 0, none⟩), u13, undef, undef, undef, .int .i64 lanes, .int .i64 (max lanes 0), .int .i64 L, .int .u64 act, .int .i64 L, .int .i64 (64 - (L : Int)), .int .u64 (IntKind.u64.wrap ((act : Int) * 2 ^ (64 - L))), .int .i64 L, .int .i64 (64 - (L : Int)), .int .u64 s, .int .u64 s, .int .i64 n, .int .i64 n, .bool false, .bool false, .pointer (some ⟨w.heap.size, 0, none⟩), .bool false, .bool false, undef, .pointer (some ⟨w.heap.size, 1, none⟩), .int .i64 a1, .pointer (some ⟨w.heap.size, 2, none⟩), .int .i64 a2, .int .i64 (a1 + a2), .pointer (some ⟨w.heap.size, 4, none⟩), .pointer (some ⟨w.heap.size, 6, none⟩), .int .i64 a6, .bool true, .int .i64 k, .bool true, .int .i64 k, .int .u64 s, .func (.func 31) #[] #[.pointer (some ⟨wr.heap.size + 2, 0, none⟩)], .int .i64 (Lib.ctz 64 x : Nat), u51, u52, u53, u54, u55, u56, u57, u58, u59, u60, u61, u62, u63, u64, undef, undef, undef, undef, undef, undef, undef, undef, undef, undef, undef, undef, undef, undef, undef, undef, undef, undef, undef, undef, undef, undef, undef, undef, undef, undef, undef, undef], defers := [] } W
        have hc2 := g3.cell
        have hc3 := g5.cell
        have hfr3 := g5.frozen
        have hc4 : W2.cell? ⟨w.heap.size + 1, 0, none⟩ = some (.int .i64 (a1 + a2)) := pw_cell_below g7 (cell_of_one hbs)
        clear hW2 eA eB eT eP eS h1 h2 h3 h4 h5 h6 h7 h8 hy
        have HS0 := Lib.hid hs0
        have HRR := Lib.hid hR
        clear hs0 hR
        have hw := lane_wrap (a1 + a2) (by omega) (by omega) k (Lib.ctz 64 x) hk hct
        have HW := Lib.hid hw
        clear hw
        have hpl : pre.length ≤ 64 := by
          have := congrArg List.length hpre
          rw [List.length_append] at this
          have := onesAt_length 64 0 s
          omega
        have HP := Lib.hid hpre
        clear hpre
        gi_wp2_with (gi_at_builtin; refine wpListIn_append_own _ rfl _ _ 22 rfl wr.heap.size 3 i0 (.int .i64 0) 1 8 Tryd.underlying22 hi hz0 hz1 hz2 rfl (by decide) _ _ _ rfl (g6.alloc _) ⟨W2.heap.size, 0, none⟩ 1 1 [.int .i64 (wrap64 ((k : Int) + wrap64 ((a1 + a2) * (Lib.ctz 64 x : Nat))))] rfl rfl (cell_one_new _ _ _) (by simp [Value.oneCell']) (by unfold maxLen; omega) (by omega) (by simp; omega) ?_; intro v' w1 hown' hgrow _; obtain ⟨g', cap', rfl⟩ := ownsRow_succ hown'; obtain ⟨hv1, hv2, hr2, hk2, hb2⟩ := g5.appended (by decide) g6 (by omega) (by omega) hown' hgrow; have hc1 := hv1.cell; have hf1 := hv1.frozen; have q3 := ((g3.alloc _).kept hgrow (g3.not_row (by decide) g6)).kept (grownBy_setCell' w1 (wr.heap.size + 1) (.slice (some ⟨g', 0, none⟩) (pre.length + 1) cap')) (by simp); have q4 := ((g4.alloc _).kept hgrow (g4.not_row (by decide) g6)).kept (grownBy_setCell' w1 (wr.heap.size + 1) (.slice (some ⟨g', 0, none⟩) (pre.length + 1) cap')) (by simp))
        have hs0' := HS0.out
        have l1 := hk2.same _ _ g1 rfl
        have l2 := hk2.same _ _ g2 rfl
        refine ⟨_, _, run_endRound none l1, rfl, ?_⟩
        generalize hWX : w1.setCell _ _ = WX at *
        have q0 := grownBy_putObj' WX (W0.heap.size + 1) (.loop { ({ R with state := .busy } : Loop) with state := if (none : Option Code).isNone then .ready else .done, pending := none })
        have q7 : Below wr.heap.size wr WX := g7.trans hb2
        refine ⟨?_, ?_, ?_, ?_, ⟨_, hv2.kept q0 (by simp; omega), ?_⟩, ?_, ?_⟩
        · rw [World.putObj_heap_same (Array.getElem?_eq_some_iff.1 l1).1]
          rw [HRR.out]
          rfl
        · rw [World.putObj_heap_other (by omega)]
          exact l2
        · exact q3.kept q0 (by simp; omega)
        · exact q4.kept q0 (by simp; omega)
        · have h_ := ownsRow_putObj hr2 (.loop { ({ R with state := .busy } : Loop) with state := if (none : Option Code).isNone then .ready else .done, pending := none }) l1 rfl
          rw [HW.out] at h_
          unfold laneWords at h_ ⊢
          rw [List.map_append, List.map_append]
          exact h_
        · exact q7.grown q0 q7.size (fun j hj => by cases hj; omega)
        · have := hk2.size
          rw [World.putObj_size]
          omega
      refine hkey.mono ?_
      rintro e W3 ⟨⟨ve, rfl⟩, h1, h2, h3, h4, ⟨v, h5, h6⟩, h7, h8⟩
      have eP := congrArg Loop.pending hR
      have eS := congrArg Loop.state hR
      dsimp only at eP eS
      have hend := run_endLoop (P := Tryd.prog) h1 (by rw [eS]; simp)
      have q0 := grownBy_putObj' W3 (W0.heap.size + 1) (.loop { R with state := .exhausted })
      have q6 := ownsRow_putObj h6 (.loop { R with state := .exhausted }) h1 rfl
      have q2 : (W3.putObj (W0.heap.size + 1) (.loop { R with state := .exhausted })).heap[W0.heap.size]? = some (.deferred (some [])) := (World.putObj_heap_other (by omega)).trans h2
      have q5 : Boxed (W3.putObj (W0.heap.size + 1) (.loop { R with state := .exhausted })) (wr.heap.size + 1) 22 v := h5.kept q0 (by simp; omega)
      have q7 : Below wr.heap.size wr (W3.putObj (W0.heap.size + 1) (.loop { R with state := .exhausted })) := h7.grown q0 h7.size (fun j hj => by cases hj; omega)
      have q8 : wr.heap.size + 5 ≤ (W3.putObj (W0.heap.size + 1) (.loop { R with state := .exhausted })).heap.size := by rw [World.putObj_size]; exact h8
      generalize W3.putObj (W0.heap.size + 1) (.loop { R with state := .exhausted }) = W4 at *
      refine ⟨R.pending, W4, hend, ?_⟩
      rw [eP]
      clear hend hkey h1 h2 h3 h4 h5 h6 h7 h8 q0 eP eS hR hbc hbl hbx hB0
      have hc5 := q5.cell
      have HS0 := Lib.hid hs0
      clear hs0
      have hf := f_words k s (a1 + a2) (by omega) (by omega) (by omega)
      obtain ⟨A4, c4, rfl, hle4, hC4⟩ := Kd.R_reads (Kd.R_of_own (e := 3) (base := wr.heap.size) (enc := Value.int .i64) (h1 := fun _ => rfl) (ok := fun _ => True) (xs := laneWords k (a1 + a2) (onesAt 64 0 s)) (v := v) (by rw [show (laneWords k (a1 + a2) (onesAt 64 0 s)).length = (onesAt 64 0 s).length by simp [laneWords]]; exact q6) (fun _ _ => trivial))
      have HQ := Lib.hid q6
      have HF := Lib.hid hf
      clear q6 hf
      gi_wp2_with (gi_at_call 14; refine (callsIn_wide.2 (coalesce_Segments.calls _ _ _ _ _ hC4 hle4 HF.out)).mono ?_; rintro e w5 ⟨v5, rfl, hR5, hB5⟩; obtain ⟨A5, c5, rfl, hl5, _⟩ := Kd.R_reads hR5)
      have hs0' := HS0.out
      have e10 : (max ((mostS (a1 + a2) (onesAt 64 0 s) k : Nat) : Int) ((segs (laneWords (k : Int) (a1 + a2) (onesAt 64 0 s))).length : Nat)) = ((mostS (a1 + a2) (onesAt 64 0 s) (k + 1) : Nat) : Int) := by
        simp only [mostS]
        omega
      have e45 : (k : Int) + 1 = ((k + 1 : Nat) : Int) := by omega
      rw [e10, e45]
      have B1 : Below wr.heap.size wr w5 := q7.trans (hB5.mono (by omega))
      refine ⟨⟨k + 1, W0.heap.size :: rs, _, _, _, _, _, _, _, _, _, _, _, _, _, _, _, _, _, _, _, _, _, _, rfl, by omega, ?_, ?_, hB.trans (B1.mono hB.size), ?_, ?_⟩, ?_⟩
      · rw [B1.block _ (lt_of_block hbf)]
        exact hbf
      · rw [B1.block _ (lt_of_block hbs)]
        exact hbs
      · intro r hr
        rcases List.mem_cons.1 hr with rfl | hr
        · have := hB5.size
          have := hB.size
          refine ⟨by omega, by omega, ?_⟩
          rw [hB5.block _ (by omega)]
          exact q2
        · obtain ⟨p1, p2, p3⟩ := hrs r hr
          have := B1.size
          refine ⟨p1, by omega, ?_⟩
          rw [B1.block _ p2]
          exact p3
      · refine List.nodup_cons.2 ⟨fun hm => ?_, hnd⟩
        have := hrs _ hm
        omega
      · simp [Go.RowKit.intOf]
        omega
    · obtain rfl : k = 16 := by omega
      gi_wp2
      refine leaves_marks rs wr (fun r hr => (hrs r hr).2.2) hnd fun W' h1 h2 h3 h4 h5 => ⟨_, results_tmp rfl _ _ _, rfl, ?_⟩
      exact ⟨h3.trans hB.os, h4.trans hB.tape, h5.trans hB.output, by rw [← h1]; exact hB.size, fun i hi => (h2 i (fun hm => by have := (hrs i hm).1; omega)).trans (hB.block i hi)⟩

set_option maxRecDepth 100000 in
set_option maxHeartbeats 4000000 in
theorem static_plain (an : Bool) (a1 a2 a3 a4 a5 a6 : Int) (lanes : Int) (act L s : Nat) (hL : min (max lanes 0) 64 = (L : Int)) (hsv : act % 2 ^ L = s) (hl1 : -9223372036854775808 ≤ lanes) (hl2 : lanes ≤ 9223372036854775807) (hact : act < 18446744073709551616)
    (h : an = true ∨ onesAt 64 0 s = []) (w : World) (hT : TabAt 0 Lib.deBruijn64tab w) :
    CallsIn Fence.wide 6 Tryd.prog 11 #[.agg #[.bool an, .int .i64 a1, .int .i64 a2, .int .i64 a3, .int .i64 a4, .int .i64 a5, .int .i64 a6], .int .i64 lanes, .int .u64 (act : Int)] w fun e w' => e = .returned (.int .i64 ((onesAt 64 0 s).length : Nat)) ∧ Below w.heap.size w w' := by
  have hf22 : Fence.wide.fn 22 := trivial
  have hf23 : Fence.wide.fn 23 := trivial
  have hf14 : Fence.wide.fn 14 := trivial
  have hf24 : Fence.wide.fn 24 := trivial
  have hf25 : Fence.wide.fn 25 := trivial
  have hm1 : min (max lanes 0) 64 ≤ 64 := by omega
  have hm2 : 0 ≤ min (max lanes 0) 64 := by omega
  have hm3 : L ≤ 64 := by omega
  have hs : s < 18446744073709551616 := by rw [← hsv]; exact Nat.lt_of_le_of_lt (Nat.mod_le _ _) hact
  have HL := Lib.hid hL
  have HSV := Lib.hid hsv
  clear hL hsv
  refine callsIn_of_wp_marks Tryd.func11 rfl trivial ?_ rfl
  simp only [Tryd.ntmps11, List.size_toArray, List.length_cons, List.length_nil, Nat.reduceAdd, Nat.reduceSub, Array.replicate_succ, Array.replicate_zero, List.push_toArray, List.append_toArray, List.nil_append, List.cons_append]
  gi_wp2_with fail
  rw [HL.out]
  rw [clamp_set act L (by omega) hact, HSV.out]
  clear hm1 hm2
  refine (callsIn_wide.2 (ones_count s hs _)).mono ?_
  rintro e w' ⟨rfl, rfl⟩
  have hlen := onesAt_length 64 0 s
  generalize hn : (onesAt 64 0 s).length = n at *
  by_cases hz : n = 0
  · have t0 : ((n : Int) == 0) = true := by simp [hz]
    have HZ := Lib.hid hz
    clear hz h hlen
    gi_wp2
    refine leaves_marks [] _ (fun r hr => by cases hr) List.nodup_nil fun W' h1 h2 h3 h4 h5 => ⟨_, results_tmp rfl _ _ _, ?_, ?_⟩
    · rw [hn]
      rfl
    · exact ⟨h3, h4, h5, by rw [← h1]; simp, fun i hi => (h2 i (by simp)).trans (Below.heap_alloc _ _ _ hi)⟩
  · have t0 : ((n : Int) == 0) = false := by simp; omega
    have ha : an = true := by
      rcases h with h | h
      · exact h
      · rw [h] at hn; exact absurd hn.symm hz
    subst ha
    clear hz h hlen
    gi_wp2
    refine leaves_marks [] _ (fun r hr => by cases hr) List.nodup_nil fun W' h1 h2 h3 h4 h5 => ⟨_, results_tmp rfl _ _ _, ?_, ?_⟩
    · rw [hn]
      rfl
    · exact ⟨h3, h4, h5, by rw [← h1]; simp, fun i hi => (h2 i (by simp)).trans (Below.heap_alloc _ _ _ hi)⟩

set_option maxRecDepth 100000 in
set_option maxHeartbeats 4000000 in
theorem static_wide (a1 a2 a3 a4 a5 a6 : Int) (lanes : Int) (act L s : Nat) (hL : min (max lanes 0) 64 = (L : Int)) (hsv : act % 2 ^ L = s) (hl1 : -9223372036854775808 ≤ lanes) (hl2 : lanes ≤ 9223372036854775807) (hact : act < 18446744073709551616)
    (b11 : -2199023255552 ≤ a1) (b12 : a1 ≤ 2199023255552) (b21 : -2199023255552 ≤ a2) (b22 : a2 ≤ 2199023255552) (b41 : -1125899906842624 ≤ a4) (b42 : a4 ≤ 1125899906842624) (b51 : -1125899906842624 ≤ a5) (b52 : a5 ≤ 1125899906842624) (b45 : a4 < a5)
    (t6 : (a6 == 0) = false) (hz : onesAt 64 0 s ≠ []) (w : World) (hT : TabAt 0 Lib.deBruijn64tab w) :
    CallsIn Fence.wide 6 Tryd.prog 11 #[.agg #[.bool false, .int .i64 a1, .int .i64 a2, .int .i64 a3, .int .i64 a4, .int .i64 a5, .int .i64 a6], .int .i64 lanes, .int .u64 (act : Int)] w fun e w' => e = .returned (.int .i64 (min ((onesAt 64 0 s).length : Int) ((max (a1 + a2) (-(a1 + a2)) * ((Lib.bitLen s : Int) - 1 - (Lib.ctz 64 s : Nat)) + a5 - a4 - 1) / 16 + 2))) ∧ Below w.heap.size w w' := by
  have hf22 : Fence.wide.fn 22 := trivial
  have hf23 : Fence.wide.fn 23 := trivial
  have hf14 : Fence.wide.fn 14 := trivial
  have hf24 : Fence.wide.fn 24 := trivial
  have hf25 : Fence.wide.fn 25 := trivial
  have hm1 : min (max lanes 0) 64 ≤ 64 := by omega
  have hm2 : 0 ≤ min (max lanes 0) 64 := by omega
  have hm3 : L ≤ 64 := by omega
  have hs : s < 18446744073709551616 := by rw [← hsv]; exact Nat.lt_of_le_of_lt (Nat.mod_le _ _) hact
  have HL := Lib.hid hL
  have HSV := Lib.hid hsv
  clear hL hsv
  refine callsIn_of_wp_marks Tryd.func11 rfl trivial ?_ rfl
  simp only [Tryd.ntmps11, List.size_toArray, List.length_cons, List.length_nil, Nat.reduceAdd, Nat.reduceSub, Array.replicate_succ, Array.replicate_zero, List.push_toArray, List.append_toArray, List.nil_append, List.cons_append]
  gi_wp2_with fail
  rw [HL.out]
  rw [clamp_set act L (by omega) hact, HSV.out]
  clear hm1 hm2
  refine (callsIn_wide.2 (ones_count s hs _)).mono ?_
  rintro e w' ⟨rfl, rfl⟩
  have hlen := onesAt_length 64 0 s
  generalize hn : (onesAt 64 0 s).length = n at *
  have t0 : ((n : Int) == 0) = false := by
    have : n ≠ 0 := by rw [← hn]; intro e; exact hz (List.length_eq_zero_iff.1 e)
    simp
    omega
  have HN := Lib.hid hn
  clear hn
  have hs0 : s ≠ 0 := fun e => hz (by rw [e]; exact onesAt_zero 64 0)
  have hT1 : TabAt 0 Lib.deBruijn64tab ((w.alloc (.cells #[.bool false, .int .i64 a1, .int .i64 a2, .int .i64 a3, .int .i64 a4, .int .i64 a5, .int .i64 a6] 35)).alloc (.cells #[.int .i64 (a1 + a2)] 2)) := tab_below hT (((Below.refl _ w).alloc (Nat.le_refl _) _).alloc (by simp) _)
  have hs1 : Lib.ctz 64 s < 64 := (Lib.lowest_bit 64 s hs0 (by omega)).2
  have hs2 : Lib.bitLen s ≤ 64 := bitLenAux_le 64 s
  have hs3 : Lib.ctz 64 s < Lib.bitLen s := ctz_lt_bitLen s hs0 (by omega)
  gi_wp2_with (first | (gi_at_call 24; refine (callsIn_wide.2 (tz64 s hs _ hT1)).mono ?_; rintro e w' ⟨rfl, rfl⟩) | (gi_at_call 25; refine (callsIn_wide.2 (lz64 s hs _)).mono ?_; rintro e w' ⟨rfl, rfl⟩))
  refine leaves_marks [] _ (fun r hr => by cases hr) List.nodup_nil fun W' h1 h2 h3 h4 h5 => ⟨_, results_tmp rfl _ _ _, ?_, ?_⟩
  · rw [HN.out, ← wide_calc (a1 + a2) a4 a5 n (Lib.bitLen s) (Lib.ctz 64 s) (by omega) (by omega) b41 b42 b51 b52 b45 hs1 hs2 hs3]
    rfl
  · have hB2 : Below w.heap.size w ((w.alloc (.cells #[.bool false, .int .i64 a1, .int .i64 a2, .int .i64 a3, .int .i64 a4, .int .i64 a5, .int .i64 a6] 35)).alloc (.cells #[.int .i64 (a1 + a2)] 2)) := ((Below.refl _ w).alloc (Nat.le_refl _) _).alloc (by simp) _
    exact ⟨h3, h4, h5, by rw [← h1]; exact hB2.size, fun i hi => (h2 i (by simp)).trans (hB2.block i hi)⟩

end Go.Proofs.YtnjeliicnbfclaaDoor.P
