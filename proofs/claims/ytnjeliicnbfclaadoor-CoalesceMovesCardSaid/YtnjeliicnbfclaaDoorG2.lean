/- coalesce.Moves: its answer as a plain number, and its contract. -/
import Derived.Test.YtnjeliicnbfclaaDoorPx0
import Derived.Test.YtnjeliicnbfclaaDoorGP
import Derived.Lib.Hide
import Derived.WalkKit
import Derived.Maps.OwnOps
import Derived.Maps.OwnSet
import Derived.Maps.Keyed
import Derived.DeepKeys4
import Derived.MapViews
import Derived.ProofKit
namespace Go.Proofs.YtnjeliicnbfclaaDoor.P
open Go.RowKit Go.Maps Go.Proofs.YtnjeliicnbfclaaDoorW.PrintWords Go.Proofs.YtnjeliicnbfclaaDoorW.PrintLast Go.Proofs.YtnjeliicnbfclaaDoorW.PrintMore
set_option linter.unusedVariables false
set_option linter.unusedSimpArgs false

/-- Whether an event counts. -/
def cnt (ar : List S31) (x : S47) : Bool := (decide (x.f0 = 1) || decide (x.f0 = 2) || decide (x.f0 = 3)) && (decide (0 ≤ x.f6) && (decide (x.f6 < ar.length) && decide ((rd_T31 ar x.f6).f1 = 1)))
/-- The pairs of an array and a segment. -/
def pairs (es : List S47) (ar : List S31) : List (Int × Int) := (es.filter (cnt ar)).map fun x => (x.f6, x.f7 / 16)
def addP (l : List (Int × Int)) (p : Int × Int) : List (Int × Int) := if p ∈ l then l else l ++ [p]
def wfI (x : Int) : Bool := (Lit.int .i64 x).wf
def coalesce_Moves.f (l0 : List S47) (l1 : List S31) : Option Int :=
  if l0.length ≤ 17592186044416 ∧ l0.all (fun x => wfI x.f6 && wfI x.f7) = true then some (((pairs l0 l1).foldl addP []).length : Int) else none

theorem laidOut2 : laidOutB Tryd.prog = true := by kernel_rfl
theorem row74 : (74 : TypeId) < Tryd.prog.types.size := of_decide_eq_true (by kernel_rfl)
theorem cells74 : Tryd.prog.cellsOf 74 = 2 := by kernel_rfl
theorem deep74 : Tryd.prog.keyTypeAt (Tryd.prog.types.size + 1) 74 = true := by kernel_rfl
theorem wide74 : (match Tryd.prog.underlying 74 with | some (.array _ _) | some (.struct _) => true | _ => false) = true := by rw [Tryd.underlying74]
theorem law74 : WideMaps.KeyLaw Tryd.prog 74 := deep_law_laid laidOut2 (m := 2) (by omega) row74 (by kernel_rfl) wide74
theorem keyed74 : Keyed Tryd.prog 74 := Keyed.of_law law74
theorem formed74 {c0 c1 : Value} : (Value.agg #[c0, c1]).formed Tryd.prog 74 = true := by simp [Value.formed, Tryd.underlying74, cells74]
def kl (p : Int × Int) : Lit := (DataW.agg (H := Unit) [.lit (.int .i64 p.1), .lit (.int .i64 p.2)]).asKey
theorem key74 {a s : Int} (ha : (Lit.int .i64 a).wf = true) (hs : (Lit.int .i64 s).wf = true) : keyOf Tryd.prog 74 (.agg #[.int .i64 a, .int .i64 s]) = some (kl (a, s)) :=
  (keyOf_asKey (H := Unit) (enc := fun _ => ()) (w := default) (base := 0) (sp := fun _ => true) (held := true) deep74 wide74 formed74 (d := .agg [.lit (.int .i64 a), .lit (.int .i64 s)]) (ps := [])
    ⟨3, by
      have c3 : Tryd.prog.cellsOf 3 = 1 := by kernel_rfl
      simp [DataW.trod, Tryd.underlying74, Tryd.underlying3, c3, cells74, ha, hs, Value.cells, List.range_succ]⟩).1
theorem kl_inj {a s a' s' : Int} (ha : (Lit.int .i64 a).wf = true) (hs : (Lit.int .i64 s).wf = true) (ha' : (Lit.int .i64 a').wf = true) (hs' : (Lit.int .i64 s').wf = true) (h : kl (a, s) = kl (a', s')) : (a, s) = (a', s') := by
  have h1 := key74 ha hs
  have h2 := key74 ha' hs'
  rw [h] at h1
  have := keyed74.inj h1 h2
  simp at this
  rw [this.1, this.2]

/-! ### the set behind k rounds -/
def keysM (ps : List (Int × Int)) : List Lit := ps.map kl
def setM {H : Type} (ps : List (Int × Int)) : DataW H := setOf (.agg []) (keysM ps)
theorem setM_nil {H : Type} : setM (H := H) [] = .map [] := by simp [setM, keysM, setOf]
theorem setM_snoc {H : Type} (ps : List (Int × Int)) (p : Int × Int) : setM (H := H) (ps ++ [p]) = (setM ps).put (kl p) (.agg []) := by
  unfold setM keysM
  rw [List.map_append]
  exact setOf_snoc _ _ _
def wfP (p : Int × Int) : Prop := (Lit.int .i64 p.1).wf = true ∧ (Lit.int .i64 p.2).wf = true
theorem isKey_kl {p : Int × Int} (h : wfP p) : WideAt.IsKeyLit (kl p) := keyed74.key (key74 h.1 h.2)
theorem any_keysM {ps : List (Int × Int)} {p : Int × Int} (h : ∀ q ∈ ps, wfP q) (hp : wfP p) : (keysM ps).any (fun y => y.sameKey (kl p)) = decide (p ∈ ps) := by
  rw [Bool.eq_iff_iff, List.any_eq_true, decide_eq_true_eq]
  constructor
  · rintro ⟨l, hl, hs⟩
    obtain ⟨q, hq, rfl⟩ := List.mem_map.1 hl
    obtain ⟨q1, q2⟩ := q
    obtain ⟨p1, p2⟩ := p
    have := kl_inj (h _ hq).1 (h _ hq).2 hp.1 hp.2 (WideAt.sameKey_eq hs)
    rw [← this]
    exact hq
  · intro hm
    exact ⟨kl p, List.mem_map.2 ⟨p, hm, rfl⟩, WideAt.sameKey_self (isKey_kl hp)⟩
theorem fold_addKey : ∀ (ps acc : List (Int × Int)), (∀ q ∈ ps, wfP q) → (∀ q ∈ acc, wfP q) → (keysM ps).foldl addKey (keysM acc) = keysM (ps.foldl addP acc)
  | [], _, _, _ => rfl
  | p :: ps, acc, h, ha => by
    have hp := h p (by simp)
    have e : addKey (keysM acc) (kl p) = keysM (addP acc p) := by
      unfold addKey addP
      rw [any_keysM ha hp]
      by_cases hm : p ∈ acc
      · simp [hm]
      · simp [hm, keysM]
    show (keysM ps).foldl addKey (addKey (keysM acc) (kl p)) = _
    rw [e]
    refine fold_addKey ps _ (fun q hq => h q (by simp [hq])) (fun q hq => ?_)
    unfold addP at hq
    split at hq
    · exact ha q hq
    · rcases List.mem_append.1 hq with hq | hq
      · exact ha q hq
      · rw [List.mem_singleton.1 hq]; exact hp
theorem size_setM {H : Type} {ps : List (Int × Int)} (h : ∀ q ∈ ps, wfP q) : Maps.size (setM (H := H) ps) = (ps.foldl addP []).length := by
  unfold setM
  rw [size_setOf _ _ (fun l hl => by obtain ⟨q, hq, rfl⟩ := List.mem_map.1 hl; exact isKey_kl (h q hq))]
  have := fold_addKey ps [] h (fun q hq => by cases hq)
  rw [show (keysM [] : List Lit) = [] from rfl] at this
  rw [this]
  simp [keysM]

theorem pairs_succ (es : List S47) (ar : List S31) (k : Nat) (hk : k < es.length) : pairs (es.take (k + 1)) ar = if cnt ar (es.getD k z47) then pairs (es.take k) ar ++ [((es.getD k z47).f6, (es.getD k z47).f7 / 16)] else pairs (es.take k) ar := by
  unfold pairs
  rw [List.take_add_one, List.getElem?_eq_getElem hk, Option.toList_some, List.filter_append, List.map_append, List.getD_eq_getElem?_getD, List.getElem?_eq_getElem hk]
  by_cases h : cnt ar es[k] <;> simp [h]

theorem wfI_bounds {x : Int} (h : (Lit.int .i64 x).wf = true) : -9223372036854775808 ≤ x ∧ x ≤ 9223372036854775807 := by
  simp only [Lit.wf, decide_eq_true_eq, Bool.and_eq_true] at h
  have e1 : IntKind.i64.min = -9223372036854775808 := by rfl
  have e2 : IntKind.i64.max = 9223372036854775807 := by rfl
  omega
theorem wfI_of {x : Int} (h1 : -9223372036854775808 ≤ x) (h2 : x ≤ 9223372036854775807) : (Lit.int .i64 x).wf = true := by
  simp only [Lit.wf, decide_eq_true_eq, Bool.and_eq_true]
  have e1 : IntKind.i64.min = -9223372036854775808 := by rfl
  have e2 : IntKind.i64.max = 9223372036854775807 := by rfl
  omega

set_option maxRecDepth 100000 in
set_option maxHeartbeats 4000000 in
theorem coalesce_Moves.calls (A0 : Option Addr) (c0 : Nat) (l0 : List S47) (A1 : Option Addr) (c1 : Nat) (l1 : List S31) (r : Int) (w : World) (hr0 : Kd.C k47 w A0 l0.length l0) (hc0 : l0.length ≤ c0) (hr1 : Kd.C k31 w A1 l1.length l1) (hc1 : l1.length ≤ c1) (h : coalesce_Moves.f l0 l1 = some r) :
    Calls Tryd.prog 16 #[.slice A0 l0.length c0, .slice A1 l1.length c1] w fun e w' => e = .returned (.int .i64 r) ∧ Below w.heap.size w w' := by
  unfold coalesce_Moves.f at h
  split at h
  · rename_i hb
    obtain ⟨hlen, hwf⟩ := hb
    obtain rfl := Option.some.inj h
    clear h
    have HR := Aside0.mk hr0
    have HS := Aside0.mk hr1
    have HW := Aside0.mk hwf
    have hl1 : l1.length ≤ 9223372036854775807 := hr1.2.1
    clear hr0 hr1 hwf
    have hmm := @run_makeMap Tryd.prog
    go_enter Tryd.func16, Tryd.ntmps16
    go_wp2
    go_loopw [12] (fun i wr => ∃ k : Nat, k ≤ l0.length ∧ i = .int .i64 k ∧ wr.ownsMap Tryd.prog 74 unitElem w.heap.size k (setM (H := Unit) (pairs (l0.take k) l1)) ∧ Below w.heap.size w wr)
      (fun i _ => l0.length - (Go.RowKit.intOf i).toNat)
    case atStart => exact ⟨0, Nat.zero_le _, rfl, by rw [List.take_zero]; exact World.ownsMap_made _ _ _ _, (Below.refl _ _).alloc (Nat.le_refl _) _⟩
    case round =>
      obtain ⟨k, hk, rfl, hown, hB⟩ := hrel
      by_cases hlt : k < l0.length
      · have hsucc := Aside0.mk (pairs_succ l0 l1 k hlt)
        have hwx := List.all_eq_true.1 HW.out (l0.getD k z47) (by rw [List.getD_eq_getElem?_getD, List.getElem?_eq_getElem hlt]; exact List.getElem_mem hlt)
        have hat := at_T47 (Kd.C_below HR.out hB) (k : Int) (by omega) (by omega)
        simp only [rd_T47, Int.toNat_natCast] at hat
        generalize l0.getD k z47 = x at *
        obtain ⟨x0, x1, x2, x3, x4, x5, x6, x7, x8⟩ := x
        simp only [Bool.and_eq_true, wfI] at hwx
        obtain ⟨ad, rfl, hx0, hx1, hx2, hx3, hx4, hx5, hx6, hx7, hx8⟩ := hat
        obtain ⟨hw6, hw7⟩ := hwx
        obtain ⟨b61, b62⟩ := wfI_bounds hw6
        obtain ⟨b71, b72⟩ := wfI_bounds hw7
        have hkey : keyOf Tryd.prog 74 (.agg #[.int .i64 x6, .int .i64 (x7 / 16)]) = some (kl (x6, x7 / 16)) := key74 hw6 (wfI_of (by omega) (by omega))
        have HO := Aside0.mk hown
        have HBB := Aside0.mk hB
        by_cases k0 : x0 = 1
        · have t0 : (x0 == 1) = true := by simp [k0]
          have CK := Aside0.mk (show (decide (x0 = 1) || decide (x0 = 2) || decide (x0 = 3)) = true by simp [k0])
          clear k0
          by_cases r1 : 0 ≤ x6
          · have r1b : decide (0 ≤ x6) = true := by simp [r1]
            by_cases r2 : x6 < l1.length
            · have r2b : decide (x6 < (l1.length : Int)) = true := by simp [r2]
              obtain ⟨ad1, rfl, _, hs1, _, _⟩ := at_T31 (Kd.C_below HS.out hB) x6 r1 r2
              replace hs1 := pw_cell_below (below_alloc (Below.refl wr.heap.size wr) (.cells #[.int .i64 x0, .int .i64 x1, .int .i64 x2, .int .i64 x3, .int .i64 x4, .int .i64 x5, .int .i64 x6, .int .i64 x7, .int .i32 x8] 47)) hs1
              generalize hsp : (rd_T31 l1 x6).f1 = sp at *
              have hsp' := Aside0.mk hsp
              clear hsp
              by_cases r3 : sp = 1
              · have r3b : (sp == 1) = true := by simp [r3]
                have C1 := Aside0.mk (show cnt l1 ⟨x0, x1, x2, x3, x4, x5, x6, x7, x8⟩ = true by unfold cnt; rw [CK.out]; simp [r1, r2, hsp'.out, r3])
                clear r3
                go_wp2_with (at_mapUpdate; refine wpList_mapUpdate_own _ rfl _ _ _ 73 rfl 74 68 keyed74 Tryd.underlying73 (unitElem (H := Unit)) w.heap.size k _ rfl (HO.out.alloc _) (by unfold maxLen; omega) _ _ _ rfl rfl hkey _ [] unitElem_mk ?_; intro w1 hown1 hgrow1)
                go_roundw
                case rel => exact ⟨k + 1, by omega, by go_num, by rw [hsucc.out, C1.out, if_pos rfl, setM_snoc]; exact hown1, (HBB.out.alloc HBB.out.size _).grown hgrow1 (by have := HBB.out.size; simp; omega) (fun j hj => by cases hj; exact Nat.le_refl _)⟩
                case measure => simp [Go.RowKit.intOf]; omega
              · have r3b : (sp == 1) = false := by simp [r3]
                have C1 := Aside0.mk (show cnt l1 ⟨x0, x1, x2, x3, x4, x5, x6, x7, x8⟩ = false by unfold cnt; rw [CK.out]; simp [r1, r2, hsp'.out, r3])
                clear r3
                go_wp2
                go_roundw
                case rel => exact ⟨k + 1, by omega, by go_num, by rw [hsucc.out, C1.out, if_neg (by decide)]; exact ((HO.out.alloc _).mono (by omega)), HBB.out.alloc HBB.out.size _⟩
                case measure => simp [Go.RowKit.intOf]; omega
            · have r2b : decide (x6 < (l1.length : Int)) = false := by simp [r2]
              have C1 := Aside0.mk (show cnt l1 ⟨x0, x1, x2, x3, x4, x5, x6, x7, x8⟩ = false by unfold cnt; rw [CK.out]; simp [r1, r2])
              go_wp2
              go_roundw
              case rel => exact ⟨k + 1, by omega, by go_num, by rw [hsucc.out, C1.out, if_neg (by decide)]; exact ((HO.out.alloc _).mono (by omega)), HBB.out.alloc HBB.out.size _⟩
              case measure => simp [Go.RowKit.intOf]; omega
          · have r1b : decide (0 ≤ x6) = false := by simp [r1]
            have C1 := Aside0.mk (show cnt l1 ⟨x0, x1, x2, x3, x4, x5, x6, x7, x8⟩ = false by unfold cnt; rw [CK.out]; simp [r1])
            go_wp2
            go_roundw
            case rel => exact ⟨k + 1, by omega, by go_num, by rw [hsucc.out, C1.out, if_neg (by decide)]; exact ((HO.out.alloc _).mono (by omega)), HBB.out.alloc HBB.out.size _⟩
            case measure => simp [Go.RowKit.intOf]; omega
        · skip
          by_cases k1 : x0 = 2
          · have t0 : (x0 == 1) = false := by simp [k0, k1]
            have t1 : (x0 == 2) = true := by simp [k0, k1]
            have CK := Aside0.mk (show (decide (x0 = 1) || decide (x0 = 2) || decide (x0 = 3)) = true by simp [k0, k1])
            clear k0 k1
            by_cases r1 : 0 ≤ x6
            · have r1b : decide (0 ≤ x6) = true := by simp [r1]
              by_cases r2 : x6 < l1.length
              · have r2b : decide (x6 < (l1.length : Int)) = true := by simp [r2]
                obtain ⟨ad1, rfl, _, hs1, _, _⟩ := at_T31 (Kd.C_below HS.out hB) x6 r1 r2
                replace hs1 := pw_cell_below (below_alloc (Below.refl wr.heap.size wr) (.cells #[.int .i64 x0, .int .i64 x1, .int .i64 x2, .int .i64 x3, .int .i64 x4, .int .i64 x5, .int .i64 x6, .int .i64 x7, .int .i32 x8] 47)) hs1
                generalize hsp : (rd_T31 l1 x6).f1 = sp at *
                have hsp' := Aside0.mk hsp
                clear hsp
                by_cases r3 : sp = 1
                · have r3b : (sp == 1) = true := by simp [r3]
                  have C1 := Aside0.mk (show cnt l1 ⟨x0, x1, x2, x3, x4, x5, x6, x7, x8⟩ = true by unfold cnt; rw [CK.out]; simp [r1, r2, hsp'.out, r3])
                  clear r3
                  go_wp2_with (at_mapUpdate; refine wpList_mapUpdate_own _ rfl _ _ _ 73 rfl 74 68 keyed74 Tryd.underlying73 (unitElem (H := Unit)) w.heap.size k _ rfl (HO.out.alloc _) (by unfold maxLen; omega) _ _ _ rfl rfl hkey _ [] unitElem_mk ?_; intro w1 hown1 hgrow1)
                  go_roundw
                  case rel => exact ⟨k + 1, by omega, by go_num, by rw [hsucc.out, C1.out, if_pos rfl, setM_snoc]; exact hown1, (HBB.out.alloc HBB.out.size _).grown hgrow1 (by have := HBB.out.size; simp; omega) (fun j hj => by cases hj; exact Nat.le_refl _)⟩
                  case measure => simp [Go.RowKit.intOf]; omega
                · have r3b : (sp == 1) = false := by simp [r3]
                  have C1 := Aside0.mk (show cnt l1 ⟨x0, x1, x2, x3, x4, x5, x6, x7, x8⟩ = false by unfold cnt; rw [CK.out]; simp [r1, r2, hsp'.out, r3])
                  clear r3
                  go_wp2
                  go_roundw
                  case rel => exact ⟨k + 1, by omega, by go_num, by rw [hsucc.out, C1.out, if_neg (by decide)]; exact ((HO.out.alloc _).mono (by omega)), HBB.out.alloc HBB.out.size _⟩
                  case measure => simp [Go.RowKit.intOf]; omega
              · have r2b : decide (x6 < (l1.length : Int)) = false := by simp [r2]
                have C1 := Aside0.mk (show cnt l1 ⟨x0, x1, x2, x3, x4, x5, x6, x7, x8⟩ = false by unfold cnt; rw [CK.out]; simp [r1, r2])
                go_wp2
                go_roundw
                case rel => exact ⟨k + 1, by omega, by go_num, by rw [hsucc.out, C1.out, if_neg (by decide)]; exact ((HO.out.alloc _).mono (by omega)), HBB.out.alloc HBB.out.size _⟩
                case measure => simp [Go.RowKit.intOf]; omega
            · have r1b : decide (0 ≤ x6) = false := by simp [r1]
              have C1 := Aside0.mk (show cnt l1 ⟨x0, x1, x2, x3, x4, x5, x6, x7, x8⟩ = false by unfold cnt; rw [CK.out]; simp [r1])
              go_wp2
              go_roundw
              case rel => exact ⟨k + 1, by omega, by go_num, by rw [hsucc.out, C1.out, if_neg (by decide)]; exact ((HO.out.alloc _).mono (by omega)), HBB.out.alloc HBB.out.size _⟩
              case measure => simp [Go.RowKit.intOf]; omega
          · skip
            by_cases k2 : x0 = 3
            · have t0 : (x0 == 1) = false := by simp [k0, k1, k2]
              have t1 : (x0 == 2) = false := by simp [k0, k1, k2]
              have t2 : (x0 == 3) = true := by simp [k0, k1, k2]
              have CK := Aside0.mk (show (decide (x0 = 1) || decide (x0 = 2) || decide (x0 = 3)) = true by simp [k0, k1, k2])
              clear k0 k1 k2
              by_cases r1 : 0 ≤ x6
              · have r1b : decide (0 ≤ x6) = true := by simp [r1]
                by_cases r2 : x6 < l1.length
                · have r2b : decide (x6 < (l1.length : Int)) = true := by simp [r2]
                  obtain ⟨ad1, rfl, _, hs1, _, _⟩ := at_T31 (Kd.C_below HS.out hB) x6 r1 r2
                  replace hs1 := pw_cell_below (below_alloc (Below.refl wr.heap.size wr) (.cells #[.int .i64 x0, .int .i64 x1, .int .i64 x2, .int .i64 x3, .int .i64 x4, .int .i64 x5, .int .i64 x6, .int .i64 x7, .int .i32 x8] 47)) hs1
                  generalize hsp : (rd_T31 l1 x6).f1 = sp at *
                  have hsp' := Aside0.mk hsp
                  clear hsp
                  by_cases r3 : sp = 1
                  · have r3b : (sp == 1) = true := by simp [r3]
                    have C1 := Aside0.mk (show cnt l1 ⟨x0, x1, x2, x3, x4, x5, x6, x7, x8⟩ = true by unfold cnt; rw [CK.out]; simp [r1, r2, hsp'.out, r3])
                    clear r3
                    go_wp2_with (at_mapUpdate; refine wpList_mapUpdate_own _ rfl _ _ _ 73 rfl 74 68 keyed74 Tryd.underlying73 (unitElem (H := Unit)) w.heap.size k _ rfl (HO.out.alloc _) (by unfold maxLen; omega) _ _ _ rfl rfl hkey _ [] unitElem_mk ?_; intro w1 hown1 hgrow1)
                    go_roundw
                    case rel => exact ⟨k + 1, by omega, by go_num, by rw [hsucc.out, C1.out, if_pos rfl, setM_snoc]; exact hown1, (HBB.out.alloc HBB.out.size _).grown hgrow1 (by have := HBB.out.size; simp; omega) (fun j hj => by cases hj; exact Nat.le_refl _)⟩
                    case measure => simp [Go.RowKit.intOf]; omega
                  · have r3b : (sp == 1) = false := by simp [r3]
                    have C1 := Aside0.mk (show cnt l1 ⟨x0, x1, x2, x3, x4, x5, x6, x7, x8⟩ = false by unfold cnt; rw [CK.out]; simp [r1, r2, hsp'.out, r3])
                    clear r3
                    go_wp2
                    go_roundw
                    case rel => exact ⟨k + 1, by omega, by go_num, by rw [hsucc.out, C1.out, if_neg (by decide)]; exact ((HO.out.alloc _).mono (by omega)), HBB.out.alloc HBB.out.size _⟩
                    case measure => simp [Go.RowKit.intOf]; omega
                · have r2b : decide (x6 < (l1.length : Int)) = false := by simp [r2]
                  have C1 := Aside0.mk (show cnt l1 ⟨x0, x1, x2, x3, x4, x5, x6, x7, x8⟩ = false by unfold cnt; rw [CK.out]; simp [r1, r2])
                  go_wp2
                  go_roundw
                  case rel => exact ⟨k + 1, by omega, by go_num, by rw [hsucc.out, C1.out, if_neg (by decide)]; exact ((HO.out.alloc _).mono (by omega)), HBB.out.alloc HBB.out.size _⟩
                  case measure => simp [Go.RowKit.intOf]; omega
              · have r1b : decide (0 ≤ x6) = false := by simp [r1]
                have C1 := Aside0.mk (show cnt l1 ⟨x0, x1, x2, x3, x4, x5, x6, x7, x8⟩ = false by unfold cnt; rw [CK.out]; simp [r1])
                go_wp2
                go_roundw
                case rel => exact ⟨k + 1, by omega, by go_num, by rw [hsucc.out, C1.out, if_neg (by decide)]; exact ((HO.out.alloc _).mono (by omega)), HBB.out.alloc HBB.out.size _⟩
                case measure => simp [Go.RowKit.intOf]; omega
            · skip
              have tz : (x0 == 1) = false ∧ (x0 == 2) = false ∧ (x0 == 3) = false := by simp [k0, k1, k2]
              obtain ⟨ta, tb, tc⟩ := tz
              have C1 := Aside0.mk (show cnt l1 ⟨x0, x1, x2, x3, x4, x5, x6, x7, x8⟩ = false by simp [cnt, k0, k1, k2])
              clear k0 k1 k2
              go_wp2
              go_roundw
              case rel => exact ⟨k + 1, by omega, by go_num, by rw [hsucc.out, C1.out, if_neg (by decide)]; exact ((HO.out.alloc _).mono (by omega)), HBB.out.alloc HBB.out.size _⟩
              case measure => simp [Go.RowKit.intOf]; omega
      · obtain rfl : k = l0.length := by omega
        rw [List.take_length] at hown
        have hsz : Maps.size (setM (H := Unit) (pairs l0 l1)) = ((pairs l0 l1).foldl addP []).length := size_setM (fun q hq => by
          unfold pairs at hq
          obtain ⟨x, hx, rfl⟩ := List.mem_map.1 hq
          have := List.all_eq_true.1 HW.out x (List.mem_filter.1 hx).1
          simp only [Bool.and_eq_true, wfI] at this
          obtain ⟨b71, b72⟩ := wfI_bounds this.2
          exact ⟨this.1, wfI_of (by omega) (by omega)⟩)
        go_wp2_with (at_len; refine wpList_len_own _ rfl _ 73 rfl 74 68 Tryd.underlying73 _ w.heap.size l0.length _ rfl hown ?_)
        go_ret
        exact ⟨rfl, hB⟩
  · cases h

end Go.Proofs.YtnjeliicnbfclaaDoor.P
