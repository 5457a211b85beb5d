-- Written by wip/myprint.py, a program of this session's own over the kit's print: functions and their contracts.
import Derived.Test.YtnjeliicnbfclaaDoorPx12
import Derived.Test.YtnjeliicnbfclaaDoorPx1e
import Derived.Test.YtnjeliicnbfclaaDoorG5
import Derived.Test.YtnjeliicnbfclaaDoorG1
import Derived.Test.YtnjeliicnbfclaaDoorG2
namespace Go.Proofs.YtnjeliicnbfclaaDoor.P
open Go.RowKit Go.Proofs.YtnjeliicnbfclaaDoorW.PrintWords Go.Proofs.YtnjeliicnbfclaaDoorW.PrintLast Go.Proofs.YtnjeliicnbfclaaDoorW.PrintMore
attribute [local go_sem] max2_int min2_int max_two min_two max_three min_three max_four min_four   -- for this text's walks alone
set_option linter.unusedVariables false
set_option linter.unusedSimpArgs false

theorem two_rows {W : World} {base : Nat} {ok1 ok2 : Nat → Prop} {v1 v2 : Value} {y1 y2 : List Int} (h1 : Kd.R (Kd.int .i64) 3 W base ok1 v1 y1) (h2 : Kd.R (Kd.int .i64) 3 W base ok2 v2 y2) :
    ∀ (j : Nat) (x : List Int), ([y1, y2] : List (List Int))[j]? = some x → (Kd.slice 3 (Kd.int .i64)).M W base ((fun (j_ k_ : Nat) => (j_ = 0 ∧ some k_ = v1.ownBlock) ∨ (j_ = 1 ∧ some k_ = v2.ownBlock)) j) x ((([v1, v2] : List Value).drop (j * (Kd.slice 3 (Kd.int .i64)).sz)).take (Kd.slice 3 (Kd.int .i64)).sz)
  | 0, x, h => by
    obtain rfl : y1 = x := by simpa using h
    exact ⟨v1, rfl, fun k hk => .inl ⟨rfl, hk.symm⟩, h1.2⟩
  | 1, x, h => by
    obtain rfl : y2 = x := by simpa using h
    exact ⟨v2, rfl, fun k hk => .inr ⟨rfl, hk.symm⟩, h2.2⟩
  | j + 2, x, h => by simp at h
theorem two_apart {v1 v2 : Value} {ok : Nat → Prop} (h : ∀ k, v2.ownBlock = some k → ok k ∧ some k ≠ v1.ownBlock) :
    ∀ i j k, (fun (j_ k_ : Nat) => (j_ = 0 ∧ some k_ = v1.ownBlock) ∨ (j_ = 1 ∧ some k_ = v2.ownBlock)) i k → (fun (j_ k_ : Nat) => (j_ = 0 ∧ some k_ = v1.ownBlock) ∨ (j_ = 1 ∧ some k_ = v2.ownBlock)) j k → i = j := by
  intro i j k hi hj
  rcases hi with ⟨rfl, hi⟩ | ⟨rfl, hi⟩ <;> rcases hj with ⟨rfl, hj⟩ | ⟨rfl, hj⟩
  · rfl
  · exact absurd hi (h k hj.symm).2
  · exact absurd hj (h k hi.symm).2
  · rfl

/-! ### w22_CMoves: function 5 -/
mutual
def w22_CMoves.l0 : Nat → List (S49) → Bool → List (S31) → List (S47) → List (List Int) → Int → Int → Option (Bool)
  | 0, _, _, _, _, _, _, _ => none
  | k + 1, x0, x3, x4, x5, x6, x7, x8 => if x8 < (x0.length : Int) then (w22_CMoves.j1 k x0 x3 x4 x5 x6 x7 x8 (decide (x8 < 60))) else (w22_CMoves.j1 k x0 x3 x4 x5 x6 x7 x8 false)
def w22_CMoves.j1 : Nat → List (S49) → Bool → List (S31) → List (S47) → List (List Int) → Int → Int → Bool → Option (Bool)
  | 0, _, _, _, _, _, _, _, _ => none
  | k + 1, x0, x3, x4, x5, x6, x7, x8, x34 => if x34 = true then (if 0 ≤ x8 then (if x8 < (x0.length : Int) then ((w22_access.f (wrap64 (1 + (wrap64 (Int.tmod ((rd_T49 x0 x8).f0) 3)))) (wrap64 (Int.tmod ((rd_T49 x0 x8).f1) 4)) (wrap64 ((rd_T49 x0 x8).f2))).bind fun bt181 => (if x5.length < 1954687338268 then ((some (x5 ++ [(⟨bt181.1, bt181.2.1, bt181.2.2.1, bt181.2.2.2.1, bt181.2.2.2.2.1, bt181.2.2.2.2.2.1, bt181.2.2.2.2.2.2.1, bt181.2.2.2.2.2.2.2.1, bt181.2.2.2.2.2.2.2.2⟩ : S47)] : List (S47))).bind fun y191 => (if (Int.tmod bt181.2.2.2.2.2.2.1 2) = 0 then (if 0 ≤ (wrap64 (Int.tdiv bt181.2.2.2.2.2.2.1 2)) then (if (wrap64 (Int.tdiv bt181.2.2.2.2.2.2.1 2)) < (x6.length : Int) then (if (rd_L5 x6 (wrap64 (Int.tdiv bt181.2.2.2.2.2.2.1 2))).length < 17592186044416 then (w22_CMoves.j2 k x0 x3 x4 y191 (x6.set ((wrap64 (Int.tdiv bt181.2.2.2.2.2.2.1 2)) : Int).toNat ((rd_L5 x6 (wrap64 (Int.tdiv bt181.2.2.2.2.2.2.1 2))) ++ [bt181.2.2.2.2.2.2.2.1])) x7 x8 bt181.1 bt181.2.1 bt181.2.2.1 bt181.2.2.2.1 bt181.2.2.2.2.1 bt181.2.2.2.2.2.1 bt181.2.2.2.2.2.2.1 bt181.2.2.2.2.2.2.2.1 bt181.2.2.2.2.2.2.2.2) else (none)) else (none)) else (none)) else (w22_CMoves.j2 k x0 x3 x4 y191 x6 x7 x8 bt181.1 bt181.2.1 bt181.2.2.1 bt181.2.2.2.1 bt181.2.2.2.2.1 bt181.2.2.2.2.2.1 bt181.2.2.2.2.2.2.1 bt181.2.2.2.2.2.2.2.1 bt181.2.2.2.2.2.2.2.2))) else (none))) else (none)) else (none)) else (if 0 < (x6.length : Int) then (if 1 < (x6.length : Int) then ((coalesce_Segments.f (rd_L5 x6 0)).bind fun t203 => ((coalesce_Segments.f (rd_L5 x6 1)).bind fun t207 => ((some (([] : List (S47)) : List (S47))).bind fun y210 => (if y210.length + x5.length < 1954687338268 then ((some (y210 ++ x5 : List (S47))).bind fun y213 => ((w22_access.f 1 4 3).bind fun bt216 => ((w22_access.f 1 (-1) 3).bind fun bt225 => ((w22_access.f 9 0 999).bind fun bt234 => ((some (([(⟨4, 0, 0, 0, 0, 0, 0, 0, 0⟩ : S47), (⟨bt216.1, bt216.2.1, bt216.2.2.1, bt216.2.2.2.1, bt216.2.2.2.2.1, bt216.2.2.2.2.2.1, bt216.2.2.2.2.2.2.1, bt216.2.2.2.2.2.2.2.1, bt216.2.2.2.2.2.2.2.2⟩ : S47), (⟨bt225.1, bt225.2.1, bt225.2.2.1, bt225.2.2.2.1, bt225.2.2.2.2.1, bt225.2.2.2.2.2.1, bt225.2.2.2.2.2.2.1, bt225.2.2.2.2.2.2.2.1, bt225.2.2.2.2.2.2.2.2⟩ : S47), (⟨bt234.1, bt234.2.1, bt234.2.2.1, bt234.2.2.2.1, bt234.2.2.2.2.1, bt234.2.2.2.2.2.1, bt234.2.2.2.2.2.2.1, bt234.2.2.2.2.2.2.2.1, bt234.2.2.2.2.2.2.2.2⟩ : S47)] : List (S47)) : List (S47))).bind fun y243 => (if y213.length + y243.length < 1954687338268 then (if x7 ≤ (wrap64 (((rd_L5 x6 0).length : Int) + ((rd_L5 x6 1).length : Int))) then (if (((wrap64 (((rd_L5 x6 0).length : Int) + ((rd_L5 x6 1).length : Int))) == 0) == (x7 == 0)) = true then (if x7 = (wrap64 ((t203.length : Int) + (t207.length : Int))) then ((coalesce_Moves.f (y213 ++ y243) x4).bind fun t249 => (if t249 = x7 then (w22_CMoves.j4 k x3) else (w22_CMoves.j4 k false))) else (w22_CMoves.j4 k false)) else (w22_CMoves.j4 k false)) else (w22_CMoves.j4 k false)) else (none))))))) else (none))))) else (none)) else (none))
def w22_CMoves.j2 : Nat → List (S49) → Bool → List (S31) → List (S47) → List (List Int) → Int → Int → Int → Int → Int → Int → Int → Int → Int → Int → Int → Option (Bool)
  | 0, _, _, _, _, _, _, _, _, _, _, _, _, _, _, _, _ => none
  | k + 1, x0, x3, x4, x5, x6, x7, x8, x191000, x191001, x191002, x191003, x191004, x191005, x191006, x191007, x191008 => (coalesce_Moves.f x5 x4).bind fun t199 => (if t199 < x7 then (w22_CMoves.j3 k x0 x3 x4 x5 x6 x8 t199 true) else (if t199 > (wrap64 (x7 + 1)) then (w22_CMoves.j3 k x0 x3 x4 x5 x6 x8 t199 true) else (if t199 > x7 then (w22_CMoves.j3 k x0 x3 x4 x5 x6 x8 t199 ((Int.tmod x191006 2) == 1)) else (w22_CMoves.j3 k x0 x3 x4 x5 x6 x8 t199 false))))
def w22_CMoves.j3 : Nat → List (S49) → Bool → List (S31) → List (S47) → List (List Int) → Int → Int → Bool → Option (Bool)
  | 0, _, _, _, _, _, _, _, _ => none
  | k + 1, x0, x3, x4, x5, x6, x8, x10, x104 => if x104 = true then (some false) else (w22_CMoves.l0 k x0 x3 x4 x5 x6 x10 (wrap64 (x8 + 1)))
def w22_CMoves.j4 : Nat → Bool → Option (Bool)
  | 0, _ => none
  | k + 1, x2 => some x2
end
def w22_CMoves.f (k : Nat) (l0 : List (S49)) : Option (Bool) := (w22_examples.f k).bind fun t162 => (if t162 = true then (w22_CMoves.l0 k l0 t162 (([(⟨(⟨#[]⟩ : ByteArray), 1, 0, 256⟩ : S31), (⟨(⟨#[]⟩ : ByteArray), 2, 0, 256⟩ : S31), (⟨(⟨#[]⟩ : ByteArray), 1, 0, 256⟩ : S31), (⟨(⟨#[]⟩ : ByteArray), 3, 0, 256⟩ : S31)] : List (S31))) (([] : List (S47))) (([(([] : List Int)), (([] : List Int))] : List (List Int))) 0 0) else (some false))
theorem w22_CMoves.mono_l : ∀ k, (∀ y0 y1 y2 y3 y4 y5 y6, LeO (w22_CMoves.l0 k y0 y1 y2 y3 y4 y5 y6) (w22_CMoves.l0 (k + 1) y0 y1 y2 y3 y4 y5 y6)) ∧ (∀ y0 y1 y2 y3 y4 y5 y6 y7, LeO (w22_CMoves.j1 k y0 y1 y2 y3 y4 y5 y6 y7) (w22_CMoves.j1 (k + 1) y0 y1 y2 y3 y4 y5 y6 y7)) ∧ (∀ y0 y1 y2 y3 y4 y5 y6 y7 y8 y9 y10 y11 y12 y13 y14 y15, LeO (w22_CMoves.j2 k y0 y1 y2 y3 y4 y5 y6 y7 y8 y9 y10 y11 y12 y13 y14 y15) (w22_CMoves.j2 (k + 1) y0 y1 y2 y3 y4 y5 y6 y7 y8 y9 y10 y11 y12 y13 y14 y15)) ∧ (∀ y0 y1 y2 y3 y4 y5 y6 y7, LeO (w22_CMoves.j3 k y0 y1 y2 y3 y4 y5 y6 y7) (w22_CMoves.j3 (k + 1) y0 y1 y2 y3 y4 y5 y6 y7)) ∧ (∀ y0, LeO (w22_CMoves.j4 k y0) (w22_CMoves.j4 (k + 1) y0))
  | 0 => ⟨fun _ _ _ _ _ _ _ r h => by simp [w22_CMoves.l0] at h, fun _ _ _ _ _ _ _ _ r h => by simp [w22_CMoves.j1] at h, fun _ _ _ _ _ _ _ _ _ _ _ _ _ _ _ _ r h => by simp [w22_CMoves.j2] at h, fun _ _ _ _ _ _ _ _ r h => by simp [w22_CMoves.j3] at h, fun _ r h => by simp [w22_CMoves.j4] at h⟩
  | k + 1 => by
    obtain ⟨ih0, ih1, ih2, ih3, ih4⟩ := w22_CMoves.mono_l k
    refine ⟨?_, ?_, ?_, ?_, ?_⟩
    · intro y0 y1 y2 y3 y4 y5 y6
      unfold w22_CMoves.l0
      repeat' first
      | (with_reducible exact ih0 _ _ _ _ _ _ _)
      | (with_reducible exact ih1 _ _ _ _ _ _ _ _)
      | (with_reducible exact ih2 _ _ _ _ _ _ _ _ _ _ _ _ _ _ _ _)
      | (with_reducible exact ih3 _ _ _ _ _ _ _ _)
      | (with_reducible exact ih4 _)
      | (with_reducible exact w22_examples.mono _)
      | (with_reducible exact LeO.refl _)
      | (with_reducible exact LeO.none _)
      | (with_reducible refine LeO.ite ?_ ?_)
      | (with_reducible refine LeO.bind ?_ (fun _ => ?_))
      | exact ih0 _ _ _ _ _ _ _
      | exact ih1 _ _ _ _ _ _ _ _
      | exact ih2 _ _ _ _ _ _ _ _ _ _ _ _ _ _ _ _
      | exact ih3 _ _ _ _ _ _ _ _
      | exact ih4 _
      | exact w22_examples.mono _
      | exact LeO.none _
      | refine LeO.ite ?_ ?_
      | refine LeO.bind ?_ (fun _ => ?_)
    · intro y0 y1 y2 y3 y4 y5 y6 y7
      unfold w22_CMoves.j1
      repeat' first
      | (with_reducible exact ih0 _ _ _ _ _ _ _)
      | (with_reducible exact ih1 _ _ _ _ _ _ _ _)
      | (with_reducible exact ih2 _ _ _ _ _ _ _ _ _ _ _ _ _ _ _ _)
      | (with_reducible exact ih3 _ _ _ _ _ _ _ _)
      | (with_reducible exact ih4 _)
      | (with_reducible exact w22_examples.mono _)
      | (with_reducible exact LeO.refl _)
      | (with_reducible exact LeO.none _)
      | (with_reducible refine LeO.ite ?_ ?_)
      | (with_reducible refine LeO.bind ?_ (fun _ => ?_))
      | exact ih0 _ _ _ _ _ _ _
      | exact ih1 _ _ _ _ _ _ _ _
      | exact ih2 _ _ _ _ _ _ _ _ _ _ _ _ _ _ _ _
      | exact ih3 _ _ _ _ _ _ _ _
      | exact ih4 _
      | exact w22_examples.mono _
      | exact LeO.none _
      | refine LeO.ite ?_ ?_
      | refine LeO.bind ?_ (fun _ => ?_)
    · intro y0 y1 y2 y3 y4 y5 y6 y7 y8 y9 y10 y11 y12 y13 y14 y15
      unfold w22_CMoves.j2
      repeat' first
      | (with_reducible exact ih0 _ _ _ _ _ _ _)
      | (with_reducible exact ih1 _ _ _ _ _ _ _ _)
      | (with_reducible exact ih2 _ _ _ _ _ _ _ _ _ _ _ _ _ _ _ _)
      | (with_reducible exact ih3 _ _ _ _ _ _ _ _)
      | (with_reducible exact ih4 _)
      | (with_reducible exact w22_examples.mono _)
      | (with_reducible exact LeO.refl _)
      | (with_reducible exact LeO.none _)
      | (with_reducible refine LeO.ite ?_ ?_)
      | (with_reducible refine LeO.bind ?_ (fun _ => ?_))
      | exact ih0 _ _ _ _ _ _ _
      | exact ih1 _ _ _ _ _ _ _ _
      | exact ih2 _ _ _ _ _ _ _ _ _ _ _ _ _ _ _ _
      | exact ih3 _ _ _ _ _ _ _ _
      | exact ih4 _
      | exact w22_examples.mono _
      | exact LeO.none _
      | refine LeO.ite ?_ ?_
      | refine LeO.bind ?_ (fun _ => ?_)
    · intro y0 y1 y2 y3 y4 y5 y6 y7
      unfold w22_CMoves.j3
      repeat' first
      | (with_reducible exact ih0 _ _ _ _ _ _ _)
      | (with_reducible exact ih1 _ _ _ _ _ _ _ _)
      | (with_reducible exact ih2 _ _ _ _ _ _ _ _ _ _ _ _ _ _ _ _)
      | (with_reducible exact ih3 _ _ _ _ _ _ _ _)
      | (with_reducible exact ih4 _)
      | (with_reducible exact w22_examples.mono _)
      | (with_reducible exact LeO.refl _)
      | (with_reducible exact LeO.none _)
      | (with_reducible refine LeO.ite ?_ ?_)
      | (with_reducible refine LeO.bind ?_ (fun _ => ?_))
      | exact ih0 _ _ _ _ _ _ _
      | exact ih1 _ _ _ _ _ _ _ _
      | exact ih2 _ _ _ _ _ _ _ _ _ _ _ _ _ _ _ _
      | exact ih3 _ _ _ _ _ _ _ _
      | exact ih4 _
      | exact w22_examples.mono _
      | exact LeO.none _
      | refine LeO.ite ?_ ?_
      | refine LeO.bind ?_ (fun _ => ?_)
    · intro y0
      unfold w22_CMoves.j4
      repeat' first
      | (with_reducible exact ih0 _ _ _ _ _ _ _)
      | (with_reducible exact ih1 _ _ _ _ _ _ _ _)
      | (with_reducible exact ih2 _ _ _ _ _ _ _ _ _ _ _ _ _ _ _ _)
      | (with_reducible exact ih3 _ _ _ _ _ _ _ _)
      | (with_reducible exact ih4 _)
      | (with_reducible exact w22_examples.mono _)
      | (with_reducible exact LeO.refl _)
      | (with_reducible exact LeO.none _)
      | (with_reducible refine LeO.ite ?_ ?_)
      | (with_reducible refine LeO.bind ?_ (fun _ => ?_))
      | exact ih0 _ _ _ _ _ _ _
      | exact ih1 _ _ _ _ _ _ _ _
      | exact ih2 _ _ _ _ _ _ _ _ _ _ _ _ _ _ _ _
      | exact ih3 _ _ _ _ _ _ _ _
      | exact ih4 _
      | exact w22_examples.mono _
      | exact LeO.none _
      | refine LeO.ite ?_ ?_
      | refine LeO.bind ?_ (fun _ => ?_)
theorem w22_CMoves.mono : ∀ a0 k, LeO (w22_CMoves.f k a0) (w22_CMoves.f (k + 1) a0) := by
  intro a0 k
  obtain ⟨ih0, ih1, ih2, ih3, ih4⟩ := w22_CMoves.mono_l k
  unfold w22_CMoves.f
  repeat' first
      | (with_reducible exact ih0 _ _ _ _ _ _ _)
      | (with_reducible exact ih1 _ _ _ _ _ _ _ _)
      | (with_reducible exact ih2 _ _ _ _ _ _ _ _ _ _ _ _ _ _ _ _)
      | (with_reducible exact ih3 _ _ _ _ _ _ _ _)
      | (with_reducible exact ih4 _)
      | (with_reducible exact w22_examples.mono _)
      | (with_reducible exact LeO.refl _)
      | (with_reducible exact LeO.none _)
      | (with_reducible refine LeO.ite ?_ ?_)
      | (with_reducible refine LeO.bind ?_ (fun _ => ?_))
      | exact ih0 _ _ _ _ _ _ _
      | exact ih1 _ _ _ _ _ _ _ _
      | exact ih2 _ _ _ _ _ _ _ _ _ _ _ _ _ _ _ _
      | exact ih3 _ _ _ _ _ _ _ _
      | exact ih4 _
      | exact w22_examples.mono _
      | exact LeO.none _
      | refine LeO.ite ?_ ?_
      | refine LeO.bind ?_ (fun _ => ?_)
def w22_CMoves.T10 : Bool × List (List Nat × List Nat) := (true, [([], []), ([], []), ([0, 1], [0, 1]), ([2], [2]), ([3], [3]), ([4], [4]), ([5], [5]), ([6], [6]), ([], []), ([], []), ([8, 9], [8, 9]), ([10], [10]), ([11], [11]), ([12], [12]), ([13], [13]), ([], []), ([], []), ([15, 16], [15, 16]), ([17], [17]), ([18], [18]), ([19], [19]), ([7, 14, 20], [7, 14, 20]), ([], []), ([22, 21, 21, 0, 1, 2, 3, 4, 5, 6, 7, 8, 9, 10, 11, 12, 13, 14, 15, 16, 17, 18, 19, 20, 21, 22], [21, 22])])
def w22_CMoves.B10 : List Nat := [0, 0, 3, 7, 15, 31, 63, 127, 0, 0, 768, 1792, 3840, 7936, 16128, 0, 0, 98304, 229376, 491520, 1015808, 2097151, 0, 8388607]
theorem w22_CMoves.tab10 : rtab .any (opsOf Tryd.f5 10) = w22_CMoves.T10 := by kernel_rfl
theorem w22_CMoves.bits10 : waitsOk w22_CMoves.T10.2 w22_CMoves.B10 = true := by kernel_rfl
def w22_CMoves.T13 : Bool × List (List Nat × List Nat) := (true, [([], []), ([], []), ([1], [1]), ([2], [2]), ([], []), ([], []), ([5], [5]), ([6], [6]), ([4, 7], [4, 7]), ([8], [8]), ([], []), ([10], [10]), ([11], [11]), ([9, 12], [9, 12]), ([0, 3, 0, 1, 2, 3, 4, 5, 6, 7, 8, 9, 10, 11, 12, 13], [0, 3]), ([14, 13, 13, 0, 1, 2, 3, 4, 5, 6, 7, 8, 9, 10, 11, 12, 13], [13, 14])])
def w22_CMoves.B13 : List Nat := [0, 0, 2, 6, 0, 0, 32, 96, 240, 496, 0, 1024, 3072, 8176, 16383, 32767]
theorem w22_CMoves.tab13 : rtab .any (opsOf Tryd.f5 13) = w22_CMoves.T13 := by kernel_rfl
theorem w22_CMoves.bits13 : waitsOk w22_CMoves.T13.2 w22_CMoves.B13 = true := by kernel_rfl
def w22_CMoves.T18 : Bool × List (List Nat × List Nat) := (true, [([], []), ([0], [0]), ([1], [1]), ([2], [2]), ([], []), ([4], [4]), ([5], [5]), ([6], [6]), ([3, 7], [3, 7]), ([8, 0, 1, 2, 3, 4, 5, 6, 7, 8], [8])])
def w22_CMoves.B18 : List Nat := [0, 1, 3, 7, 0, 16, 48, 112, 255, 511]
theorem w22_CMoves.tab18 : rtab .any (opsOf Tryd.f5 18) = w22_CMoves.T18 := by kernel_rfl
theorem w22_CMoves.bits18 : waitsOk w22_CMoves.T18.2 w22_CMoves.B18 = true := by kernel_rfl
def w22_CMoves.T19 : Bool × List (List Nat × List Nat) := (true, [([], []), ([0], [0]), ([1], [1]), ([2], [2]), ([3], [3]), ([], []), ([5], [5]), ([6], [6]), ([7, 3], [7]), ([8], [8]), ([4, 8, 0, 1, 2, 3, 4], [4]), ([9, 10, 0, 1, 2, 3, 4, 5, 6, 7, 8, 9, 10], [9])])
def w22_CMoves.B19 : List Nat := [0, 1, 3, 7, 15, 0, 32, 96, 239, 495, 511, 2047]
theorem w22_CMoves.tab19 : rtab .any (opsOf Tryd.f5 19) = w22_CMoves.T19 := by kernel_rfl
theorem w22_CMoves.bits19 : waitsOk w22_CMoves.T19.2 w22_CMoves.B19 = true := by kernel_rfl
set_option maxHeartbeats 8000000 in
set_option maxRecDepth 100000 in
theorem w22_CMoves.calls (k : Nat) (A0 : Option Addr) (c0 : Nat) (l0 : List (S49)) (r : Bool) (w : World) (hr0 : Kd.C k49 w A0 l0.length l0) (hc0 : l0.length ≤ c0) (h : w22_CMoves.f k l0 = some r) (HT : Tab w := by exact Tab.below HT (by repeat (first | (with_reducible first | exact HB.out | apply pA | apply pN | apply p1_) | exact HB.out))) :
    Calls Tryd.prog 5 #[.slice A0 l0.length c0] w fun e w' => e = .returned (.bool r) ∧ Below w.heap.size w w' := by
  have hu31 := Tryd.underlying31
  have hu47 := Tryd.underlying47
  have HR0 := Aside0.mk hr0
  have HC0 := Aside0.mk hc0
  clear hr0 hc0
  have HB := Aside0.mk (Below.refl w.heap.size w)
  have H : ((w22_examples.f k).bind fun t162 => (if t162 = true then (w22_CMoves.l0 k l0 t162 (([(⟨(⟨#[]⟩ : ByteArray), 1, 0, 256⟩ : S31), (⟨(⟨#[]⟩ : ByteArray), 2, 0, 256⟩ : S31), (⟨(⟨#[]⟩ : ByteArray), 1, 0, 256⟩ : S31), (⟨(⟨#[]⟩ : ByteArray), 3, 0, 256⟩ : S31)] : List (S31))) (([] : List (S47))) (([(([] : List Int)), (([] : List Int))] : List (List Int))) 0 0) else (some false))) = some r := h
  clear h
  replace H := Option.bind_eq_some_iff.mp H
  obtain ⟨t162, A20, H⟩ := H
  replace H : (if t162 = true then (w22_CMoves.l0 k l0 t162 (([(⟨(⟨#[]⟩ : ByteArray), 1, 0, 256⟩ : S31), (⟨(⟨#[]⟩ : ByteArray), 2, 0, 256⟩ : S31), (⟨(⟨#[]⟩ : ByteArray), 1, 0, 256⟩ : S31), (⟨(⟨#[]⟩ : ByteArray), 3, 0, 256⟩ : S31)] : List (S31))) (([] : List (S47))) (([(([] : List Int)), (([] : List Int))] : List (List Int))) 0 0) else (some false)) = some r := H
  have A2 := Aside0.mk A20
  clear A20
  by_cases c3 : t162 = true
  · subst c3
    have H1 : (w22_CMoves.l0 k l0 true (([(⟨(⟨#[]⟩ : ByteArray), 1, 0, 256⟩ : S31), (⟨(⟨#[]⟩ : ByteArray), 2, 0, 256⟩ : S31), (⟨(⟨#[]⟩ : ByteArray), 1, 0, 256⟩ : S31), (⟨(⟨#[]⟩ : ByteArray), 3, 0, 256⟩ : S31)] : List (S31))) (([] : List (S47))) (([(([] : List Int)), (([] : List Int))] : List (List Int))) 0 0) = some r := by rw [if_pos rfl] at H; exact H
    clear H
    have H := H1
    clear H1
    obtain ⟨y163, hy163⟩ : ∃ y_ : List (S31), y_ = (([(⟨(⟨#[]⟩ : ByteArray), 1, 0, 256⟩ : S31), (⟨(⟨#[]⟩ : ByteArray), 2, 0, 256⟩ : S31), (⟨(⟨#[]⟩ : ByteArray), 1, 0, 256⟩ : S31), (⟨(⟨#[]⟩ : ByteArray), 3, 0, 256⟩ : S31)] : List (S31))) := ⟨_, rfl⟩
    replace H : (w22_CMoves.l0 k l0 true y163 (([] : List (S47))) (([(([] : List Int)), (([] : List Int))] : List (List Int))) 0 0) = some r := by first | (rw [hy163]; with_reducible exact H) | (have H2_ := (Option.bind_some _ _).symm.trans H; rw [hy163]; with_reducible exact H2_) | (have H2_ := (Option.bind_some _ _).symm.trans H; with_reducible exact H2_) | with_reducible exact H | (rw [hy163]; exact H) | exact H
    have Ny163 := Aside0.mk hy163
    clear hy163
    obtain ⟨y166, hy166⟩ : ∃ y_ : List (S47), y_ = (([] : List (S47))) := ⟨_, rfl⟩
    replace H : (w22_CMoves.l0 k l0 true y163 y166 (([(([] : List Int)), (([] : List Int))] : List (List Int))) 0 0) = some r := by first | (rw [hy166]; with_reducible exact H) | (have H2_ := (Option.bind_some _ _).symm.trans H; rw [hy166]; with_reducible exact H2_) | (have H2_ := (Option.bind_some _ _).symm.trans H; with_reducible exact H2_) | with_reducible exact H | (rw [hy166]; exact H) | exact H
    have Ny166 := Aside0.mk hy166
    clear hy166
    obtain ⟨y169, hy169⟩ : ∃ y_ : List Int, y_ = (([] : List Int)) := ⟨_, rfl⟩
    replace H : (w22_CMoves.l0 k l0 true y163 y166 (([y169, (([] : List Int))] : List (List Int))) 0 0) = some r := by first | (rw [hy169]; with_reducible exact H) | (have H2_ := (Option.bind_some _ _).symm.trans H; rw [hy169]; with_reducible exact H2_) | (have H2_ := (Option.bind_some _ _).symm.trans H; with_reducible exact H2_) | with_reducible exact H | (rw [hy169]; exact H) | exact H
    have Ny169 := Aside0.mk hy169
    clear hy169
    obtain ⟨y172, hy172⟩ : ∃ y_ : List Int, y_ = (([] : List Int)) := ⟨_, rfl⟩
    replace H : (w22_CMoves.l0 k l0 true y163 y166 (([y169, y172] : List (List Int))) 0 0) = some r := by first | (rw [hy172]; with_reducible exact H) | (have H2_ := (Option.bind_some _ _).symm.trans H; rw [hy172]; with_reducible exact H2_) | (have H2_ := (Option.bind_some _ _).symm.trans H; with_reducible exact H2_) | with_reducible exact H | (rw [hy172]; exact H) | exact H
    have Ny172 := Aside0.mk hy172
    clear hy172
    obtain ⟨y175, hy175⟩ : ∃ y_ : List (List Int), y_ = (([y169, y172] : List (List Int))) := ⟨_, rfl⟩
    replace H : (w22_CMoves.l0 k l0 true y163 y166 y175 0 0) = some r := by first | (rw [hy175]; with_reducible exact H) | (have H2_ := (Option.bind_some _ _).symm.trans H; rw [hy175]; with_reducible exact H2_) | (have H2_ := (Option.bind_some _ _).symm.trans H; with_reducible exact H2_) | with_reducible exact H | (rw [hy175]; exact H) | exact H
    have Ny175 := Aside0.mk hy175
    clear hy175
    have H' := Aside0.mk H
    clear H
    go_enter Tryd.func5, Tryd.ntmps5
    go_wp2_with (first | ((with_reducible refine gate_callee (f := 9) rfl ?_); refine goesL_ (some 15) rfl rfl Tryd.func9 (by kernel_rfl) rfl #[] rfl (by (try simp only [List.map_toArray, List.map_cons, List.map_nil]); first | done | rfl | (simp only [List.length_drop, List.length_take]; rfl)) ?_; (with_reducible refine (w22_examples.calls k  true _ A2.out).mono ?_); rintro e w4 ⟨rfl, hb⟩; refine ⟨_, rfl, ?_⟩; have n0_ := Aside0.mk (below_step (by repeat (first | (with_reducible first | exact HB.out | apply pA | apply pN | apply p1_) | exact HB.out)) hb); clear HB; have HB := n0_; clear n0_; (try clear hb); (try clear hb2); (try clear hk); (try clear hi)) | ((with_reducible refine gate_dst (N := 22) rfl ?_); refine Kd.R_lit k31 _ 31 ?hg (N := 22) ?hd (xs := ([(⟨(⟨#[]⟩ : ByteArray), 1, 0, 256⟩ : S31), (⟨(⟨#[]⟩ : ByteArray), 2, 0, 256⟩ : S31), (⟨(⟨#[]⟩ : ByteArray), 1, 0, 256⟩ : S31), (⟨(⟨#[]⟩ : ByteArray), 3, 0, 256⟩ : S31)] : List (S31))) (inner := [.string (⟨#[]⟩ : ByteArray), .int .i64 1, .int .i64 0, .int .i64 256, .string (⟨#[]⟩ : ByteArray), .int .i64 2, .int .i64 0, .int .i64 256, .string (⟨#[]⟩ : ByteArray), .int .i64 1, .int .i64 0, .int .i64 256, .string (⟨#[]⟩ : ByteArray), .int .i64 3, .int .i64 0, .int .i64 256]) (ok := fun _ => True) (okp := fun _ => True) ?hr ?hp (fun _ hk => hk) trivial (Below.refl _ _) (Nat.le_refl _) (by simp) ?_; (case hd => rfl); (case hg => rfl); (case hr => first | (go_simp; done) | (go_simp; rfl)); (case hp => exact (Reps.c4 (show Kd.M k31 _ _ _ (⟨(⟨#[]⟩ : ByteArray), 1, 0, 256⟩ : S31) [.string (⟨#[]⟩ : ByteArray), .int .i64 1, .int .i64 0, .int .i64 256] from (k31_mkM _ _ _ (⟨(⟨#[]⟩ : ByteArray), 1, 0, 256⟩ : S31) )) (Reps.c4 (show Kd.M k31 _ _ _ (⟨(⟨#[]⟩ : ByteArray), 2, 0, 256⟩ : S31) [.string (⟨#[]⟩ : ByteArray), .int .i64 2, .int .i64 0, .int .i64 256] from (k31_mkM _ _ _ (⟨(⟨#[]⟩ : ByteArray), 2, 0, 256⟩ : S31) )) (Reps.c4 (show Kd.M k31 _ _ _ (⟨(⟨#[]⟩ : ByteArray), 1, 0, 256⟩ : S31) [.string (⟨#[]⟩ : ByteArray), .int .i64 1, .int .i64 0, .int .i64 256] from (k31_mkM _ _ _ (⟨(⟨#[]⟩ : ByteArray), 1, 0, 256⟩ : S31) )) (Reps.c4 (show Kd.M k31 _ _ _ (⟨(⟨#[]⟩ : ByteArray), 3, 0, 256⟩ : S31) [.string (⟨#[]⟩ : ByteArray), .int .i64 3, .int .i64 0, .int .i64 256] from (k31_mkM _ _ _ (⟨(⟨#[]⟩ : ByteArray), 3, 0, 256⟩ : S31) )) (Reps.none _ _)))))); intro v164 w5 ho6 hb hg_ hnew_; clear hg_ hnew_; (first | rw [← Ny163.out] at ho6 | (simp only [Int.reduceToNat] at ho6; rw [← Ny163.out] at ho6)); have n0_ := Aside0.mk (Kd.R_lower ho6 (below_size (by repeat (first | (with_reducible first | exact HB.out | apply pA | apply pN | apply p1_) | exact HB.out)))); have n1_ := Aside0.mk (below_step (by repeat (first | (with_reducible first | exact HB.out | apply pA | apply pN | apply p1_) | exact HB.out)) hb); clear HB; have HO165 := n0_; have HB := n1_; clear n0_ n1_; clear hb ho6) | ((with_reducible refine gate_dst (N := 23) rfl ?_); refine Kd.R_lit k47 _ 47 ?hg (N := 23) ?hd (xs := ([] : List (S47))) (inner := []) (ok := fun _ => True) (okp := fun _ => True) ?hr ?hp (fun _ hk => hk) trivial (Below.refl _ _) (Nat.le_refl _) (by simp) ?_; (case hd => rfl); (case hg => rfl); (case hr => first | (go_simp; done) | (go_simp; rfl)); (case hp => exact (Reps.none _ _)); intro v167 w7 ho8 hb hg_ hnew_; clear hg_ hnew_; (first | rw [← Ny166.out] at ho8 | (simp only [Int.reduceToNat] at ho8; rw [← Ny166.out] at ho8)); have n0_ := Aside0.mk (Kd.R_below (by (with_reducible repeat (first | apply Kd.R_alloc | apply Kd.R_drewN | apply Kd.R_drew)); exact HO165.out) hb); have n1_ := Aside0.mk (Kd.R_lower ho8 (below_size (by repeat (first | (with_reducible first | exact HB.out | apply pA | apply pN | apply p1_) | exact HB.out)))); have n2_ := Aside0.mk (below_step (by repeat (first | (with_reducible first | exact HB.out | apply pA | apply pN | apply p1_) | exact HB.out)) hb); clear HO165; clear HB; have HO165 := n0_; have HO168 := n1_; have HB := n2_; clear n0_ n1_ n2_; clear hb ho8) | ((with_reducible refine gate_dst (N := 24) rfl ?_); refine Kd.R_lit (Kd.int .i64) _ 3 ?hg (N := 24) ?hd (xs := ([] : List Int)) (inner := []) (ok := fun _ => True) (okp := fun _ => True) ?hr ?hp (fun _ hk => hk) trivial (Below.refl _ _) (Nat.le_refl _) (by simp) ?_; (case hd => rfl); (case hg => rfl); (case hr => first | (go_simp; done) | (go_simp; rfl)); (case hp => exact (Reps.none _ _)); intro v170 w9 ho10 hb hg_ hnew_; clear hg_ hnew_; (first | rw [← Ny169.out] at ho10 | (simp only [Int.reduceToNat] at ho10; rw [← Ny169.out] at ho10)); have n0_ := Aside0.mk (Kd.R_below (by (with_reducible repeat (first | apply Kd.R_alloc | apply Kd.R_drewN | apply Kd.R_drew)); exact HO165.out) hb); have n1_ := Aside0.mk (Kd.R_below (by (with_reducible repeat (first | apply Kd.R_alloc | apply Kd.R_drewN | apply Kd.R_drew)); exact HO168.out) hb); have n2_ := Aside0.mk (Kd.R_lower ho10 (below_size (by repeat (first | (with_reducible first | exact HB.out | apply pA | apply pN | apply p1_) | exact HB.out)))); have n3_ := Aside0.mk (below_step (by repeat (first | (with_reducible first | exact HB.out | apply pA | apply pN | apply p1_) | exact HB.out)) hb); clear HO165; clear HO168; clear HB; have HO165 := n0_; have HO168 := n1_; have HO171 := n2_; have HB := n3_; clear n0_ n1_ n2_ n3_; clear hb ho10) | ((with_reducible refine gate_dst (N := 25) rfl ?_); refine Kd.R_lit (Kd.int .i64) _ 3 ?hg (N := 25) ?hd (xs := ([] : List Int)) (inner := []) (ok := fun _ => True) (okp := fun _ => True) ?hr ?hp (fun _ hk => hk) trivial (Below.refl _ _) (Nat.le_refl _) (by simp) ?_; (case hd => rfl); (case hg => rfl); (case hr => first | (go_simp; done) | (go_simp; rfl)); (case hp => exact (Reps.none _ _)); intro v173 w11 ho12 hb hg_ hnew_; clear hg_ hnew_; (first | rw [← Ny172.out] at ho12 | (simp only [Int.reduceToNat] at ho12; rw [← Ny172.out] at ho12)); have n0_ := Aside0.mk (Kd.R_below (by (with_reducible repeat (first | apply Kd.R_alloc | apply Kd.R_drewN | apply Kd.R_drew)); exact HO165.out) hb); have n1_ := Aside0.mk (Kd.R_below (by (with_reducible repeat (first | apply Kd.R_alloc | apply Kd.R_drewN | apply Kd.R_drew)); exact HO168.out) hb); have n2_ := Aside0.mk (Kd.R_elder' (by (with_reducible repeat (first | apply Kd.R_alloc | apply Kd.R_drewN | apply Kd.R_drew)); exact HO171.out) (Kd.R_base ho12) hb); have n3_ := Aside0.mk (Kd.R_lower (Kd.R_new' ho12 (Kd.R_lt (by (with_reducible repeat (first | apply Kd.R_alloc | apply Kd.R_drewN | apply Kd.R_drew)); exact HO171.out))) (below_size (by repeat (first | (with_reducible first | exact HB.out | apply pA | apply pN | apply p1_) | exact HB.out)))); have n4_ := Aside0.mk (below_step (by repeat (first | (with_reducible first | exact HB.out | apply pA | apply pN | apply p1_) | exact HB.out)) hb); clear HO165; clear HO168; clear HO171; clear HB; have HO165 := n0_; have HO168 := n1_; have HO171 := n2_; have HO174 := n3_; have HB := n4_; clear n0_ n1_ n2_ n3_ n4_; clear hb ho12; obtain ⟨Ao13, co13, eo13⟩ := Kd.R_slice HO171.out; subst eo13; obtain ⟨Ao14, co14, eo14⟩ := Kd.R_slice HO174.out; subst eo14) | ((with_reducible refine gate_dst (N := 26) rfl ?_); have r13_ := Aside0.mk HO171.out; have r14_ := Aside0.mk HO174.out; refine Kd.S_rows (Kd.slice 3 (Kd.int .i64)) (w0 := w) w.heap.size 22 ?hg (N := 26) ?hd (xs := ([y169, y172] : List (List Int))) (inner := [.slice Ao13 y169.length co13, .slice Ao14 y172.length co14]) (fun (j_ k_ : Nat) => (j_ = 0 ∧ some k_ = (Value.slice Ao13 y169.length co13).ownBlock) ∨ (j_ = 1 ∧ some k_ = (Value.slice Ao14 y172.length co14).ownBlock)) ?hr rfl ?hp ?ha (below_size (by repeat (first | (with_reducible first | exact HB.out | apply pA | apply pN | apply p1_) | exact HB.out))) (by simp) ?_; (case hd => rfl); (case hg => rfl); (case hr => first | (go_simp; done) | (go_simp; rfl)); (case hp => exact two_rows (by (with_reducible repeat (first | apply Kd.R_alloc | apply Kd.R_drewN | apply Kd.R_drew)); exact HO171.out) (by (with_reducible repeat (first | apply Kd.R_alloc | apply Kd.R_drewN | apply Kd.R_drew)); exact HO174.out)); (case ha => exact two_apart (fun k_ hk_ => HO174.out.1 k_ hk_)); intro v176 w15 ho16 hb; (first | rw [← Ny175.out] at ho16 | (simp only [Int.reduceToNat] at ho16; rw [← Ny175.out] at ho16)); have n0_ := Aside0.mk (Kd.R_below (by (with_reducible repeat (first | apply Kd.R_alloc | apply Kd.R_drewN | apply Kd.R_drew)); exact HO165.out) hb); have n1_ := Aside0.mk (Kd.R_below (by (with_reducible repeat (first | apply Kd.R_alloc | apply Kd.R_drewN | apply Kd.R_drew)); exact HO168.out) hb); have n4_ := Aside0.mk ho16; have n5_ := Aside0.mk (below_step (by repeat (first | (with_reducible first | exact HB.out | apply pA | apply pN | apply p1_) | exact HB.out)) hb); clear r13_ r14_; clear HO165; clear HO168; clear HO171; clear HO174; clear HB; have HO165 := n0_; have HO168 := n1_; have HO177 := n4_; have HB := n5_; clear n0_ n1_ n4_ n5_; clear hb ho16))
    go_loopg [5, 7, 8] k (fun kq v5 v7 v8 w' => ∃ (x5_1 : List (S47)) (x6_1 : List (List Int)) (x7_1 : Int) (x8_1 : Int), v7 = .int .i64 x7_1 ∧ v8 = .int .i64 x8_1 ∧ Aside0 (w22_CMoves.l0 kq l0 true y163 x5_1 x6_1 x7_1 x8_1 = some r) ∧ Aside0 (kq ≤ k) ∧ Aside0 (Kd.R k31 31 w' w.heap.size (fun _ => True) v164 y163) ∧ Aside0 (Kd.R k47 47 w' w.heap.size (fun _ => True) v5 x5_1) ∧ Aside0 (Kd.S (Kd.slice 3 (Kd.int .i64)) 22 w' w.heap.size (fun _ => True) v176 x6_1) ∧ Aside0 (Below w.heap.size w w'))
    case atStart => exact ⟨(y166), (y175), (0), (0), (by first | rfl | (simp; done) | (simp [*]; done)), (by first | rfl | (simp; done) | (simp [*]; done)), H', ⟨Nat.le_refl _⟩, ⟨by (with_reducible repeat (first | apply Kd.R_alloc | apply Kd.R_drewN | apply Kd.R_drew)); exact HO165.out⟩, ⟨by (with_reducible repeat (first | apply Kd.R_alloc | apply Kd.R_drewN | apply Kd.R_drew)); exact HO168.out⟩, ⟨by (with_reducible repeat (first | apply Kd.S_alloc | apply Kd.S_drewN | apply Kd.S_drew)); exact Kd.S_mono HO177.out (fun _ hk => trivial)⟩, ⟨by repeat (first | (with_reducible first | exact HB.out | apply pA | apply pN | apply p1_) | exact HB.out)⟩⟩
    case round =>
      clear H'
      try clear p2
      try clear c3
      try clear c4
      try clear c5
      try clear c9
      obtain ⟨x5_1, x6_1, x7_1, x8_1, rfl, rfl, HA, HK1, HO_4, HO_5, HO_6, HB⟩ := hrel
      cases gk with
      | zero => exact absurd HA.out (by simp [w22_CMoves.l0])
      | succ k1 =>
        have H := HA.out
        clear HA
        simp only [w22_CMoves.l0] at H
        have HC17 := Aside0.mk H
        clear H
        go_upto_region 8 with (fail)
        go_cut [34] (fun v34 wc => ∃ (kq : Nat) (x34_16 : Bool), v34 = .bool x34_16 ∧ Aside0 (w22_CMoves.j1 kq l0 true y163 x5_1 x6_1 x7_1 x8_1 x34_16 = some r) ∧ Aside0 (kq ≤ k1) ∧ Aside0 (Kd.R k31 31 wc w.heap.size (fun _ => True) v164 y163) ∧ Aside0 (Kd.R k47 47 wc w.heap.size (fun _ => True) u5 x5_1) ∧ Aside0 (Kd.S (Kd.slice 3 (Kd.int .i64)) 22 wc w.heap.size (fun _ => True) v176 x6_1) ∧ Aside0 (Below w.heap.size w wc))
        case first =>
          have H := HC17.out
          clear HC17
          by_cases c18 : x8_1 < (l0.length : Int)
          · rw [if_pos c18] at H
            have c18b0 : decide (x8_1 < (l0.length : Int)) = true := decide_eq_true c18
            clear c18
            (first | rw [c18b0] | (simp only [i64_w, i32_w]; rw [c18b0]) | skip)
            have H' := Aside0.mk H
            clear H
            go_wp2
            go_meet
            case rel => exact ⟨_, (decide (x8_1 < 60)), (by first | rfl | (simp; done) | (simp [*]; done)), H', ⟨by have := HK1.out; first | omega | exact Nat.le_refl _⟩, ⟨by (with_reducible repeat (first | apply Kd.R_alloc | apply Kd.R_drewN | apply Kd.R_drew)); exact HO_4.out⟩, ⟨by (with_reducible repeat (first | apply Kd.R_alloc | apply Kd.R_drewN | apply Kd.R_drew)); exact HO_5.out⟩, ⟨by (with_reducible repeat (first | apply Kd.S_alloc | apply Kd.S_drewN | apply Kd.S_drew)); exact HO_6.out⟩, ⟨by repeat (first | (with_reducible first | exact HB.out | apply pA | apply pN | apply p1_) | exact HB.out)⟩⟩
          · rw [if_neg c18] at H
            have c18b0 : decide (x8_1 < (l0.length : Int)) = false := decide_eq_false c18
            clear c18
            (first | rw [c18b0] | (simp only [i64_w, i32_w]; rw [c18b0]) | skip)
            have H' := Aside0.mk H
            clear H
            go_wp2
            go_meet
            case rel => exact ⟨_, (false), (by first | rfl | (simp; done) | (simp [*]; done)), H', ⟨by have := HK1.out; first | omega | exact Nat.le_refl _⟩, ⟨by (with_reducible repeat (first | apply Kd.R_alloc | apply Kd.R_drewN | apply Kd.R_drew)); exact HO_4.out⟩, ⟨by (with_reducible repeat (first | apply Kd.R_alloc | apply Kd.R_drewN | apply Kd.R_drew)); exact HO_5.out⟩, ⟨by (with_reducible repeat (first | apply Kd.S_alloc | apply Kd.S_drewN | apply Kd.S_drew)); exact HO_6.out⟩, ⟨by repeat (first | (with_reducible first | exact HB.out | apply pA | apply pN | apply p1_) | exact HB.out)⟩⟩
        case rest =>
          clear HC17
          try clear c1
          try clear p2
          try clear c3
          try clear c4
          try clear c5
          try clear c9
          try clear c18
          try clear c18b0
          try clear p2
          obtain ⟨kq, x34_16, rfl, HA, HJ16, HO_4, HO_5, HO_6, HB⟩ := hcut
          cases kq with
          | zero => exact absurd HA.out (by simp [w22_CMoves.j1])
          | succ kj16 =>
            have H := HA.out
            clear HA
            simp only [w22_CMoves.j1] at H
            by_cases c19 : x34_16 = true
            · subst c19
              have H1 : (if 0 ≤ x8_1 then (if x8_1 < (l0.length : Int) then ((w22_access.f (wrap64 (1 + (wrap64 (Int.tmod ((rd_T49 l0 x8_1).f0) 3)))) (wrap64 (Int.tmod ((rd_T49 l0 x8_1).f1) 4)) (wrap64 ((rd_T49 l0 x8_1).f2))).bind fun bt181 => (if x5_1.length < 1954687338268 then ((some (x5_1 ++ [(⟨bt181.1, bt181.2.1, bt181.2.2.1, bt181.2.2.2.1, bt181.2.2.2.2.1, bt181.2.2.2.2.2.1, bt181.2.2.2.2.2.2.1, bt181.2.2.2.2.2.2.2.1, bt181.2.2.2.2.2.2.2.2⟩ : S47)] : List (S47))).bind fun y191 => (if (Int.tmod bt181.2.2.2.2.2.2.1 2) = 0 then (if 0 ≤ (wrap64 (Int.tdiv bt181.2.2.2.2.2.2.1 2)) then (if (wrap64 (Int.tdiv bt181.2.2.2.2.2.2.1 2)) < (x6_1.length : Int) then (if (rd_L5 x6_1 (wrap64 (Int.tdiv bt181.2.2.2.2.2.2.1 2))).length < 17592186044416 then (w22_CMoves.j2 kj16 l0 true y163 y191 (x6_1.set ((wrap64 (Int.tdiv bt181.2.2.2.2.2.2.1 2)) : Int).toNat ((rd_L5 x6_1 (wrap64 (Int.tdiv bt181.2.2.2.2.2.2.1 2))) ++ [bt181.2.2.2.2.2.2.2.1])) x7_1 x8_1 bt181.1 bt181.2.1 bt181.2.2.1 bt181.2.2.2.1 bt181.2.2.2.2.1 bt181.2.2.2.2.2.1 bt181.2.2.2.2.2.2.1 bt181.2.2.2.2.2.2.2.1 bt181.2.2.2.2.2.2.2.2) else (none)) else (none)) else (none)) else (w22_CMoves.j2 kj16 l0 true y163 y191 x6_1 x7_1 x8_1 bt181.1 bt181.2.1 bt181.2.2.1 bt181.2.2.2.1 bt181.2.2.2.2.1 bt181.2.2.2.2.2.1 bt181.2.2.2.2.2.2.1 bt181.2.2.2.2.2.2.2.1 bt181.2.2.2.2.2.2.2.2))) else (none))) else (none)) else (none)) = some r := by rw [if_pos rfl] at H; exact H
              clear H
              have H := H1
              clear H1
              by_cases c20 : 0 ≤ x8_1
              · rw [if_pos c20] at H
                have c20b0 : decide (0 ≤ x8_1) = true := decide_eq_true c20
                clear c20
                by_cases c21 : x8_1 < (l0.length : Int)
                · rw [if_pos c21] at H
                  have c21b0 : decide (x8_1 < (l0.length : Int)) = true := decide_eq_true c21
                  clear c21
                  replace H := Option.bind_eq_some_iff.mp H
                  obtain ⟨⟨t181, t182, t183, t184, t185, t186, t187, t188, t189⟩, A220, H⟩ := H
                  replace H : (if x5_1.length < 1954687338268 then ((some (x5_1 ++ [(⟨t181, t182, t183, t184, t185, t186, t187, t188, t189⟩ : S47)] : List (S47))).bind fun y191 => (if (Int.tmod t187 2) = 0 then (if 0 ≤ (wrap64 (Int.tdiv t187 2)) then (if (wrap64 (Int.tdiv t187 2)) < (x6_1.length : Int) then (if (rd_L5 x6_1 (wrap64 (Int.tdiv t187 2))).length < 17592186044416 then (w22_CMoves.j2 kj16 l0 true y163 y191 (x6_1.set ((wrap64 (Int.tdiv t187 2)) : Int).toNat ((rd_L5 x6_1 (wrap64 (Int.tdiv t187 2))) ++ [t188])) x7_1 x8_1 t181 t182 t183 t184 t185 t186 t187 t188 t189) else (none)) else (none)) else (none)) else (w22_CMoves.j2 kj16 l0 true y163 y191 x6_1 x7_1 x8_1 t181 t182 t183 t184 t185 t186 t187 t188 t189))) else (none)) = some r := H
                  have A22 := Aside0.mk A220
                  clear A220
                  by_cases c23 : x5_1.length < 1954687338268
                  · rw [if_pos c23] at H
                    have LMc23 := Aside0.mk c23
                    clear c23
                    obtain ⟨y191, hy191⟩ : ∃ y_ : List (S47), y_ = (x5_1 ++ [(⟨t181, t182, t183, t184, t185, t186, t187, t188, t189⟩ : S47)]) := ⟨_, rfl⟩
                    replace H : (if (Int.tmod t187 2) = 0 then (if 0 ≤ (wrap64 (Int.tdiv t187 2)) then (if (wrap64 (Int.tdiv t187 2)) < (x6_1.length : Int) then (if (rd_L5 x6_1 (wrap64 (Int.tdiv t187 2))).length < 17592186044416 then (w22_CMoves.j2 kj16 l0 true y163 y191 (x6_1.set ((wrap64 (Int.tdiv t187 2)) : Int).toNat ((rd_L5 x6_1 (wrap64 (Int.tdiv t187 2))) ++ [t188])) x7_1 x8_1 t181 t182 t183 t184 t185 t186 t187 t188 t189) else (none)) else (none)) else (none)) else (w22_CMoves.j2 kj16 l0 true y163 y191 x6_1 x7_1 x8_1 t181 t182 t183 t184 t185 t186 t187 t188 t189)) = some r := by first | (rw [hy191]; with_reducible exact H) | (have H2_ := (Option.bind_some _ _).symm.trans H; rw [hy191]; with_reducible exact H2_) | (have H2_ := (Option.bind_some _ _).symm.trans H; with_reducible exact H2_) | with_reducible exact H | (rw [hy191]; exact H) | exact H
                    have Ny191 := Aside0.mk hy191
                    clear hy191
                    have HC24 := Aside0.mk H
                    clear H
                    try go_wp2
                    have n0_ := Aside0.mk (Kd.R_drew HO_4.out)
                    have n1_ := Aside0.mk (Kd.R_drew HO_5.out)
                    have n2_ := Aside0.mk (Kd.S_drew HO_6.out)
                    have n3_ := Aside0.mk (p1_ HB.out)
                    clear HO_4
                    clear HO_5
                    clear HO_6
                    clear HB
                    have HO_4 := n0_
                    have HO_5 := n1_
                    have HO_6 := n2_
                    have HB := n3_
                    clear n0_ n1_ n2_ n3_
                    have p178 : 0 ≤ (x8_1 : Int) := of_decide_eq_true (by first | (with_reducible assumption) | assumption)
                    have q178 : x8_1 < (l0.length : Int) := of_decide_eq_true (by first | (with_reducible assumption) | assumption)
                    obtain ⟨ad178, e178, hx178_0, hx178_1, hx178_2⟩ := at_T49 HR0.out x8_1 p178 q178
                    have hw178_2 := hx178_2
                    have hw178_1 := hx178_1
                    have hw178_0 := hx178_0
                    cases e178
                    replace hx178_0 := (HB.out.cell (World.block_lt_of_cell? w _ hx178_0)).trans hx178_0
                    replace hx178_1 := (HB.out.cell (World.block_lt_of_cell? w _ hx178_1)).trans hx178_1
                    replace hx178_2 := (HB.out.cell (World.block_lt_of_cell? w _ hx178_2)).trans hx178_2
                    replace p178 := eq_true p178
                    replace q178 := eq_true q178
                    have p179 : 0 ≤ (x8_1 : Int) := of_decide_eq_true (by first | (with_reducible assumption) | assumption)
                    have q179 : x8_1 < (l0.length : Int) := of_decide_eq_true (by first | (with_reducible assumption) | assumption)
                    obtain ⟨ad179, e179, hx179_0, hx179_1, hx179_2⟩ := at_T49 HR0.out x8_1 p179 q179
                    have hw179_2 := hx179_2
                    have hw179_1 := hx179_1
                    have hw179_0 := hx179_0
                    obtain rfl : ad178 = ad179 := (by injection e179)
                    replace hx179_0 := (HB.out.cell (World.block_lt_of_cell? w _ hx179_0)).trans hx179_0
                    replace hx179_1 := (HB.out.cell (World.block_lt_of_cell? w _ hx179_1)).trans hx179_1
                    replace hx179_2 := (HB.out.cell (World.block_lt_of_cell? w _ hx179_2)).trans hx179_2
                    replace p179 := eq_true p179
                    replace q179 := eq_true q179
                    have p180 : 0 ≤ (x8_1 : Int) := of_decide_eq_true (by first | (with_reducible assumption) | assumption)
                    have q180 : x8_1 < (l0.length : Int) := of_decide_eq_true (by first | (with_reducible assumption) | assumption)
                    obtain ⟨ad180, e180, hx180_0, hx180_1, hx180_2⟩ := at_T49 HR0.out x8_1 p180 q180
                    have hw180_2 := hx180_2
                    have hw180_1 := hx180_1
                    have hw180_0 := hx180_0
                    obtain rfl : ad178 = ad180 := (by injection e180)
                    replace hx180_0 := (HB.out.cell (World.block_lt_of_cell? w _ hx180_0)).trans hx180_0
                    replace hx180_1 := (HB.out.cell (World.block_lt_of_cell? w _ hx180_1)).trans hx180_1
                    replace hx180_2 := (HB.out.cell (World.block_lt_of_cell? w _ hx180_2)).trans hx180_2
                    replace p180 := eq_true p180
                    replace q180 := eq_true q180
                    refine start_ (n := 24) (S := fun w' => True) (ds := []) #[false, false, false, false, false, false, false, false, false, false, false, false, false, false, false, false, false, false, false, false, false, false, false, false] (by kernel_rfl) rfl rfl trivial (fun hHeld => ?_); refine with_tabW w22_CMoves.tab10 w22_CMoves.bits10 (fun HT_ HW_ => ?_)
                    generalize wc.drew = w25 at HO_4 HO_5 HO_6 HB hx178_0 hx178_1 hx178_2 hx179_0 hx179_1 hx179_2 hx180_0 hx180_1 hx180_2 hHeld ⊢
                    refine pure_ (i := 0) (N := some 37) (v := ?_) (a' := ?_) #[true, false, false, false, false, false, false, false, false, false, false, false, false, false, false, false, false, false, false, false, false, false, false, false] rfl rfl (any_of HT_.out (by kernel_rfl)) (fun _ _ _ h => h) (Or.inl ⟨by rfl, ?_⟩) ?_ ?_
                    rotate_left
                    · intro w'
                      go_simp
                      with_reducible rfl
                    rotate_left
                    · simp only [Act.put, sI, sZ, sS, i64_w, i32_w]
                      rfl
                    refine pure_ (i := 1) (N := some 38) (v := ?_) (a' := ?_) #[true, true, false, false, false, false, false, false, false, false, false, false, false, false, false, false, false, false, false, false, false, false, false, false] rfl rfl (any_of HT_.out (by kernel_rfl)) (fun _ _ _ h => h) (Or.inl ⟨by rfl, ?_⟩) ?_ ?_
                    rotate_left
                    · intro w'
                      go_simp
                      with_reducible rfl
                    rotate_left
                    · simp only [Act.put, sI, sZ, sS, i64_w, i32_w]
                      rfl
                    refine pure_ (i := 8) (N := some 45) (v := ?_) (a' := ?_) #[true, true, false, false, false, false, false, false, true, false, false, false, false, false, false, false, false, false, false, false, false, false, false, false] rfl rfl (any_of HT_.out (by kernel_rfl)) (fun _ _ _ h => h) (Or.inl ⟨by rfl, ?_⟩) ?_ ?_
                    rotate_left
                    · intro w'
                      go_simp
                      with_reducible rfl
                    rotate_left
                    · simp only [Act.put, sI, sZ, sS, i64_w, i32_w]
                      rfl
                    refine pure_ (i := 9) (N := some 46) (v := ?_) (a' := ?_) #[true, true, false, false, false, false, false, false, true, true, false, false, false, false, false, false, false, false, false, false, false, false, false, false] rfl rfl (any_of HT_.out (by kernel_rfl)) (fun _ _ _ h => h) (Or.inl ⟨by rfl, ?_⟩) ?_ ?_
                    rotate_left
                    · intro w'
                      go_simp
                      with_reducible rfl
                    rotate_left
                    · simp only [Act.put, sI, sZ, sS, i64_w, i32_w]
                      rfl
                    refine pure_ (i := 15) (N := some 52) (v := ?_) (a' := ?_) #[true, true, false, false, false, false, false, false, true, true, false, false, false, false, false, true, false, false, false, false, false, false, false, false] rfl rfl (any_of HT_.out (by kernel_rfl)) (fun _ _ _ h => h) (Or.inl ⟨by rfl, ?_⟩) ?_ ?_
                    rotate_left
                    · intro w'
                      go_simp
                      with_reducible rfl
                    rotate_left
                    · simp only [Act.put, sI, sZ, sS, i64_w, i32_w]
                      rfl
                    refine pure_ (i := 16) (N := some 53) (v := ?_) (a' := ?_) #[true, true, false, false, false, false, false, false, true, true, false, false, false, false, false, true, true, false, false, false, false, false, false, false] rfl rfl (any_of HT_.out (by kernel_rfl)) (fun _ _ _ h => h) (Or.inl ⟨by rfl, ?_⟩) ?_ ?_
                    rotate_left
                    · intro w'
                      go_simp
                      with_reducible rfl
                    rotate_left
                    · simp only [Act.put, sI, sZ, sS, i64_w, i32_w]
                      rfl
                    refine inv_at [2, 3, 4, 5, 6, 7, 10, 11, 12, 13, 14, 17, 18, 19, 20, 21, 22, 23] (fun a0_ b a w' => ∃ (gb190 : Nat) (m22_ : Value), a = putSel a0_ b [(2, 39, .pointer (some (ad178.add ((x8_1).toNat * 3)))), (3, 40, .pointer (some (ad178.add ((x8_1).toNat * 3)))), (4, 41, .int .u8 ((rd_T49 l0 x8_1).f0)), (5, 42, .int .u8 (Int.tmod ((rd_T49 l0 x8_1).f0) 3)), (6, 43, .int .i64 (wrap64 (Int.tmod ((rd_T49 l0 x8_1).f0) 3))), (7, 44, .int .i64 (wrap64 (1 + (wrap64 (Int.tmod ((rd_T49 l0 x8_1).f0) 3))))), (10, 47, .pointer (some (ad178.add ((x8_1).toNat * 3)))), (11, 48, .pointer (some ⟨(ad178.add ((x8_1).toNat * 3)).block, (ad178.add ((x8_1).toNat * 3)).off + 1, none⟩)), (12, 49, .int .u8 ((rd_T49 l0 x8_1).f1)), (13, 50, .int .u8 (Int.tmod ((rd_T49 l0 x8_1).f1) 4)), (14, 51, .int .i64 (wrap64 (Int.tmod ((rd_T49 l0 x8_1).f1) 4))), (17, 54, .pointer (some (ad178.add ((x8_1).toNat * 3)))), (18, 55, .pointer (some ⟨(ad178.add ((x8_1).toNat * 3)).block, (ad178.add ((x8_1).toNat * 3)).off + 2, none⟩)), (19, 56, .int .u8 ((rd_T49 l0 x8_1).f2)), (20, 57, .int .i64 (wrap64 ((rd_T49 l0 x8_1).f2))), (21, 58, .agg #[.int .i64 t181, .int .i64 t182, .int .i64 t183, .int .i64 t184, .int .i64 t185, .int .i64 t186, .int .i64 t187, .int .i64 t188, .int .i32 t189]), (22, 9, m22_)] ∧ (Kd.R k31 31 w' w.heap.size (fun _ => True) v164 y163) ∧ (b 22 = false → Kd.R k47 47 w' w.heap.size (fun _ => True) u5 x5_1) ∧ (Kd.S (Kd.slice 3 (Kd.int .i64)) 22 w' w.heap.size (fun _ => True) v176 x6_1) ∧ (Below w.heap.size w w') ∧ (b 22 = true → Kd.R k47 47 w' w.heap.size (fun k_ => k_ ≠ gb190) u5 x5_1) ∧ (b 22 = true → b 23 = false → w'.heap[gb190]? = some (.cells #[.int .i64 0, .int .i64 0, .int .i64 0, .int .i64 0, .int .i64 0, .int .i64 0, .int .i64 0, .int .i64 0, .int .i32 0] 47 (0, 0))) ∧ (b 22 = true → w.heap.size ≤ gb190) ∧ (b 22 = true → w.heap.size ≤ gb190) ∧ (b 23 = true → w'.heap[gb190]? = some (.cells #[.int .i64 t181, .int .i64 t182, .int .i64 t183, .int .i64 t184, .int .i64 t185, .int .i64 t186, .int .i64 t187, .int .i64 t188, .int .i32 t189] 47 (0, 0))) ∧ (b 22 = true → (m22_ : Value) = .pointer (some ⟨gb190, 0, none⟩))) HT_.out HW_.out (by kernel_rfl) (by kernel_rfl) ?_ ?_ ?_
                    · exact ⟨0, .bool false, by simp only [putSel, Bool.false_eq_true, if_false], HO_4.out, fun _ => HO_5.out, HO_6.out, HB.out, fun h_ => absurd h_ (by decide), fun h_ => absurd h_ (by decide), fun h_ => absurd h_ (by decide), fun h_ => absurd h_ (by decide), fun h_ => absurd h_ (by decide), fun h_ => absurd h_ (by decide)⟩
                    · skip
                      clear HB HO_4 HO_5 HO_6
                      refine steps_cons ?_ ?_
                      · rintro b a w' ⟨gb190, m22_, ha, Q_HO_4, Q_HO_5, Q_HO_6, Q_HB, Q_HO_5_e22, Q_BK190, Q_GW190, Q_GE190, Q_BK190_e23, Q_X22_⟩ hb_ hon hoff
                        refine ⟨_, rfl, fun K hK => ?_⟩
                        have e37 : a.tmps[37]? = some (.slice (some ad178) l0.length c0) := by rw [ha]; exact (putSel_off rfl).trans rfl
                        have e38 : a.tmps[38]? = some (.int .i64 x8_1) := by rw [ha]; exact (putSel_off rfl).trans rfl
                        replace ha := Aside0.mk ha
                        have HO_4 := Aside0.mk Q_HO_4
                        have HO_6 := Aside0.mk Q_HO_6
                        have HB := Aside0.mk Q_HB
                        have hs0_ : w'.cell? (ad178.add ((x8_1).toNat * 3)) = some (.int .u8 ((rd_T49 l0 x8_1).f0)) := ((HB.out.cell (World.block_lt_of_cell? w _ hw178_0)).trans hw178_0)
                        have hs1_ : w'.cell? ⟨(ad178.add ((x8_1).toNat * 3)).block, (ad178.add ((x8_1).toNat * 3)).off + 1, none⟩ = some (.int .u8 ((rd_T49 l0 x8_1).f1)) := ((HB.out.cell (World.block_lt_of_cell? w _ hw178_1)).trans hw178_1)
                        have hs2_ : w'.cell? ⟨(ad178.add ((x8_1).toNat * 3)).block, (ad178.add ((x8_1).toNat * 3)).off + 2, none⟩ = some (.int .u8 ((rd_T49 l0 x8_1).f2)) := ((HB.out.cell (World.block_lt_of_cell? w _ hw178_2)).trans hw178_2)
                        refine value_ (w1 := w') (v := .pointer (some (ad178.add ((x8_1).toNat * 3)))) (by rfl) rfl ?_ ?_
                        · go_simp
                          (try simp only [i64_w])
                          try rfl
                        refine hK.out _ _ ⟨gb190, m22_, (by rw [ha.out]; exact putSel_upk 0 hb_ rfl rfl rfl), Q_HO_4, Q_HO_5, Q_HO_6, Q_HB, Q_HO_5_e22, Q_BK190, Q_GW190, Q_GE190, fun h0_ => absurd ((hoff 23 (by kernel_rfl)).symm.trans h0_) (by decide), Q_X22_⟩
                      refine steps_cons ?_ ?_
                      · rintro b a w' ⟨gb190, m22_, ha, Q_HO_4, Q_HO_5, Q_HO_6, Q_HB, Q_HO_5_e22, Q_BK190, Q_GW190, Q_GE190, Q_BK190_e23, Q_X22_⟩ hb_ hon hoff
                        refine ⟨_, rfl, fun K hK => ?_⟩
                        have e39 : a.tmps[39]? = some (.pointer (some (ad178.add ((x8_1).toNat * 3)))) := by rw [ha]; exact putSel_on (e := (2, 39, .pointer (some (ad178.add ((x8_1).toNat * 3))))) 0 rfl rfl (hon 2 (by kernel_rfl)) rfl
                        replace ha := Aside0.mk ha
                        have HO_4 := Aside0.mk Q_HO_4
                        have HO_6 := Aside0.mk Q_HO_6
                        have HB := Aside0.mk Q_HB
                        refine value_ (w1 := w') (v := .pointer (some (ad178.add ((x8_1).toNat * 3)))) (by rfl) rfl ?_ ?_
                        · go_simp
                          (try simp only [i64_w])
                          try rfl
                        refine hK.out _ _ ⟨gb190, m22_, (by rw [ha.out]; exact putSel_upk 1 hb_ rfl rfl rfl), Q_HO_4, Q_HO_5, Q_HO_6, Q_HB, Q_HO_5_e22, Q_BK190, Q_GW190, Q_GE190, fun h0_ => absurd ((hoff 23 (by kernel_rfl)).symm.trans h0_) (by decide), Q_X22_⟩
                      refine steps_cons ?_ ?_
                      · rintro b a w' ⟨gb190, m22_, ha, Q_HO_4, Q_HO_5, Q_HO_6, Q_HB, Q_HO_5_e22, Q_BK190, Q_GW190, Q_GE190, Q_BK190_e23, Q_X22_⟩ hb_ hon hoff
                        refine ⟨_, rfl, fun K hK => ?_⟩
                        have e40 : a.tmps[40]? = some (.pointer (some (ad178.add ((x8_1).toNat * 3)))) := by rw [ha]; exact putSel_on (e := (3, 40, .pointer (some (ad178.add ((x8_1).toNat * 3))))) 1 rfl rfl (hon 3 (by kernel_rfl)) rfl
                        replace ha := Aside0.mk ha
                        have HO_4 := Aside0.mk Q_HO_4
                        have HO_6 := Aside0.mk Q_HO_6
                        have HB := Aside0.mk Q_HB
                        have hs0_ : w'.cell? (ad178.add ((x8_1).toNat * 3)) = some (.int .u8 ((rd_T49 l0 x8_1).f0)) := ((HB.out.cell (World.block_lt_of_cell? w _ hw178_0)).trans hw178_0)
                        have hs1_ : w'.cell? ⟨(ad178.add ((x8_1).toNat * 3)).block, (ad178.add ((x8_1).toNat * 3)).off + 1, none⟩ = some (.int .u8 ((rd_T49 l0 x8_1).f1)) := ((HB.out.cell (World.block_lt_of_cell? w _ hw178_1)).trans hw178_1)
                        have hs2_ : w'.cell? ⟨(ad178.add ((x8_1).toNat * 3)).block, (ad178.add ((x8_1).toNat * 3)).off + 2, none⟩ = some (.int .u8 ((rd_T49 l0 x8_1).f2)) := ((HB.out.cell (World.block_lt_of_cell? w _ hw178_2)).trans hw178_2)
                        refine value_ (w1 := w') (v := .int .u8 ((rd_T49 l0 x8_1).f0)) (by rfl) rfl ?_ ?_
                        · go_simp
                          (try simp only [i64_w])
                          try rfl
                        refine hK.out _ _ ⟨gb190, m22_, (by rw [ha.out]; exact putSel_upk 2 hb_ rfl rfl rfl), Q_HO_4, Q_HO_5, Q_HO_6, Q_HB, Q_HO_5_e22, Q_BK190, Q_GW190, Q_GE190, fun h0_ => absurd ((hoff 23 (by kernel_rfl)).symm.trans h0_) (by decide), Q_X22_⟩
                      refine steps_cons ?_ ?_
                      · rintro b a w' ⟨gb190, m22_, ha, Q_HO_4, Q_HO_5, Q_HO_6, Q_HB, Q_HO_5_e22, Q_BK190, Q_GW190, Q_GE190, Q_BK190_e23, Q_X22_⟩ hb_ hon hoff
                        refine ⟨_, rfl, fun K hK => ?_⟩
                        have e41 : a.tmps[41]? = some (.int .u8 ((rd_T49 l0 x8_1).f0)) := by rw [ha]; exact putSel_on (e := (4, 41, .int .u8 ((rd_T49 l0 x8_1).f0))) 2 rfl rfl (hon 4 (by kernel_rfl)) rfl
                        replace ha := Aside0.mk ha
                        have HO_4 := Aside0.mk Q_HO_4
                        have HO_6 := Aside0.mk Q_HO_6
                        have HB := Aside0.mk Q_HB
                        refine value_ (w1 := w') (v := .int .u8 (Int.tmod ((rd_T49 l0 x8_1).f0) 3)) (by rfl) rfl ?_ ?_
                        · go_simp
                          (try simp only [i64_w])
                          try rfl
                        refine hK.out _ _ ⟨gb190, m22_, (by rw [ha.out]; exact putSel_upk 3 hb_ rfl rfl rfl), Q_HO_4, Q_HO_5, Q_HO_6, Q_HB, Q_HO_5_e22, Q_BK190, Q_GW190, Q_GE190, fun h0_ => absurd ((hoff 23 (by kernel_rfl)).symm.trans h0_) (by decide), Q_X22_⟩
                      refine steps_cons ?_ ?_
                      · rintro b a w' ⟨gb190, m22_, ha, Q_HO_4, Q_HO_5, Q_HO_6, Q_HB, Q_HO_5_e22, Q_BK190, Q_GW190, Q_GE190, Q_BK190_e23, Q_X22_⟩ hb_ hon hoff
                        refine ⟨_, rfl, fun K hK => ?_⟩
                        have e42 : a.tmps[42]? = some (.int .u8 (Int.tmod ((rd_T49 l0 x8_1).f0) 3)) := by rw [ha]; exact putSel_on (e := (5, 42, .int .u8 (Int.tmod ((rd_T49 l0 x8_1).f0) 3))) 3 rfl rfl (hon 5 (by kernel_rfl)) rfl
                        replace ha := Aside0.mk ha
                        have HO_4 := Aside0.mk Q_HO_4
                        have HO_6 := Aside0.mk Q_HO_6
                        have HB := Aside0.mk Q_HB
                        refine value_ (w1 := w') (v := .int .i64 (wrap64 (Int.tmod ((rd_T49 l0 x8_1).f0) 3))) (by rfl) rfl ?_ ?_
                        · go_simp
                          (try simp only [i64_w])
                          try rfl
                        refine hK.out _ _ ⟨gb190, m22_, (by rw [ha.out]; exact putSel_upk 4 hb_ rfl rfl rfl), Q_HO_4, Q_HO_5, Q_HO_6, Q_HB, Q_HO_5_e22, Q_BK190, Q_GW190, Q_GE190, fun h0_ => absurd ((hoff 23 (by kernel_rfl)).symm.trans h0_) (by decide), Q_X22_⟩
                      refine steps_cons ?_ ?_
                      · rintro b a w' ⟨gb190, m22_, ha, Q_HO_4, Q_HO_5, Q_HO_6, Q_HB, Q_HO_5_e22, Q_BK190, Q_GW190, Q_GE190, Q_BK190_e23, Q_X22_⟩ hb_ hon hoff
                        refine ⟨_, rfl, fun K hK => ?_⟩
                        have e43 : a.tmps[43]? = some (.int .i64 (wrap64 (Int.tmod ((rd_T49 l0 x8_1).f0) 3))) := by rw [ha]; exact putSel_on (e := (6, 43, .int .i64 (wrap64 (Int.tmod ((rd_T49 l0 x8_1).f0) 3)))) 4 rfl rfl (hon 6 (by kernel_rfl)) rfl
                        replace ha := Aside0.mk ha
                        have HO_4 := Aside0.mk Q_HO_4
                        have HO_6 := Aside0.mk Q_HO_6
                        have HB := Aside0.mk Q_HB
                        refine value_ (w1 := w') (v := .int .i64 (wrap64 (1 + (wrap64 (Int.tmod ((rd_T49 l0 x8_1).f0) 3))))) (by rfl) rfl ?_ ?_
                        · go_simp
                          (try simp only [i64_w])
                          try rfl
                        refine hK.out _ _ ⟨gb190, m22_, (by rw [ha.out]; exact putSel_upk 5 hb_ rfl rfl rfl), Q_HO_4, Q_HO_5, Q_HO_6, Q_HB, Q_HO_5_e22, Q_BK190, Q_GW190, Q_GE190, fun h0_ => absurd ((hoff 23 (by kernel_rfl)).symm.trans h0_) (by decide), Q_X22_⟩
                      refine steps_cons ?_ ?_
                      · rintro b a w' ⟨gb190, m22_, ha, Q_HO_4, Q_HO_5, Q_HO_6, Q_HB, Q_HO_5_e22, Q_BK190, Q_GW190, Q_GE190, Q_BK190_e23, Q_X22_⟩ hb_ hon hoff
                        refine ⟨_, rfl, fun K hK => ?_⟩
                        have e45 : a.tmps[45]? = some (.slice (some ad178) l0.length c0) := by rw [ha]; exact (putSel_off rfl).trans rfl
                        have e46 : a.tmps[46]? = some (.int .i64 x8_1) := by rw [ha]; exact (putSel_off rfl).trans rfl
                        replace ha := Aside0.mk ha
                        have HO_4 := Aside0.mk Q_HO_4
                        have HO_6 := Aside0.mk Q_HO_6
                        have HB := Aside0.mk Q_HB
                        have hs3_ : w'.cell? (ad178.add ((x8_1).toNat * 3)) = some (.int .u8 ((rd_T49 l0 x8_1).f0)) := ((HB.out.cell (World.block_lt_of_cell? w _ hw179_0)).trans hw179_0)
                        have hs4_ : w'.cell? ⟨(ad178.add ((x8_1).toNat * 3)).block, (ad178.add ((x8_1).toNat * 3)).off + 1, none⟩ = some (.int .u8 ((rd_T49 l0 x8_1).f1)) := ((HB.out.cell (World.block_lt_of_cell? w _ hw179_1)).trans hw179_1)
                        have hs5_ : w'.cell? ⟨(ad178.add ((x8_1).toNat * 3)).block, (ad178.add ((x8_1).toNat * 3)).off + 2, none⟩ = some (.int .u8 ((rd_T49 l0 x8_1).f2)) := ((HB.out.cell (World.block_lt_of_cell? w _ hw179_2)).trans hw179_2)
                        refine value_ (w1 := w') (v := .pointer (some (ad178.add ((x8_1).toNat * 3)))) (by rfl) rfl ?_ ?_
                        · go_simp
                          (try simp only [i64_w])
                          try rfl
                        refine hK.out _ _ ⟨gb190, m22_, (by rw [ha.out]; exact putSel_upk 6 hb_ rfl rfl rfl), Q_HO_4, Q_HO_5, Q_HO_6, Q_HB, Q_HO_5_e22, Q_BK190, Q_GW190, Q_GE190, fun h0_ => absurd ((hoff 23 (by kernel_rfl)).symm.trans h0_) (by decide), Q_X22_⟩
                      refine steps_cons ?_ ?_
                      · rintro b a w' ⟨gb190, m22_, ha, Q_HO_4, Q_HO_5, Q_HO_6, Q_HB, Q_HO_5_e22, Q_BK190, Q_GW190, Q_GE190, Q_BK190_e23, Q_X22_⟩ hb_ hon hoff
                        refine ⟨_, rfl, fun K hK => ?_⟩
                        have e47 : a.tmps[47]? = some (.pointer (some (ad178.add ((x8_1).toNat * 3)))) := by rw [ha]; exact putSel_on (e := (10, 47, .pointer (some (ad178.add ((x8_1).toNat * 3))))) 6 rfl rfl (hon 10 (by kernel_rfl)) rfl
                        replace ha := Aside0.mk ha
                        have HO_4 := Aside0.mk Q_HO_4
                        have HO_6 := Aside0.mk Q_HO_6
                        have HB := Aside0.mk Q_HB
                        refine value_ (w1 := w') (v := .pointer (some ⟨(ad178.add ((x8_1).toNat * 3)).block, (ad178.add ((x8_1).toNat * 3)).off + 1, none⟩)) (by rfl) rfl ?_ ?_
                        · go_simp
                          (try simp only [i64_w])
                          try rfl
                        refine hK.out _ _ ⟨gb190, m22_, (by rw [ha.out]; exact putSel_upk 7 hb_ rfl rfl rfl), Q_HO_4, Q_HO_5, Q_HO_6, Q_HB, Q_HO_5_e22, Q_BK190, Q_GW190, Q_GE190, fun h0_ => absurd ((hoff 23 (by kernel_rfl)).symm.trans h0_) (by decide), Q_X22_⟩
                      refine steps_cons ?_ ?_
                      · rintro b a w' ⟨gb190, m22_, ha, Q_HO_4, Q_HO_5, Q_HO_6, Q_HB, Q_HO_5_e22, Q_BK190, Q_GW190, Q_GE190, Q_BK190_e23, Q_X22_⟩ hb_ hon hoff
                        refine ⟨_, rfl, fun K hK => ?_⟩
                        have e48 : a.tmps[48]? = some (.pointer (some ⟨(ad178.add ((x8_1).toNat * 3)).block, (ad178.add ((x8_1).toNat * 3)).off + 1, none⟩)) := by rw [ha]; exact putSel_on (e := (11, 48, .pointer (some ⟨(ad178.add ((x8_1).toNat * 3)).block, (ad178.add ((x8_1).toNat * 3)).off + 1, none⟩))) 7 rfl rfl (hon 11 (by kernel_rfl)) rfl
                        replace ha := Aside0.mk ha
                        have HO_4 := Aside0.mk Q_HO_4
                        have HO_6 := Aside0.mk Q_HO_6
                        have HB := Aside0.mk Q_HB
                        have hs3_ : w'.cell? (ad178.add ((x8_1).toNat * 3)) = some (.int .u8 ((rd_T49 l0 x8_1).f0)) := ((HB.out.cell (World.block_lt_of_cell? w _ hw179_0)).trans hw179_0)
                        have hs4_ : w'.cell? ⟨(ad178.add ((x8_1).toNat * 3)).block, (ad178.add ((x8_1).toNat * 3)).off + 1, none⟩ = some (.int .u8 ((rd_T49 l0 x8_1).f1)) := ((HB.out.cell (World.block_lt_of_cell? w _ hw179_1)).trans hw179_1)
                        have hs5_ : w'.cell? ⟨(ad178.add ((x8_1).toNat * 3)).block, (ad178.add ((x8_1).toNat * 3)).off + 2, none⟩ = some (.int .u8 ((rd_T49 l0 x8_1).f2)) := ((HB.out.cell (World.block_lt_of_cell? w _ hw179_2)).trans hw179_2)
                        refine value_ (w1 := w') (v := .int .u8 ((rd_T49 l0 x8_1).f1)) (by rfl) rfl ?_ ?_
                        · go_simp
                          (try simp only [i64_w])
                          try rfl
                        refine hK.out _ _ ⟨gb190, m22_, (by rw [ha.out]; exact putSel_upk 8 hb_ rfl rfl rfl), Q_HO_4, Q_HO_5, Q_HO_6, Q_HB, Q_HO_5_e22, Q_BK190, Q_GW190, Q_GE190, fun h0_ => absurd ((hoff 23 (by kernel_rfl)).symm.trans h0_) (by decide), Q_X22_⟩
                      refine steps_cons ?_ ?_
                      · rintro b a w' ⟨gb190, m22_, ha, Q_HO_4, Q_HO_5, Q_HO_6, Q_HB, Q_HO_5_e22, Q_BK190, Q_GW190, Q_GE190, Q_BK190_e23, Q_X22_⟩ hb_ hon hoff
                        refine ⟨_, rfl, fun K hK => ?_⟩
                        have e49 : a.tmps[49]? = some (.int .u8 ((rd_T49 l0 x8_1).f1)) := by rw [ha]; exact putSel_on (e := (12, 49, .int .u8 ((rd_T49 l0 x8_1).f1))) 8 rfl rfl (hon 12 (by kernel_rfl)) rfl
                        replace ha := Aside0.mk ha
                        have HO_4 := Aside0.mk Q_HO_4
                        have HO_6 := Aside0.mk Q_HO_6
                        have HB := Aside0.mk Q_HB
                        refine value_ (w1 := w') (v := .int .u8 (Int.tmod ((rd_T49 l0 x8_1).f1) 4)) (by rfl) rfl ?_ ?_
                        · go_simp
                          (try simp only [i64_w])
                          try rfl
                        refine hK.out _ _ ⟨gb190, m22_, (by rw [ha.out]; exact putSel_upk 9 hb_ rfl rfl rfl), Q_HO_4, Q_HO_5, Q_HO_6, Q_HB, Q_HO_5_e22, Q_BK190, Q_GW190, Q_GE190, fun h0_ => absurd ((hoff 23 (by kernel_rfl)).symm.trans h0_) (by decide), Q_X22_⟩
                      refine steps_cons ?_ ?_
                      · rintro b a w' ⟨gb190, m22_, ha, Q_HO_4, Q_HO_5, Q_HO_6, Q_HB, Q_HO_5_e22, Q_BK190, Q_GW190, Q_GE190, Q_BK190_e23, Q_X22_⟩ hb_ hon hoff
                        refine ⟨_, rfl, fun K hK => ?_⟩
                        have e50 : a.tmps[50]? = some (.int .u8 (Int.tmod ((rd_T49 l0 x8_1).f1) 4)) := by rw [ha]; exact putSel_on (e := (13, 50, .int .u8 (Int.tmod ((rd_T49 l0 x8_1).f1) 4))) 9 rfl rfl (hon 13 (by kernel_rfl)) rfl
                        replace ha := Aside0.mk ha
                        have HO_4 := Aside0.mk Q_HO_4
                        have HO_6 := Aside0.mk Q_HO_6
                        have HB := Aside0.mk Q_HB
                        refine value_ (w1 := w') (v := .int .i64 (wrap64 (Int.tmod ((rd_T49 l0 x8_1).f1) 4))) (by rfl) rfl ?_ ?_
                        · go_simp
                          (try simp only [i64_w])
                          try rfl
                        refine hK.out _ _ ⟨gb190, m22_, (by rw [ha.out]; exact putSel_upk 10 hb_ rfl rfl rfl), Q_HO_4, Q_HO_5, Q_HO_6, Q_HB, Q_HO_5_e22, Q_BK190, Q_GW190, Q_GE190, fun h0_ => absurd ((hoff 23 (by kernel_rfl)).symm.trans h0_) (by decide), Q_X22_⟩
                      refine steps_cons ?_ ?_
                      · rintro b a w' ⟨gb190, m22_, ha, Q_HO_4, Q_HO_5, Q_HO_6, Q_HB, Q_HO_5_e22, Q_BK190, Q_GW190, Q_GE190, Q_BK190_e23, Q_X22_⟩ hb_ hon hoff
                        refine ⟨_, rfl, fun K hK => ?_⟩
                        have e52 : a.tmps[52]? = some (.slice (some ad178) l0.length c0) := by rw [ha]; exact (putSel_off rfl).trans rfl
                        have e53 : a.tmps[53]? = some (.int .i64 x8_1) := by rw [ha]; exact (putSel_off rfl).trans rfl
                        replace ha := Aside0.mk ha
                        have HO_4 := Aside0.mk Q_HO_4
                        have HO_6 := Aside0.mk Q_HO_6
                        have HB := Aside0.mk Q_HB
                        have hs6_ : w'.cell? (ad178.add ((x8_1).toNat * 3)) = some (.int .u8 ((rd_T49 l0 x8_1).f0)) := ((HB.out.cell (World.block_lt_of_cell? w _ hw180_0)).trans hw180_0)
                        have hs7_ : w'.cell? ⟨(ad178.add ((x8_1).toNat * 3)).block, (ad178.add ((x8_1).toNat * 3)).off + 1, none⟩ = some (.int .u8 ((rd_T49 l0 x8_1).f1)) := ((HB.out.cell (World.block_lt_of_cell? w _ hw180_1)).trans hw180_1)
                        have hs8_ : w'.cell? ⟨(ad178.add ((x8_1).toNat * 3)).block, (ad178.add ((x8_1).toNat * 3)).off + 2, none⟩ = some (.int .u8 ((rd_T49 l0 x8_1).f2)) := ((HB.out.cell (World.block_lt_of_cell? w _ hw180_2)).trans hw180_2)
                        refine value_ (w1 := w') (v := .pointer (some (ad178.add ((x8_1).toNat * 3)))) (by rfl) rfl ?_ ?_
                        · go_simp
                          (try simp only [i64_w])
                          try rfl
                        refine hK.out _ _ ⟨gb190, m22_, (by rw [ha.out]; exact putSel_upk 11 hb_ rfl rfl rfl), Q_HO_4, Q_HO_5, Q_HO_6, Q_HB, Q_HO_5_e22, Q_BK190, Q_GW190, Q_GE190, fun h0_ => absurd ((hoff 23 (by kernel_rfl)).symm.trans h0_) (by decide), Q_X22_⟩
                      refine steps_cons ?_ ?_
                      · rintro b a w' ⟨gb190, m22_, ha, Q_HO_4, Q_HO_5, Q_HO_6, Q_HB, Q_HO_5_e22, Q_BK190, Q_GW190, Q_GE190, Q_BK190_e23, Q_X22_⟩ hb_ hon hoff
                        refine ⟨_, rfl, fun K hK => ?_⟩
                        have e54 : a.tmps[54]? = some (.pointer (some (ad178.add ((x8_1).toNat * 3)))) := by rw [ha]; exact putSel_on (e := (17, 54, .pointer (some (ad178.add ((x8_1).toNat * 3))))) 11 rfl rfl (hon 17 (by kernel_rfl)) rfl
                        replace ha := Aside0.mk ha
                        have HO_4 := Aside0.mk Q_HO_4
                        have HO_6 := Aside0.mk Q_HO_6
                        have HB := Aside0.mk Q_HB
                        refine value_ (w1 := w') (v := .pointer (some ⟨(ad178.add ((x8_1).toNat * 3)).block, (ad178.add ((x8_1).toNat * 3)).off + 2, none⟩)) (by rfl) rfl ?_ ?_
                        · go_simp
                          (try simp only [i64_w])
                          try rfl
                        refine hK.out _ _ ⟨gb190, m22_, (by rw [ha.out]; exact putSel_upk 12 hb_ rfl rfl rfl), Q_HO_4, Q_HO_5, Q_HO_6, Q_HB, Q_HO_5_e22, Q_BK190, Q_GW190, Q_GE190, fun h0_ => absurd ((hoff 23 (by kernel_rfl)).symm.trans h0_) (by decide), Q_X22_⟩
                      refine steps_cons ?_ ?_
                      · rintro b a w' ⟨gb190, m22_, ha, Q_HO_4, Q_HO_5, Q_HO_6, Q_HB, Q_HO_5_e22, Q_BK190, Q_GW190, Q_GE190, Q_BK190_e23, Q_X22_⟩ hb_ hon hoff
                        refine ⟨_, rfl, fun K hK => ?_⟩
                        have e55 : a.tmps[55]? = some (.pointer (some ⟨(ad178.add ((x8_1).toNat * 3)).block, (ad178.add ((x8_1).toNat * 3)).off + 2, none⟩)) := by rw [ha]; exact putSel_on (e := (18, 55, .pointer (some ⟨(ad178.add ((x8_1).toNat * 3)).block, (ad178.add ((x8_1).toNat * 3)).off + 2, none⟩))) 12 rfl rfl (hon 18 (by kernel_rfl)) rfl
                        replace ha := Aside0.mk ha
                        have HO_4 := Aside0.mk Q_HO_4
                        have HO_6 := Aside0.mk Q_HO_6
                        have HB := Aside0.mk Q_HB
                        have hs6_ : w'.cell? (ad178.add ((x8_1).toNat * 3)) = some (.int .u8 ((rd_T49 l0 x8_1).f0)) := ((HB.out.cell (World.block_lt_of_cell? w _ hw180_0)).trans hw180_0)
                        have hs7_ : w'.cell? ⟨(ad178.add ((x8_1).toNat * 3)).block, (ad178.add ((x8_1).toNat * 3)).off + 1, none⟩ = some (.int .u8 ((rd_T49 l0 x8_1).f1)) := ((HB.out.cell (World.block_lt_of_cell? w _ hw180_1)).trans hw180_1)
                        have hs8_ : w'.cell? ⟨(ad178.add ((x8_1).toNat * 3)).block, (ad178.add ((x8_1).toNat * 3)).off + 2, none⟩ = some (.int .u8 ((rd_T49 l0 x8_1).f2)) := ((HB.out.cell (World.block_lt_of_cell? w _ hw180_2)).trans hw180_2)
                        refine value_ (w1 := w') (v := .int .u8 ((rd_T49 l0 x8_1).f2)) (by rfl) rfl ?_ ?_
                        · go_simp
                          (try simp only [i64_w])
                          try rfl
                        refine hK.out _ _ ⟨gb190, m22_, (by rw [ha.out]; exact putSel_upk 13 hb_ rfl rfl rfl), Q_HO_4, Q_HO_5, Q_HO_6, Q_HB, Q_HO_5_e22, Q_BK190, Q_GW190, Q_GE190, fun h0_ => absurd ((hoff 23 (by kernel_rfl)).symm.trans h0_) (by decide), Q_X22_⟩
                      refine steps_cons ?_ ?_
                      · rintro b a w' ⟨gb190, m22_, ha, Q_HO_4, Q_HO_5, Q_HO_6, Q_HB, Q_HO_5_e22, Q_BK190, Q_GW190, Q_GE190, Q_BK190_e23, Q_X22_⟩ hb_ hon hoff
                        refine ⟨_, rfl, fun K hK => ?_⟩
                        have e56 : a.tmps[56]? = some (.int .u8 ((rd_T49 l0 x8_1).f2)) := by rw [ha]; exact putSel_on (e := (19, 56, .int .u8 ((rd_T49 l0 x8_1).f2))) 13 rfl rfl (hon 19 (by kernel_rfl)) rfl
                        replace ha := Aside0.mk ha
                        have HO_4 := Aside0.mk Q_HO_4
                        have HO_6 := Aside0.mk Q_HO_6
                        have HB := Aside0.mk Q_HB
                        refine value_ (w1 := w') (v := .int .i64 (wrap64 ((rd_T49 l0 x8_1).f2))) (by rfl) rfl ?_ ?_
                        · go_simp
                          (try simp only [i64_w])
                          try rfl
                        refine hK.out _ _ ⟨gb190, m22_, (by rw [ha.out]; exact putSel_upk 14 hb_ rfl rfl rfl), Q_HO_4, Q_HO_5, Q_HO_6, Q_HB, Q_HO_5_e22, Q_BK190, Q_GW190, Q_GE190, fun h0_ => absurd ((hoff 23 (by kernel_rfl)).symm.trans h0_) (by decide), Q_X22_⟩
                      refine steps_cons ?_ ?_
                      · rintro b a w' ⟨gb190, m22_, ha, Q_HO_4, Q_HO_5, Q_HO_6, Q_HB, Q_HO_5_e22, Q_BK190, Q_GW190, Q_GE190, Q_BK190_e23, Q_X22_⟩ hb_ hon hoff
                        refine ⟨_, rfl, fun K hK => ?_⟩
                        have e44 : a.tmps[44]? = some (.int .i64 (wrap64 (1 + (wrap64 (Int.tmod ((rd_T49 l0 x8_1).f0) 3))))) := by rw [ha]; exact putSel_on (e := (7, 44, .int .i64 (wrap64 (1 + (wrap64 (Int.tmod ((rd_T49 l0 x8_1).f0) 3)))))) 5 rfl rfl (hon 7 (by kernel_rfl)) rfl
                        have e51 : a.tmps[51]? = some (.int .i64 (wrap64 (Int.tmod ((rd_T49 l0 x8_1).f1) 4))) := by rw [ha]; exact putSel_on (e := (14, 51, .int .i64 (wrap64 (Int.tmod ((rd_T49 l0 x8_1).f1) 4)))) 10 rfl rfl (hon 14 (by kernel_rfl)) rfl
                        have e57 : a.tmps[57]? = some (.int .i64 (wrap64 ((rd_T49 l0 x8_1).f2))) := by rw [ha]; exact putSel_on (e := (20, 57, .int .i64 (wrap64 ((rd_T49 l0 x8_1).f2)))) 14 rfl rfl (hon 20 (by kernel_rfl)) rfl
                        replace ha := Aside0.mk ha
                        have HO_4 := Aside0.mk Q_HO_4
                        have HO_6 := Aside0.mk Q_HO_6
                        have HB := Aside0.mk Q_HB
                        refine goes_ Tryd.func18 (by kernel_rfl) rfl #[.int .i64 (wrap64 (1 + (wrap64 (Int.tmod ((rd_T49 l0 x8_1).f0) 3)))), .int .i64 (wrap64 (Int.tmod ((rd_T49 l0 x8_1).f1) 4)), .int .i64 (wrap64 ((rd_T49 l0 x8_1).f2))] (by rfl) rfl rfl (by first | (simp only [List.map_toArray, List.map_cons, List.map_nil, Act.eval, Array.getD_eq_getD_getElem?, Option.getD_some, e44, e51, e57]; done) | (simp only [List.map_toArray, List.map_cons, List.map_nil, Act.eval, Array.getD_eq_getD_getElem?, Option.getD_some, e44, e51, e57]; rfl)) ?_
                        with_reducible refine (w22_access.calls (wrap64 (1 + (wrap64 (Int.tmod ((rd_T49 l0 x8_1).f0) 3)))) (wrap64 (Int.tmod ((rd_T49 l0 x8_1).f1) 4)) (wrap64 ((rd_T49 l0 x8_1).f2)) t181 t182 t183 t184 t185 t186 t187 t188 t189 _ A22.out).mono ?_
                        rintro e w26 ⟨rfl, hb⟩
                        refine ⟨_, rfl, ?_⟩
                        have n0_ := Aside0.mk (Kd.R_below (by (with_reducible repeat (first | apply Kd.R_alloc | apply Kd.R_drewN | apply Kd.R_drew)); exact HO_4.out) hb)
                        have n2_ := Aside0.mk (Kd.S_below (by (with_reducible repeat (first | apply Kd.S_alloc | apply Kd.S_drewN | apply Kd.S_drew)); exact HO_6.out) hb)
                        have n3_ := Aside0.mk (below_step (by repeat (first | (with_reducible first | exact HB.out | apply pA | apply pN | apply p1_) | exact HB.out)) hb)
                        have z_HO_5 := fun (h0_ : b 22 = false) => (show Kd.R k47 47 w26 w.heap.size (fun _ => True) u5 x5_1 from by first | exact (Kd.R_below (by (with_reducible repeat (first | apply Kd.R_alloc | apply Kd.R_drewN | apply Kd.R_drew)); exact (Q_HO_5 h0_)) hb) | exact Kd.R_mono (Kd.R_below (by (with_reducible repeat (first | apply Kd.R_alloc | apply Kd.R_drewN | apply Kd.R_drew)); exact (Q_HO_5 h0_)) hb) (fun _ h_ => by first | trivial | exact h_ | exact h_.1))
                        have z_HO_5_e22 := fun (h0_ : b 22 = true) => (show Kd.R k47 47 w26 w.heap.size (fun k_ => k_ ≠ gb190) u5 x5_1 from by first | exact (Kd.R_below (by (with_reducible repeat (first | apply Kd.R_alloc | apply Kd.R_drewN | apply Kd.R_drew)); exact (Q_HO_5_e22 h0_)) hb) | exact Kd.R_mono (Kd.R_below (by (with_reducible repeat (first | apply Kd.R_alloc | apply Kd.R_drewN | apply Kd.R_drew)); exact (Q_HO_5_e22 h0_)) hb) (fun _ h_ => by first | trivial | exact h_ | exact h_.1))
                        have z_BK190 := fun (h0_ : b 22 = true) (h1_ : b 23 = false) => (show w26.heap[gb190]? = some (.cells #[.int .i64 0, .int .i64 0, .int .i64 0, .int .i64 0, .int .i64 0, .int .i64 0, .int .i64 0, .int .i64 0, .int .i32 0] 47 (0, 0)) from by first | exact (bB (g := gb190) (o := .cells #[.int .i64 0, .int .i64 0, .int .i64 0, .int .i64 0, .int .i64 0, .int .i64 0, .int .i64 0, .int .i64 0, .int .i32 0] 47 (0, 0)) (by (with_reducible repeat (first | refine bN ?_ _ | refine bD ?_ | refine bA ?_ _)); exact (Q_BK190 h0_ h1_)) hb))
                        clear HO_4
                        clear HO_6
                        clear HB
                        have HO_4 := n0_
                        have HO_6 := n2_
                        have HB := n3_
                        clear n0_ n2_ n3_
                        (try clear hb)
                        (try clear hb2)
                        (try clear hk)
                        (try clear hi)
                        refine hK.out _ _ ⟨gb190, m22_, (by rw [ha.out]; exact putSel_upk 15 hb_ rfl rfl rfl), (by (with_reducible repeat (first | apply Kd.R_alloc | apply Kd.R_drewN | apply Kd.R_drew)); exact HO_4.out), z_HO_5, (by (with_reducible repeat (first | apply Kd.S_alloc | apply Kd.S_drewN | apply Kd.S_drew)); exact HO_6.out), (by repeat (first | (with_reducible first | exact HB.out | apply pA | apply pN | apply p1_) | exact HB.out)), z_HO_5_e22, z_BK190, Q_GW190, Q_GE190, fun h0_ => absurd ((hoff 23 (by kernel_rfl)).symm.trans h0_) (by decide), Q_X22_⟩
                      refine steps_cons ?_ ?_
                      · rintro b a w' ⟨gb190, m22_, ha, Q_HO_4, Q_HO_5, Q_HO_6, Q_HB, Q_HO_5_e22, Q_BK190, Q_GW190, Q_GE190, Q_BK190_e23, Q_X22_⟩ hb_ hon hoff
                        refine ⟨_, rfl, fun K hK => ?_⟩
                        replace ha := Aside0.mk ha
                        have HO_4 := Aside0.mk Q_HO_4
                        have HO_5 := Aside0.mk (Q_HO_5 hb_)
                        have HO_6 := Aside0.mk Q_HO_6
                        have HB := Aside0.mk Q_HB
                        refine box_step ?hg (N := 9) ?hd (cs := #[.int .i64 0, .int .i64 0, .int .i64 0, .int .i64 0, .int .i64 0, .int .i64 0, .int .i64 0, .int .i64 0, .int .i32 0]) (t := 47) ?hr ?_; (case hd => rfl); (case hg => rfl); (case hr => first | (go_simp; done) | (go_simp; rfl))
                        intro gb190 hg w26 hbox hb
                        have n0_ := Aside0.mk (Kd.R_below (by (with_reducible repeat (first | apply Kd.R_alloc | apply Kd.R_drewN | apply Kd.R_drew)); exact HO_4.out) hb)
                        have n1_ := Aside0.mk (Kd.R_below (Kd.R_elderB (by (with_reducible repeat (first | apply Kd.R_alloc | apply Kd.R_drewN | apply Kd.R_drew)); exact HO_5.out) gb190 (Nat.le_of_eq hg.symm)) hb)
                        have n2_ := Aside0.mk (Kd.S_below (by (with_reducible repeat (first | apply Kd.S_alloc | apply Kd.S_drewN | apply Kd.S_drew)); exact HO_6.out) hb)
                        have n3_ := Aside0.mk (below_step (by repeat (first | (with_reducible first | exact HB.out | apply pA | apply pN | apply p1_) | exact HB.out)) hb)
                        have n4_ := Aside0.mk (hbox)
                        have n5_ := Aside0.mk ((by rw [hg]; exact (below_size (by repeat (first | (with_reducible first | exact HB.out | apply pA | apply pN | apply p1_) | exact HB.out))) : w.heap.size ≤ gb190))
                        have n6_ := Aside0.mk ((by rw [hg]; exact (below_size (by repeat (first | (with_reducible first | exact HB.out | apply pA | apply pN | apply p1_) | exact HB.out))) : w.heap.size ≤ gb190))
                        clear HO_4
                        clear HO_5
                        clear HO_6
                        clear HB
                        have HO_4 := n0_
                        have HO_5 := n1_
                        have HO_6 := n2_
                        have HB := n3_
                        have BK190 := n4_
                        have GW190 := n5_
                        have GE190 := n6_
                        clear n0_ n1_ n2_ n3_ n4_ n5_ n6_
                        clear hb hbox hg
                        refine hK.out _ _ ⟨gb190, (.pointer (some ⟨gb190, 0, none⟩)), (by rw [ha.out]; exact putSel_upk 16 hb_ rfl rfl rfl), (by (with_reducible repeat (first | apply Kd.R_alloc | apply Kd.R_drewN | apply Kd.R_drew)); exact HO_4.out), fun h0_ => absurd ((up_self b 22).symm.trans h0_) (by decide), (by (with_reducible repeat (first | apply Kd.S_alloc | apply Kd.S_drewN | apply Kd.S_drew)); exact HO_6.out), (by repeat (first | (with_reducible first | exact HB.out | apply pA | apply pN | apply p1_ | refine bS ?_ GE190.out) | exact HB.out)), fun _ => (by (with_reducible repeat (first | apply Kd.R_alloc | apply Kd.R_drewN | apply Kd.R_drew)); exact Kd.R_mono HO_5.out (fun _ hk => hk.2)), fun _ _ => (by (with_reducible repeat (first | refine bN ?_ _ | refine bD ?_ | refine bA ?_ _)); exact BK190.out), fun _ => GW190.out, fun _ => GE190.out, fun h0_ => absurd ((hoff 23 (by kernel_rfl)).symm.trans h0_) (by decide), fun _ => rfl⟩
                      refine steps_cons ?_ ?_
                      · rintro b a w' ⟨gb190, m22_, ha, Q_HO_4, Q_HO_5, Q_HO_6, Q_HB, Q_HO_5_e22, Q_BK190, Q_GW190, Q_GE190, Q_BK190_e23, Q_X22_⟩ hb_ hon hoff
                        refine ⟨_, rfl, fun K hK => ?_⟩
                        have e9 : a.tmps[9]? = some (m22_) := by rw [ha]; exact putSel_on (e := (22, 9, m22_)) 16 rfl rfl (hon 22 (by kernel_rfl)) rfl
                        rw [Q_X22_ (hon 22 (by kernel_rfl))] at e9
                        have e58 : a.tmps[58]? = some (.agg #[.int .i64 t181, .int .i64 t182, .int .i64 t183, .int .i64 t184, .int .i64 t185, .int .i64 t186, .int .i64 t187, .int .i64 t188, .int .i32 t189]) := by rw [ha]; exact putSel_on (e := (21, 58, .agg #[.int .i64 t181, .int .i64 t182, .int .i64 t183, .int .i64 t184, .int .i64 t185, .int .i64 t186, .int .i64 t187, .int .i64 t188, .int .i32 t189])) 15 rfl rfl (hon 21 (by kernel_rfl)) rfl
                        replace ha := Aside0.mk ha
                        have HO_4 := Aside0.mk Q_HO_4
                        have HO_6 := Aside0.mk Q_HO_6
                        have HB := Aside0.mk Q_HB
                        have HO_5 := Aside0.mk (Q_HO_5_e22 (hon 22 (by kernel_rfl)))
                        have BK190 := Aside0.mk (Q_BK190 (hon 22 (by kernel_rfl)) hb_)
                        have GW190 := Aside0.mk (Q_GW190 (hon 22 (by kernel_rfl)))
                        have GE190 := Aside0.mk (Q_GE190 (hon 22 (by kernel_rfl)))
                        have hs29 : w'.cell? ⟨gb190, 0, none⟩ = some (.int .i64 0) := (bC BK190.out 0).trans rfl
                        have hfs29 := bF BK190.out 0
                        have hs30 : w'.cell? ⟨gb190, 1, none⟩ = some (.int .i64 0) := (bC BK190.out 1).trans rfl
                        have hfs30 := bF BK190.out 1
                        have hs31 : w'.cell? ⟨gb190, 2, none⟩ = some (.int .i64 0) := (bC BK190.out 2).trans rfl
                        have hfs31 := bF BK190.out 2
                        have hs32 : w'.cell? ⟨gb190, 3, none⟩ = some (.int .i64 0) := (bC BK190.out 3).trans rfl
                        have hfs32 := bF BK190.out 3
                        have hs33 : w'.cell? ⟨gb190, 4, none⟩ = some (.int .i64 0) := (bC BK190.out 4).trans rfl
                        have hfs33 := bF BK190.out 4
                        have hs34 : w'.cell? ⟨gb190, 5, none⟩ = some (.int .i64 0) := (bC BK190.out 5).trans rfl
                        have hfs34 := bF BK190.out 5
                        have hs35 : w'.cell? ⟨gb190, 6, none⟩ = some (.int .i64 0) := (bC BK190.out 6).trans rfl
                        have hfs35 := bF BK190.out 6
                        have hs36 : w'.cell? ⟨gb190, 7, none⟩ = some (.int .i64 0) := (bC BK190.out 7).trans rfl
                        have hfs36 := bF BK190.out 7
                        have hs37 : w'.cell? ⟨gb190, 8, none⟩ = some (.int .i32 0) := (bC BK190.out 8).trans rfl
                        have hfs37 := bF BK190.out 8
                        refine skip_ (w1 := ?_) (by rfl) rfl ?_ ?_
                        rotate_left
                        · go_simp
                          rfl
                        refine hK.out _ _ ⟨gb190, m22_, (by rw [ha.out]; exact putSel_none (v := undef) rfl), (by (with_reducible repeat (first | apply Kd.R_alloc | apply Kd.R_drewN | apply Kd.R_drew)); exact Kd.R_mono (Kd.R_far (p := ⟨gb190, 8, none⟩) (Kd.R_far (p := ⟨gb190, 7, none⟩) (Kd.R_far (p := ⟨gb190, 6, none⟩) (Kd.R_far (p := ⟨gb190, 5, none⟩) (Kd.R_far (p := ⟨gb190, 4, none⟩) (Kd.R_far (p := ⟨gb190, 3, none⟩) (Kd.R_far (p := ⟨gb190, 2, none⟩) (Kd.R_far (p := ⟨gb190, 1, none⟩) (Kd.R_far (p := ⟨gb190, 0, none⟩) (Kd.R_types HO_4.out BK190.out (by decide)) (fun _ hk => hk.2) (.int .i64 t181)) (fun _ hk => hk.2) (.int .i64 t182)) (fun _ hk => hk.2) (.int .i64 t183)) (fun _ hk => hk.2) (.int .i64 t184)) (fun _ hk => hk.2) (.int .i64 t185)) (fun _ hk => hk.2) (.int .i64 t186)) (fun _ hk => hk.2) (.int .i64 t187)) (fun _ hk => hk.2) (.int .i64 t188)) (fun _ hk => hk.2) (.int .i32 t189)) (fun _ hk => trivial)), fun h0_ => absurd ((hon 22 (by kernel_rfl)).symm.trans h0_) (by decide), (by (with_reducible repeat (first | apply Kd.S_alloc | apply Kd.S_drewN | apply Kd.S_drew)); exact Kd.S_mono (Kd.S_far (p := ⟨gb190, 8, none⟩) (Kd.S_far (p := ⟨gb190, 7, none⟩) (Kd.S_far (p := ⟨gb190, 6, none⟩) (Kd.S_far (p := ⟨gb190, 5, none⟩) (Kd.S_far (p := ⟨gb190, 4, none⟩) (Kd.S_far (p := ⟨gb190, 3, none⟩) (Kd.S_far (p := ⟨gb190, 2, none⟩) (Kd.S_far (p := ⟨gb190, 1, none⟩) (Kd.S_far (p := ⟨gb190, 0, none⟩) (Kd.S_types HO_6.out BK190.out (by decide)) (fun _ hk => hk.2) (.int .i64 t181)) (fun _ hk => hk.2) (.int .i64 t182)) (fun _ hk => hk.2) (.int .i64 t183)) (fun _ hk => hk.2) (.int .i64 t184)) (fun _ hk => hk.2) (.int .i64 t185)) (fun _ hk => hk.2) (.int .i64 t186)) (fun _ hk => hk.2) (.int .i64 t187)) (fun _ hk => hk.2) (.int .i64 t188)) (fun _ hk => hk.2) (.int .i32 t189)) (fun _ hk => trivial)), (by repeat (first | (with_reducible first | exact HB.out | apply pA | apply pN | apply p1_ | refine bS ?_ GE190.out) | exact HB.out)), fun _ => (by (with_reducible repeat (first | apply Kd.R_alloc | apply Kd.R_drewN | apply Kd.R_drew)); exact Kd.R_mono (Kd.R_far (p := ⟨gb190, 8, none⟩) (Kd.R_far (p := ⟨gb190, 7, none⟩) (Kd.R_far (p := ⟨gb190, 6, none⟩) (Kd.R_far (p := ⟨gb190, 5, none⟩) (Kd.R_far (p := ⟨gb190, 4, none⟩) (Kd.R_far (p := ⟨gb190, 3, none⟩) (Kd.R_far (p := ⟨gb190, 2, none⟩) (Kd.R_far (p := ⟨gb190, 1, none⟩) (Kd.R_far (p := ⟨gb190, 0, none⟩) (Kd.R_mono HO_5.out (fun k_ hk => (⟨hk, hk⟩ : _ ∧ k_ ≠ gb190))) (fun _ hk => hk.2) (.int .i64 t181)) (fun _ hk => hk.2) (.int .i64 t182)) (fun _ hk => hk.2) (.int .i64 t183)) (fun _ hk => hk.2) (.int .i64 t184)) (fun _ hk => hk.2) (.int .i64 t185)) (fun _ hk => hk.2) (.int .i64 t186)) (fun _ hk => hk.2) (.int .i64 t187)) (fun _ hk => hk.2) (.int .i64 t188)) (fun _ hk => hk.2) (.int .i32 t189)) (fun _ hk => hk.1)), fun _ h1_ => absurd ((up_self b 23).symm.trans h1_) (by decide), fun _ => GW190.out, fun _ => GE190.out, fun _ => (by (with_reducible repeat (first | refine bN ?_ _ | refine bD ?_ | refine bA ?_ _)); refine blk_put (cs := #[.int .i64 t181, .int .i64 t182, .int .i64 t183, .int .i64 t184, .int .i64 t185, .int .i64 t186, .int .i64 t187, .int .i64 t188, .int .i32 0]) ?_ 8 _ rfl; (with_reducible repeat (first | refine bN ?_ _ | refine bD ?_ | refine bA ?_ _)); refine blk_put (cs := #[.int .i64 t181, .int .i64 t182, .int .i64 t183, .int .i64 t184, .int .i64 t185, .int .i64 t186, .int .i64 t187, .int .i64 0, .int .i32 0]) ?_ 7 _ rfl; (with_reducible repeat (first | refine bN ?_ _ | refine bD ?_ | refine bA ?_ _)); refine blk_put (cs := #[.int .i64 t181, .int .i64 t182, .int .i64 t183, .int .i64 t184, .int .i64 t185, .int .i64 t186, .int .i64 0, .int .i64 0, .int .i32 0]) ?_ 6 _ rfl; (with_reducible repeat (first | refine bN ?_ _ | refine bD ?_ | refine bA ?_ _)); refine blk_put (cs := #[.int .i64 t181, .int .i64 t182, .int .i64 t183, .int .i64 t184, .int .i64 t185, .int .i64 0, .int .i64 0, .int .i64 0, .int .i32 0]) ?_ 5 _ rfl; (with_reducible repeat (first | refine bN ?_ _ | refine bD ?_ | refine bA ?_ _)); refine blk_put (cs := #[.int .i64 t181, .int .i64 t182, .int .i64 t183, .int .i64 t184, .int .i64 0, .int .i64 0, .int .i64 0, .int .i64 0, .int .i32 0]) ?_ 4 _ rfl; (with_reducible repeat (first | refine bN ?_ _ | refine bD ?_ | refine bA ?_ _)); refine blk_put (cs := #[.int .i64 t181, .int .i64 t182, .int .i64 t183, .int .i64 0, .int .i64 0, .int .i64 0, .int .i64 0, .int .i64 0, .int .i32 0]) ?_ 3 _ rfl; (with_reducible repeat (first | refine bN ?_ _ | refine bD ?_ | refine bA ?_ _)); refine blk_put (cs := #[.int .i64 t181, .int .i64 t182, .int .i64 0, .int .i64 0, .int .i64 0, .int .i64 0, .int .i64 0, .int .i64 0, .int .i32 0]) ?_ 2 _ rfl; (with_reducible repeat (first | refine bN ?_ _ | refine bD ?_ | refine bA ?_ _)); refine blk_put (cs := #[.int .i64 t181, .int .i64 0, .int .i64 0, .int .i64 0, .int .i64 0, .int .i64 0, .int .i64 0, .int .i64 0, .int .i32 0]) ?_ 1 _ rfl; (with_reducible repeat (first | refine bN ?_ _ | refine bD ?_ | refine bA ?_ _)); refine blk_put (cs := #[.int .i64 0, .int .i64 0, .int .i64 0, .int .i64 0, .int .i64 0, .int .i64 0, .int .i64 0, .int .i64 0, .int .i32 0]) ?_ 0 _ rfl; (with_reducible repeat (first | refine bN ?_ _ | refine bD ?_ | refine bA ?_ _)); exact BK190.out), Q_X22_⟩
                      exact steps_nil
                    rintro b a w37 hall ⟨gb190, m22_, ha, Q_HO_4, Q_HO_5, Q_HO_6, Q_HB, Q_HO_5_e22, Q_BK190, Q_GW190, Q_GE190, Q_BK190_e23, Q_X22_⟩
                    clear HB HO_4 HO_5 HO_6
                    have hb2_ := hall 2 (by kernel_rfl)
                    have hb3_ := hall 3 (by kernel_rfl)
                    have hb4_ := hall 4 (by kernel_rfl)
                    have hb5_ := hall 5 (by kernel_rfl)
                    have hb6_ := hall 6 (by kernel_rfl)
                    have hb7_ := hall 7 (by kernel_rfl)
                    have hb10_ := hall 10 (by kernel_rfl)
                    have hb11_ := hall 11 (by kernel_rfl)
                    have hb12_ := hall 12 (by kernel_rfl)
                    have hb13_ := hall 13 (by kernel_rfl)
                    have hb14_ := hall 14 (by kernel_rfl)
                    have hb17_ := hall 17 (by kernel_rfl)
                    have hb18_ := hall 18 (by kernel_rfl)
                    have hb19_ := hall 19 (by kernel_rfl)
                    have hb20_ := hall 20 (by kernel_rfl)
                    have hb21_ := hall 21 (by kernel_rfl)
                    have hb22_ := hall 22 (by kernel_rfl)
                    have hb23_ := hall 23 (by kernel_rfl)
                    subst ha
                    obtain rfl := Q_X22_ hb22_
                    simp only [putSel, hb2_, hb3_, hb4_, hb5_, hb6_, hb7_, hb10_, hb11_, hb12_, hb13_, hb14_, hb17_, hb18_, hb19_, hb20_, hb21_, hb22_, hb23_, if_true, Act.put, sI, sZ, sS]
                    have HO_4 := Aside0.mk Q_HO_4
                    clear Q_HO_4
                    clear Q_HO_5
                    have HO_6 := Aside0.mk Q_HO_6
                    clear Q_HO_6
                    have HB := Aside0.mk Q_HB
                    clear Q_HB
                    have HO_5 := Aside0.mk (Q_HO_5_e22 hb22_)
                    clear Q_HO_5_e22
                    clear Q_BK190
                    have GW190 := Aside0.mk (Q_GW190 hb22_)
                    clear Q_GW190
                    have GE190 := Aside0.mk (Q_GE190 hb22_)
                    clear Q_GE190
                    have BK190 := Aside0.mk (Q_BK190_e23 hb23_)
                    clear Q_BK190_e23
                    clear hall hb2_ hb3_ hb4_ hb5_ hb6_ hb7_ hb10_ hb11_ hb12_ hb13_ hb14_ hb17_ hb18_ hb19_ hb20_ hb21_ hb22_ hb23_
                    have hcz38_0 : w37.cell? ⟨gb190, 0, none⟩ = some (.int .i64 t181) := (bC BK190.out 0).trans rfl
                    have hcz38_1 : w37.cell? ⟨gb190, 1, none⟩ = some (.int .i64 t182) := (bC BK190.out 1).trans rfl
                    have hcz38_2 : w37.cell? ⟨gb190, 2, none⟩ = some (.int .i64 t183) := (bC BK190.out 2).trans rfl
                    have hcz38_3 : w37.cell? ⟨gb190, 3, none⟩ = some (.int .i64 t184) := (bC BK190.out 3).trans rfl
                    have hcz38_4 : w37.cell? ⟨gb190, 4, none⟩ = some (.int .i64 t185) := (bC BK190.out 4).trans rfl
                    have hcz38_5 : w37.cell? ⟨gb190, 5, none⟩ = some (.int .i64 t186) := (bC BK190.out 5).trans rfl
                    have hcz38_6 : w37.cell? ⟨gb190, 6, none⟩ = some (.int .i64 t187) := (bC BK190.out 6).trans rfl
                    have hcz38_7 : w37.cell? ⟨gb190, 7, none⟩ = some (.int .i64 t188) := (bC BK190.out 7).trans rfl
                    have hcz38_8 : w37.cell? ⟨gb190, 8, none⟩ = some (.int .i32 t189) := (bC BK190.out 8).trans rfl
                    have hfz38_0 := bF BK190.out 0
                    have hfz38_1 := bF BK190.out 1
                    have hfz38_2 := bF BK190.out 2
                    have hfz38_3 := bF BK190.out 3
                    have hfz38_4 := bF BK190.out 4
                    have hfz38_5 := bF BK190.out 5
                    have hfz38_6 := bF BK190.out 6
                    have hfz38_7 := bF BK190.out 7
                    have hfz38_8 := bF BK190.out 8
                    go_upto_if 66 with (first | ((with_reducible refine gate_builtin (b := .append) (xs := #[.tmp 59, .tmp 61]) rfl ?_); at_builtin; refine Kd.R_append k47 (w0 := w) w.heap.size rfl (.tmp 59) (.tmp 61) 23 47 (.agg #[(.int .i64 0), (.int .i64 0), (.int .i64 0), (.int .i64 0), (.int .i64 0), (.int .i64 0), (.int .i64 0), (.int .i64 0), (.int .i32 0)]) 72 rfl Tryd.underlying23 info47 rfl (by decide) (by omega) u5 x5_1 (⟨t181, t182, t183, t184, t185, t186, t187, t188, t189⟩ : S47) [.int .i64 t181, .int .i64 t182, .int .i64 t183, .int .i64 t184, .int .i64 t185, .int .i64 t186, .int .i64 t187, .int .i64 t188, .int .i32 t189] (fun k_ => k_ ≠ gb190) (fun _ => False) rfl rfl ?aP (fun _ hk => hk.elim) ?aF ?aO ?aB ?aS ?aL ?_; (case aP => exact k47_mkM _ _ _ (⟨t181, t182, t183, t184, t185, t186, t187, t188, t189⟩ : S47)); (case aB => exact (by repeat (first | (with_reducible first | exact HB.out | apply pA | apply pN | apply p1_ | refine bS ?_ GE190.out) | exact HB.out))); (case aF => exact (fun k_ hk => Kd.freshB (g := gb190) (o := .cells #[.int .i64 t181, .int .i64 t182, .int .i64 t183, .int .i64 t184, .int .i64 t185, .int .i64 t186, .int .i64 t187, .int .i64 t188, .int .i32 t189] 47 (0, 0)) (by (with_reducible repeat (first | refine bN ?_ _ | refine bD ?_ | refine bA ?_ _)); exact BK190.out) k_ hk)); (case aO => exact (by (with_reducible repeat (first | apply Kd.R_alloc | apply Kd.R_drewN | apply Kd.R_drew)); exact HO_5.out)); (case aS => exact (below_size (by repeat (first | (with_reducible first | exact HB.out | apply pA | apply pN | apply p1_ | refine bS ?_ GE190.out) | exact HB.out)))); (case aL => have := LMc23.out; omega); intro v192 w39 ho hb hg hat; rw [← Ny191.out] at ho; have n0_ := Aside0.mk (Kd.R_over' (by (with_reducible repeat (first | apply Kd.R_alloc | apply Kd.R_drewN | apply Kd.R_drew)); exact HO_4.out) (Kd.R_typed (by (with_reducible repeat (first | apply Kd.R_alloc | apply Kd.R_drewN | apply Kd.R_drew)); exact HO_5.out)) (by decide) hg); have n1_ := Aside0.mk (Kd.S_over' (by (with_reducible repeat (first | apply Kd.S_alloc | apply Kd.S_drewN | apply Kd.S_drew)); exact HO_6.out) (Kd.R_typed (by (with_reducible repeat (first | apply Kd.R_alloc | apply Kd.R_drewN | apply Kd.R_drew)); exact HO_5.out)) (by decide) hg); have n2_ := Aside0.mk (blk_grown (g := gb190) (o := .cells #[.int .i64 t181, .int .i64 t182, .int .i64 t183, .int .i64 t184, .int .i64 t185, .int .i64 t186, .int .i64 t187, .int .i64 t188, .int .i32 t189] 47 (0, 0)) (by (with_reducible repeat (first | refine bN ?_ _ | refine bD ?_ | refine bA ?_ _)); exact BK190.out) hg (Kd.R_away HO_5.out (fun _ hk => hk))); have n3_ := Aside0.mk (hb); have n4_ := Aside0.mk (ho); clear HO_4; clear HO_6; clear BK190; clear HB; clear HO_5; have HO_4 := n0_; have HO_6 := n1_; have BK190 := n2_; have HB := n3_; have HO193 := n4_; clear n0_ n1_ n2_ n3_ n4_; clear ho hb hg hat; have hcz40_0 : w39.cell? ⟨gb190, 0, none⟩ = some (.int .i64 t181) := (bC BK190.out 0).trans rfl; have hcz40_1 : w39.cell? ⟨gb190, 1, none⟩ = some (.int .i64 t182) := (bC BK190.out 1).trans rfl; have hcz40_2 : w39.cell? ⟨gb190, 2, none⟩ = some (.int .i64 t183) := (bC BK190.out 2).trans rfl; have hcz40_3 : w39.cell? ⟨gb190, 3, none⟩ = some (.int .i64 t184) := (bC BK190.out 3).trans rfl; have hcz40_4 : w39.cell? ⟨gb190, 4, none⟩ = some (.int .i64 t185) := (bC BK190.out 4).trans rfl; have hcz40_5 : w39.cell? ⟨gb190, 5, none⟩ = some (.int .i64 t186) := (bC BK190.out 5).trans rfl; have hcz40_6 : w39.cell? ⟨gb190, 6, none⟩ = some (.int .i64 t187) := (bC BK190.out 6).trans rfl; have hcz40_7 : w39.cell? ⟨gb190, 7, none⟩ = some (.int .i64 t188) := (bC BK190.out 7).trans rfl; have hcz40_8 : w39.cell? ⟨gb190, 8, none⟩ = some (.int .i32 t189) := (bC BK190.out 8).trans rfl; have hfz40_0 := bF BK190.out 0; have hfz40_1 := bF BK190.out 1; have hfz40_2 := bF BK190.out 2; have hfz40_3 := bF BK190.out 3; have hfz40_4 := bF BK190.out 4; have hfz40_5 := bF BK190.out 5; have hfz40_6 := bF BK190.out 6; have hfz40_7 := bF BK190.out 7; have hfz40_8 := bF BK190.out 8))
                    (try simp only [Act.put, sI, sZ, sS])
                    go_cut [] (fun wc => ∃ (kq : Nat) (x6_23 : List (List Int)), Aside0 (w22_CMoves.j2 kq l0 true y163 y191 x6_23 x7_1 x8_1 t181 t182 t183 t184 t185 t186 t187 t188 t189 = some r) ∧ Aside0 (kq ≤ kj16) ∧ Aside0 (Kd.R k31 31 wc w.heap.size (fun _ => True) v164 y163) ∧ Aside0 (Kd.R k47 47 wc w.heap.size (fun k_ => k_ ≠ gb190) v192 y191) ∧ Aside0 (Kd.S (Kd.slice 3 (Kd.int .i64)) 22 wc w.heap.size (fun _ => True) v176 x6_23) ∧ Aside0 (wc.heap[gb190]? = some (.cells #[.int .i64 t181, .int .i64 t182, .int .i64 t183, .int .i64 t184, .int .i64 t185, .int .i64 t186, .int .i64 t187, .int .i64 t188, .int .i32 t189] 47 (0, 0))) ∧ Aside0 (Below w.heap.size w wc))
                    case first =>
                      have H := HC24.out
                      clear HC24
                      by_cases c41 : (Int.tmod t187 2) = 0
                      · rw [if_pos c41] at H
                        have c41b0 : ((Int.tmod t187 2) == 0) = true := beq_iff_eq.mpr c41
                        have c41b1 : ((Int.tmod t187 2) != 0) = false := bne_eq_false_iff_eq.mpr c41
                        clear c41
                        (first | rw [c41b0] | (simp only [i64_w, i32_w]; rw [c41b0]) | skip)
                        obtain ⟨ji42, hji42⟩ : ∃ j_ : Int, (wrap64 (Int.tdiv t187 2)) = j_ := ⟨_, rfl⟩
                        replace H : (if 0 ≤ (ji42) then (if (ji42) < (x6_1.length : Int) then (if (rd_L5 x6_1 (ji42)).length < 17592186044416 then (w22_CMoves.j2 kj16 l0 true y163 y191 (x6_1.set ((ji42) : Int).toNat ((rd_L5 x6_1 (ji42)) ++ [t188])) x7_1 x8_1 t181 t182 t183 t184 t185 t186 t187 t188 t189) else (none)) else (none)) else (none)) = some r := by first | (rw [hji42] at H; exact H) | (simp only [hji42] at H ⊢; exact H)
                        have hji42w : (IntKind.i64.wrap (Int.tdiv t187 2)) = ji42 := (i64_w _).trans hji42
                        by_cases c43 : 0 ≤ (ji42)
                        · rw [if_pos c43] at H
                          have c43b0 : decide (0 ≤ (ji42)) = true := decide_eq_true c43
                          clear c43
                          by_cases c44 : (ji42) < (x6_1.length : Int)
                          · rw [if_pos c44] at H
                            have c44b0 : decide ((ji42) < (x6_1.length : Int)) = true := decide_eq_true c44
                            clear c44
                            by_cases c45 : (rd_L5 x6_1 (ji42)).length < 17592186044416
                            · rw [if_pos c45] at H
                              have LMc45 := Aside0.mk c45
                              clear c45
                              obtain ⟨y195, hy195⟩ : ∃ y_ : List Int, y_ = ((rd_L5 x6_1 (ji42)) ++ [t188]) := ⟨_, rfl⟩
                              replace H : (w22_CMoves.j2 kj16 l0 true y163 y191 (x6_1.set ((ji42) : Int).toNat y195) x7_1 x8_1 t181 t182 t183 t184 t185 t186 t187 t188 t189) = some r := by first | (rw [hy195]; with_reducible exact H) | (have H2_ := (Option.bind_some _ _).symm.trans H; rw [hy195]; with_reducible exact H2_) | (have H2_ := (Option.bind_some _ _).symm.trans H; with_reducible exact H2_) | with_reducible exact H | (rw [hy195]; exact H) | exact H
                              have Ny195 := Aside0.mk hy195
                              clear hy195
                              obtain ⟨y198, hy198⟩ : ∃ y_ : List (List Int), y_ = (x6_1.set ((ji42) : Int).toNat y195) := ⟨_, rfl⟩
                              replace H : (w22_CMoves.j2 kj16 l0 true y163 y191 y198 x7_1 x8_1 t181 t182 t183 t184 t185 t186 t187 t188 t189) = some r := by first | (rw [hy198]; with_reducible exact H) | (have H2_ := (Option.bind_some _ _).symm.trans H; rw [hy198]; with_reducible exact H2_) | (have H2_ := (Option.bind_some _ _).symm.trans H; with_reducible exact H2_) | with_reducible exact H | (rw [hy198]; exact H) | exact H
                              have Ny198 := Aside0.mk hy198
                              clear hy198
                              have H' := Aside0.mk H
                              clear H
                              try go_wp2
                              have n0_ := Aside0.mk (Kd.R_drew HO_4.out)
                              have n1_ := Aside0.mk (Kd.S_drew HO_6.out)
                              have n2_ := Aside0.mk (Kd.R_drew HO193.out)
                              have n3_ := Aside0.mk (bD BK190.out)
                              have n4_ := Aside0.mk (p1_ HB.out)
                              clear HO_4
                              clear HO_6
                              clear HO193
                              clear BK190
                              clear HB
                              have HO_4 := n0_
                              have HO_6 := n1_
                              have HO193 := n2_
                              have BK190 := n3_
                              have HB := n4_
                              clear n0_ n1_ n2_ n3_ n4_
                              obtain ⟨Ao48, co48, eo48⟩ := Kd.S_slice HO_6.out
                              (first | subst eo48 | (injection eo48 with f1_ f2_ f3_; have f4_ := f1_.symm; have f5_ := f3_.symm; clear f1_ f2_ f3_; subst f4_; subst f5_))
                              have p194 : 0 ≤ ((ji42) : Int) := of_decide_eq_true (by first | (with_reducible assumption) | assumption)
                              have q194 : (ji42) < (x6_1.length : Int) := of_decide_eq_true (by first | (with_reducible assumption) | assumption)
                              obtain ⟨ad194, A194_0, c194_0, e194, hx194_0, hl194_0, hi194_0⟩ := at_L5 (Kd.S_reads' HO_6.out).2.2 (ji42) p194 q194
                              cases e194
                              obtain ⟨ce194, hce194, hMe194, hcc194⟩ := Kd.S_get HO_6.out [] (ji42) p194 (by first | exact q194 | exact of_decide_eq_true (by first | (with_reducible assumption) | assumption) | (have e_ := (Kd.S_reads' HO_6.out).1; omega))
                              obtain ⟨ve194_0, rfl, ge194_0⟩ := hMe194
                              have hv194_0 := hcc194 0 _ rfl
                              rw [Nat.add_zero, show ((Kd.slice 3 (Kd.int .i64))).sz = 1 from rfl, Nat.mul_one] at hv194_0
                              replace hv194_0 := Option.some.inj (hv194_0.symm.trans hx194_0)
                              rw [hv194_0] at ge194_0
                              have HL194_0 := Aside0.mk (show Kd.R (Kd.int .i64) 3 _ _ _ _ (rd_L5 x6_1 (ji42)) from ge194_0)
                              clear hv194_0 ge194_0
                              have HX194_0 := Aside0.mk hx194_0
                              clear hcc194 hce194
                              have HR194_0 := Aside0.mk hi194_0
                              have HC194_0 := Aside0.mk hl194_0
                              clear hi194_0 hl194_0
                              replace p194 := eq_true p194
                              replace q194 := eq_true q194
                              obtain ⟨go49, co49, eo49, gb49, gl49, cl49, HG49⟩ := Kd.S_form HO_6.out (by have h_ : ((ji42) : Int) < ((x6_1.length : Int) : Int) := of_decide_eq_true (by first | (with_reducible assumption) | assumption); have h2_ : 0 ≤ ((ji42) : Int) := (of_decide_eq_true (by first | (with_reducible assumption) | assumption)); omega)
                              (first | cases eo49 | (injection eo49 with ea_ en_ ec_; (first | subst ea_ | (injection ea_ with ea_; subst ea_)); subst ec_; clear en_))
                              have GB49 := Aside0.mk gb49
                              have GG49 := Aside0.mk HG49
                              clear gb49 gl49 HG49
                              (first | simp only [add_plain] at hx194_0 | skip)
                              obtain ⟨oki49, ce49, hcl49, hM49, hcc49, _, _, hH49⟩ := Kd.S_elem HO_6.out [] ((ji42) : Int) (of_decide_eq_true (by first | (with_reducible assumption) | assumption)) (by have h_ : ((ji42) : Int) < ((x6_1.length : Int) : Int) := of_decide_eq_true (by first | (with_reducible assumption) | assumption); first | exact h_ | (have e_ := (Kd.S_reads' HO_6.out).1; omega) | simpa using h_)
                              obtain ⟨ve49_0, rfl, ge49_0⟩ := hM49
                              have hv49 := hcc49 0 _ rfl
                              have hX49 := HX194_0.out
                              (try simp only [add_plain] at hX49)
                              (try simp only [Nat.add_zero] at hv49)
                              (try rw [show ((Kd.slice 3 (Kd.int .i64))).sz = 1 from rfl, Nat.mul_one] at hv49)
                              replace hv49 := Option.some.inj (hv49.symm.trans hX49)
                              subst hv49
                              clear hX49 hcc49 hcl49
                              have UU49 := Aside0.mk (show Kd.R (Kd.int .i64) 3 _ w.heap.size oki49 (.slice A194_0 (rd_L5 x6_1 (ji42)).length c194_0) (rd_L5 x6_1 (ji42)) from ge49_0)
                              have HH49 := Aside0.mk hH49
                              have HN49 := Aside0.mk (Kd.S_reads' HO_6.out).1
                              clear hH49 ge49_0
                              refine start_ (n := 16) (S := fun w' => w'.cell? ⟨gb190, 0, none⟩ = some (.int .i64 t181) ∧ w'.cell? ⟨gb190, 1, none⟩ = some (.int .i64 t182) ∧ w'.cell? ⟨gb190, 2, none⟩ = some (.int .i64 t183) ∧ w'.cell? ⟨gb190, 3, none⟩ = some (.int .i64 t184) ∧ w'.cell? ⟨gb190, 4, none⟩ = some (.int .i64 t185) ∧ w'.cell? ⟨gb190, 5, none⟩ = some (.int .i64 t186) ∧ w'.cell? ⟨gb190, 6, none⟩ = some (.int .i64 t187) ∧ w'.cell? ⟨gb190, 7, none⟩ = some (.int .i64 t188) ∧ w'.cell? ⟨gb190, 8, none⟩ = some (.int .i32 t189) ∧ w'.cell? ⟨go49, ((ji42)).toNat, none⟩ = some (.slice A194_0 (rd_L5 x6_1 (ji42)).length c194_0)) (ds := [15]) #[false, false, false, false, false, false, false, false, false, false, false, false, false, false, false, false] (by kernel_rfl) rfl rfl ⟨(bC BK190.out 0).trans rfl, (bC BK190.out 1).trans rfl, (bC BK190.out 2).trans rfl, (bC BK190.out 3).trans rfl, (bC BK190.out 4).trans rfl, (bC BK190.out 5).trans rfl, (bC BK190.out 6).trans rfl, (bC BK190.out 7).trans rfl, (bC BK190.out 8).trans rfl, hx194_0⟩ (fun hHeld => ?_); refine with_tabW w22_CMoves.tab13 w22_CMoves.bits13 (fun HT_ HW_ => ?_)
                              generalize w39.drew = w47 at HO_4 HO_6 HO193 BK190 HB GG49 HH49 HL194_0 HR194_0 HX194_0 UU49 hx194_0 hHeld ⊢
                              refine pure_ (i := 0) (N := some 67) (v := ?_) (a' := ?_) #[true, false, false, false, false, false, false, false, false, false, false, false, false, false, false, false] rfl rfl (any_of HT_.out (by kernel_rfl)) (fun _ _ _ h => h) (Or.inl ⟨by rfl, ?_⟩) ?_ ?_
                              rotate_left
                              · intro w'
                                go_simp
                                with_reducible rfl
                              rotate_left
                              · simp only [Act.put, sI, sZ, sS, i64_w, i32_w]
                                rfl
                              refine pure_ (i := 1) (N := some 68) (v := ?_) (a' := ?_) #[true, true, false, false, false, false, false, false, false, false, false, false, false, false, false, false] rfl rfl (any_of HT_.out (by kernel_rfl)) (fun _ _ _ h => h) (Or.inl ⟨by rfl, ?_⟩) ?_ ?_
                              rotate_left
                              · intro w'
                                go_simp
                                with_reducible rfl
                              rotate_left
                              · simp only [Act.put, sI, sZ, sS, i64_w, i32_w]
                                rfl
                              refine pure_ (i := 4) (N := some 71) (v := ?_) (a' := ?_) #[true, true, false, false, true, false, false, false, false, false, false, false, false, false, false, false] rfl rfl (any_of HT_.out (by kernel_rfl)) (fun _ _ _ h => h) (Or.inl ⟨by rfl, ?_⟩) ?_ ?_
                              rotate_left
                              · intro w'
                                go_simp
                                with_reducible rfl
                              rotate_left
                              · simp only [Act.put, sI, sZ, sS, i64_w, i32_w]
                                rfl
                              refine pure_ (i := 5) (N := some 72) (v := ?_) (a' := ?_) #[true, true, false, false, true, true, false, false, false, false, false, false, false, false, false, false] rfl rfl (any_of HT_.out (by kernel_rfl)) (fun _ _ _ h => h) (Or.inl ⟨by rfl, ?_⟩) ?_ ?_
                              rotate_left
                              · intro w'
                                go_simp
                                with_reducible rfl
                              rotate_left
                              · simp only [Act.put, sI, sZ, sS, i64_w, i32_w]
                                rfl
                              refine pure_ (i := 10) (N := some 77) (v := ?_) (a' := ?_) #[true, true, false, false, true, true, false, false, false, false, true, false, false, false, false, false] rfl rfl (any_of HT_.out (by kernel_rfl)) (fun _ _ _ h => h) (Or.inl ⟨by rfl, ?_⟩) ?_ ?_
                              rotate_left
                              · intro w'
                                go_simp
                                with_reducible rfl
                              rotate_left
                              · simp only [Act.put, sI, sZ, sS, i64_w, i32_w]
                                rfl
                              refine take_ (i := 2) (N := some 69) (v := ?_) (a' := ?_) #[true, true, true, false, true, true, false, false, false, false, true, false, false, false, false, false] rfl rfl (take_ofW HT_.out HW_.out (by kernel_rfl)) (fun _ _ _ h => h) (Or.inl ⟨by rfl, ?_⟩) hHeld ?_ ?_
                              rotate_left
                              · rintro w' ⟨s0, s1, s2, s3, s4, s5, s6, s7, s8, s9⟩
                                go_simp
                                with_reducible rfl
                              rotate_left
                              · simp only [Act.put, sI, sZ, sS, i64_w, i32_w]
                                rfl
                              refine pure_ (i := 3) (N := some 70) (v := ?_) (a' := ?_) #[true, true, true, true, true, true, false, false, false, false, true, false, false, false, false, false] rfl rfl (any_of HT_.out (by kernel_rfl)) (fun _ _ _ h => h) (Or.inl ⟨by rfl, ?_⟩) ?_ ?_
                              rotate_left
                              · intro w'
                                go_simp
                                with_reducible rfl
                              rotate_left
                              · simp only [Act.put, sI, sZ, sS, i64_w, i32_w]
                                rfl
                              refine take_ (i := 6) (N := some 73) (v := ?_) (a' := ?_) #[true, true, true, true, true, true, true, false, false, false, true, false, false, false, false, false] rfl rfl (take_ofW HT_.out HW_.out (by kernel_rfl)) (fun _ _ _ h => h) (Or.inl ⟨by rfl, ?_⟩) hHeld ?_ ?_
                              rotate_left
                              · rintro w' ⟨s0, s1, s2, s3, s4, s5, s6, s7, s8, s9⟩
                                go_simp
                                with_reducible rfl
                              rotate_left
                              · simp only [Act.put, sI, sZ, sS, i64_w, i32_w]
                                rfl
                              refine pure_ (i := 7) (N := some 74) (v := ?_) (a' := ?_) #[true, true, true, true, true, true, true, true, false, false, true, false, false, false, false, false] rfl rfl (any_of HT_.out (by kernel_rfl)) (fun _ _ _ h => h) (Or.inl ⟨by rfl, ?_⟩) ?_ ?_
                              rotate_left
                              · intro w'
                                go_simp
                                with_reducible rfl
                              rotate_left
                              · simp only [Act.put, sI, sZ, sS, i64_w, i32_w]
                                rfl
                              refine pure_ (i := 8) (N := some 75) (v := ?_) (a' := ?_) #[true, true, true, true, true, true, true, true, true, false, true, false, false, false, false, false] rfl rfl (any_of HT_.out (by kernel_rfl)) (fun _ _ _ h => h) (Or.inl ⟨by rfl, ?_⟩) ?_ ?_
                              rotate_left
                              · intro w'
                                go_simp
                                with_reducible rfl
                              rotate_left
                              · simp only [Act.put, sI, sZ, sS, i64_w, i32_w]
                                rfl
                              refine take_ (i := 9) (N := some 76) (v := ?_) (a' := ?_) #[true, true, true, true, true, true, true, true, true, true, true, false, false, false, false, false] rfl rfl (take_ofW HT_.out HW_.out (by kernel_rfl)) (fun _ _ _ h => h) (Or.inl ⟨by rfl, ?_⟩) hHeld ?_ ?_
                              rotate_left
                              · rintro w' ⟨s0, s1, s2, s3, s4, s5, s6, s7, s8, s9⟩
                                go_simp
                                with_reducible rfl
                              rotate_left
                              · simp only [Act.put, sI, sZ, sS, i64_w, i32_w]
                                rfl
                              refine take_ (i := 11) (N := some 78) (v := ?_) (a' := ?_) #[true, true, true, true, true, true, true, true, true, true, true, true, false, false, false, false] rfl rfl (take_ofW HT_.out HW_.out (by kernel_rfl)) (fun _ _ _ h => h) (Or.inl ⟨by rfl, ?_⟩) hHeld ?_ ?_
                              rotate_left
                              · rintro w' ⟨s0, s1, s2, s3, s4, s5, s6, s7, s8, s9⟩
                                go_simp
                                with_reducible rfl
                              rotate_left
                              · simp only [Act.put, sI, sZ, sS, i64_w, i32_w]
                                rfl
                              refine one_ (i := 12) (N := some 79) #[true, true, true, true, true, true, true, true, true, true, true, true, true, false, false, false] rfl rfl (one_of HT_.out (by kernel_rfl)) (by decide) (fun K hK => ?_)
                              refine value_ (w1 := ?_) (v := ?_) (by rfl) rfl ?_ ?_
                              rotate_left 2
                              · go_simp
                                constructor
                                · rfl
                                · rfl
                              refine hK.out _ _ ⟨(bC (bA BK190.out _) 0).trans rfl, (bC (bA BK190.out _) 1).trans rfl, (bC (bA BK190.out _) 2).trans rfl, (bC (bA BK190.out _) 3).trans rfl, (bC (bA BK190.out _) 4).trans rfl, (bC (bA BK190.out _) 5).trans rfl, (bC (bA BK190.out _) 6).trans rfl, (bC (bA BK190.out _) 7).trans rfl, (bC (bA BK190.out _) 8).trans rfl, (World.cell?_alloc_lt _ _ _ (World.block_lt_of_cell? _ _ (hHeld.2.2.2.2.2.2.2.2.2))).trans (hHeld.2.2.2.2.2.2.2.2.2)⟩ (fun hHeld => ?_)
                              clear hK K
                              refine norm_ (a' := ?_) ?_ ?_
                              rotate_left
                              · show Act.put _ (some 79) _ = _
                                simp only [Act.put, sI, sZ, sS, i64_w, i32_w]
                                rfl
                              refine one_ (i := 13) (N := some 80) #[true, true, true, true, true, true, true, true, true, true, true, true, true, true, false, false] rfl rfl (one_of HT_.out (by kernel_rfl)) (by decide) (fun K hK => ?_)
                              refine Kd.R_append_step (Kd.int .i64) (w0 := w) w.heap.size (by rfl) (.tmp 76) (.tmp 79) 22 3 (.int .i64 0) 8 rfl Tryd.underlying22 info3 rfl (by decide) (by omega) (.slice A194_0 (rd_L5 x6_1 (ji42)).length c194_0) (rd_L5 x6_1 (ji42)) t188 [.int .i64 t188] (fun k_ => oki49 k_ ∨ ((fun _ => True)) k_ ∧ w47.heap.size ≤ k_) (fun _ => False) rfl rfl ?aP (fun _ hk => hk.elim) ?aF ?aO ?aB ?aS ?aL ?_
                              (case aP => exact rfl)
                              (case aB => exact (by repeat (first | (with_reducible first | exact HB.out | apply pA | apply pN | apply p1_ | refine bS ?_ GE190.out) | exact HB.out)))
                              (case aF => exact (fun k_ hk => .inr ⟨trivial, hk⟩))
                              (case aO => exact (by (with_reducible repeat (first | apply Kd.R_alloc | apply Kd.R_drewN | apply Kd.R_drew)); exact Kd.R_mono UU49.out (fun _ hk => .inl hk)))
                              (case aS => exact (below_size (by repeat (first | (with_reducible first | exact HB.out | apply pA | apply pN | apply p1_ | refine bS ?_ GE190.out) | exact HB.out))))
                              (case aL => have := LMc45.out; omega)
                              intro v196 w50 ho hb hg hat
                              (first | have HS9_ := cell_grown hg (hHeld.2.2.2.2.2.2.2.2.2) (by first | (rw [add_block]; exact (fun e_ => ((HL194_0.out.1 _ e_.symm).2) rfl)) | (show some (Addr.add _ _).block ≠ _; rw [add_block]; exact (fun e_ => ((HL194_0.out.1 _ e_.symm).2) rfl)) | exact (fun e_ => ((HL194_0.out.1 _ e_.symm).2) rfl)) | have HS9_ := cell_grown hg (cell_unalloc (hHeld.2.2.2.2.2.2.2.2.2) (by first | (rw [add_block]; exact Kd.S_lt HO_6.out _ rfl) | (show (Addr.add _ _).block < _; rw [add_block]; exact Kd.S_lt HO_6.out _ rfl) | exact Kd.S_lt HO_6.out _ rfl)) (by first | (rw [add_block]; exact (fun e_ => ((HL194_0.out.1 _ e_.symm).2) rfl)) | (show some (Addr.add _ _).block ≠ _; rw [add_block]; exact (fun e_ => ((HL194_0.out.1 _ e_.symm).2) rfl)) | exact (fun e_ => ((HL194_0.out.1 _ e_.symm).2) rfl)))
                              rw [← Ny195.out] at ho
                              have n0_ := Aside0.mk (Kd.R_over' (v := (.slice A194_0 (rd_L5 x6_1 (ji42)).length c194_0)) (by (with_reducible repeat (first | apply Kd.R_alloc | apply Kd.R_drewN | apply Kd.R_drew)); exact HO_4.out) (Kd.R_typed HL194_0.out) (by decide) hg)
                              have n1_ := Aside0.mk (blk_grown (g := gb190) (o := .cells #[.int .i64 t181, .int .i64 t182, .int .i64 t183, .int .i64 t184, .int .i64 t185, .int .i64 t186, .int .i64 t187, .int .i64 t188, .int .i32 t189] 47 (0, 0)) (by (with_reducible repeat (first | refine bN ?_ _ | refine bD ?_ | refine bA ?_ _)); exact BK190.out) hg (Kd.R_ne HL194_0.out BK190.out (by decide)))
                              have n2_ := Aside0.mk (Kd.R_over' (v := (.slice A194_0 (rd_L5 x6_1 (ji42)).length c194_0)) (by (with_reducible repeat (first | apply Kd.R_alloc | apply Kd.R_drewN | apply Kd.R_drew)); exact HO193.out) (Kd.R_typed HL194_0.out) (by decide) hg)
                              have n3_ := Aside0.mk (hb)
                              have n4_ := Aside0.mk (Kd.H_grown (Kd.H_widen (by repeat (first | exact HH49.out | refine Kd.H_alloc ?_ _ | refine Kd.H_drewN ?_ _ | refine Kd.H_drew ?_))) hg (fun k_ e_ => .inl (UU49.out.1 k_ e_)))
                              have n5_ := Aside0.mk (ho)
                              clear HO_4
                              clear BK190
                              clear HO193
                              clear HB
                              clear HH49
                              clear HO_6
                              clear UU49
                              clear HL194_0
                              have HO_4 := n0_
                              have BK190 := n1_
                              have HO193 := n2_
                              have HB := n3_
                              have HH49 := n4_
                              have HO197 := n5_
                              clear n0_ n1_ n2_ n3_ n4_ n5_
                              clear ho hb hg hat
                              have p46 : 0 ≤ ((ji42) : Int) := of_decide_eq_true (by first | (with_reducible assumption) | assumption)
                              have q46 : ((ji42) : Int) < ((x6_1.length : Int) : Int) := of_decide_eq_true (by first | (with_reducible assumption) | assumption)
                              replace p46 := eq_true p46
                              replace q46 := eq_true q46
                              obtain ⟨Ao53, co53, eo53⟩ := Kd.R_slice HO197.out
                              (first | subst eo53 | (injection eo53 with f1_ f2_ f3_; have f4_ := f1_.symm; have f5_ := f3_.symm; clear f1_ f2_ f3_; subst f4_; subst f5_))
                              obtain ⟨_, _, hraw51, _, _, hcc51, _⟩ := Kd.H_raw HH49.out (of_decide_eq_true (by first | (with_reducible assumption) | assumption)) (by have h_ : ((ji42) : Int) < ((x6_1.length : Int) : Int) := of_decide_eq_true (by first | (with_reducible assumption) | assumption); first | exact h_ | (have e_ := (HN49.out); omega) | simpa using h_)
                              obtain ⟨_, hfr51⟩ := Kd.H_at HH49.out (of_decide_eq_true (by first | (with_reducible assumption) | assumption)) (by have h_ : ((ji42) : Int) < ((x6_1.length : Int) : Int) := of_decide_eq_true (by first | (with_reducible assumption) | assumption); first | exact h_ | (have e_ := (HN49.out); omega) | simpa using h_)
                              have hx51_0 := hcc51 0 _ rfl
                              have hf51_0 := hfr51 0
                              (try simp only [Nat.add_zero] at hx51_0 hf51_0)
                              (try rw [show ((Kd.slice 3 (Kd.int .i64))).sz = 1 from rfl, Nat.mul_one] at hx51_0)
                              (try rw [show ((Kd.slice 3 (Kd.int .i64))).sz = 1 from rfl, Nat.mul_one] at hf51_0)
                              have HP51 := Kd.S_seg0 HH49.out (of_decide_eq_true (by first | (with_reducible assumption) | assumption)) (by have h_ : ((ji42) : Int) < ((x6_1.length : Int) : Int) := of_decide_eq_true (by first | (with_reducible assumption) | assumption); first | exact h_ | (have e_ := (HN49.out); omega) | simpa using h_) (seg := [.slice Ao53 y195.length co53]) (j := 0) (show 1 ≤ 1 from by decide) (x' := y195) (Kd.M_row HO197.out) (fun _ hk => hk)
                              (try simp only [show ((Kd.slice 3 (Kd.int .i64))).sz = 1 from rfl, Nat.mul_one, Nat.add_zero] at HP51)
                              clear hcc51 hfr51
                              have HNB190_go49 := Aside0.mk (show gb190 ≠ go49 from by have h_ := Kd.R_ne hraw51 BK190.out (by decide); intro e_; exact h_ (by rw [e_]; rfl))
                              have HS51 := HP51.1
                              rw [← Ny198.out] at HS51
                              have HQ51 := Aside0.mk HS51
                              obtain ⟨_, hgg51⟩ := Kd.R_typed hraw51 go49 rfl
                              have GG51_ := Aside0.mk hgg51
                              clear HP51 HS51 hgg51
                              refine hK.out _ _ ⟨(bC BK190.out 0).trans rfl, (bC BK190.out 1).trans rfl, (bC BK190.out 2).trans rfl, (bC BK190.out 3).trans rfl, (bC BK190.out 4).trans rfl, (bC BK190.out 5).trans rfl, (bC BK190.out 6).trans rfl, (bC BK190.out 7).trans rfl, (bC BK190.out 8).trans rfl, HS9_⟩ (fun hHeld => ?_)
                              clear hK K
                              refine norm_ (a' := ?_) ?_ ?_
                              rotate_left
                              · show Act.put _ (some 80) _ = _
                                simp only [Act.put, sI, sZ, sS, i64_w, i32_w]
                                rfl
                              refine pure_ (i := 14) (N := some 81) (v := ?_) (a' := ?_) #[true, true, true, true, true, true, true, true, true, true, true, true, true, true, true, false] rfl rfl (any_of HT_.out (by kernel_rfl)) (fun _ _ _ h => h) (Or.inl ⟨by rfl, ?_⟩) ?_ ?_
                              rotate_left
                              · intro w'
                                go_simp
                                with_reducible rfl
                              rotate_left
                              · simp only [Act.put, sI, sZ, sS, i64_w, i32_w]
                                rfl
                              refine last_ (i := 15) (N := none) #[true, true, true, true, true, true, true, true, true, true, true, true, true, true, true, true] rfl rfl (one_of HT_.out (by kernel_rfl)) (by decide) (fun K hK => ?_)
                              refine skip_ (w1 := ?_) (by rfl) rfl ?_ ?_
                              rotate_left
                              · go_simp
                                rfl
                              refine hK.out _ _ ?_
                              clear hK K
                              refine done_ (done_of HT_.out (by kernel_rfl)) ?_
                              try go_wp2
                              go_meet
                              case rel => exact ⟨_, (y198), H', ⟨by have := HK1.out; have := HJ16.out; first | omega | exact Nat.le_refl _⟩, ⟨by (with_reducible repeat (first | apply Kd.R_alloc | apply Kd.R_drewN | apply Kd.R_drew)); exact Kd.R_mono (Kd.R_far (p := ⟨go49, ((ji42) : Int).toNat, none⟩) (Kd.R_types HO_4.out GG51_.out (by decide)) (fun _ hk => hk.2) (.slice Ao53 y195.length co53)) (fun _ hk => trivial)⟩, ⟨by (with_reducible repeat (first | apply Kd.R_alloc | apply Kd.R_drewN | apply Kd.R_drew)); exact Kd.R_mono (Kd.R_far (p := ⟨go49, ((ji42) : Int).toNat, none⟩) (Kd.R_types HO193.out GG51_.out (by decide)) (fun _ hk => hk.2) (.slice Ao53 y195.length co53)) (fun _ hk => hk.1)⟩, ⟨by (with_reducible repeat (first | apply Kd.S_alloc | apply Kd.S_drewN | apply Kd.S_drew)); exact HQ51.out⟩, ⟨by (with_reducible repeat (first | refine bN ?_ _ | refine bD ?_ | refine bA ?_ _)); refine blk_far ?_ HNB190_go49.out _; (with_reducible repeat (first | refine bN ?_ _ | refine bD ?_ | refine bA ?_ _)); exact BK190.out⟩, ⟨by repeat (first | (with_reducible first | exact HB.out | apply pA | apply pN | apply p1_ | refine bS ?_ GB49.out | refine bS ?_ GE190.out) | exact HB.out)⟩⟩
                            · rw [if_neg c45] at H
                              exact absurd H (by simp)
                          · rw [if_neg c44] at H
                            exact absurd H (by simp)
                        · rw [if_neg c43] at H
                          exact absurd H (by simp)
                      · rw [if_neg c41] at H
                        have c41b0 : ((Int.tmod t187 2) == 0) = false := beq_eq_false_iff_ne.mpr c41
                        have c41b1 : ((Int.tmod t187 2) != 0) = true := bne_iff_ne.mpr c41
                        (first | rw [c41b0] | (simp only [i64_w, i32_w]; rw [c41b0]) | skip)
                        have H' := Aside0.mk H
                        clear H
                        go_wp2
                        go_meet
                        case rel => exact ⟨_, (x6_1), H', ⟨by have := HK1.out; have := HJ16.out; first | omega | exact Nat.le_refl _⟩, ⟨by (with_reducible repeat (first | apply Kd.R_alloc | apply Kd.R_drewN | apply Kd.R_drew)); exact HO_4.out⟩, ⟨by (with_reducible repeat (first | apply Kd.R_alloc | apply Kd.R_drewN | apply Kd.R_drew)); exact HO193.out⟩, ⟨by (with_reducible repeat (first | apply Kd.S_alloc | apply Kd.S_drewN | apply Kd.S_drew)); exact HO_6.out⟩, ⟨by (with_reducible repeat (first | refine bN ?_ _ | refine bD ?_ | refine bA ?_ _)); exact BK190.out⟩, ⟨by repeat (first | (with_reducible first | exact HB.out | apply pA | apply pN | apply p1_ | refine bS ?_ GE190.out) | exact HB.out)⟩⟩
                    case rest =>
                      clear HC24
                      try clear c1
                      try clear p1
                      try clear q1
                      try clear hx1
                      try clear c2
                      try clear p2
                      try clear c4
                      try clear p4
                      try clear q4
                      try clear c5
                      try clear hx5
                      try clear hf5
                      try clear p6
                      try clear c18
                      try clear c19
                      try clear p19
                      try clear q19
                      try clear hx19
                      try clear c23
                      try clear c41
                      try clear c41b0
                      try clear c41b1
                      try clear c43
                      try clear c43b0
                      try clear c44
                      try clear c44b0
                      try clear c45
                      try clear p46
                      try clear q46
                      try clear c49
                      try clear c51
                      try clear hx51
                      try clear hf51
                      try clear hcz38_0
                      try clear hcz38_1
                      try clear hcz38_2
                      try clear hcz38_3
                      try clear hcz38_4
                      try clear hcz38_5
                      try clear hcz38_6
                      try clear hcz38_7
                      try clear hcz38_8
                      try clear hcz40_0
                      try clear hcz40_1
                      try clear hcz40_2
                      try clear hcz40_3
                      try clear hcz40_4
                      try clear hcz40_5
                      try clear hcz40_6
                      try clear hcz40_7
                      try clear hcz40_8
                      try clear hfz38_0
                      try clear hfz38_1
                      try clear hfz38_2
                      try clear hfz38_3
                      try clear hfz38_4
                      try clear hfz38_5
                      try clear hfz38_6
                      try clear hfz38_7
                      try clear hfz38_8
                      try clear hfz40_0
                      try clear hfz40_1
                      try clear hfz40_2
                      try clear hfz40_3
                      try clear hfz40_4
                      try clear hfz40_5
                      try clear hfz40_6
                      try clear hfz40_7
                      try clear hfz40_8
                      try clear hx194_0
                      try clear hx51_0
                      try clear p194
                      try clear p46
                      try clear q194
                      try clear q46
                      obtain ⟨kq, x6_23, HA, HJ23, HO_4, HO_5, HO_6, BK190, HB⟩ := hcut
                      cases kq with
                      | zero => exact absurd HA.out (by simp [w22_CMoves.j2])
                      | succ kj23 =>
                        have H := HA.out
                        clear HA
                        simp only [w22_CMoves.j2] at H
                        replace H := Option.bind_eq_some_iff.mp H
                        obtain ⟨t199, A540, H⟩ := H
                        replace H : (if t199 < x7_1 then (w22_CMoves.j3 kj23 l0 true y163 y191 x6_23 x8_1 t199 true) else (if t199 > (wrap64 (x7_1 + 1)) then (w22_CMoves.j3 kj23 l0 true y163 y191 x6_23 x8_1 t199 true) else (if t199 > x7_1 then (w22_CMoves.j3 kj23 l0 true y163 y191 x6_23 x8_1 t199 ((Int.tmod t187 2) == 1)) else (w22_CMoves.j3 kj23 l0 true y163 y191 x6_23 x8_1 t199 false)))) = some r := H
                        have A54 := Aside0.mk A540
                        clear A540
                        have HC55 := Aside0.mk H
                        clear H
                        obtain ⟨Ao56, co56, eo56⟩ := Kd.R_slice HO_5.out
                        subst eo56
                        obtain ⟨Ao57, co57, eo57⟩ := Kd.R_slice HO_4.out
                        subst eo57
                        go_upto_region 15 with (first | ((with_reducible refine gate_callee (f := 16) rfl ?_); refine goesL_ (some 84) rfl rfl Tryd.func16 (by kernel_rfl) rfl #[.slice Ao56 y191.length co56, .slice Ao57 y163.length co57] rfl (by (try simp only [List.map_toArray, List.map_cons, List.map_nil]); first | done | rfl | (simp only [List.length_drop, List.length_take]; rfl)) ?_; (with_reducible refine (coalesce_Moves.calls _ _ y191 _ _ y163 t199 _ ?side1 ?side2 ?side3 ?side4 A54.out).mono ?_); (case side1 => repeat (first | exact (Kd.R_reads' HO_5.out).2.2 | (with_reducible refine Kd.C_alloc ?_ _) | (with_reducible refine Kd.C_drewN ?_ _) | (with_reducible refine Kd.C_drew ?_))); (case side2 => exact (Kd.R_reads' HO_5.out).2.1); (case side3 => repeat (first | exact (Kd.R_reads' HO_4.out).2.2 | (with_reducible refine Kd.C_alloc ?_ _) | (with_reducible refine Kd.C_drewN ?_ _) | (with_reducible refine Kd.C_drew ?_))); (case side4 => exact (Kd.R_reads' HO_4.out).2.1); rintro e w58 ⟨rfl, hb⟩; refine ⟨_, rfl, ?_⟩; have n0_ := Aside0.mk (Kd.R_below (by (with_reducible repeat (first | apply Kd.R_alloc | apply Kd.R_drewN | apply Kd.R_drew)); exact HO_4.out) hb); have n1_ := Aside0.mk (Kd.R_below (by (with_reducible repeat (first | apply Kd.R_alloc | apply Kd.R_drewN | apply Kd.R_drew)); exact HO_5.out) hb); have n2_ := Aside0.mk (Kd.S_below (by (with_reducible repeat (first | apply Kd.S_alloc | apply Kd.S_drewN | apply Kd.S_drew)); exact HO_6.out) hb); have n3_ := Aside0.mk (bB (g := gb190) (o := .cells #[.int .i64 t181, .int .i64 t182, .int .i64 t183, .int .i64 t184, .int .i64 t185, .int .i64 t186, .int .i64 t187, .int .i64 t188, .int .i32 t189] 47 (0, 0)) (by (with_reducible repeat (first | refine bN ?_ _ | refine bD ?_ | refine bA ?_ _)); exact BK190.out) hb); have n4_ := Aside0.mk (below_step (by repeat (first | (with_reducible first | exact HB.out | apply pA | apply pN | apply p1_ | refine bS ?_ GE190.out) | exact HB.out)) hb); clear HO_4; clear HO_5; clear HO_6; clear BK190; clear HB; have HO_4 := n0_; have HO_5 := n1_; have HO_6 := n2_; have BK190 := n3_; have HB := n4_; clear n0_ n1_ n2_ n3_ n4_; (try clear hb); (try clear hb2); (try clear hk); (try clear hi)))
                        (try simp only [Act.put, sI, sZ, sS])
                        go_cut [104] (fun v104 wc => ∃ (kq : Nat) (x104_54 : Bool), v104 = .bool x104_54 ∧ Aside0 (w22_CMoves.j3 kq l0 true y163 y191 x6_23 x8_1 t199 x104_54 = some r) ∧ Aside0 (kq ≤ kj23) ∧ Aside0 (Kd.R k31 31 wc w.heap.size (fun _ => True) (.slice Ao57 y163.length co57) y163) ∧ Aside0 (Kd.R k47 47 wc w.heap.size (fun k_ => k_ ≠ gb190) (.slice Ao56 y191.length co56) y191) ∧ Aside0 (Kd.S (Kd.slice 3 (Kd.int .i64)) 22 wc w.heap.size (fun _ => True) v176 x6_23) ∧ Aside0 (wc.heap[gb190]? = some (.cells #[.int .i64 t181, .int .i64 t182, .int .i64 t183, .int .i64 t184, .int .i64 t185, .int .i64 t186, .int .i64 t187, .int .i64 t188, .int .i32 t189] 47 (0, 0))) ∧ Aside0 (Below w.heap.size w wc))
                        case first =>
                          have H := HC55.out
                          clear HC55
                          by_cases c59 : t199 < x7_1
                          · rw [if_pos c59] at H
                            have c59b0 : decide (t199 < x7_1) = true := decide_eq_true c59
                            clear c59
                            (first | rw [c59b0] | (simp only [i64_w, i32_w]; rw [c59b0]) | skip)
                            have H' := Aside0.mk H
                            clear H
                            go_wp2
                            go_meet
                            case rel => exact ⟨_, (true), (by first | rfl | (simp; done) | (simp [*]; done)), H', ⟨by have := HK1.out; have := HJ16.out; have := HJ23.out; first | omega | exact Nat.le_refl _⟩, ⟨by (with_reducible repeat (first | apply Kd.R_alloc | apply Kd.R_drewN | apply Kd.R_drew)); exact HO_4.out⟩, ⟨by (with_reducible repeat (first | apply Kd.R_alloc | apply Kd.R_drewN | apply Kd.R_drew)); exact HO_5.out⟩, ⟨by (with_reducible repeat (first | apply Kd.S_alloc | apply Kd.S_drewN | apply Kd.S_drew)); exact HO_6.out⟩, ⟨by (with_reducible repeat (first | refine bN ?_ _ | refine bD ?_ | refine bA ?_ _)); exact BK190.out⟩, ⟨by repeat (first | (with_reducible first | exact HB.out | apply pA | apply pN | apply p1_ | refine bS ?_ GE190.out) | exact HB.out)⟩⟩
                          · rw [if_neg c59] at H
                            have c59b0 : decide (t199 < x7_1) = false := decide_eq_false c59
                            clear c59
                            (first | rw [c59b0] | (simp only [i64_w, i32_w]; rw [c59b0]) | skip)
                            by_cases c60 : t199 > (wrap64 (x7_1 + 1))
                            · rw [if_pos c60] at H
                              have c60b0 : decide ((wrap64 (x7_1 + 1)) < t199) = true := decide_eq_true c60
                              clear c60
                              have H' := Aside0.mk H
                              clear H
                              go_wp2
                              go_meet
                              case rel => exact ⟨_, (true), (by first | rfl | (simp; done) | (simp [*]; done)), H', ⟨by have := HK1.out; have := HJ16.out; have := HJ23.out; first | omega | exact Nat.le_refl _⟩, ⟨by (with_reducible repeat (first | apply Kd.R_alloc | apply Kd.R_drewN | apply Kd.R_drew)); exact HO_4.out⟩, ⟨by (with_reducible repeat (first | apply Kd.R_alloc | apply Kd.R_drewN | apply Kd.R_drew)); exact HO_5.out⟩, ⟨by (with_reducible repeat (first | apply Kd.S_alloc | apply Kd.S_drewN | apply Kd.S_drew)); exact HO_6.out⟩, ⟨by (with_reducible repeat (first | refine bN ?_ _ | refine bD ?_ | refine bA ?_ _)); exact BK190.out⟩, ⟨by repeat (first | (with_reducible first | exact HB.out | apply pA | apply pN | apply p1_ | refine bS ?_ GE190.out) | exact HB.out)⟩⟩
                            · rw [if_neg c60] at H
                              have c60b0 : decide ((wrap64 (x7_1 + 1)) < t199) = false := decide_eq_false c60
                              clear c60
                              by_cases c61 : t199 > x7_1
                              · rw [if_pos c61] at H
                                have c61b0 : decide (x7_1 < t199) = true := decide_eq_true c61
                                clear c61
                                have H' := Aside0.mk H
                                clear H
                                have hcz62_0 : w58.cell? ⟨gb190, 0, none⟩ = some (.int .i64 t181) := (bC BK190.out 0).trans rfl
                                have hcz62_1 : w58.cell? ⟨gb190, 1, none⟩ = some (.int .i64 t182) := (bC BK190.out 1).trans rfl
                                have hcz62_2 : w58.cell? ⟨gb190, 2, none⟩ = some (.int .i64 t183) := (bC BK190.out 2).trans rfl
                                have hcz62_3 : w58.cell? ⟨gb190, 3, none⟩ = some (.int .i64 t184) := (bC BK190.out 3).trans rfl
                                have hcz62_4 : w58.cell? ⟨gb190, 4, none⟩ = some (.int .i64 t185) := (bC BK190.out 4).trans rfl
                                have hcz62_5 : w58.cell? ⟨gb190, 5, none⟩ = some (.int .i64 t186) := (bC BK190.out 5).trans rfl
                                have hcz62_6 : w58.cell? ⟨gb190, 6, none⟩ = some (.int .i64 t187) := (bC BK190.out 6).trans rfl
                                have hcz62_7 : w58.cell? ⟨gb190, 7, none⟩ = some (.int .i64 t188) := (bC BK190.out 7).trans rfl
                                have hcz62_8 : w58.cell? ⟨gb190, 8, none⟩ = some (.int .i32 t189) := (bC BK190.out 8).trans rfl
                                have hfz62_0 := bF BK190.out 0
                                have hfz62_1 := bF BK190.out 1
                                have hfz62_2 := bF BK190.out 2
                                have hfz62_3 := bF BK190.out 3
                                have hfz62_4 := bF BK190.out 4
                                have hfz62_5 := bF BK190.out 5
                                have hfz62_6 := bF BK190.out 6
                                have hfz62_7 := bF BK190.out 7
                                have hfz62_8 := bF BK190.out 8
                                go_wp2
                                go_meet
                                case rel => exact ⟨_, (((Int.tmod t187 2) == 1)), (by first | rfl | (simp; done) | (simp [*]; done)), H', ⟨by have := HK1.out; have := HJ16.out; have := HJ23.out; first | omega | exact Nat.le_refl _⟩, ⟨by (with_reducible repeat (first | apply Kd.R_alloc | apply Kd.R_drewN | apply Kd.R_drew)); exact HO_4.out⟩, ⟨by (with_reducible repeat (first | apply Kd.R_alloc | apply Kd.R_drewN | apply Kd.R_drew)); exact HO_5.out⟩, ⟨by (with_reducible repeat (first | apply Kd.S_alloc | apply Kd.S_drewN | apply Kd.S_drew)); exact HO_6.out⟩, ⟨by (with_reducible repeat (first | refine bN ?_ _ | refine bD ?_ | refine bA ?_ _)); exact BK190.out⟩, ⟨by repeat (first | (with_reducible first | exact HB.out | apply pA | apply pN | apply p1_ | refine bS ?_ GE190.out) | exact HB.out)⟩⟩
                              · rw [if_neg c61] at H
                                have c61b0 : decide (x7_1 < t199) = false := decide_eq_false c61
                                clear c61
                                have H' := Aside0.mk H
                                clear H
                                go_wp2
                                go_meet
                                case rel => exact ⟨_, (false), (by first | rfl | (simp; done) | (simp [*]; done)), H', ⟨by have := HK1.out; have := HJ16.out; have := HJ23.out; first | omega | exact Nat.le_refl _⟩, ⟨by (with_reducible repeat (first | apply Kd.R_alloc | apply Kd.R_drewN | apply Kd.R_drew)); exact HO_4.out⟩, ⟨by (with_reducible repeat (first | apply Kd.R_alloc | apply Kd.R_drewN | apply Kd.R_drew)); exact HO_5.out⟩, ⟨by (with_reducible repeat (first | apply Kd.S_alloc | apply Kd.S_drewN | apply Kd.S_drew)); exact HO_6.out⟩, ⟨by (with_reducible repeat (first | refine bN ?_ _ | refine bD ?_ | refine bA ?_ _)); exact BK190.out⟩, ⟨by repeat (first | (with_reducible first | exact HB.out | apply pA | apply pN | apply p1_ | refine bS ?_ GE190.out) | exact HB.out)⟩⟩
                        case rest =>
                          clear HC55
                          try clear c1
                          try clear p1
                          try clear q1
                          try clear hx1
                          try clear c2
                          try clear p2
                          try clear c4
                          try clear p4
                          try clear q4
                          try clear c5
                          try clear hx5
                          try clear hf5
                          try clear c6
                          try clear p6
                          try clear c16
                          try clear c18
                          try clear c19
                          try clear p19
                          try clear q19
                          try clear hx19
                          try clear c23
                          try clear c41
                          try clear c41b0
                          try clear c41b1
                          try clear c43
                          try clear c43b0
                          try clear c44
                          try clear c44b0
                          try clear c45
                          try clear p46
                          try clear q46
                          try clear c49
                          try clear c51
                          try clear hx51
                          try clear hf51
                          try clear c59
                          try clear c59b0
                          try clear c60
                          try clear c60b0
                          try clear c61
                          try clear c61b0
                          try clear hcz38_0
                          try clear hcz38_1
                          try clear hcz38_2
                          try clear hcz38_3
                          try clear hcz38_4
                          try clear hcz38_5
                          try clear hcz38_6
                          try clear hcz38_7
                          try clear hcz38_8
                          try clear hcz40_0
                          try clear hcz40_1
                          try clear hcz40_2
                          try clear hcz40_3
                          try clear hcz40_4
                          try clear hcz40_5
                          try clear hcz40_6
                          try clear hcz40_7
                          try clear hcz40_8
                          try clear hcz62_0
                          try clear hcz62_1
                          try clear hcz62_2
                          try clear hcz62_3
                          try clear hcz62_4
                          try clear hcz62_5
                          try clear hcz62_6
                          try clear hcz62_7
                          try clear hcz62_8
                          try clear hfz38_0
                          try clear hfz38_1
                          try clear hfz38_2
                          try clear hfz38_3
                          try clear hfz38_4
                          try clear hfz38_5
                          try clear hfz38_6
                          try clear hfz38_7
                          try clear hfz38_8
                          try clear hfz40_0
                          try clear hfz40_1
                          try clear hfz40_2
                          try clear hfz40_3
                          try clear hfz40_4
                          try clear hfz40_5
                          try clear hfz40_6
                          try clear hfz40_7
                          try clear hfz40_8
                          try clear hfz62_0
                          try clear hfz62_1
                          try clear hfz62_2
                          try clear hfz62_3
                          try clear hfz62_4
                          try clear hfz62_5
                          try clear hfz62_6
                          try clear hfz62_7
                          try clear hfz62_8
                          try clear hx194_0
                          try clear hx51_0
                          try clear p1
                          try clear p19
                          try clear p194
                          try clear p2
                          try clear p4
                          try clear p46
                          try clear p6
                          try clear q1
                          try clear q19
                          try clear q194
                          try clear q4
                          try clear q46
                          obtain ⟨kq, x104_54, rfl, HA, HJ54, HO_4, HO_5, HO_6, BK190, HB⟩ := hcut
                          cases kq with
                          | zero => exact absurd HA.out (by simp [w22_CMoves.j3])
                          | succ kj54 =>
                            have H := HA.out
                            clear HA
                            simp only [w22_CMoves.j3] at H
                            by_cases c63 : x104_54 = true
                            · subst c63
                              have H1 : (some false) = some r := by rw [if_pos rfl] at H; exact H
                              clear H
                              have H := H1
                              clear H1
                              obtain rfl := Option.some.inj H
                              go_wp2
                              go_ret
                              exact ⟨by first | rfl | (simp [errW_none, errW_some] <;> rfl) | (simp [*, errW_none, errW_some] <;> rfl), by repeat (first | (with_reducible first | exact HB.out | apply pA | apply pN | apply p1_ | refine bS ?_ GE190.out) | exact HB.out)⟩
                            · replace c63 := Bool.eq_false_iff.mpr c63
                              subst c63
                              have H1 : (w22_CMoves.l0 kj54 l0 true y163 y191 x6_23 t199 (wrap64 (x8_1 + 1))) = some r := by rw [if_neg (show ¬ (false = true) by decide)] at H; exact H
                              clear H
                              have H := H1
                              clear H1
                              have H' := Aside0.mk H
                              clear H
                              go_wp2
                              go_roundg kj54
                              case measure => have := HK1.out; have := HJ16.out; have := HJ23.out; have := HJ54.out; omega
                              case rel => exact ⟨(y191), (x6_23), (t199), (wrap64 (x8_1 + 1)), (by first | rfl | (simp; done) | (simp [*]; done)), (by first | rfl | (simp; done) | (simp [*]; done)), H', ⟨by have := HK1.out; have := HJ16.out; have := HJ23.out; have := HJ54.out; omega⟩, ⟨by (with_reducible repeat (first | apply Kd.R_alloc | apply Kd.R_drewN | apply Kd.R_drew)); exact HO_4.out⟩, ⟨by (with_reducible repeat (first | apply Kd.R_alloc | apply Kd.R_drewN | apply Kd.R_drew)); exact Kd.R_mono HO_5.out (fun _ hk => trivial)⟩, ⟨by (with_reducible repeat (first | apply Kd.S_alloc | apply Kd.S_drewN | apply Kd.S_drew)); exact HO_6.out⟩, ⟨by repeat (first | (with_reducible first | exact HB.out | apply pA | apply pN | apply p1_ | refine bS ?_ GE190.out) | exact HB.out)⟩⟩
                  · rw [if_neg c23] at H
                    exact absurd H (by simp)
                · rw [if_neg c21] at H
                  exact absurd H (by simp)
              · rw [if_neg c20] at H
                exact absurd H (by simp)
            · replace c19 := Bool.eq_false_iff.mpr c19
              subst c19
              have H1 : (if 0 < (x6_1.length : Int) then (if 1 < (x6_1.length : Int) then ((coalesce_Segments.f (rd_L5 x6_1 0)).bind fun t203 => ((coalesce_Segments.f (rd_L5 x6_1 1)).bind fun t207 => ((some (([] : List (S47)) : List (S47))).bind fun y210 => (if y210.length + x5_1.length < 1954687338268 then ((some (y210 ++ x5_1 : List (S47))).bind fun y213 => ((w22_access.f 1 4 3).bind fun bt216 => ((w22_access.f 1 (-1) 3).bind fun bt225 => ((w22_access.f 9 0 999).bind fun bt234 => ((some (([(⟨4, 0, 0, 0, 0, 0, 0, 0, 0⟩ : S47), (⟨bt216.1, bt216.2.1, bt216.2.2.1, bt216.2.2.2.1, bt216.2.2.2.2.1, bt216.2.2.2.2.2.1, bt216.2.2.2.2.2.2.1, bt216.2.2.2.2.2.2.2.1, bt216.2.2.2.2.2.2.2.2⟩ : S47), (⟨bt225.1, bt225.2.1, bt225.2.2.1, bt225.2.2.2.1, bt225.2.2.2.2.1, bt225.2.2.2.2.2.1, bt225.2.2.2.2.2.2.1, bt225.2.2.2.2.2.2.2.1, bt225.2.2.2.2.2.2.2.2⟩ : S47), (⟨bt234.1, bt234.2.1, bt234.2.2.1, bt234.2.2.2.1, bt234.2.2.2.2.1, bt234.2.2.2.2.2.1, bt234.2.2.2.2.2.2.1, bt234.2.2.2.2.2.2.2.1, bt234.2.2.2.2.2.2.2.2⟩ : S47)] : List (S47)) : List (S47))).bind fun y243 => (if y213.length + y243.length < 1954687338268 then (if x7_1 ≤ (wrap64 (((rd_L5 x6_1 0).length : Int) + ((rd_L5 x6_1 1).length : Int))) then (if (((wrap64 (((rd_L5 x6_1 0).length : Int) + ((rd_L5 x6_1 1).length : Int))) == 0) == (x7_1 == 0)) = true then (if x7_1 = (wrap64 ((t203.length : Int) + (t207.length : Int))) then ((coalesce_Moves.f (y213 ++ y243) y163).bind fun t249 => (if t249 = x7_1 then (w22_CMoves.j4 kj16 true) else (w22_CMoves.j4 kj16 false))) else (w22_CMoves.j4 kj16 false)) else (w22_CMoves.j4 kj16 false)) else (w22_CMoves.j4 kj16 false)) else (none))))))) else (none))))) else (none)) else (none)) = some r := by rw [if_neg (show ¬ (false = true) by decide)] at H; exact H
              clear H
              have H := H1
              clear H1
              by_cases c64 : 0 < (x6_1.length : Int)
              · rw [if_pos c64] at H
                have c64b0 : decide (0 < (x6_1.length : Int)) = true := decide_eq_true c64
                have c64b1 : decide (0 < x6_1.length) = true := decide_eq_true (by omega)
                clear c64
                by_cases c65 : 1 < (x6_1.length : Int)
                · rw [if_pos c65] at H
                  have c65b0 : decide (1 < (x6_1.length : Int)) = true := decide_eq_true c65
                  have c65b1 : decide (1 < x6_1.length) = true := decide_eq_true (by omega)
                  clear c65
                  replace H := Option.bind_eq_some_iff.mp H
                  obtain ⟨t203, A660, H⟩ := H
                  replace H : ((coalesce_Segments.f (rd_L5 x6_1 1)).bind fun t207 => ((some (([] : List (S47)) : List (S47))).bind fun y210 => (if y210.length + x5_1.length < 1954687338268 then ((some (y210 ++ x5_1 : List (S47))).bind fun y213 => ((w22_access.f 1 4 3).bind fun bt216 => ((w22_access.f 1 (-1) 3).bind fun bt225 => ((w22_access.f 9 0 999).bind fun bt234 => ((some (([(⟨4, 0, 0, 0, 0, 0, 0, 0, 0⟩ : S47), (⟨bt216.1, bt216.2.1, bt216.2.2.1, bt216.2.2.2.1, bt216.2.2.2.2.1, bt216.2.2.2.2.2.1, bt216.2.2.2.2.2.2.1, bt216.2.2.2.2.2.2.2.1, bt216.2.2.2.2.2.2.2.2⟩ : S47), (⟨bt225.1, bt225.2.1, bt225.2.2.1, bt225.2.2.2.1, bt225.2.2.2.2.1, bt225.2.2.2.2.2.1, bt225.2.2.2.2.2.2.1, bt225.2.2.2.2.2.2.2.1, bt225.2.2.2.2.2.2.2.2⟩ : S47), (⟨bt234.1, bt234.2.1, bt234.2.2.1, bt234.2.2.2.1, bt234.2.2.2.2.1, bt234.2.2.2.2.2.1, bt234.2.2.2.2.2.2.1, bt234.2.2.2.2.2.2.2.1, bt234.2.2.2.2.2.2.2.2⟩ : S47)] : List (S47)) : List (S47))).bind fun y243 => (if y213.length + y243.length < 1954687338268 then (if x7_1 ≤ (wrap64 (((rd_L5 x6_1 0).length : Int) + ((rd_L5 x6_1 1).length : Int))) then (if (((wrap64 (((rd_L5 x6_1 0).length : Int) + ((rd_L5 x6_1 1).length : Int))) == 0) == (x7_1 == 0)) = true then (if x7_1 = (wrap64 ((t203.length : Int) + (t207.length : Int))) then ((coalesce_Moves.f (y213 ++ y243) y163).bind fun t249 => (if t249 = x7_1 then (w22_CMoves.j4 kj16 true) else (w22_CMoves.j4 kj16 false))) else (w22_CMoves.j4 kj16 false)) else (w22_CMoves.j4 kj16 false)) else (w22_CMoves.j4 kj16 false)) else (none))))))) else (none)))) = some r := H
                  have A66 := Aside0.mk A660
                  clear A660
                  replace H := Option.bind_eq_some_iff.mp H
                  obtain ⟨t207, A670, H⟩ := H
                  replace H : ((some (([] : List (S47)) : List (S47))).bind fun y210 => (if y210.length + x5_1.length < 1954687338268 then ((some (y210 ++ x5_1 : List (S47))).bind fun y213 => ((w22_access.f 1 4 3).bind fun bt216 => ((w22_access.f 1 (-1) 3).bind fun bt225 => ((w22_access.f 9 0 999).bind fun bt234 => ((some (([(⟨4, 0, 0, 0, 0, 0, 0, 0, 0⟩ : S47), (⟨bt216.1, bt216.2.1, bt216.2.2.1, bt216.2.2.2.1, bt216.2.2.2.2.1, bt216.2.2.2.2.2.1, bt216.2.2.2.2.2.2.1, bt216.2.2.2.2.2.2.2.1, bt216.2.2.2.2.2.2.2.2⟩ : S47), (⟨bt225.1, bt225.2.1, bt225.2.2.1, bt225.2.2.2.1, bt225.2.2.2.2.1, bt225.2.2.2.2.2.1, bt225.2.2.2.2.2.2.1, bt225.2.2.2.2.2.2.2.1, bt225.2.2.2.2.2.2.2.2⟩ : S47), (⟨bt234.1, bt234.2.1, bt234.2.2.1, bt234.2.2.2.1, bt234.2.2.2.2.1, bt234.2.2.2.2.2.1, bt234.2.2.2.2.2.2.1, bt234.2.2.2.2.2.2.2.1, bt234.2.2.2.2.2.2.2.2⟩ : S47)] : List (S47)) : List (S47))).bind fun y243 => (if y213.length + y243.length < 1954687338268 then (if x7_1 ≤ (wrap64 (((rd_L5 x6_1 0).length : Int) + ((rd_L5 x6_1 1).length : Int))) then (if (((wrap64 (((rd_L5 x6_1 0).length : Int) + ((rd_L5 x6_1 1).length : Int))) == 0) == (x7_1 == 0)) = true then (if x7_1 = (wrap64 ((t203.length : Int) + (t207.length : Int))) then ((coalesce_Moves.f (y213 ++ y243) y163).bind fun t249 => (if t249 = x7_1 then (w22_CMoves.j4 kj16 true) else (w22_CMoves.j4 kj16 false))) else (w22_CMoves.j4 kj16 false)) else (w22_CMoves.j4 kj16 false)) else (w22_CMoves.j4 kj16 false)) else (none))))))) else (none))) = some r := H
                  have A67 := Aside0.mk A670
                  clear A670
                  obtain ⟨y210, hy210⟩ : ∃ y_ : List (S47), y_ = (([] : List (S47))) := ⟨_, rfl⟩
                  replace H : (if y210.length + x5_1.length < 1954687338268 then ((some (y210 ++ x5_1 : List (S47))).bind fun y213 => ((w22_access.f 1 4 3).bind fun bt216 => ((w22_access.f 1 (-1) 3).bind fun bt225 => ((w22_access.f 9 0 999).bind fun bt234 => ((some (([(⟨4, 0, 0, 0, 0, 0, 0, 0, 0⟩ : S47), (⟨bt216.1, bt216.2.1, bt216.2.2.1, bt216.2.2.2.1, bt216.2.2.2.2.1, bt216.2.2.2.2.2.1, bt216.2.2.2.2.2.2.1, bt216.2.2.2.2.2.2.2.1, bt216.2.2.2.2.2.2.2.2⟩ : S47), (⟨bt225.1, bt225.2.1, bt225.2.2.1, bt225.2.2.2.1, bt225.2.2.2.2.1, bt225.2.2.2.2.2.1, bt225.2.2.2.2.2.2.1, bt225.2.2.2.2.2.2.2.1, bt225.2.2.2.2.2.2.2.2⟩ : S47), (⟨bt234.1, bt234.2.1, bt234.2.2.1, bt234.2.2.2.1, bt234.2.2.2.2.1, bt234.2.2.2.2.2.1, bt234.2.2.2.2.2.2.1, bt234.2.2.2.2.2.2.2.1, bt234.2.2.2.2.2.2.2.2⟩ : S47)] : List (S47)) : List (S47))).bind fun y243 => (if y213.length + y243.length < 1954687338268 then (if x7_1 ≤ (wrap64 (((rd_L5 x6_1 0).length : Int) + ((rd_L5 x6_1 1).length : Int))) then (if (((wrap64 (((rd_L5 x6_1 0).length : Int) + ((rd_L5 x6_1 1).length : Int))) == 0) == (x7_1 == 0)) = true then (if x7_1 = (wrap64 ((t203.length : Int) + (t207.length : Int))) then ((coalesce_Moves.f (y213 ++ y243) y163).bind fun t249 => (if t249 = x7_1 then (w22_CMoves.j4 kj16 true) else (w22_CMoves.j4 kj16 false))) else (w22_CMoves.j4 kj16 false)) else (w22_CMoves.j4 kj16 false)) else (w22_CMoves.j4 kj16 false)) else (none))))))) else (none)) = some r := by first | (rw [hy210]; with_reducible exact H) | (have H2_ := (Option.bind_some _ _).symm.trans H; rw [hy210]; with_reducible exact H2_) | (have H2_ := (Option.bind_some _ _).symm.trans H; with_reducible exact H2_) | with_reducible exact H | (rw [hy210]; exact H) | exact H
                  have Ny210 := Aside0.mk hy210
                  clear hy210
                  by_cases c68 : y210.length + x5_1.length < 1954687338268
                  · rw [if_pos c68] at H
                    have LMc68 := Aside0.mk c68
                    clear c68
                    obtain ⟨y213, hy213⟩ : ∃ y_ : List (S47), y_ = (y210 ++ x5_1) := ⟨_, rfl⟩
                    replace H : ((w22_access.f 1 4 3).bind fun bt216 => ((w22_access.f 1 (-1) 3).bind fun bt225 => ((w22_access.f 9 0 999).bind fun bt234 => ((some (([(⟨4, 0, 0, 0, 0, 0, 0, 0, 0⟩ : S47), (⟨bt216.1, bt216.2.1, bt216.2.2.1, bt216.2.2.2.1, bt216.2.2.2.2.1, bt216.2.2.2.2.2.1, bt216.2.2.2.2.2.2.1, bt216.2.2.2.2.2.2.2.1, bt216.2.2.2.2.2.2.2.2⟩ : S47), (⟨bt225.1, bt225.2.1, bt225.2.2.1, bt225.2.2.2.1, bt225.2.2.2.2.1, bt225.2.2.2.2.2.1, bt225.2.2.2.2.2.2.1, bt225.2.2.2.2.2.2.2.1, bt225.2.2.2.2.2.2.2.2⟩ : S47), (⟨bt234.1, bt234.2.1, bt234.2.2.1, bt234.2.2.2.1, bt234.2.2.2.2.1, bt234.2.2.2.2.2.1, bt234.2.2.2.2.2.2.1, bt234.2.2.2.2.2.2.2.1, bt234.2.2.2.2.2.2.2.2⟩ : S47)] : List (S47)) : List (S47))).bind fun y243 => (if y213.length + y243.length < 1954687338268 then (if x7_1 ≤ (wrap64 (((rd_L5 x6_1 0).length : Int) + ((rd_L5 x6_1 1).length : Int))) then (if (((wrap64 (((rd_L5 x6_1 0).length : Int) + ((rd_L5 x6_1 1).length : Int))) == 0) == (x7_1 == 0)) = true then (if x7_1 = (wrap64 ((t203.length : Int) + (t207.length : Int))) then ((coalesce_Moves.f (y213 ++ y243) y163).bind fun t249 => (if t249 = x7_1 then (w22_CMoves.j4 kj16 true) else (w22_CMoves.j4 kj16 false))) else (w22_CMoves.j4 kj16 false)) else (w22_CMoves.j4 kj16 false)) else (w22_CMoves.j4 kj16 false)) else (none)))))) = some r := by first | (rw [hy213]; with_reducible exact H) | (have H2_ := (Option.bind_some _ _).symm.trans H; rw [hy213]; with_reducible exact H2_) | (have H2_ := (Option.bind_some _ _).symm.trans H; with_reducible exact H2_) | with_reducible exact H | (rw [hy213]; exact H) | exact H
                    have Ny213 := Aside0.mk hy213
                    clear hy213
                    replace H := Option.bind_eq_some_iff.mp H
                    obtain ⟨⟨t216, t217, t218, t219, t220, t221, t222, t223, t224⟩, A690, H⟩ := H
                    replace H : ((w22_access.f 1 (-1) 3).bind fun bt225 => ((w22_access.f 9 0 999).bind fun bt234 => ((some (([(⟨4, 0, 0, 0, 0, 0, 0, 0, 0⟩ : S47), (⟨t216, t217, t218, t219, t220, t221, t222, t223, t224⟩ : S47), (⟨bt225.1, bt225.2.1, bt225.2.2.1, bt225.2.2.2.1, bt225.2.2.2.2.1, bt225.2.2.2.2.2.1, bt225.2.2.2.2.2.2.1, bt225.2.2.2.2.2.2.2.1, bt225.2.2.2.2.2.2.2.2⟩ : S47), (⟨bt234.1, bt234.2.1, bt234.2.2.1, bt234.2.2.2.1, bt234.2.2.2.2.1, bt234.2.2.2.2.2.1, bt234.2.2.2.2.2.2.1, bt234.2.2.2.2.2.2.2.1, bt234.2.2.2.2.2.2.2.2⟩ : S47)] : List (S47)) : List (S47))).bind fun y243 => (if y213.length + y243.length < 1954687338268 then (if x7_1 ≤ (wrap64 (((rd_L5 x6_1 0).length : Int) + ((rd_L5 x6_1 1).length : Int))) then (if (((wrap64 (((rd_L5 x6_1 0).length : Int) + ((rd_L5 x6_1 1).length : Int))) == 0) == (x7_1 == 0)) = true then (if x7_1 = (wrap64 ((t203.length : Int) + (t207.length : Int))) then ((coalesce_Moves.f (y213 ++ y243) y163).bind fun t249 => (if t249 = x7_1 then (w22_CMoves.j4 kj16 true) else (w22_CMoves.j4 kj16 false))) else (w22_CMoves.j4 kj16 false)) else (w22_CMoves.j4 kj16 false)) else (w22_CMoves.j4 kj16 false)) else (none))))) = some r := H
                    have A69 := Aside0.mk A690
                    clear A690
                    replace H := Option.bind_eq_some_iff.mp H
                    obtain ⟨⟨t225, t226, t227, t228, t229, t230, t231, t232, t233⟩, A700, H⟩ := H
                    replace H : ((w22_access.f 9 0 999).bind fun bt234 => ((some (([(⟨4, 0, 0, 0, 0, 0, 0, 0, 0⟩ : S47), (⟨t216, t217, t218, t219, t220, t221, t222, t223, t224⟩ : S47), (⟨t225, t226, t227, t228, t229, t230, t231, t232, t233⟩ : S47), (⟨bt234.1, bt234.2.1, bt234.2.2.1, bt234.2.2.2.1, bt234.2.2.2.2.1, bt234.2.2.2.2.2.1, bt234.2.2.2.2.2.2.1, bt234.2.2.2.2.2.2.2.1, bt234.2.2.2.2.2.2.2.2⟩ : S47)] : List (S47)) : List (S47))).bind fun y243 => (if y213.length + y243.length < 1954687338268 then (if x7_1 ≤ (wrap64 (((rd_L5 x6_1 0).length : Int) + ((rd_L5 x6_1 1).length : Int))) then (if (((wrap64 (((rd_L5 x6_1 0).length : Int) + ((rd_L5 x6_1 1).length : Int))) == 0) == (x7_1 == 0)) = true then (if x7_1 = (wrap64 ((t203.length : Int) + (t207.length : Int))) then ((coalesce_Moves.f (y213 ++ y243) y163).bind fun t249 => (if t249 = x7_1 then (w22_CMoves.j4 kj16 true) else (w22_CMoves.j4 kj16 false))) else (w22_CMoves.j4 kj16 false)) else (w22_CMoves.j4 kj16 false)) else (w22_CMoves.j4 kj16 false)) else (none)))) = some r := H
                    have A70 := Aside0.mk A700
                    clear A700
                    replace H := Option.bind_eq_some_iff.mp H
                    obtain ⟨⟨t234, t235, t236, t237, t238, t239, t240, t241, t242⟩, A710, H⟩ := H
                    replace H : ((some (([(⟨4, 0, 0, 0, 0, 0, 0, 0, 0⟩ : S47), (⟨t216, t217, t218, t219, t220, t221, t222, t223, t224⟩ : S47), (⟨t225, t226, t227, t228, t229, t230, t231, t232, t233⟩ : S47), (⟨t234, t235, t236, t237, t238, t239, t240, t241, t242⟩ : S47)] : List (S47)) : List (S47))).bind fun y243 => (if y213.length + y243.length < 1954687338268 then (if x7_1 ≤ (wrap64 (((rd_L5 x6_1 0).length : Int) + ((rd_L5 x6_1 1).length : Int))) then (if (((wrap64 (((rd_L5 x6_1 0).length : Int) + ((rd_L5 x6_1 1).length : Int))) == 0) == (x7_1 == 0)) = true then (if x7_1 = (wrap64 ((t203.length : Int) + (t207.length : Int))) then ((coalesce_Moves.f (y213 ++ y243) y163).bind fun t249 => (if t249 = x7_1 then (w22_CMoves.j4 kj16 true) else (w22_CMoves.j4 kj16 false))) else (w22_CMoves.j4 kj16 false)) else (w22_CMoves.j4 kj16 false)) else (w22_CMoves.j4 kj16 false)) else (none))) = some r := H
                    have A71 := Aside0.mk A710
                    clear A710
                    obtain ⟨y243, hy243⟩ : ∃ y_ : List (S47), y_ = (([(⟨4, 0, 0, 0, 0, 0, 0, 0, 0⟩ : S47), (⟨t216, t217, t218, t219, t220, t221, t222, t223, t224⟩ : S47), (⟨t225, t226, t227, t228, t229, t230, t231, t232, t233⟩ : S47), (⟨t234, t235, t236, t237, t238, t239, t240, t241, t242⟩ : S47)] : List (S47))) := ⟨_, rfl⟩
                    replace H : (if y213.length + y243.length < 1954687338268 then (if x7_1 ≤ (wrap64 (((rd_L5 x6_1 0).length : Int) + ((rd_L5 x6_1 1).length : Int))) then (if (((wrap64 (((rd_L5 x6_1 0).length : Int) + ((rd_L5 x6_1 1).length : Int))) == 0) == (x7_1 == 0)) = true then (if x7_1 = (wrap64 ((t203.length : Int) + (t207.length : Int))) then ((coalesce_Moves.f (y213 ++ y243) y163).bind fun t249 => (if t249 = x7_1 then (w22_CMoves.j4 kj16 true) else (w22_CMoves.j4 kj16 false))) else (w22_CMoves.j4 kj16 false)) else (w22_CMoves.j4 kj16 false)) else (w22_CMoves.j4 kj16 false)) else (none)) = some r := by first | (rw [hy243]; with_reducible exact H) | (have H2_ := (Option.bind_some _ _).symm.trans H; rw [hy243]; with_reducible exact H2_) | (have H2_ := (Option.bind_some _ _).symm.trans H; with_reducible exact H2_) | with_reducible exact H | (rw [hy243]; exact H) | exact H
                    have Ny243 := Aside0.mk hy243
                    clear hy243
                    by_cases c72 : y213.length + y243.length < 1954687338268
                    · rw [if_pos c72] at H
                      have LMc72 := Aside0.mk c72
                      clear c72
                      obtain ⟨y246, hy246⟩ : ∃ y_ : List (S47), y_ = (y213 ++ y243) := ⟨_, rfl⟩
                      replace H : (if x7_1 ≤ (wrap64 (((rd_L5 x6_1 0).length : Int) + ((rd_L5 x6_1 1).length : Int))) then (if (((wrap64 (((rd_L5 x6_1 0).length : Int) + ((rd_L5 x6_1 1).length : Int))) == 0) == (x7_1 == 0)) = true then (if x7_1 = (wrap64 ((t203.length : Int) + (t207.length : Int))) then ((coalesce_Moves.f y246 y163).bind fun t249 => (if t249 = x7_1 then (w22_CMoves.j4 kj16 true) else (w22_CMoves.j4 kj16 false))) else (w22_CMoves.j4 kj16 false)) else (w22_CMoves.j4 kj16 false)) else (w22_CMoves.j4 kj16 false)) = some r := by first | (rw [hy246]; with_reducible exact H) | (have H2_ := (Option.bind_some _ _).symm.trans H; rw [hy246]; with_reducible exact H2_) | (have H2_ := (Option.bind_some _ _).symm.trans H; with_reducible exact H2_) | with_reducible exact H | (rw [hy246]; exact H) | exact H
                      have Ny246 := Aside0.mk hy246
                      clear hy246
                      have HC73 := Aside0.mk H
                      clear H
                      try go_wp2
                      have n0_ := Aside0.mk (Kd.R_drew HO_4.out)
                      have n1_ := Aside0.mk (Kd.R_drew HO_5.out)
                      have n2_ := Aside0.mk (Kd.S_drew HO_6.out)
                      have n3_ := Aside0.mk (p1_ HB.out)
                      clear HO_4
                      clear HO_5
                      clear HO_6
                      clear HB
                      have HO_4 := n0_
                      have HO_5 := n1_
                      have HO_6 := n2_
                      have HB := n3_
                      clear n0_ n1_ n2_ n3_
                      obtain ⟨Ao75, co75, eo75⟩ := Kd.S_slice HO_6.out
                      (first | subst eo75 | (injection eo75 with f1_ f2_ f3_; have f4_ := f1_.symm; have f5_ := f3_.symm; clear f1_ f2_ f3_; subst f4_; subst f5_))
                      have p200 : 0 ≤ (0 : Int) := (by omega)
                      have q200 : 0 < (x6_1.length : Int) := of_decide_eq_true (by first | (with_reducible assumption) | assumption)
                      obtain ⟨ad200, A200_0, c200_0, e200, hx200_0, hl200_0, hi200_0⟩ := at_L5 (Kd.S_reads' HO_6.out).2.2 0 p200 q200
                      cases e200
                      obtain ⟨ce200, hce200, hMe200, hcc200⟩ := Kd.S_get HO_6.out [] 0 p200 (by first | exact q200 | exact of_decide_eq_true (by first | (with_reducible assumption) | assumption) | (have e_ := (Kd.S_reads' HO_6.out).1; omega))
                      obtain ⟨ve200_0, rfl, ge200_0⟩ := hMe200
                      have hv200_0 := hcc200 0 _ rfl
                      rw [Nat.add_zero, show ((Kd.slice 3 (Kd.int .i64))).sz = 1 from rfl, Nat.mul_one] at hv200_0
                      replace hv200_0 := Option.some.inj (hv200_0.symm.trans hx200_0)
                      rw [hv200_0] at ge200_0
                      have HL200_0 := Aside0.mk (show Kd.R (Kd.int .i64) 3 _ _ _ _ (rd_L5 x6_1 0) from ge200_0)
                      clear hv200_0 ge200_0
                      have HX200_0 := Aside0.mk hx200_0
                      clear hcc200 hce200
                      have qi200 : (0 < x6_1.length) = True := eq_true (by omega)
                      (try rw [show ((0 : Int)).toNat = 0 from rfl] at hx200_0)
                      (try rw [Addr.add_zero'] at hx200_0)
                      have HR200_0 := Aside0.mk hi200_0
                      have HC200_0 := Aside0.mk hl200_0
                      clear hi200_0 hl200_0
                      replace p200 := eq_true p200
                      replace q200 := eq_true q200
                      have p201 : 0 ≤ (1 : Int) := (by omega)
                      have q201 : 1 < (x6_1.length : Int) := of_decide_eq_true (by first | (with_reducible assumption) | assumption)
                      obtain ⟨ad201, A201_0, c201_0, e201, hx201_0, hl201_0, hi201_0⟩ := at_L5 (Kd.S_reads' HO_6.out).2.2 1 p201 q201
                      obtain rfl : ad200 = ad201 := (by injection e201)
                      obtain ⟨ce201, hce201, hMe201, hcc201⟩ := Kd.S_get HO_6.out [] 1 p201 (by first | exact q201 | exact of_decide_eq_true (by first | (with_reducible assumption) | assumption) | (have e_ := (Kd.S_reads' HO_6.out).1; omega))
                      obtain ⟨ve201_0, rfl, ge201_0⟩ := hMe201
                      have hv201_0 := hcc201 0 _ rfl
                      rw [Nat.add_zero, show ((Kd.slice 3 (Kd.int .i64))).sz = 1 from rfl, Nat.mul_one] at hv201_0
                      replace hv201_0 := Option.some.inj (hv201_0.symm.trans hx201_0)
                      rw [hv201_0] at ge201_0
                      have HL201_0 := Aside0.mk (show Kd.R (Kd.int .i64) 3 _ _ _ _ (rd_L5 x6_1 1) from ge201_0)
                      clear hv201_0 ge201_0
                      have HX201_0 := Aside0.mk hx201_0
                      clear hcc201 hce201
                      (try simp only [show (1 : Int).toNat = 1 from rfl, Nat.reduceMul, Nat.reduceEqDiff, Go.Addr.add, ↓reduceIte] at hx201_0)
                      have qi201 : (1 < x6_1.length) = True := eq_true (by omega)
                      (try rw [show ((1 : Int)).toNat = 1 from rfl] at hx201_0)
                      have HR201_0 := Aside0.mk hi201_0
                      have HC201_0 := Aside0.mk hl201_0
                      clear hi201_0 hl201_0
                      replace p201 := eq_true p201
                      replace q201 := eq_true q201
                      refine start_ (n := 10) (S := fun w' => w'.cell? ad200 = some (.slice A200_0 (rd_L5 x6_1 0).length c200_0) ∧ w'.cell? ⟨ad200.block, ad200.off + 1, none⟩ = some (.slice A201_0 (rd_L5 x6_1 1).length c201_0)) (ds := []) #[false, false, false, false, false, false, false, false, false, false] (by kernel_rfl) rfl rfl ⟨hx200_0, hx201_0⟩ (fun hHeld => ?_); refine with_tabW w22_CMoves.tab18 w22_CMoves.bits18 (fun HT_ HW_ => ?_)
                      generalize wc.drew = w74 at HO_4 HO_5 HO_6 HB HL200_0 HL201_0 HR200_0 HR201_0 HX200_0 HX201_0 hx200_0 hx201_0 hHeld ⊢
                      refine pure_ (i := 0) (N := some 106) (v := ?_) (a' := ?_) #[true, false, false, false, false, false, false, false, false, false] rfl rfl (any_of HT_.out (by kernel_rfl)) (fun _ _ _ h => h) (Or.inl ⟨by rfl, ?_⟩) ?_ ?_
                      rotate_left
                      · intro w'
                        go_simp
                        with_reducible rfl
                      rotate_left
                      · simp only [Act.put, sI, sZ, sS, i64_w, i32_w]
                        rfl
                      refine pure_ (i := 1) (N := some 107) (v := ?_) (a' := ?_) #[true, true, false, false, false, false, false, false, false, false] rfl rfl (any_of HT_.out (by kernel_rfl)) (fun _ _ _ h => h) (Or.inl ⟨by rfl, ?_⟩) ?_ ?_
                      rotate_left
                      · intro w'
                        go_simp
                        with_reducible rfl
                      rotate_left
                      · simp only [Act.put, sI, sZ, sS, i64_w, i32_w]
                        rfl
                      refine pure_ (i := 4) (N := some 110) (v := ?_) (a' := ?_) #[true, true, false, false, true, false, false, false, false, false] rfl rfl (any_of HT_.out (by kernel_rfl)) (fun _ _ _ h => h) (Or.inl ⟨by rfl, ?_⟩) ?_ ?_
                      rotate_left
                      · intro w'
                        go_simp
                        with_reducible rfl
                      rotate_left
                      · simp only [Act.put, sI, sZ, sS, i64_w, i32_w]
                        rfl
                      refine pure_ (i := 5) (N := some 111) (v := ?_) (a' := ?_) #[true, true, false, false, true, true, false, false, false, false] rfl rfl (any_of HT_.out (by kernel_rfl)) (fun _ _ _ h => h) (Or.inl ⟨by rfl, ?_⟩) ?_ ?_
                      rotate_left
                      · intro w'
                        go_simp
                        with_reducible rfl
                      rotate_left
                      · simp only [Act.put, sI, sZ, sS, i64_w, i32_w]
                        rfl
                      refine take_ (i := 2) (N := some 108) (v := ?_) (a' := ?_) #[true, true, true, false, true, true, false, false, false, false] rfl rfl (take_ofW HT_.out HW_.out (by kernel_rfl)) (fun _ _ _ h => h) (Or.inl ⟨by rfl, ?_⟩) hHeld ?_ ?_
                      rotate_left
                      · rintro w' ⟨s0, s1⟩
                        go_simp
                        with_reducible rfl
                      rotate_left
                      · simp only [Act.put, sI, sZ, sS, i64_w, i32_w]
                        rfl
                      refine pure_ (i := 3) (N := some 109) (v := ?_) (a' := ?_) #[true, true, true, true, true, true, false, false, false, false] rfl rfl (any_of HT_.out (by kernel_rfl)) (fun _ _ _ h => h) (Or.inl ⟨by rfl, ?_⟩) ?_ ?_
                      rotate_left
                      · intro w'
                        go_simp
                        with_reducible rfl
                      rotate_left
                      · simp only [Act.put, sI, sZ, sS, i64_w, i32_w]
                        rfl
                      refine take_ (i := 6) (N := some 112) (v := ?_) (a' := ?_) #[true, true, true, true, true, true, true, false, false, false] rfl rfl (take_ofW HT_.out HW_.out (by kernel_rfl)) (fun _ _ _ h => h) (Or.inl ⟨by rfl, ?_⟩) hHeld ?_ ?_
                      rotate_left
                      · rintro w' ⟨s0, s1⟩
                        go_simp
                        with_reducible rfl
                      rotate_left
                      · simp only [Act.put, sI, sZ, sS, i64_w, i32_w]
                        rfl
                      refine pure_ (i := 7) (N := some 113) (v := ?_) (a' := ?_) #[true, true, true, true, true, true, true, true, false, false] rfl rfl (any_of HT_.out (by kernel_rfl)) (fun _ _ _ h => h) (Or.inl ⟨by rfl, ?_⟩) ?_ ?_
                      rotate_left
                      · intro w'
                        go_simp
                        with_reducible rfl
                      rotate_left
                      · simp only [Act.put, sI, sZ, sS, i64_w, i32_w]
                        rfl
                      refine pure_ (i := 8) (N := some 114) (v := ?_) (a' := ?_) #[true, true, true, true, true, true, true, true, true, false] rfl rfl (any_of HT_.out (by kernel_rfl)) (fun _ _ _ h => h) (Or.inl ⟨by rfl, ?_⟩) ?_ ?_
                      rotate_left
                      · intro w'
                        go_simp
                        with_reducible rfl
                      rotate_left
                      · simp only [Act.put, sI, sZ, sS, i64_w, i32_w]
                        rfl
                      refine pure_ (i := 9) (N := some 11) (v := ?_) (a' := ?_) #[true, true, true, true, true, true, true, true, true, true] rfl rfl (any_of HT_.out (by kernel_rfl)) (fun _ _ _ h => h) (Or.inl ⟨by rfl, ?_⟩) ?_ ?_
                      rotate_left
                      · intro w'
                        go_simp
                        with_reducible rfl
                      rotate_left
                      · simp only [Act.put, sI, sZ, sS, i64_w, i32_w]
                        rfl
                      refine done_ (done_of HT_.out (by kernel_rfl)) ?_
                      try go_wp2
                      have n0_ := Aside0.mk (Kd.R_drew HO_4.out)
                      have n1_ := Aside0.mk (Kd.R_drew HO_5.out)
                      have n2_ := Aside0.mk (Kd.S_drew HO_6.out)
                      have n3_ := Aside0.mk (Kd.R_drew HL200_0.out)
                      have n4_ := Aside0.mk (Kd.R_drew HL201_0.out)
                      have n5_ := Aside0.mk (Kd.C_drew HR200_0.out)
                      have n6_ := Aside0.mk (Kd.C_drew HR201_0.out)
                      have n7_ := Aside0.mk (p1_ HB.out)
                      clear HO_4
                      clear HO_5
                      clear HO_6
                      clear HL200_0
                      clear HL201_0
                      clear HR200_0
                      clear HR201_0
                      clear HB
                      have HO_4 := n0_
                      have HO_5 := n1_
                      have HO_6 := n2_
                      have HL200_0 := n3_
                      have HL201_0 := n4_
                      have HR200_0 := n5_
                      have HR201_0 := n6_
                      have HB := n7_
                      clear n0_ n1_ n2_ n3_ n4_ n5_ n6_ n7_
                      have p202 : 0 ≤ (0 : Int) := (by omega)
                      have q202 : 0 < (x6_1.length : Int) := of_decide_eq_true (by first | (with_reducible assumption) | assumption)
                      obtain ⟨ad202, A202_0, c202_0, e202, hx202_0, hl202_0, hi202_0⟩ := at_L5 (Kd.S_reads' HO_6.out).2.2 0 p202 q202
                      obtain rfl : ad200 = ad202 := (by injection e202)
                      obtain ⟨ce202, hce202, hMe202, hcc202⟩ := Kd.S_get HO_6.out [] 0 p202 (by first | exact q202 | exact of_decide_eq_true (by first | (with_reducible assumption) | assumption) | (have e_ := (Kd.S_reads' HO_6.out).1; omega))
                      obtain ⟨ve202_0, rfl, ge202_0⟩ := hMe202
                      have hv202_0 := hcc202 0 _ rfl
                      rw [Nat.add_zero, show ((Kd.slice 3 (Kd.int .i64))).sz = 1 from rfl, Nat.mul_one] at hv202_0
                      replace hv202_0 := Option.some.inj (hv202_0.symm.trans hx202_0)
                      rw [hv202_0] at ge202_0
                      have HL202_0 := Aside0.mk (show Kd.R (Kd.int .i64) 3 _ _ _ _ (rd_L5 x6_1 0) from ge202_0)
                      clear hv202_0 ge202_0
                      have HX202_0 := Aside0.mk hx202_0
                      clear hcc202 hce202
                      have qi202 : (0 < x6_1.length) = True := eq_true (by omega)
                      (try rw [show ((0 : Int)).toNat = 0 from rfl] at hx202_0)
                      (try rw [Addr.add_zero'] at hx202_0)
                      have HR202_0 := Aside0.mk hi202_0
                      have HC202_0 := Aside0.mk hl202_0
                      clear hi202_0 hl202_0
                      replace p202 := eq_true p202
                      replace q202 := eq_true q202
                      have p206 : 0 ≤ (1 : Int) := (by omega)
                      have q206 : 1 < (x6_1.length : Int) := of_decide_eq_true (by first | (with_reducible assumption) | assumption)
                      obtain ⟨ad206, A206_0, c206_0, e206, hx206_0, hl206_0, hi206_0⟩ := at_L5 (Kd.S_reads' HO_6.out).2.2 1 p206 q206
                      obtain rfl : ad200 = ad206 := (by injection e206)
                      obtain ⟨ce206, hce206, hMe206, hcc206⟩ := Kd.S_get HO_6.out [] 1 p206 (by first | exact q206 | exact of_decide_eq_true (by first | (with_reducible assumption) | assumption) | (have e_ := (Kd.S_reads' HO_6.out).1; omega))
                      obtain ⟨ve206_0, rfl, ge206_0⟩ := hMe206
                      have hv206_0 := hcc206 0 _ rfl
                      rw [Nat.add_zero, show ((Kd.slice 3 (Kd.int .i64))).sz = 1 from rfl, Nat.mul_one] at hv206_0
                      replace hv206_0 := Option.some.inj (hv206_0.symm.trans hx206_0)
                      rw [hv206_0] at ge206_0
                      have HL206_0 := Aside0.mk (show Kd.R (Kd.int .i64) 3 _ _ _ _ (rd_L5 x6_1 1) from ge206_0)
                      clear hv206_0 ge206_0
                      have HX206_0 := Aside0.mk hx206_0
                      clear hcc206 hce206
                      (try simp only [show (1 : Int).toNat = 1 from rfl, Nat.reduceMul, Nat.reduceEqDiff, Go.Addr.add, ↓reduceIte] at hx206_0)
                      have qi206 : (1 < x6_1.length) = True := eq_true (by omega)
                      (try rw [show ((1 : Int)).toNat = 1 from rfl] at hx206_0)
                      have HR206_0 := Aside0.mk hi206_0
                      have HC206_0 := Aside0.mk hl206_0
                      clear hi206_0 hl206_0
                      replace p206 := eq_true p206
                      replace q206 := eq_true q206
                      refine start_ (n := 12) (S := fun w' => w'.cell? ad200 = some (.slice A202_0 (rd_L5 x6_1 0).length c202_0) ∧ w'.cell? ⟨ad200.block, ad200.off + 1, none⟩ = some (.slice A206_0 (rd_L5 x6_1 1).length c206_0)) (ds := []) #[false, false, false, false, false, false, false, false, false, false, false, false] (by kernel_rfl) rfl rfl ⟨hx202_0, hx206_0⟩ (fun hHeld => ?_); refine with_tabW w22_CMoves.tab19 w22_CMoves.bits19 (fun HT_ HW_ => ?_)
                      generalize w74.drew = w76 at HO_4 HO_5 HO_6 HL200_0 HL201_0 HR200_0 HR201_0 HB HL202_0 HL206_0 HR202_0 HR206_0 HX202_0 HX206_0 hx202_0 hx206_0 hHeld ⊢
                      refine pure_ (i := 0) (N := some 115) (v := ?_) (a' := ?_) #[true, false, false, false, false, false, false, false, false, false, false, false] rfl rfl (any_of HT_.out (by kernel_rfl)) (fun _ _ _ h => h) (Or.inl ⟨by rfl, ?_⟩) ?_ ?_
                      rotate_left
                      · intro w'
                        go_simp
                        with_reducible rfl
                      rotate_left
                      · simp only [Act.put, sI, sZ, sS, i64_w, i32_w]
                        rfl
                      refine pure_ (i := 1) (N := some 116) (v := ?_) (a' := ?_) #[true, true, false, false, false, false, false, false, false, false, false, false] rfl rfl (any_of HT_.out (by kernel_rfl)) (fun _ _ _ h => h) (Or.inl ⟨by rfl, ?_⟩) ?_ ?_
                      rotate_left
                      · intro w'
                        go_simp
                        with_reducible rfl
                      rotate_left
                      · simp only [Act.put, sI, sZ, sS, i64_w, i32_w]
                        rfl
                      refine pure_ (i := 5) (N := some 120) (v := ?_) (a' := ?_) #[true, true, false, false, false, true, false, false, false, false, false, false] rfl rfl (any_of HT_.out (by kernel_rfl)) (fun _ _ _ h => h) (Or.inl ⟨by rfl, ?_⟩) ?_ ?_
                      rotate_left
                      · intro w'
                        go_simp
                        with_reducible rfl
                      rotate_left
                      · simp only [Act.put, sI, sZ, sS, i64_w, i32_w]
                        rfl
                      refine pure_ (i := 6) (N := some 121) (v := ?_) (a' := ?_) #[true, true, false, false, false, true, true, false, false, false, false, false] rfl rfl (any_of HT_.out (by kernel_rfl)) (fun _ _ _ h => h) (Or.inl ⟨by rfl, ?_⟩) ?_ ?_
                      rotate_left
                      · intro w'
                        go_simp
                        with_reducible rfl
                      rotate_left
                      · simp only [Act.put, sI, sZ, sS, i64_w, i32_w]
                        rfl
                      refine take_ (i := 2) (N := some 117) (v := ?_) (a' := ?_) #[true, true, true, false, false, true, true, false, false, false, false, false] rfl rfl (take_ofW HT_.out HW_.out (by kernel_rfl)) (fun _ _ _ h => h) (Or.inl ⟨by rfl, ?_⟩) hHeld ?_ ?_
                      rotate_left
                      · rintro w' ⟨s0, s1⟩
                        go_simp
                        with_reducible rfl
                      rotate_left
                      · simp only [Act.put, sI, sZ, sS, i64_w, i32_w]
                        rfl
                      refine take_ (i := 7) (N := some 122) (v := ?_) (a' := ?_) #[true, true, true, false, false, true, true, true, false, false, false, false] rfl rfl (take_ofW HT_.out HW_.out (by kernel_rfl)) (fun _ _ _ h => h) (Or.inl ⟨by rfl, ?_⟩) hHeld ?_ ?_
                      rotate_left
                      · rintro w' ⟨s0, s1⟩
                        go_simp
                        with_reducible rfl
                      rotate_left
                      · simp only [Act.put, sI, sZ, sS, i64_w, i32_w]
                        rfl
                      refine one_ (i := 3) (N := some 118) #[true, true, true, true, false, true, true, true, false, false, false, false] rfl rfl (one_of HT_.out (by kernel_rfl)) (by decide) (fun K hK => ?_)
                      refine goes_ Tryd.func14 (by kernel_rfl) rfl #[.slice A202_0 (rd_L5 x6_1 0).length c202_0] (by rfl) rfl rfl (by (try simp only [List.map_toArray, List.map_cons, List.map_nil]); first | done | rfl | (simp only [List.length_drop, List.length_take]; rfl)) ?_
                      with_reducible refine (coalesce_Segments.calls _ _ (rd_L5 x6_1 0) t203 _ ?side1 ?side2 A66.out).mono ?_
                      (case side1 => repeat (first | exact (by repeat (first | (with_reducible exact HR202_0.out) | (with_reducible refine Kd.C_alloc ?_ _) | (with_reducible refine Kd.C_drewN ?_ _) | (with_reducible refine Kd.C_drew ?_) | exact HR202_0.out)) | (with_reducible refine Kd.C_alloc ?_ _) | (with_reducible refine Kd.C_drewN ?_ _) | (with_reducible refine Kd.C_drew ?_)))
                      (case side2 => exact HC202_0.out)
                      rintro e w77 ⟨v204, rfl, ho0, hb⟩
                      have HS0_ := (hb.cell (World.block_lt_of_cell? _ _ (hHeld.1))).trans (hHeld.1)
                      have HS1_ := (hb.cell (World.block_lt_of_cell? _ _ (hHeld.2))).trans (hHeld.2)
                      refine ⟨_, rfl, ?_⟩
                      have n0_ := Aside0.mk (Kd.R_below (by (with_reducible repeat (first | apply Kd.R_alloc | apply Kd.R_drewN | apply Kd.R_drew)); exact HO_4.out) hb)
                      have n1_ := Aside0.mk (Kd.R_below (by (with_reducible repeat (first | apply Kd.R_alloc | apply Kd.R_drewN | apply Kd.R_drew)); exact HO_5.out) hb)
                      have n2_ := Aside0.mk (Kd.S_elder' (by (with_reducible repeat (first | apply Kd.S_alloc | apply Kd.S_drewN | apply Kd.S_drew)); exact HO_6.out) (Kd.R_base ho0) hb)
                      have n3_ := Aside0.mk (Kd.R_elder' (by (with_reducible repeat (first | apply Kd.R_alloc | apply Kd.R_drewN | apply Kd.R_drew)); exact HL200_0.out) (Kd.R_base ho0) hb)
                      have n4_ := Aside0.mk (Kd.R_elder' (by (with_reducible repeat (first | apply Kd.R_alloc | apply Kd.R_drewN | apply Kd.R_drew)); exact HL201_0.out) (Kd.R_base ho0) hb)
                      have n5_ := Aside0.mk (Kd.R_elder' (by (with_reducible repeat (first | apply Kd.R_alloc | apply Kd.R_drewN | apply Kd.R_drew)); exact HL202_0.out) (Kd.R_base ho0) hb)
                      have n6_ := Aside0.mk (Kd.R_elder' (by (with_reducible repeat (first | apply Kd.R_alloc | apply Kd.R_drewN | apply Kd.R_drew)); exact HL206_0.out) (Kd.R_base ho0) hb)
                      have n7_ := Aside0.mk (Kd.R_lower (Kd.R_new' (Kd.R_new' (Kd.R_new' (Kd.R_new' ho0 (Kd.R_lt (by (with_reducible repeat (first | apply Kd.R_alloc | apply Kd.R_drewN | apply Kd.R_drew)); exact HL200_0.out))) (Kd.R_lt (by (with_reducible repeat (first | apply Kd.R_alloc | apply Kd.R_drewN | apply Kd.R_drew)); exact HL201_0.out))) (Kd.R_lt (by (with_reducible repeat (first | apply Kd.R_alloc | apply Kd.R_drewN | apply Kd.R_drew)); exact HL202_0.out))) (Kd.R_lt (by (with_reducible repeat (first | apply Kd.R_alloc | apply Kd.R_drewN | apply Kd.R_drew)); exact HL206_0.out))) (below_size (by repeat (first | (with_reducible first | exact HB.out | apply pA | apply pN | apply p1_) | exact HB.out))))
                      have n8_ := Aside0.mk (Kd.C_below (by repeat (first | (with_reducible exact HR200_0.out) | (with_reducible refine Kd.C_alloc ?_ _) | (with_reducible refine Kd.C_drewN ?_ _) | (with_reducible refine Kd.C_drew ?_) | exact HR200_0.out)) hb)
                      have n9_ := Aside0.mk (Kd.C_below (by repeat (first | (with_reducible exact HR201_0.out) | (with_reducible refine Kd.C_alloc ?_ _) | (with_reducible refine Kd.C_drewN ?_ _) | (with_reducible refine Kd.C_drew ?_) | exact HR201_0.out)) hb)
                      have n10_ := Aside0.mk (Kd.C_below (by repeat (first | (with_reducible exact HR202_0.out) | (with_reducible refine Kd.C_alloc ?_ _) | (with_reducible refine Kd.C_drewN ?_ _) | (with_reducible refine Kd.C_drew ?_) | exact HR202_0.out)) hb)
                      have n11_ := Aside0.mk (pw_cell_below hb HX202_0.out)
                      have n12_ := Aside0.mk (Kd.C_below (by repeat (first | (with_reducible exact HR206_0.out) | (with_reducible refine Kd.C_alloc ?_ _) | (with_reducible refine Kd.C_drewN ?_ _) | (with_reducible refine Kd.C_drew ?_) | exact HR206_0.out)) hb)
                      have n13_ := Aside0.mk (pw_cell_below hb HX206_0.out)
                      have n14_ := Aside0.mk (below_step (by repeat (first | (with_reducible first | exact HB.out | apply pA | apply pN | apply p1_) | exact HB.out)) hb)
                      clear HO_4
                      clear HO_5
                      clear HO_6
                      clear HL200_0
                      clear HL201_0
                      clear HL202_0
                      clear HL206_0
                      clear HR200_0
                      clear HR201_0
                      clear HR202_0
                      clear HX202_0
                      clear HR206_0
                      clear HX206_0
                      clear HB
                      have HO_4 := n0_
                      have HO_5 := n1_
                      have HO_6 := n2_
                      have HL200_0 := n3_
                      have HL201_0 := n4_
                      have HL202_0 := n5_
                      have HL206_0 := n6_
                      have HO205 := n7_
                      have HR200_0 := n8_
                      have HR201_0 := n9_
                      have HR202_0 := n10_
                      have HX202_0 := n11_
                      have HR206_0 := n12_
                      have HX206_0 := n13_
                      have HB := n14_
                      clear n0_ n1_ n2_ n3_ n4_ n5_ n6_ n7_ n8_ n9_ n10_ n11_ n12_ n13_ n14_
                      (try clear hb)
                      (try clear hb2)
                      (try clear hk)
                      (try clear hi)
                      (try clear ho0)
                      obtain ⟨Ao78, co78, eo78⟩ := Kd.R_slice HO205.out
                      (first | subst eo78 | (injection eo78 with f1_ f2_ f3_; have f4_ := f1_.symm; have f5_ := f3_.symm; clear f1_ f2_ f3_; subst f4_; subst f5_))
                      refine hK.out _ _ ⟨HS0_, HS1_⟩ (fun hHeld => ?_)
                      clear hK K
                      refine norm_ (a' := ?_) ?_ ?_
                      rotate_left
                      · show Act.put _ (some 118) _ = _
                        simp only [Act.put, sI, sZ, sS, i64_w, i32_w]
                        rfl
                      refine pure_ (i := 4) (N := some 119) (v := ?_) (a' := ?_) #[true, true, true, true, true, true, true, true, false, false, false, false] rfl rfl (any_of HT_.out (by kernel_rfl)) (fun _ _ _ h => h) (Or.inl ⟨by rfl, ?_⟩) ?_ ?_
                      rotate_left
                      · intro w'
                        go_simp
                        with_reducible rfl
                      rotate_left
                      · simp only [Act.put, sI, sZ, sS, i64_w, i32_w]
                        rfl
                      refine one_ (i := 8) (N := some 123) #[true, true, true, true, true, true, true, true, true, false, false, false] rfl rfl (one_of HT_.out (by kernel_rfl)) (by decide) (fun K hK => ?_)
                      refine goes_ Tryd.func14 (by kernel_rfl) rfl #[.slice A206_0 (rd_L5 x6_1 1).length c206_0] (by rfl) rfl rfl (by (try simp only [List.map_toArray, List.map_cons, List.map_nil]); first | done | rfl | (simp only [List.length_drop, List.length_take]; rfl)) ?_
                      with_reducible refine (coalesce_Segments.calls _ _ (rd_L5 x6_1 1) t207 _ ?side1 ?side2 A67.out).mono ?_
                      (case side1 => repeat (first | exact (by repeat (first | (with_reducible exact HR206_0.out) | (with_reducible refine Kd.C_alloc ?_ _) | (with_reducible refine Kd.C_drewN ?_ _) | (with_reducible refine Kd.C_drew ?_) | exact HR206_0.out)) | (with_reducible refine Kd.C_alloc ?_ _) | (with_reducible refine Kd.C_drewN ?_ _) | (with_reducible refine Kd.C_drew ?_)))
                      (case side2 => exact HC206_0.out)
                      rintro e w79 ⟨v208, rfl, ho0, hb⟩
                      have HS0_ := (hb.cell (World.block_lt_of_cell? _ _ (hHeld.1))).trans (hHeld.1)
                      have HS1_ := (hb.cell (World.block_lt_of_cell? _ _ (hHeld.2))).trans (hHeld.2)
                      refine ⟨_, rfl, ?_⟩
                      have n0_ := Aside0.mk (Kd.R_below (by (with_reducible repeat (first | apply Kd.R_alloc | apply Kd.R_drewN | apply Kd.R_drew)); exact HO_4.out) hb)
                      have n1_ := Aside0.mk (Kd.R_below (by (with_reducible repeat (first | apply Kd.R_alloc | apply Kd.R_drewN | apply Kd.R_drew)); exact HO_5.out) hb)
                      have n2_ := Aside0.mk (Kd.S_elder' (by (with_reducible repeat (first | apply Kd.S_alloc | apply Kd.S_drewN | apply Kd.S_drew)); exact HO_6.out) (Kd.R_base ho0) hb)
                      have n3_ := Aside0.mk (Kd.R_elder' (by (with_reducible repeat (first | apply Kd.R_alloc | apply Kd.R_drewN | apply Kd.R_drew)); exact HL200_0.out) (Kd.R_base ho0) hb)
                      have n4_ := Aside0.mk (Kd.R_elder' (by (with_reducible repeat (first | apply Kd.R_alloc | apply Kd.R_drewN | apply Kd.R_drew)); exact HL201_0.out) (Kd.R_base ho0) hb)
                      have n5_ := Aside0.mk (Kd.R_elder' (by (with_reducible repeat (first | apply Kd.R_alloc | apply Kd.R_drewN | apply Kd.R_drew)); exact HL202_0.out) (Kd.R_base ho0) hb)
                      have n6_ := Aside0.mk (Kd.R_elder' (by (with_reducible repeat (first | apply Kd.R_alloc | apply Kd.R_drewN | apply Kd.R_drew)); exact HL206_0.out) (Kd.R_base ho0) hb)
                      have n7_ := Aside0.mk (Kd.R_elder' (by (with_reducible repeat (first | apply Kd.R_alloc | apply Kd.R_drewN | apply Kd.R_drew)); exact HO205.out) (Kd.R_base ho0) hb)
                      have n8_ := Aside0.mk (Kd.R_lower (Kd.R_new' (Kd.R_new' (Kd.R_new' (Kd.R_new' (Kd.R_new' ho0 (Kd.R_lt (by (with_reducible repeat (first | apply Kd.R_alloc | apply Kd.R_drewN | apply Kd.R_drew)); exact HL200_0.out))) (Kd.R_lt (by (with_reducible repeat (first | apply Kd.R_alloc | apply Kd.R_drewN | apply Kd.R_drew)); exact HL201_0.out))) (Kd.R_lt (by (with_reducible repeat (first | apply Kd.R_alloc | apply Kd.R_drewN | apply Kd.R_drew)); exact HL202_0.out))) (Kd.R_lt (by (with_reducible repeat (first | apply Kd.R_alloc | apply Kd.R_drewN | apply Kd.R_drew)); exact HL206_0.out))) (Kd.R_lt (by (with_reducible repeat (first | apply Kd.R_alloc | apply Kd.R_drewN | apply Kd.R_drew)); exact HO205.out))) (below_size (by repeat (first | (with_reducible first | exact HB.out | apply pA | apply pN | apply p1_) | exact HB.out))))
                      have n9_ := Aside0.mk (Kd.C_below (by repeat (first | (with_reducible exact HR200_0.out) | (with_reducible refine Kd.C_alloc ?_ _) | (with_reducible refine Kd.C_drewN ?_ _) | (with_reducible refine Kd.C_drew ?_) | exact HR200_0.out)) hb)
                      have n10_ := Aside0.mk (Kd.C_below (by repeat (first | (with_reducible exact HR201_0.out) | (with_reducible refine Kd.C_alloc ?_ _) | (with_reducible refine Kd.C_drewN ?_ _) | (with_reducible refine Kd.C_drew ?_) | exact HR201_0.out)) hb)
                      have n11_ := Aside0.mk (Kd.C_below (by repeat (first | (with_reducible exact HR202_0.out) | (with_reducible refine Kd.C_alloc ?_ _) | (with_reducible refine Kd.C_drewN ?_ _) | (with_reducible refine Kd.C_drew ?_) | exact HR202_0.out)) hb)
                      have n12_ := Aside0.mk (pw_cell_below hb HX202_0.out)
                      have n13_ := Aside0.mk (Kd.C_below (by repeat (first | (with_reducible exact HR206_0.out) | (with_reducible refine Kd.C_alloc ?_ _) | (with_reducible refine Kd.C_drewN ?_ _) | (with_reducible refine Kd.C_drew ?_) | exact HR206_0.out)) hb)
                      have n14_ := Aside0.mk (pw_cell_below hb HX206_0.out)
                      have n15_ := Aside0.mk (below_step (by repeat (first | (with_reducible first | exact HB.out | apply pA | apply pN | apply p1_) | exact HB.out)) hb)
                      clear HO_4
                      clear HO_5
                      clear HO_6
                      clear HL200_0
                      clear HL201_0
                      clear HL202_0
                      clear HL206_0
                      clear HO205
                      clear HR200_0
                      clear HR201_0
                      clear HR202_0
                      clear HX202_0
                      clear HR206_0
                      clear HX206_0
                      clear HB
                      have HO_4 := n0_
                      have HO_5 := n1_
                      have HO_6 := n2_
                      have HL200_0 := n3_
                      have HL201_0 := n4_
                      have HL202_0 := n5_
                      have HL206_0 := n6_
                      have HO205 := n7_
                      have HO209 := n8_
                      have HR200_0 := n9_
                      have HR201_0 := n10_
                      have HR202_0 := n11_
                      have HX202_0 := n12_
                      have HR206_0 := n13_
                      have HX206_0 := n14_
                      have HB := n15_
                      clear n0_ n1_ n2_ n3_ n4_ n5_ n6_ n7_ n8_ n9_ n10_ n11_ n12_ n13_ n14_ n15_
                      (try clear hb)
                      (try clear hb2)
                      (try clear hk)
                      (try clear hi)
                      (try clear ho0)
                      obtain ⟨Ao80, co80, eo80⟩ := Kd.R_slice HO209.out
                      (first | subst eo80 | (injection eo80 with f1_ f2_ f3_; have f4_ := f1_.symm; have f5_ := f3_.symm; clear f1_ f2_ f3_; subst f4_; subst f5_))
                      refine hK.out _ _ ⟨HS0_, HS1_⟩ (fun hHeld => ?_)
                      clear hK K
                      refine norm_ (a' := ?_) ?_ ?_
                      rotate_left
                      · show Act.put _ (some 123) _ = _
                        simp only [Act.put, sI, sZ, sS, i64_w, i32_w]
                        rfl
                      refine pure_ (i := 9) (N := some 124) (v := ?_) (a' := ?_) #[true, true, true, true, true, true, true, true, true, true, false, false] rfl rfl (any_of HT_.out (by kernel_rfl)) (fun _ _ _ h => h) (Or.inl ⟨by rfl, ?_⟩) ?_ ?_
                      rotate_left
                      · intro w'
                        go_simp
                        with_reducible rfl
                      rotate_left
                      · simp only [Act.put, sI, sZ, sS, i64_w, i32_w]
                        rfl
                      refine pure_ (i := 10) (N := some 12) (v := ?_) (a' := ?_) #[true, true, true, true, true, true, true, true, true, true, true, false] rfl rfl (any_of HT_.out (by kernel_rfl)) (fun _ _ _ h => h) (Or.inl ⟨by rfl, ?_⟩) ?_ ?_
                      rotate_left
                      · intro w'
                        go_simp
                        with_reducible rfl
                      rotate_left
                      · simp only [Act.put, sI, sZ, sS, i64_w, i32_w]
                        rfl
                      refine pure_ (i := 11) (N := some 13) (v := ?_) (a' := ?_) #[true, true, true, true, true, true, true, true, true, true, true, true] rfl rfl (any_of HT_.out (by kernel_rfl)) (fun _ _ _ h => h) (Or.inl ⟨by rfl, ?_⟩) ?_ ?_
                      rotate_left
                      · intro w'
                        go_simp
                        with_reducible rfl
                      rotate_left
                      · simp only [Act.put, sI, sZ, sS, i64_w, i32_w]
                        rfl
                      refine done_ (done_of HT_.out (by kernel_rfl)) ?_
                      go_upto_region 21 with (first | ((with_reducible refine gate_dst (N := 125) rfl ?_); refine Kd.R_lit k47 _ 47 ?hg (N := 125) ?hd (xs := ([] : List (S47))) (inner := []) (ok := fun _ => True) (okp := fun _ => True) ?hr ?hp (fun _ hk => hk) trivial (Below.refl _ _) (Nat.le_refl _) (by simp) ?_; (case hd => rfl); (case hg => rfl); (case hr => first | (go_simp; done) | (go_simp; rfl)); (case hp => exact (Reps.none _ _)); intro v211 w81 ho82 hb hg_ hnew_; clear hg_ hnew_; (first | rw [← Ny210.out] at ho82 | (simp only [Int.reduceToNat] at ho82; rw [← Ny210.out] at ho82)); have n0_ := Aside0.mk (Kd.R_below (by (with_reducible repeat (first | apply Kd.R_alloc | apply Kd.R_drewN | apply Kd.R_drew)); exact HO_4.out) hb); have n1_ := Aside0.mk (Kd.R_elder' (by (with_reducible repeat (first | apply Kd.R_alloc | apply Kd.R_drewN | apply Kd.R_drew)); exact HO_5.out) (Kd.R_base ho82) hb); have n2_ := Aside0.mk (Kd.S_below (by (with_reducible repeat (first | apply Kd.S_alloc | apply Kd.S_drewN | apply Kd.S_drew)); exact HO_6.out) hb); have n3_ := Aside0.mk (Kd.R_below (by (with_reducible repeat (first | apply Kd.R_alloc | apply Kd.R_drewN | apply Kd.R_drew)); exact HL200_0.out) hb); have n4_ := Aside0.mk (Kd.R_below (by (with_reducible repeat (first | apply Kd.R_alloc | apply Kd.R_drewN | apply Kd.R_drew)); exact HL201_0.out) hb); have n5_ := Aside0.mk (Kd.R_below (by (with_reducible repeat (first | apply Kd.R_alloc | apply Kd.R_drewN | apply Kd.R_drew)); exact HL202_0.out) hb); have n6_ := Aside0.mk (Kd.R_below (by (with_reducible repeat (first | apply Kd.R_alloc | apply Kd.R_drewN | apply Kd.R_drew)); exact HL206_0.out) hb); have n7_ := Aside0.mk (Kd.R_below (by (with_reducible repeat (first | apply Kd.R_alloc | apply Kd.R_drewN | apply Kd.R_drew)); exact HO205.out) hb); have n8_ := Aside0.mk (Kd.R_below (by (with_reducible repeat (first | apply Kd.R_alloc | apply Kd.R_drewN | apply Kd.R_drew)); exact HO209.out) hb); have n9_ := Aside0.mk (Kd.R_lower (Kd.R_new' ho82 (Kd.R_lt (by (with_reducible repeat (first | apply Kd.R_alloc | apply Kd.R_drewN | apply Kd.R_drew)); exact HO_5.out))) (below_size (by repeat (first | (with_reducible first | exact HB.out | apply pA | apply pN | apply p1_) | exact HB.out)))); have n10_ := Aside0.mk (Kd.C_below (by repeat (first | (with_reducible exact HR200_0.out) | (with_reducible refine Kd.C_alloc ?_ _) | (with_reducible refine Kd.C_drewN ?_ _) | (with_reducible refine Kd.C_drew ?_) | exact HR200_0.out)) hb); have n11_ := Aside0.mk (Kd.C_below (by repeat (first | (with_reducible exact HR201_0.out) | (with_reducible refine Kd.C_alloc ?_ _) | (with_reducible refine Kd.C_drewN ?_ _) | (with_reducible refine Kd.C_drew ?_) | exact HR201_0.out)) hb); have n12_ := Aside0.mk (Kd.C_below (by repeat (first | (with_reducible exact HR202_0.out) | (with_reducible refine Kd.C_alloc ?_ _) | (with_reducible refine Kd.C_drewN ?_ _) | (with_reducible refine Kd.C_drew ?_) | exact HR202_0.out)) hb); have n13_ := Aside0.mk (pw_cell_below hb HX202_0.out); have n14_ := Aside0.mk (Kd.C_below (by repeat (first | (with_reducible exact HR206_0.out) | (with_reducible refine Kd.C_alloc ?_ _) | (with_reducible refine Kd.C_drewN ?_ _) | (with_reducible refine Kd.C_drew ?_) | exact HR206_0.out)) hb); have n15_ := Aside0.mk (pw_cell_below hb HX206_0.out); have n16_ := Aside0.mk (below_step (by repeat (first | (with_reducible first | exact HB.out | apply pA | apply pN | apply p1_) | exact HB.out)) hb); clear HO_4; clear HO_5; clear HO_6; clear HL200_0; clear HL201_0; clear HL202_0; clear HL206_0; clear HO205; clear HO209; clear HR200_0; clear HR201_0; clear HR202_0; clear HX202_0; clear HR206_0; clear HX206_0; clear HB; have HO_4 := n0_; have HO_5 := n1_; have HO_6 := n2_; have HL200_0 := n3_; have HL201_0 := n4_; have HL202_0 := n5_; have HL206_0 := n6_; have HO205 := n7_; have HO209 := n8_; have HO212 := n9_; have HR200_0 := n10_; have HR201_0 := n11_; have HR202_0 := n12_; have HX202_0 := n13_; have HR206_0 := n14_; have HX206_0 := n15_; have HB := n16_; clear n0_ n1_ n2_ n3_ n4_ n5_ n6_ n7_ n8_ n9_ n10_ n11_ n12_ n13_ n14_ n15_ n16_; clear hb ho82; obtain ⟨Ao84, co84, eo84⟩ := Kd.R_slice HO_5.out; subst eo84) | ((with_reducible refine gate_builtin (b := .append) (xs := #[.tmp 125, .tmp 126]) rfl ?_); at_builtin; refine Kd.R_append_rows k47 (w0 := w) w.heap.size rfl (.tmp 125) (.tmp 126) 23 47 (.agg #[(.int .i64 0), (.int .i64 0), (.int .i64 0), (.int .i64 0), (.int .i64 0), (.int .i64 0), (.int .i64 0), (.int .i64 0), (.int .i32 0)]) 72 rfl Tryd.underlying23 info47 rfl (by decide) (by omega) v211 y210 x5_1 _ _ _ (fun k_ => some k_ ≠ (.slice Ao84 x5_1.length co84 : Value).ownBlock) (fun _ => False) rfl rfl ?aO ?aR (fun _ _ h => h) (fun _ h => h.elim) ?aF ?aB ?aS ?aL ?_; (case aR => repeat (first | exact (Kd.R_reads' HO_5.out).2.2 | (with_reducible refine Kd.C_alloc ?_ _) | (with_reducible refine Kd.C_drewN ?_ _) | (with_reducible refine Kd.C_drew ?_))); (case aB => exact (by repeat (first | (with_reducible first | exact HB.out | apply pA | apply pN | apply p1_) | exact HB.out))); (case aF => exact (fun k_ hk => Kd.fresh' (Kd.R_lt (by (with_reducible repeat (first | apply Kd.R_alloc | apply Kd.R_drewN | apply Kd.R_drew)); exact HO_5.out)) k_ hk)); (case aO => exact (by (with_reducible repeat (first | apply Kd.R_alloc | apply Kd.R_drewN | apply Kd.R_drew)); exact Kd.R_mono HO212.out (fun _ hk => hk.2))); (case aS => exact (below_size (by repeat (first | (with_reducible first | exact HB.out | apply pA | apply pN | apply p1_) | exact HB.out)))); (case aL => have := LMc68.out; omega); intro v214 w83 ho hb hg hat; rw [← Ny213.out] at ho; have n0_ := Aside0.mk (Kd.R_over' (by (with_reducible repeat (first | apply Kd.R_alloc | apply Kd.R_drewN | apply Kd.R_drew)); exact HO_4.out) (Kd.R_typed (by (with_reducible repeat (first | apply Kd.R_alloc | apply Kd.R_drewN | apply Kd.R_drew)); exact HO212.out)) (by decide) hg); have n1_ := Aside0.mk (Kd.R_after (ok := (fun _ => True)) (by (with_reducible repeat (first | apply Kd.R_alloc | apply Kd.R_drewN | apply Kd.R_drew)); exact HO_5.out) hg hat); have n2_ := Aside0.mk (Kd.S_over' (by (with_reducible repeat (first | apply Kd.S_alloc | apply Kd.S_drewN | apply Kd.S_drew)); exact HO_6.out) (Kd.R_typed (by (with_reducible repeat (first | apply Kd.R_alloc | apply Kd.R_drewN | apply Kd.R_drew)); exact HO212.out)) (by decide) hg); have n3_ := Aside0.mk (Kd.R_over' (by (with_reducible repeat (first | apply Kd.R_alloc | apply Kd.R_drewN | apply Kd.R_drew)); exact HL200_0.out) (Kd.R_typed (by (with_reducible repeat (first | apply Kd.R_alloc | apply Kd.R_drewN | apply Kd.R_drew)); exact HO212.out)) (by decide) hg); have n4_ := Aside0.mk (Kd.R_over' (by (with_reducible repeat (first | apply Kd.R_alloc | apply Kd.R_drewN | apply Kd.R_drew)); exact HL201_0.out) (Kd.R_typed (by (with_reducible repeat (first | apply Kd.R_alloc | apply Kd.R_drewN | apply Kd.R_drew)); exact HO212.out)) (by decide) hg); have n5_ := Aside0.mk (Kd.R_over' (by (with_reducible repeat (first | apply Kd.R_alloc | apply Kd.R_drewN | apply Kd.R_drew)); exact HL202_0.out) (Kd.R_typed (by (with_reducible repeat (first | apply Kd.R_alloc | apply Kd.R_drewN | apply Kd.R_drew)); exact HO212.out)) (by decide) hg); have n6_ := Aside0.mk (Kd.R_over' (by (with_reducible repeat (first | apply Kd.R_alloc | apply Kd.R_drewN | apply Kd.R_drew)); exact HL206_0.out) (Kd.R_typed (by (with_reducible repeat (first | apply Kd.R_alloc | apply Kd.R_drewN | apply Kd.R_drew)); exact HO212.out)) (by decide) hg); have n7_ := Aside0.mk (Kd.R_over' (by (with_reducible repeat (first | apply Kd.R_alloc | apply Kd.R_drewN | apply Kd.R_drew)); exact HO205.out) (Kd.R_typed (by (with_reducible repeat (first | apply Kd.R_alloc | apply Kd.R_drewN | apply Kd.R_drew)); exact HO212.out)) (by decide) hg); have n8_ := Aside0.mk (Kd.R_over' (by (with_reducible repeat (first | apply Kd.R_alloc | apply Kd.R_drewN | apply Kd.R_drew)); exact HO209.out) (Kd.R_typed (by (with_reducible repeat (first | apply Kd.R_alloc | apply Kd.R_drewN | apply Kd.R_drew)); exact HO212.out)) (by decide) hg); have n9_ := Aside0.mk (hb); have n10_ := Aside0.mk (ho); clear HO_4; clear HO_5; clear HO_6; clear HL200_0; clear HL201_0; clear HL202_0; clear HL206_0; clear HO205; clear HO209; clear HB; clear HO212; have HO_4 := n0_; have HO_5 := n1_; have HO_6 := n2_; have HL200_0 := n3_; have HL201_0 := n4_; have HL202_0 := n5_; have HL206_0 := n6_; have HO205 := n7_; have HO209 := n8_; have HB := n9_; have HO215 := n10_; clear n0_ n1_ n2_ n3_ n4_ n5_ n6_ n7_ n8_ n9_ n10_; clear ho hb hg hat) | ((with_reducible refine gate_callee (f := 18) rfl ?_); refine goesL_ (some 129) rfl rfl Tryd.func18 (by kernel_rfl) rfl #[.int .i64 1, .int .i64 4, .int .i64 3] rfl (by (try simp only [List.map_toArray, List.map_cons, List.map_nil]); first | done | rfl | (simp only [List.length_drop, List.length_take]; rfl)) ?_; (with_reducible refine (w22_access.calls 1 4 3 t216 t217 t218 t219 t220 t221 t222 t223 t224 _ A69.out).mono ?_); rintro e w85 ⟨rfl, hb⟩; refine ⟨_, rfl, ?_⟩; have n0_ := Aside0.mk (Kd.R_below (by (with_reducible repeat (first | apply Kd.R_alloc | apply Kd.R_drewN | apply Kd.R_drew)); exact HO_4.out) hb); have n1_ := Aside0.mk (Kd.R_below (by (with_reducible repeat (first | apply Kd.R_alloc | apply Kd.R_drewN | apply Kd.R_drew)); exact HO_5.out) hb); have n2_ := Aside0.mk (Kd.S_below (by (with_reducible repeat (first | apply Kd.S_alloc | apply Kd.S_drewN | apply Kd.S_drew)); exact HO_6.out) hb); have n3_ := Aside0.mk (Kd.R_below (by (with_reducible repeat (first | apply Kd.R_alloc | apply Kd.R_drewN | apply Kd.R_drew)); exact HL200_0.out) hb); have n4_ := Aside0.mk (Kd.R_below (by (with_reducible repeat (first | apply Kd.R_alloc | apply Kd.R_drewN | apply Kd.R_drew)); exact HL201_0.out) hb); have n5_ := Aside0.mk (Kd.R_below (by (with_reducible repeat (first | apply Kd.R_alloc | apply Kd.R_drewN | apply Kd.R_drew)); exact HL202_0.out) hb); have n6_ := Aside0.mk (Kd.R_below (by (with_reducible repeat (first | apply Kd.R_alloc | apply Kd.R_drewN | apply Kd.R_drew)); exact HL206_0.out) hb); have n7_ := Aside0.mk (Kd.R_below (by (with_reducible repeat (first | apply Kd.R_alloc | apply Kd.R_drewN | apply Kd.R_drew)); exact HO205.out) hb); have n8_ := Aside0.mk (Kd.R_below (by (with_reducible repeat (first | apply Kd.R_alloc | apply Kd.R_drewN | apply Kd.R_drew)); exact HO209.out) hb); have n9_ := Aside0.mk (Kd.R_below (by (with_reducible repeat (first | apply Kd.R_alloc | apply Kd.R_drewN | apply Kd.R_drew)); exact HO215.out) hb); have n10_ := Aside0.mk (below_step (by repeat (first | (with_reducible first | exact HB.out | apply pA | apply pN | apply p1_) | exact HB.out)) hb); clear HO_4; clear HO_5; clear HO_6; clear HL200_0; clear HL201_0; clear HL202_0; clear HL206_0; clear HO205; clear HO209; clear HO215; clear HB; have HO_4 := n0_; have HO_5 := n1_; have HO_6 := n2_; have HL200_0 := n3_; have HL201_0 := n4_; have HL202_0 := n5_; have HL206_0 := n6_; have HO205 := n7_; have HO209 := n8_; have HO215 := n9_; have HB := n10_; clear n0_ n1_ n2_ n3_ n4_ n5_ n6_ n7_ n8_ n9_ n10_; (try clear hb); (try clear hb2); (try clear hk); (try clear hi)) | ((with_reducible refine gate_callee (f := 18) rfl ?_); refine goesL_ (some 130) rfl rfl Tryd.func18 (by kernel_rfl) rfl #[.int .i64 1, .int .i64 (-1), .int .i64 3] rfl (by (try simp only [List.map_toArray, List.map_cons, List.map_nil]); first | done | rfl | (simp only [List.length_drop, List.length_take]; rfl)) ?_; (with_reducible refine (w22_access.calls 1 (-1) 3 t225 t226 t227 t228 t229 t230 t231 t232 t233 _ A70.out).mono ?_); rintro e w86 ⟨rfl, hb⟩; refine ⟨_, rfl, ?_⟩; have n0_ := Aside0.mk (Kd.R_below (by (with_reducible repeat (first | apply Kd.R_alloc | apply Kd.R_drewN | apply Kd.R_drew)); exact HO_4.out) hb); have n1_ := Aside0.mk (Kd.R_below (by (with_reducible repeat (first | apply Kd.R_alloc | apply Kd.R_drewN | apply Kd.R_drew)); exact HO_5.out) hb); have n2_ := Aside0.mk (Kd.S_below (by (with_reducible repeat (first | apply Kd.S_alloc | apply Kd.S_drewN | apply Kd.S_drew)); exact HO_6.out) hb); have n3_ := Aside0.mk (Kd.R_below (by (with_reducible repeat (first | apply Kd.R_alloc | apply Kd.R_drewN | apply Kd.R_drew)); exact HL200_0.out) hb); have n4_ := Aside0.mk (Kd.R_below (by (with_reducible repeat (first | apply Kd.R_alloc | apply Kd.R_drewN | apply Kd.R_drew)); exact HL201_0.out) hb); have n5_ := Aside0.mk (Kd.R_below (by (with_reducible repeat (first | apply Kd.R_alloc | apply Kd.R_drewN | apply Kd.R_drew)); exact HL202_0.out) hb); have n6_ := Aside0.mk (Kd.R_below (by (with_reducible repeat (first | apply Kd.R_alloc | apply Kd.R_drewN | apply Kd.R_drew)); exact HL206_0.out) hb); have n7_ := Aside0.mk (Kd.R_below (by (with_reducible repeat (first | apply Kd.R_alloc | apply Kd.R_drewN | apply Kd.R_drew)); exact HO205.out) hb); have n8_ := Aside0.mk (Kd.R_below (by (with_reducible repeat (first | apply Kd.R_alloc | apply Kd.R_drewN | apply Kd.R_drew)); exact HO209.out) hb); have n9_ := Aside0.mk (Kd.R_below (by (with_reducible repeat (first | apply Kd.R_alloc | apply Kd.R_drewN | apply Kd.R_drew)); exact HO215.out) hb); have n10_ := Aside0.mk (below_step (by repeat (first | (with_reducible first | exact HB.out | apply pA | apply pN | apply p1_) | exact HB.out)) hb); clear HO_4; clear HO_5; clear HO_6; clear HL200_0; clear HL201_0; clear HL202_0; clear HL206_0; clear HO205; clear HO209; clear HO215; clear HB; have HO_4 := n0_; have HO_5 := n1_; have HO_6 := n2_; have HL200_0 := n3_; have HL201_0 := n4_; have HL202_0 := n5_; have HL206_0 := n6_; have HO205 := n7_; have HO209 := n8_; have HO215 := n9_; have HB := n10_; clear n0_ n1_ n2_ n3_ n4_ n5_ n6_ n7_ n8_ n9_ n10_; (try clear hb); (try clear hb2); (try clear hk); (try clear hi)) | ((with_reducible refine gate_callee (f := 18) rfl ?_); refine goesL_ (some 131) rfl rfl Tryd.func18 (by kernel_rfl) rfl #[.int .i64 9, .int .i64 0, .int .i64 999] rfl (by (try simp only [List.map_toArray, List.map_cons, List.map_nil]); first | done | rfl | (simp only [List.length_drop, List.length_take]; rfl)) ?_; (with_reducible refine (w22_access.calls 9 0 999 t234 t235 t236 t237 t238 t239 t240 t241 t242 _ A71.out).mono ?_); rintro e w87 ⟨rfl, hb⟩; refine ⟨_, rfl, ?_⟩; have n0_ := Aside0.mk (Kd.R_below (by (with_reducible repeat (first | apply Kd.R_alloc | apply Kd.R_drewN | apply Kd.R_drew)); exact HO_4.out) hb); have n1_ := Aside0.mk (Kd.R_below (by (with_reducible repeat (first | apply Kd.R_alloc | apply Kd.R_drewN | apply Kd.R_drew)); exact HO_5.out) hb); have n2_ := Aside0.mk (Kd.S_below (by (with_reducible repeat (first | apply Kd.S_alloc | apply Kd.S_drewN | apply Kd.S_drew)); exact HO_6.out) hb); have n3_ := Aside0.mk (Kd.R_below (by (with_reducible repeat (first | apply Kd.R_alloc | apply Kd.R_drewN | apply Kd.R_drew)); exact HL200_0.out) hb); have n4_ := Aside0.mk (Kd.R_below (by (with_reducible repeat (first | apply Kd.R_alloc | apply Kd.R_drewN | apply Kd.R_drew)); exact HL201_0.out) hb); have n5_ := Aside0.mk (Kd.R_below (by (with_reducible repeat (first | apply Kd.R_alloc | apply Kd.R_drewN | apply Kd.R_drew)); exact HL202_0.out) hb); have n6_ := Aside0.mk (Kd.R_below (by (with_reducible repeat (first | apply Kd.R_alloc | apply Kd.R_drewN | apply Kd.R_drew)); exact HL206_0.out) hb); have n7_ := Aside0.mk (Kd.R_below (by (with_reducible repeat (first | apply Kd.R_alloc | apply Kd.R_drewN | apply Kd.R_drew)); exact HO205.out) hb); have n8_ := Aside0.mk (Kd.R_below (by (with_reducible repeat (first | apply Kd.R_alloc | apply Kd.R_drewN | apply Kd.R_drew)); exact HO209.out) hb); have n9_ := Aside0.mk (Kd.R_below (by (with_reducible repeat (first | apply Kd.R_alloc | apply Kd.R_drewN | apply Kd.R_drew)); exact HO215.out) hb); have n10_ := Aside0.mk (below_step (by repeat (first | (with_reducible first | exact HB.out | apply pA | apply pN | apply p1_) | exact HB.out)) hb); clear HO_4; clear HO_5; clear HO_6; clear HL200_0; clear HL201_0; clear HL202_0; clear HL206_0; clear HO205; clear HO209; clear HO215; clear HB; have HO_4 := n0_; have HO_5 := n1_; have HO_6 := n2_; have HL200_0 := n3_; have HL201_0 := n4_; have HL202_0 := n5_; have HL206_0 := n6_; have HO205 := n7_; have HO209 := n8_; have HO215 := n9_; have HB := n10_; clear n0_ n1_ n2_ n3_ n4_ n5_ n6_ n7_ n8_ n9_ n10_; (try clear hb); (try clear hb2); (try clear hk); (try clear hi)) | ((with_reducible refine gate_dst (N := 132) rfl ?_); refine Kd.R_lit k47 _ 47 ?hg (N := 132) ?hd (xs := ([(⟨4, 0, 0, 0, 0, 0, 0, 0, 0⟩ : S47), (⟨t216, t217, t218, t219, t220, t221, t222, t223, t224⟩ : S47), (⟨t225, t226, t227, t228, t229, t230, t231, t232, t233⟩ : S47), (⟨t234, t235, t236, t237, t238, t239, t240, t241, t242⟩ : S47)] : List (S47))) (inner := [.int .i64 4, .int .i64 0, .int .i64 0, .int .i64 0, .int .i64 0, .int .i64 0, .int .i64 0, .int .i64 0, .int .i32 0, .int .i64 t216, .int .i64 t217, .int .i64 t218, .int .i64 t219, .int .i64 t220, .int .i64 t221, .int .i64 t222, .int .i64 t223, .int .i32 t224, .int .i64 t225, .int .i64 t226, .int .i64 t227, .int .i64 t228, .int .i64 t229, .int .i64 t230, .int .i64 t231, .int .i64 t232, .int .i32 t233, .int .i64 t234, .int .i64 t235, .int .i64 t236, .int .i64 t237, .int .i64 t238, .int .i64 t239, .int .i64 t240, .int .i64 t241, .int .i32 t242]) (ok := fun _ => True) (okp := fun _ => True) ?hr ?hp (fun _ hk => hk) trivial (Below.refl _ _) (Nat.le_refl _) (by simp) ?_; (case hd => rfl); (case hg => rfl); (case hr => first | (go_simp; done) | (go_simp; rfl)); (case hp => exact (Reps.c9 (show Kd.M k47 _ _ _ (⟨4, 0, 0, 0, 0, 0, 0, 0, 0⟩ : S47) [.int .i64 4, .int .i64 0, .int .i64 0, .int .i64 0, .int .i64 0, .int .i64 0, .int .i64 0, .int .i64 0, .int .i32 0] from (k47_mkM _ _ _ (⟨4, 0, 0, 0, 0, 0, 0, 0, 0⟩ : S47) )) (Reps.c9 (show Kd.M k47 _ _ _ (⟨t216, t217, t218, t219, t220, t221, t222, t223, t224⟩ : S47) [.int .i64 t216, .int .i64 t217, .int .i64 t218, .int .i64 t219, .int .i64 t220, .int .i64 t221, .int .i64 t222, .int .i64 t223, .int .i32 t224] from (k47_mkM _ _ _ (⟨t216, t217, t218, t219, t220, t221, t222, t223, t224⟩ : S47) )) (Reps.c9 (show Kd.M k47 _ _ _ (⟨t225, t226, t227, t228, t229, t230, t231, t232, t233⟩ : S47) [.int .i64 t225, .int .i64 t226, .int .i64 t227, .int .i64 t228, .int .i64 t229, .int .i64 t230, .int .i64 t231, .int .i64 t232, .int .i32 t233] from (k47_mkM _ _ _ (⟨t225, t226, t227, t228, t229, t230, t231, t232, t233⟩ : S47) )) (Reps.c9 (show Kd.M k47 _ _ _ (⟨t234, t235, t236, t237, t238, t239, t240, t241, t242⟩ : S47) [.int .i64 t234, .int .i64 t235, .int .i64 t236, .int .i64 t237, .int .i64 t238, .int .i64 t239, .int .i64 t240, .int .i64 t241, .int .i32 t242] from (k47_mkM _ _ _ (⟨t234, t235, t236, t237, t238, t239, t240, t241, t242⟩ : S47) )) (Reps.none _ _)))))); intro v244 w88 ho89 hb hg_ hnew_; clear hg_ hnew_; (first | rw [← Ny243.out] at ho89 | (simp only [Int.reduceToNat] at ho89; rw [← Ny243.out] at ho89)); have n0_ := Aside0.mk (Kd.R_below (by (with_reducible repeat (first | apply Kd.R_alloc | apply Kd.R_drewN | apply Kd.R_drew)); exact HO_4.out) hb); have n1_ := Aside0.mk (Kd.R_elder' (by (with_reducible repeat (first | apply Kd.R_alloc | apply Kd.R_drewN | apply Kd.R_drew)); exact HO_5.out) (Kd.R_base ho89) hb); have n2_ := Aside0.mk (Kd.S_below (by (with_reducible repeat (first | apply Kd.S_alloc | apply Kd.S_drewN | apply Kd.S_drew)); exact HO_6.out) hb); have n3_ := Aside0.mk (Kd.R_below (by (with_reducible repeat (first | apply Kd.R_alloc | apply Kd.R_drewN | apply Kd.R_drew)); exact HL200_0.out) hb); have n4_ := Aside0.mk (Kd.R_below (by (with_reducible repeat (first | apply Kd.R_alloc | apply Kd.R_drewN | apply Kd.R_drew)); exact HL201_0.out) hb); have n5_ := Aside0.mk (Kd.R_below (by (with_reducible repeat (first | apply Kd.R_alloc | apply Kd.R_drewN | apply Kd.R_drew)); exact HL202_0.out) hb); have n6_ := Aside0.mk (Kd.R_below (by (with_reducible repeat (first | apply Kd.R_alloc | apply Kd.R_drewN | apply Kd.R_drew)); exact HL206_0.out) hb); have n7_ := Aside0.mk (Kd.R_below (by (with_reducible repeat (first | apply Kd.R_alloc | apply Kd.R_drewN | apply Kd.R_drew)); exact HO205.out) hb); have n8_ := Aside0.mk (Kd.R_below (by (with_reducible repeat (first | apply Kd.R_alloc | apply Kd.R_drewN | apply Kd.R_drew)); exact HO209.out) hb); have n9_ := Aside0.mk (Kd.R_elder' (by (with_reducible repeat (first | apply Kd.R_alloc | apply Kd.R_drewN | apply Kd.R_drew)); exact HO215.out) (Kd.R_base ho89) hb); have n10_ := Aside0.mk (Kd.R_lower (Kd.R_new' (Kd.R_new' ho89 (Kd.R_lt (by (with_reducible repeat (first | apply Kd.R_alloc | apply Kd.R_drewN | apply Kd.R_drew)); exact HO_5.out))) (Kd.R_lt (by (with_reducible repeat (first | apply Kd.R_alloc | apply Kd.R_drewN | apply Kd.R_drew)); exact HO215.out))) (below_size (by repeat (first | (with_reducible first | exact HB.out | apply pA | apply pN | apply p1_) | exact HB.out)))); have n11_ := Aside0.mk (below_step (by repeat (first | (with_reducible first | exact HB.out | apply pA | apply pN | apply p1_) | exact HB.out)) hb); clear HO_4; clear HO_5; clear HO_6; clear HL200_0; clear HL201_0; clear HL202_0; clear HL206_0; clear HO205; clear HO209; clear HO215; clear HB; have HO_4 := n0_; have HO_5 := n1_; have HO_6 := n2_; have HL200_0 := n3_; have HL201_0 := n4_; have HL202_0 := n5_; have HL206_0 := n6_; have HO205 := n7_; have HO209 := n8_; have HO215 := n9_; have HO245 := n10_; have HB := n11_; clear n0_ n1_ n2_ n3_ n4_ n5_ n6_ n7_ n8_ n9_ n10_ n11_; clear hb ho89; obtain ⟨Ao91, co91, eo91⟩ := Kd.R_slice HO245.out; subst eo91) | ((with_reducible refine gate_builtin (b := .append) (xs := #[.tmp 127, .tmp 132]) rfl ?_); at_builtin; refine Kd.R_append_rows k47 (w0 := w) w.heap.size rfl (.tmp 127) (.tmp 132) 23 47 (.agg #[(.int .i64 0), (.int .i64 0), (.int .i64 0), (.int .i64 0), (.int .i64 0), (.int .i64 0), (.int .i64 0), (.int .i64 0), (.int .i32 0)]) 72 rfl Tryd.underlying23 info47 rfl (by decide) (by omega) v214 y213 y243 _ _ _ (fun k_ => some k_ ≠ (.slice Ao84 x5_1.length co84 : Value).ownBlock ∧ some k_ ≠ (.slice Ao91 y243.length co91 : Value).ownBlock) (fun _ => False) rfl rfl ?aO ?aR (fun _ _ h => h) (fun _ h => h.elim) ?aF ?aB ?aS ?aL ?_; (case aR => repeat (first | exact (Kd.R_reads' HO245.out).2.2 | (with_reducible refine Kd.C_alloc ?_ _) | (with_reducible refine Kd.C_drewN ?_ _) | (with_reducible refine Kd.C_drew ?_))); (case aB => exact (by repeat (first | (with_reducible first | exact HB.out | apply pA | apply pN | apply p1_) | exact HB.out))); (case aF => exact (fun k_ hk => ⟨Kd.fresh' (Kd.R_lt (by (with_reducible repeat (first | apply Kd.R_alloc | apply Kd.R_drewN | apply Kd.R_drew)); exact HO_5.out)) k_ hk, Kd.fresh' (Kd.R_lt (by (with_reducible repeat (first | apply Kd.R_alloc | apply Kd.R_drewN | apply Kd.R_drew)); exact HO245.out)) k_ hk⟩)); (case aO => exact (by (with_reducible repeat (first | apply Kd.R_alloc | apply Kd.R_drewN | apply Kd.R_drew)); exact HO215.out)); (case aS => exact (below_size (by repeat (first | (with_reducible first | exact HB.out | apply pA | apply pN | apply p1_) | exact HB.out)))); (case aL => have := LMc72.out; omega); intro v247 w90 ho hb hg hat; rw [← Ny246.out] at ho; have n0_ := Aside0.mk (Kd.R_over' (by (with_reducible repeat (first | apply Kd.R_alloc | apply Kd.R_drewN | apply Kd.R_drew)); exact HO_4.out) (Kd.R_typed (by (with_reducible repeat (first | apply Kd.R_alloc | apply Kd.R_drewN | apply Kd.R_drew)); exact HO215.out)) (by decide) hg); have n1_ := Aside0.mk (Kd.R_after (ok := (fun k_ => some k_ ≠ (.slice Ao91 y243.length co91 : Value).ownBlock)) (by (with_reducible repeat (first | apply Kd.R_alloc | apply Kd.R_drewN | apply Kd.R_drew)); exact Kd.R_mono HO_5.out (fun _ hk => ⟨hk.2, hk.1.2⟩)) hg hat); have n2_ := Aside0.mk (Kd.S_over' (by (with_reducible repeat (first | apply Kd.S_alloc | apply Kd.S_drewN | apply Kd.S_drew)); exact HO_6.out) (Kd.R_typed (by (with_reducible repeat (first | apply Kd.R_alloc | apply Kd.R_drewN | apply Kd.R_drew)); exact HO215.out)) (by decide) hg); have n3_ := Aside0.mk (Kd.R_over' (by (with_reducible repeat (first | apply Kd.R_alloc | apply Kd.R_drewN | apply Kd.R_drew)); exact HL200_0.out) (Kd.R_typed (by (with_reducible repeat (first | apply Kd.R_alloc | apply Kd.R_drewN | apply Kd.R_drew)); exact HO215.out)) (by decide) hg); have n4_ := Aside0.mk (Kd.R_over' (by (with_reducible repeat (first | apply Kd.R_alloc | apply Kd.R_drewN | apply Kd.R_drew)); exact HL201_0.out) (Kd.R_typed (by (with_reducible repeat (first | apply Kd.R_alloc | apply Kd.R_drewN | apply Kd.R_drew)); exact HO215.out)) (by decide) hg); have n5_ := Aside0.mk (Kd.R_over' (by (with_reducible repeat (first | apply Kd.R_alloc | apply Kd.R_drewN | apply Kd.R_drew)); exact HL202_0.out) (Kd.R_typed (by (with_reducible repeat (first | apply Kd.R_alloc | apply Kd.R_drewN | apply Kd.R_drew)); exact HO215.out)) (by decide) hg); have n6_ := Aside0.mk (Kd.R_over' (by (with_reducible repeat (first | apply Kd.R_alloc | apply Kd.R_drewN | apply Kd.R_drew)); exact HL206_0.out) (Kd.R_typed (by (with_reducible repeat (first | apply Kd.R_alloc | apply Kd.R_drewN | apply Kd.R_drew)); exact HO215.out)) (by decide) hg); have n7_ := Aside0.mk (Kd.R_over' (by (with_reducible repeat (first | apply Kd.R_alloc | apply Kd.R_drewN | apply Kd.R_drew)); exact HO205.out) (Kd.R_typed (by (with_reducible repeat (first | apply Kd.R_alloc | apply Kd.R_drewN | apply Kd.R_drew)); exact HO215.out)) (by decide) hg); have n8_ := Aside0.mk (Kd.R_over' (by (with_reducible repeat (first | apply Kd.R_alloc | apply Kd.R_drewN | apply Kd.R_drew)); exact HO209.out) (Kd.R_typed (by (with_reducible repeat (first | apply Kd.R_alloc | apply Kd.R_drewN | apply Kd.R_drew)); exact HO215.out)) (by decide) hg); have n9_ := Aside0.mk (Kd.R_after (ok := (fun k_ => some k_ ≠ (.slice Ao84 x5_1.length co84 : Value).ownBlock)) (by (with_reducible repeat (first | apply Kd.R_alloc | apply Kd.R_drewN | apply Kd.R_drew)); exact Kd.R_mono HO245.out (fun _ hk => ⟨hk.1.2, hk.2⟩)) hg hat); have n10_ := Aside0.mk (hb); have n11_ := Aside0.mk (ho); clear HO_4; clear HO_5; clear HO_6; clear HL200_0; clear HL201_0; clear HL202_0; clear HL206_0; clear HO205; clear HO209; clear HO245; clear HB; clear HO215; have HO_4 := n0_; have HO_5 := n1_; have HO_6 := n2_; have HL200_0 := n3_; have HL201_0 := n4_; have HL202_0 := n5_; have HL206_0 := n6_; have HO205 := n7_; have HO209 := n8_; have HO245 := n9_; have HB := n10_; have HO248 := n11_; clear n0_ n1_ n2_ n3_ n4_ n5_ n6_ n7_ n8_ n9_ n10_ n11_; clear ho hb hg hat))
                      (try simp only [Act.put, sI, sZ, sS])
                      go_cut [2] (fun v2 wc => ∃ (kq : Nat) (x2_72 : Bool), v2 = .bool x2_72 ∧ Aside0 (w22_CMoves.j4 kq x2_72 = some r) ∧ Aside0 (kq ≤ kj16) ∧ Aside0 (Below w.heap.size w wc))
                      case first =>
                        have H := HC73.out
                        clear HC73
                        by_cases c92 : x7_1 ≤ (wrap64 (((rd_L5 x6_1 0).length : Int) + ((rd_L5 x6_1 1).length : Int)))
                        · rw [if_pos c92] at H
                          have c92b0 : decide (x7_1 ≤ (wrap64 (((rd_L5 x6_1 0).length : Int) + ((rd_L5 x6_1 1).length : Int)))) = true := decide_eq_true c92
                          clear c92
                          (first | rw [c92b0] | (simp only [i64_w, i32_w]; rw [c92b0]) | skip)
                          by_cases c93 : (((wrap64 (((rd_L5 x6_1 0).length : Int) + ((rd_L5 x6_1 1).length : Int))) == 0) == (x7_1 == 0)) = true
                          · rw [if_pos c93] at H
                            have c93b0 : (((wrap64 (((rd_L5 x6_1 0).length : Int) + ((rd_L5 x6_1 1).length : Int))) == 0) == (x7_1 == 0)) = true := c93
                            (try (have c93b1 : decide (((wrap64 (((rd_L5 x6_1 0).length : Int) + ((rd_L5 x6_1 1).length : Int))) == 0) = (x7_1 == 0)) = true := by simpa using c93))
                            (try (have c93b2 : (((wrap64 (((rd_L5 x6_1 0).length : Int) + ((rd_L5 x6_1 1).length : Int))) == 0) == (x7_1 == 0)) = true := by simpa using c93))
                            clear c93
                            by_cases c94 : x7_1 = (wrap64 ((t203.length : Int) + (t207.length : Int)))
                            · rw [if_pos c94] at H
                              have c94b0 : (x7_1 == (wrap64 ((t203.length : Int) + (t207.length : Int)))) = true := beq_iff_eq.mpr c94
                              have c94b1 : (x7_1 != (wrap64 ((t203.length : Int) + (t207.length : Int)))) = false := bne_eq_false_iff_eq.mpr c94
                              clear c94
                              replace H := Option.bind_eq_some_iff.mp H
                              obtain ⟨t249, A950, H⟩ := H
                              replace H : (if t249 = x7_1 then (w22_CMoves.j4 kj16 true) else (w22_CMoves.j4 kj16 false)) = some r := H
                              have A95 := Aside0.mk A950
                              clear A950
                              by_cases c96 : t249 = x7_1
                              · rw [if_pos c96] at H
                                have c96b0 : (t249 == x7_1) = true := beq_iff_eq.mpr c96
                                have c96b1 : (t249 != x7_1) = false := bne_eq_false_iff_eq.mpr c96
                                clear c96
                                have H' := Aside0.mk H
                                clear H
                                obtain ⟨Ao97, co97, eo97⟩ := Kd.R_slice HO248.out
                                subst eo97
                                obtain ⟨Ao98, co98, eo98⟩ := Kd.R_slice HO_4.out
                                subst eo98
                                go_wp2_with (first | (go_at_call 16; (with_reducible refine (coalesce_Moves.calls _ _ y246 _ _ y163 t249 _ ?side1 ?side2 ?side3 ?side4 A95.out).mono ?_); (case side1 => repeat (first | exact (Kd.R_reads' HO248.out).2.2 | (with_reducible refine Kd.C_alloc ?_ _) | (with_reducible refine Kd.C_drewN ?_ _) | (with_reducible refine Kd.C_drew ?_))); (case side2 => exact (Kd.R_reads' HO248.out).2.1); (case side3 => repeat (first | exact (Kd.R_reads' HO_4.out).2.2 | (with_reducible refine Kd.C_alloc ?_ _) | (with_reducible refine Kd.C_drewN ?_ _) | (with_reducible refine Kd.C_drew ?_))); (case side4 => exact (Kd.R_reads' HO_4.out).2.1); rintro e w99 ⟨rfl, hb⟩; have n0_ := Aside0.mk (Kd.R_below (by (with_reducible repeat (first | apply Kd.R_alloc | apply Kd.R_drewN | apply Kd.R_drew)); exact HO_4.out) hb); have n1_ := Aside0.mk (Kd.R_below (by (with_reducible repeat (first | apply Kd.R_alloc | apply Kd.R_drewN | apply Kd.R_drew)); exact HO_5.out) hb); have n2_ := Aside0.mk (Kd.S_below (by (with_reducible repeat (first | apply Kd.S_alloc | apply Kd.S_drewN | apply Kd.S_drew)); exact HO_6.out) hb); have n3_ := Aside0.mk (Kd.R_below (by (with_reducible repeat (first | apply Kd.R_alloc | apply Kd.R_drewN | apply Kd.R_drew)); exact HL200_0.out) hb); have n4_ := Aside0.mk (Kd.R_below (by (with_reducible repeat (first | apply Kd.R_alloc | apply Kd.R_drewN | apply Kd.R_drew)); exact HL201_0.out) hb); have n5_ := Aside0.mk (Kd.R_below (by (with_reducible repeat (first | apply Kd.R_alloc | apply Kd.R_drewN | apply Kd.R_drew)); exact HL202_0.out) hb); have n6_ := Aside0.mk (Kd.R_below (by (with_reducible repeat (first | apply Kd.R_alloc | apply Kd.R_drewN | apply Kd.R_drew)); exact HL206_0.out) hb); have n7_ := Aside0.mk (Kd.R_below (by (with_reducible repeat (first | apply Kd.R_alloc | apply Kd.R_drewN | apply Kd.R_drew)); exact HO205.out) hb); have n8_ := Aside0.mk (Kd.R_below (by (with_reducible repeat (first | apply Kd.R_alloc | apply Kd.R_drewN | apply Kd.R_drew)); exact HO209.out) hb); have n9_ := Aside0.mk (Kd.R_below (by (with_reducible repeat (first | apply Kd.R_alloc | apply Kd.R_drewN | apply Kd.R_drew)); exact HO245.out) hb); have n10_ := Aside0.mk (Kd.R_below (by (with_reducible repeat (first | apply Kd.R_alloc | apply Kd.R_drewN | apply Kd.R_drew)); exact HO248.out) hb); have n11_ := Aside0.mk (below_step (by repeat (first | (with_reducible first | exact HB.out | apply pA | apply pN | apply p1_) | exact HB.out)) hb); clear HO_4; clear HO_5; clear HO_6; clear HL200_0; clear HL201_0; clear HL202_0; clear HL206_0; clear HO205; clear HO209; clear HO245; clear HO248; clear HB; have HO_4 := n0_; have HO_5 := n1_; have HO_6 := n2_; have HL200_0 := n3_; have HL201_0 := n4_; have HL202_0 := n5_; have HL206_0 := n6_; have HO205 := n7_; have HO209 := n8_; have HO245 := n9_; have HO248 := n10_; have HB := n11_; clear n0_ n1_ n2_ n3_ n4_ n5_ n6_ n7_ n8_ n9_ n10_ n11_; (try clear hb); (try clear hb2); (try clear hk); (try clear hi)))
                                go_meet
                                case rel => exact ⟨_, (true), (by first | rfl | (simp; done) | (simp [*]; done)), H', ⟨by have := HK1.out; have := HJ16.out; first | omega | exact Nat.le_refl _⟩, ⟨by repeat (first | (with_reducible first | exact HB.out | apply pA | apply pN | apply p1_) | exact HB.out)⟩⟩
                              · rw [if_neg c96] at H
                                have c96b0 : (t249 == x7_1) = false := beq_eq_false_iff_ne.mpr c96
                                have c96b1 : (t249 != x7_1) = true := bne_iff_ne.mpr c96
                                have H' := Aside0.mk H
                                clear H
                                obtain ⟨Ao100, co100, eo100⟩ := Kd.R_slice HO248.out
                                subst eo100
                                obtain ⟨Ao101, co101, eo101⟩ := Kd.R_slice HO_4.out
                                subst eo101
                                go_wp2_with (first | (go_at_call 16; (with_reducible refine (coalesce_Moves.calls _ _ y246 _ _ y163 t249 _ ?side1 ?side2 ?side3 ?side4 A95.out).mono ?_); (case side1 => repeat (first | exact (Kd.R_reads' HO248.out).2.2 | (with_reducible refine Kd.C_alloc ?_ _) | (with_reducible refine Kd.C_drewN ?_ _) | (with_reducible refine Kd.C_drew ?_))); (case side2 => exact (Kd.R_reads' HO248.out).2.1); (case side3 => repeat (first | exact (Kd.R_reads' HO_4.out).2.2 | (with_reducible refine Kd.C_alloc ?_ _) | (with_reducible refine Kd.C_drewN ?_ _) | (with_reducible refine Kd.C_drew ?_))); (case side4 => exact (Kd.R_reads' HO_4.out).2.1); rintro e w102 ⟨rfl, hb⟩; have n0_ := Aside0.mk (Kd.R_below (by (with_reducible repeat (first | apply Kd.R_alloc | apply Kd.R_drewN | apply Kd.R_drew)); exact HO_4.out) hb); have n1_ := Aside0.mk (Kd.R_below (by (with_reducible repeat (first | apply Kd.R_alloc | apply Kd.R_drewN | apply Kd.R_drew)); exact HO_5.out) hb); have n2_ := Aside0.mk (Kd.S_below (by (with_reducible repeat (first | apply Kd.S_alloc | apply Kd.S_drewN | apply Kd.S_drew)); exact HO_6.out) hb); have n3_ := Aside0.mk (Kd.R_below (by (with_reducible repeat (first | apply Kd.R_alloc | apply Kd.R_drewN | apply Kd.R_drew)); exact HL200_0.out) hb); have n4_ := Aside0.mk (Kd.R_below (by (with_reducible repeat (first | apply Kd.R_alloc | apply Kd.R_drewN | apply Kd.R_drew)); exact HL201_0.out) hb); have n5_ := Aside0.mk (Kd.R_below (by (with_reducible repeat (first | apply Kd.R_alloc | apply Kd.R_drewN | apply Kd.R_drew)); exact HL202_0.out) hb); have n6_ := Aside0.mk (Kd.R_below (by (with_reducible repeat (first | apply Kd.R_alloc | apply Kd.R_drewN | apply Kd.R_drew)); exact HL206_0.out) hb); have n7_ := Aside0.mk (Kd.R_below (by (with_reducible repeat (first | apply Kd.R_alloc | apply Kd.R_drewN | apply Kd.R_drew)); exact HO205.out) hb); have n8_ := Aside0.mk (Kd.R_below (by (with_reducible repeat (first | apply Kd.R_alloc | apply Kd.R_drewN | apply Kd.R_drew)); exact HO209.out) hb); have n9_ := Aside0.mk (Kd.R_below (by (with_reducible repeat (first | apply Kd.R_alloc | apply Kd.R_drewN | apply Kd.R_drew)); exact HO245.out) hb); have n10_ := Aside0.mk (Kd.R_below (by (with_reducible repeat (first | apply Kd.R_alloc | apply Kd.R_drewN | apply Kd.R_drew)); exact HO248.out) hb); have n11_ := Aside0.mk (below_step (by repeat (first | (with_reducible first | exact HB.out | apply pA | apply pN | apply p1_) | exact HB.out)) hb); clear HO_4; clear HO_5; clear HO_6; clear HL200_0; clear HL201_0; clear HL202_0; clear HL206_0; clear HO205; clear HO209; clear HO245; clear HO248; clear HB; have HO_4 := n0_; have HO_5 := n1_; have HO_6 := n2_; have HL200_0 := n3_; have HL201_0 := n4_; have HL202_0 := n5_; have HL206_0 := n6_; have HO205 := n7_; have HO209 := n8_; have HO245 := n9_; have HO248 := n10_; have HB := n11_; clear n0_ n1_ n2_ n3_ n4_ n5_ n6_ n7_ n8_ n9_ n10_ n11_; (try clear hb); (try clear hb2); (try clear hk); (try clear hi)))
                                go_meet
                                case rel => exact ⟨_, (false), (by first | rfl | (simp; done) | (simp [*]; done)), H', ⟨by have := HK1.out; have := HJ16.out; first | omega | exact Nat.le_refl _⟩, ⟨by repeat (first | (with_reducible first | exact HB.out | apply pA | apply pN | apply p1_) | exact HB.out)⟩⟩
                            · rw [if_neg c94] at H
                              have c94b0 : (x7_1 == (wrap64 ((t203.length : Int) + (t207.length : Int)))) = false := beq_eq_false_iff_ne.mpr c94
                              have c94b1 : (x7_1 != (wrap64 ((t203.length : Int) + (t207.length : Int)))) = true := bne_iff_ne.mpr c94
                              have H' := Aside0.mk H
                              clear H
                              go_wp2
                              go_meet
                              case rel => exact ⟨_, (false), (by first | rfl | (simp; done) | (simp [*]; done)), H', ⟨by have := HK1.out; have := HJ16.out; first | omega | exact Nat.le_refl _⟩, ⟨by repeat (first | (with_reducible first | exact HB.out | apply pA | apply pN | apply p1_) | exact HB.out)⟩⟩
                          · rw [if_neg c93] at H
                            have c93b0 : (((wrap64 (((rd_L5 x6_1 0).length : Int) + ((rd_L5 x6_1 1).length : Int))) == 0) == (x7_1 == 0)) = false := by simpa using c93
                            (try (have c93b1 : decide (((wrap64 (((rd_L5 x6_1 0).length : Int) + ((rd_L5 x6_1 1).length : Int))) == 0) = (x7_1 == 0)) = false := by simpa using c93))
                            (try (have c93b2 : (((wrap64 (((rd_L5 x6_1 0).length : Int) + ((rd_L5 x6_1 1).length : Int))) == 0) == (x7_1 == 0)) = false := by simpa using c93))
                            (try (have c93b3 : ¬ (((wrap64 (((rd_L5 x6_1 0).length : Int) + ((rd_L5 x6_1 1).length : Int))) == 0) = (x7_1 == 0)) := by simpa using c93))
                            clear c93
                            have H' := Aside0.mk H
                            clear H
                            go_wp2
                            go_meet
                            case rel => exact ⟨_, (false), (by first | rfl | (simp; done) | (simp [*]; done)), H', ⟨by have := HK1.out; have := HJ16.out; first | omega | exact Nat.le_refl _⟩, ⟨by repeat (first | (with_reducible first | exact HB.out | apply pA | apply pN | apply p1_) | exact HB.out)⟩⟩
                        · rw [if_neg c92] at H
                          have c92b0 : decide (x7_1 ≤ (wrap64 (((rd_L5 x6_1 0).length : Int) + ((rd_L5 x6_1 1).length : Int)))) = false := decide_eq_false c92
                          clear c92
                          (first | rw [c92b0] | (simp only [i64_w, i32_w]; rw [c92b0]) | skip)
                          have H' := Aside0.mk H
                          clear H
                          go_wp2
                          go_meet
                          case rel => exact ⟨_, (false), (by first | rfl | (simp; done) | (simp [*]; done)), H', ⟨by have := HK1.out; have := HJ16.out; first | omega | exact Nat.le_refl _⟩, ⟨by repeat (first | (with_reducible first | exact HB.out | apply pA | apply pN | apply p1_) | exact HB.out)⟩⟩
                      case rest =>
                        clear HC73
                        try clear c1
                        try clear c2
                        try clear p2
                        try clear q2
                        try clear hx2
                        try clear qi2
                        try clear c6
                        try clear p6
                        try clear c7
                        try clear c9
                        try clear c14
                        try clear c18
                        try clear c19
                        try clear c20
                        try clear p20
                        try clear q20
                        try clear hx20
                        try clear qi20
                        try clear c21
                        try clear c23
                        try clear c64
                        try clear c64b0
                        try clear c64b1
                        try clear p64
                        try clear c65
                        try clear c65b0
                        try clear c65b1
                        try clear c68
                        try clear c72
                        try clear c92
                        try clear c92b0
                        try clear c93
                        try clear c93b0
                        try clear c93b1
                        try clear c93b2
                        try clear c94
                        try clear c94b0
                        try clear c94b1
                        try clear c96
                        try clear c96b0
                        try clear c96b1
                        try clear hx200_0
                        try clear hx201_0
                        try clear hx202_0
                        try clear hx206_0
                        try clear p200
                        try clear p201
                        try clear p202
                        try clear p206
                        try clear q200
                        try clear q201
                        try clear q202
                        try clear q206
                        obtain ⟨kq, x2_72, rfl, HA, HJ72, HB⟩ := hcut
                        cases kq with
                        | zero => exact absurd HA.out (by simp [w22_CMoves.j4])
                        | succ kj72 =>
                          have H := HA.out
                          clear HA
                          simp only [w22_CMoves.j4] at H
                          obtain rfl := Option.some.inj H
                          go_wp2
                          go_ret
                          exact ⟨by first | rfl | (simp [errW_none, errW_some] <;> rfl) | (simp [*, errW_none, errW_some] <;> rfl), by repeat (first | (with_reducible first | exact HB.out | apply pA | apply pN | apply p1_) | exact HB.out)⟩
                    · rw [if_neg c72] at H
                      exact absurd H (by simp)
                  · rw [if_neg c68] at H
                    exact absurd H (by simp)
                · rw [if_neg c65] at H
                  exact absurd H (by simp)
              · rw [if_neg c64] at H
                exact absurd H (by simp)
  · replace c3 := Bool.eq_false_iff.mpr c3
    subst c3
    have H1 : (some false) = some r := by rw [if_neg (show ¬ (false = true) by decide)] at H; exact H
    clear H
    have H := H1
    clear H1
    obtain rfl := Option.some.inj H
    go_enter Tryd.func5, Tryd.ntmps5
    go_wp2_with (first | ((with_reducible refine gate_callee (f := 9) rfl ?_); refine goesL_ (some 15) rfl rfl Tryd.func9 (by kernel_rfl) rfl #[] rfl (by (try simp only [List.map_toArray, List.map_cons, List.map_nil]); first | done | rfl | (simp only [List.length_drop, List.length_take]; rfl)) ?_; (with_reducible refine (w22_examples.calls k  false _ A2.out).mono ?_); rintro e w103 ⟨rfl, hb⟩; refine ⟨_, rfl, ?_⟩; have n0_ := Aside0.mk (below_step (by repeat (first | (with_reducible first | exact HB.out | apply pA | apply pN | apply p1_) | exact HB.out)) hb); clear HB; have HB := n0_; clear n0_; (try clear hb); (try clear hb2); (try clear hk); (try clear hi)))
    go_ret
    exact ⟨by first | rfl | (simp [errW_none, errW_some] <;> rfl) | (simp [*, errW_none, errW_some] <;> rfl), by repeat (first | (with_reducible first | exact HB.out | apply pA | apply pN | apply p1_) | exact HB.out)⟩

end Go.Proofs.YtnjeliicnbfclaaDoor.P
