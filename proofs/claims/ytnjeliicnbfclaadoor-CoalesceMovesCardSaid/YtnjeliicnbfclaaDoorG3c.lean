/- coalesce.Static: its contract in the form that the printed functions take. -/
import Derived.Test.YtnjeliicnbfclaaDoorG3
namespace Go.Proofs.YtnjeliicnbfclaaDoor.P
open Go.RowKit Go.Maps Go.Shelf Go.Proofs.YtnjeliicnbfclaaDoorW.PrintWords Go.Proofs.YtnjeliicnbfclaaDoorW.PrintLast Go.Proofs.YtnjeliicnbfclaaDoorW.PrintMore
set_option linter.unusedVariables false
set_option linter.unusedSimpArgs false

/-- The library's table stands in memory. -/
structure Tab (w : World) : Prop where mk :: (out : TabAt 0 Lib.deBruijn64tab w)
theorem Tab.below {w w' : World} (h : Tab w) (hb : Below w.heap.size w w') : Tab w' := ⟨tab_below h.out hb⟩

/-- The set of active lanes as a number. -/
def setOfLanes (lanes act : Int) : Nat := act.toNat % 2 ^ (min (max lanes 0) 64).toNat
/-- What Static answers. -/
def staticV (an : Bool) (S lo hi st : Int) (s : Nat) : Int :=
  if an = true ∨ onesAt 64 0 s = [] then ((onesAt 64 0 s).length : Int)
  else if st = 0 then ((mostS S (onesAt 64 0 s) 16 : Nat) : Int)
  else min ((onesAt 64 0 s).length : Int) ((max S (-S) * ((Lib.bitLen s : Int) - 1 - (Lib.ctz 64 s : Nat)) + hi - lo - 1) / 16 + 2)
def staticOk (a1 a2 a4 a5 a6 lanes act : Int) : Bool :=
  decide (-2199023255552 ≤ a1 ∧ a1 ≤ 2199023255552 ∧ -2199023255552 ≤ a2 ∧ a2 ≤ 2199023255552 ∧ -1125899906842624 ≤ a4 ∧ a4 ≤ 1125899906842624 ∧ -1125899906842624 ≤ a5 ∧ a5 ≤ 1125899906842624 ∧ (a6 = 0 ∨ a4 < a5) ∧
    -9223372036854775808 ≤ lanes ∧ lanes ≤ 9223372036854775807 ∧ 0 ≤ act ∧ act < 18446744073709551616)
def coalesce_Static.f (a0 : Bool) (a1 a2 a3 a4 a5 a6 lanes act : Int) : Option Int :=
  if staticOk a1 a2 a4 a5 a6 lanes act = true then some (staticV a0 (a1 + a2) a4 a5 a6 (setOfLanes lanes act)) else none

theorem coalesce_Static.calls (a0 : Bool) (a1 a2 a3 a4 a5 a6 lanes act : Int) (r : Int) (w : World) (h : coalesce_Static.f a0 a1 a2 a3 a4 a5 a6 lanes act = some r)
    (HT : Tab w := by exact Tab.below HT (by repeat (first | (with_reducible first | exact HB.out | apply below_alloc | apply pw_below_drewN | apply below_drew1) | exact HB.out))) :
    Calls Tryd.prog 11 #[.agg #[.bool a0, .int .i64 a1, .int .i64 a2, .int .i64 a3, .int .i64 a4, .int .i64 a5, .int .i64 a6], .int .i64 lanes, .int .u64 act] w fun e w' => e = .returned (.int .i64 r) ∧ Below w.heap.size w w' := by
  unfold coalesce_Static.f at h
  split at h
  · rename_i hok
    obtain rfl := Option.some.inj h
    obtain ⟨b11, b12, b21, b22, b41, b42, b51, b52, b45, hl1, hl2, ha1, ha2⟩ := of_decide_eq_true hok
    obtain ⟨n, rfl⟩ := Int.eq_ofNat_of_zero_le ha1
    have hL : min (max lanes 0) 64 = (((min (max lanes 0) 64).toNat : Nat) : Int) := by omega
    refine (callsIn_wide (n := 6)).1 ?_
    unfold staticV
    have hs : n % 2 ^ (min (max lanes 0) 64).toNat = setOfLanes lanes (n : Int) := by
      unfold setOfLanes
      rw [Int.toNat_natCast]
    generalize setOfLanes lanes (n : Int) = s at *
    split
    · rename_i hor
      exact static_plain a0 a1 a2 a3 a4 a5 a6 lanes n _ s hL hs hl1 hl2 (by omega) hor w HT.out
    · rename_i hor
      have hz : onesAt 64 0 s ≠ [] := fun e => hor (.inr e)
      have ha : a0 = false := by
        cases a0
        · rfl
        · exact absurd (.inl rfl) hor
      subst ha
      split
      · rename_i h6
        exact static_loop a1 a2 a3 a4 a5 a6 lanes n _ s hL hs hl1 hl2 (by omega) b11 b12 b21 b22 (by simp [h6]) w HT.out hz
      · rename_i h6
        exact static_wide a1 a2 a3 a4 a5 a6 lanes n _ s hL hs hl1 hl2 (by omega) b11 b12 b21 b22 b41 b42 b51 b52 (b45.resolve_left h6) (by simp [h6]) hz w HT.out
  · cases h
end Go.Proofs.YtnjeliicnbfclaaDoor.P
