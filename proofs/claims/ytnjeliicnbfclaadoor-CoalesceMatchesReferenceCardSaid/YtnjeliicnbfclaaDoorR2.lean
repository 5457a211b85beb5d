/- A list of events as an argument, opened. -/
import Derived.Test.YtnjeliicnbfclaaDoorR1
import Derived.Test.YtnjeliicnbfclaaDoorG2
namespace Go.Proofs.YtnjeliicnbfclaaDoor.R
open Go.ChangeShapes Go.WideShapes Go.ChangeAt Go.RowKit Go.Proofs.YtnjeliicnbfclaaDoorW Go.Proofs.YtnjeliicnbfclaaDoorW.PrintWords Go.Proofs.YtnjeliicnbfclaaDoor.P
set_option linter.unusedVariables false

theorem list9 {α : Type} : ∀ l : List α, l.length = 9 → ∃ a b c d e f g h i, l = [a, b, c, d, e, f, g, h, i]
  | [a, b, c, d, e, f, g, h, i], _ => ⟨a, b, c, d, e, f, g, h, i, rfl⟩
theorem cells47 : Tryd.prog.cellsOf 47 = 9 := by kernel_rfl
theorem cells3 : Tryd.prog.cellsOf 3 = 1 := by kernel_rfl

def wfE (x : S47) : Prop := wfI x.f6 = true ∧ wfI x.f7 = true
section
variable {H : Type} {enc : TypeId × Value → H} {W : World} {base b' : Nat} {sp : Nat → Bool} {held : Bool} {v : Value} {d : DataW H} {ps : List MemPlace}
set_option maxRecDepth 100000 in
theorem open_event {n : Nat} {cs : List Value} {y : DataW H × List MemPlace} (h : DataW.trod enc Tryd.prog W b' sp held n 47 cs = some y) :
    ∃ x : S47, cs = [.int .i64 x.f0, .int .i64 x.f1, .int .i64 x.f2, .int .i64 x.f3, .int .i64 x.f4, .int .i64 x.f5, .int .i64 x.f6, .int .i64 x.f7, .int .i32 x.f8] ∧ wfE x := by
  obtain ⟨xs, n, _, _, hl, hxl, hf⟩ := DataW.trod_struct Tryd.underlying47 h
  rw [cells47] at hl
  obtain ⟨c0, c1, c2, c3, c4, c5, c6, c7, c8, rfl⟩ := list9 cs hl
  obtain ⟨x0, x1, x2, x3, x4, x5, x6, x7, x8, rfl⟩ := list9 xs (by simpa using hxl)
  have g0 := hf 0 { name := "Kind", type := 3, offset := 0, embedded := false, tag := "", pkgPath := "", byteOffset := 0 } rfl
  have g1 := hf 1 { name := "Op", type := 3, offset := 1, embedded := false, tag := "", pkgPath := "", byteOffset := 8 } rfl
  have g2 := hf 2 { name := "Item", type := 3, offset := 2, embedded := false, tag := "", pkgPath := "", byteOffset := 16 } rfl
  have g3 := hf 3 { name := "Turn", type := 3, offset := 3, embedded := false, tag := "", pkgPath := "", byteOffset := 24 } rfl
  have g4 := hf 4 { name := "Block", type := 3, offset := 4, embedded := false, tag := "", pkgPath := "", byteOffset := 32 } rfl
  have g5 := hf 5 { name := "At", type := 3, offset := 5, embedded := false, tag := "", pkgPath := "", byteOffset := 40 } rfl
  have g6 := hf 6 { name := "Array", type := 3, offset := 6, embedded := false, tag := "", pkgPath := "", byteOffset := 48 } rfl
  have g7 := hf 7 { name := "I", type := 3, offset := 7, embedded := false, tag := "", pkgPath := "", byteOffset := 56 } rfl
  have g8 := hf 8 { name := "V", type := 21, offset := 8, embedded := false, tag := "", pkgPath := "", byteOffset := 64 } rfl
  dsimp only at g0 g1 g2 g3 g4 g5 g6 g7 g8
  rw [cells3] at g0 g1 g2 g3 g4 g5 g6 g7
  rw [cells21] at g8
  obtain ⟨n0, e0, _, w0⟩ := DataW.trod_int Tryd.underlying3 g0
  obtain ⟨n1, e1, _, w1⟩ := DataW.trod_int Tryd.underlying3 g1
  obtain ⟨n2, e2, _, w2⟩ := DataW.trod_int Tryd.underlying3 g2
  obtain ⟨n3, e3, _, w3⟩ := DataW.trod_int Tryd.underlying3 g3
  obtain ⟨n4, e4, _, w4⟩ := DataW.trod_int Tryd.underlying3 g4
  obtain ⟨n5, e5, _, w5⟩ := DataW.trod_int Tryd.underlying3 g5
  obtain ⟨n6, e6, _, w6⟩ := DataW.trod_int Tryd.underlying3 g6
  obtain ⟨n7, e7, _, w7⟩ := DataW.trod_int Tryd.underlying3 g7
  obtain ⟨n8, e8, _, w8⟩ := DataW.trod_int Tryd.underlying21 g8
  simp at e0 e1 e2 e3 e4 e5 e6 e7 e8
  subst e0 e1 e2 e3 e4 e5 e6 e7 e8
  exact ⟨⟨n0, n1, n2, n3, n4, n5, n6, n7, n8⟩, rfl, w6, w7⟩

theorem open_events (hval : Value.okWide Tryd.prog W .any base 23 v) (hd : DataW.Trod enc Tryd.prog W b' sp held 23 v d ps) :
    ∃ (A : Option Addr) (c : Nat) (l : List S47), v = .slice A l.length c ∧ Kd.C k47 W A l.length l ∧ l.length ≤ c ∧ ∀ x ∈ l, wfE x := by
  obtain ⟨a, len, cap, rfl⟩ := okWide_slice Tryd.underlying23 hval
  obtain ⟨fuel, h⟩ := hd
  rcases DataW.trod_slice Tryd.underlying23 h with ⟨hcs, _⟩ | ⟨ad, l, c, elems, rest, n, _, hcs, _, _, hle, hmax, hel, hcells, _, _⟩
  · simp [Value.cells] at hcs
    obtain ⟨rfl, rfl, rfl⟩ := hcs
    exact ⟨none, 0, [], rfl, ⟨rfl, by simp, fun h0 => absurd h0 (by simp)⟩, Nat.le_refl _, fun x hx => by cases hx⟩
  · simp [Value.cells] at hcs
    obtain ⟨rfl, rfl, rfl⟩ := hcs
    rw [cells47] at hcells
    have each : ∀ i, i < len → ∃ x : S47, wfE x ∧ ∀ j u, ([.int .i64 x.f0, .int .i64 x.f1, .int .i64 x.f2, .int .i64 x.f3, .int .i64 x.f4, .int .i64 x.f5, .int .i64 x.f6, .int .i64 x.f7, .int .i32 x.f8] : List Value)[j]? = some u → W.cell? (ad.add (i * 9 + j)) = some u := by
      intro i hi
      have h1 := hcells i hi
      rw [List.getElem?_eq_getElem (by omega)] at h1
      obtain ⟨cs, hc, ht⟩ := Option.bind_eq_some_iff.1 h1
      obtain ⟨x, rfl, hx⟩ := open_event ht
      obtain ⟨_, hlen, hcell⟩ := World.cells?_some hc
      refine ⟨x, hx, fun j u hj => ?_⟩
      have hj9 : j < 9 := by
        have := (List.getElem?_eq_some_iff.1 hj).1
        simpa using this
      have := hcell j hj9
      rw [hj] at this
      have ha : (ad.add (i * 9)).add j = ad.add (i * 9 + j) := Addr.add_add _ _ _
      rw [ha] at this
      exact this
    have pick : ∃ l : List S47, l.length = len ∧ ∀ i, i < len → ∀ x, l[i]? = some x → wfE x ∧ ∀ j u, ([.int .i64 x.f0, .int .i64 x.f1, .int .i64 x.f2, .int .i64 x.f3, .int .i64 x.f4, .int .i64 x.f5, .int .i64 x.f6, .int .i64 x.f7, .int .i32 x.f8] : List Value)[j]? = some u → W.cell? (ad.add (i * 9 + j)) = some u := by
      clear hcells hel
      have : ∀ m, m ≤ len → ∃ l : List S47, l.length = m ∧ ∀ i, i < m → ∀ x, l[i]? = some x → wfE x ∧ ∀ j u, ([.int .i64 x.f0, .int .i64 x.f1, .int .i64 x.f2, .int .i64 x.f3, .int .i64 x.f4, .int .i64 x.f5, .int .i64 x.f6, .int .i64 x.f7, .int .i32 x.f8] : List Value)[j]? = some u → W.cell? (ad.add (i * 9 + j)) = some u := by
        intro m
        induction m with
        | zero => exact fun _ => ⟨[], rfl, fun i hi => by omega⟩
        | succ m ih =>
          intro hm
          obtain ⟨l, hl, hall⟩ := ih (by omega)
          obtain ⟨x, hx⟩ := each m (by omega)
          refine ⟨l ++ [x], by simp [hl], fun i hi y hy => ?_⟩
          by_cases him : i < m
          · rw [List.getElem?_append_left (by omega)] at hy
            exact hall i him y hy
          · have : i = m := by omega
            subst this
            rw [List.getElem?_append_right (by omega), hl] at hy
            simp at hy
            subst hy
            exact hx
      exact this len (Nat.le_refl _)
    obtain ⟨l, rfl, hall⟩ := pick
    have hmax' : l.length ≤ 9223372036854775807 := Nat.le_trans hle hmax
    refine ⟨some ad, cap, l, rfl, ⟨rfl, hmax', fun _ => ⟨ad, rfl, fun j p hj => ?_⟩⟩, hle, fun x hx => ?_⟩
    · have hlt := (List.getElem?_eq_some_iff.1 hj).1
      exact ⟨_, rfl, k47_mk W p, (hall j hlt p hj).2⟩
    · obtain ⟨i, hi, rfl⟩ := List.getElem_of_mem hx
      exact (hall i hi _ (List.getElem?_eq_getElem hi)).1
end
end Go.Proofs.YtnjeliicnbfclaaDoor.R
