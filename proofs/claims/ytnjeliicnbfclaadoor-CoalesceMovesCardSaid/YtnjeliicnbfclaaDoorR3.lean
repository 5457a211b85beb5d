/- A list of triples of bytes as an argument, opened. -/
import Derived.Test.YtnjeliicnbfclaaDoorR1
import Derived.Test.YtnjeliicnbfclaaDoorPx0
namespace Go.Proofs.YtnjeliicnbfclaaDoor.R
open Go.ChangeShapes Go.WideShapes Go.ChangeAt Go.RowKit Go.Proofs.YtnjeliicnbfclaaDoorW Go.Proofs.YtnjeliicnbfclaaDoorW.PrintWords Go.Proofs.YtnjeliicnbfclaaDoor.P
set_option linter.unusedVariables false

theorem cells49 : Tryd.prog.cellsOf 49 = 3 := by kernel_rfl

def wfT (x : S49) : Prop := (Lit.int .u8 x.f0).wf = true ∧ (Lit.int .u8 x.f1).wf = true ∧ (Lit.int .u8 x.f2).wf = true
section
variable {H : Type} {enc : TypeId × Value → H} {W : World} {base b' : Nat} {sp : Nat → Bool} {held : Bool} {v : Value} {d : DataW H} {ps : List MemPlace}
set_option maxRecDepth 100000 in
theorem open_triple {n : Nat} {cs : List Value} {y : DataW H × List MemPlace} (h : DataW.trod enc Tryd.prog W b' sp held n 49 cs = some y) :
    ∃ x : S49, cs = [.int .u8 x.f0, .int .u8 x.f1, .int .u8 x.f2] ∧ wfT x := by
  obtain ⟨xs, n, _, _, hl, hxl, hf⟩ := DataW.trod_array Tryd.underlying49 h
  rw [cells49] at hl
  obtain ⟨c0, c1, c2, rfl⟩ := list3 cs hl
  obtain ⟨x0, x1, x2, rfl⟩ := list3 xs (by simpa using hxl)
  have g0 := hf 0 (by omega)
  have g1 := hf 1 (by omega)
  have g2 := hf 2 (by omega)
  have cells5' : Tryd.prog.cellsOf 5 = 1 := by kernel_rfl
  rw [cells5'] at g0 g1 g2
  obtain ⟨n0, e0, _, w0⟩ := DataW.trod_int Tryd.underlying5 g0
  obtain ⟨n1, e1, _, w1⟩ := DataW.trod_int Tryd.underlying5 g1
  obtain ⟨n2, e2, _, w2⟩ := DataW.trod_int Tryd.underlying5 g2
  simp at e0 e1 e2
  subst e0 e1 e2
  exact ⟨⟨n0, n1, n2⟩, rfl, w0, w1, w2⟩

theorem open_triples (hval : Value.okWide Tryd.prog W .any base 44 v) (hd : DataW.Trod enc Tryd.prog W b' sp held 44 v d ps) :
    ∃ (A : Option Addr) (c : Nat) (l : List S49), v = .slice A l.length c ∧ Kd.C k49 W A l.length l ∧ l.length ≤ c ∧ ∀ x ∈ l, wfT x := by
  obtain ⟨a, len, cap, rfl⟩ := okWide_slice Tryd.underlying44 hval
  obtain ⟨fuel, h⟩ := hd
  rcases DataW.trod_slice Tryd.underlying44 h with ⟨hcs, _⟩ | ⟨ad, l, c, elems, rest, n, _, hcs, _, _, hle, hmax, hel, hcells, _, _⟩
  · simp [Value.cells] at hcs
    obtain ⟨rfl, rfl, rfl⟩ := hcs
    exact ⟨none, 0, [], rfl, ⟨rfl, by simp, fun h0 => absurd h0 (by simp)⟩, Nat.le_refl _, fun x hx => by cases hx⟩
  · simp [Value.cells] at hcs
    obtain ⟨rfl, rfl, rfl⟩ := hcs
    rw [cells49] at hcells
    have each : ∀ i, i < len → ∃ x : S49, wfT x ∧ ∀ j u, ([.int .u8 x.f0, .int .u8 x.f1, .int .u8 x.f2] : List Value)[j]? = some u → W.cell? (ad.add (i * 3 + j)) = some u := by
      intro i hi
      have h1 := hcells i hi
      rw [List.getElem?_eq_getElem (by omega)] at h1
      obtain ⟨cs, hc, ht⟩ := Option.bind_eq_some_iff.1 h1
      obtain ⟨x, rfl, hx⟩ := open_triple ht
      obtain ⟨_, hlen, hcell⟩ := World.cells?_some hc
      refine ⟨x, hx, fun j u hj => ?_⟩
      have hj3 : j < 3 := by
        have := (List.getElem?_eq_some_iff.1 hj).1
        simpa using this
      have := hcell j hj3
      rw [hj] at this
      have ha : (ad.add (i * 3)).add j = ad.add (i * 3 + j) := Addr.add_add _ _ _
      rw [ha] at this
      exact this
    have pick : ∃ l : List S49, l.length = len ∧ ∀ i, i < len → ∀ x, l[i]? = some x → wfT x ∧ ∀ j u, ([.int .u8 x.f0, .int .u8 x.f1, .int .u8 x.f2] : List Value)[j]? = some u → W.cell? (ad.add (i * 3 + j)) = some u := by
      clear hcells hel
      have : ∀ m, m ≤ len → ∃ l : List S49, l.length = m ∧ ∀ i, i < m → ∀ x, l[i]? = some x → wfT x ∧ ∀ j u, ([.int .u8 x.f0, .int .u8 x.f1, .int .u8 x.f2] : List Value)[j]? = some u → W.cell? (ad.add (i * 3 + j)) = some u := by
        intro m
        induction m with
        | zero => exact fun _ => ⟨[], rfl, fun i hi => by omega⟩
        | succ m ih =>
          intro hm
          obtain ⟨l, hl, hall⟩ := ih (by omega)
          obtain ⟨x, hx⟩ := each m (by omega)
          refine ⟨l ++ [x], by simp [hl], fun i hi y hy => ?_⟩
          by_cases him : i < m
          · rw [List.getElem?_append_left (by omega)] at hy
            exact hall i him y hy
          · have : i = m := by omega
            subst this
            rw [List.getElem?_append_right (by omega), hl] at hy
            simp at hy
            subst hy
            exact hx
      exact this len (Nat.le_refl _)
    obtain ⟨l, rfl, hall⟩ := pick
    have hmax' : l.length ≤ 9223372036854775807 := Nat.le_trans hle hmax
    refine ⟨some ad, cap, l, rfl, ⟨rfl, hmax', fun _ => ⟨ad, rfl, fun j p hj => ?_⟩⟩, hle, fun x hx => ?_⟩
    · have hlt := (List.getElem?_eq_some_iff.1 hj).1
      exact ⟨_, rfl, k49_mk W p, (hall j hlt p hj).2⟩
    · obtain ⟨i, hi, rfl⟩ := List.getElem_of_mem hx
      exact (hall i hi _ (List.getElem?_eq_getElem hi)).1
end
end Go.Proofs.YtnjeliicnbfclaaDoor.R
