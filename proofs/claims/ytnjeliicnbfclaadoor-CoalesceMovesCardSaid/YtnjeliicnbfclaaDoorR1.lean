/- Arguments of layer 22's laws, opened: a Raw, and an array of three numbers. -/
import Derived.Test.YtnjeliicnbfclaaDoorR0
import Derived.ChangeArms
namespace Go.Proofs.YtnjeliicnbfclaaDoor.R
open Go.ChangeShapes Go.WideShapes Go.ChangeAt Go.RowKit
set_option linter.unusedVariables false

theorem list8 {α : Type} : ∀ l : List α, l.length = 8 → ∃ a b c d e f g h, l = [a, b, c, d, e, f, g, h]
  | [a, b, c, d, e, f, g, h], _ => ⟨a, b, c, d, e, f, g, h, rfl⟩
theorem list3 {α : Type} : ∀ l : List α, l.length = 3 → ∃ a b c, l = [a, b, c]
  | [a, b, c], _ => ⟨a, b, c, rfl⟩
theorem cells27 : Tryd.prog.cellsOf 27 = 8 := by kernel_rfl
theorem cells51 : Tryd.prog.cellsOf 51 = 3 := by kernel_rfl
theorem cells4 : Tryd.prog.cellsOf 4 = 1 := by kernel_rfl
theorem cells24 : Tryd.prog.cellsOf 24 = 1 := by kernel_rfl
theorem cells21 : Tryd.prog.cellsOf 21 = 1 := by kernel_rfl
theorem cells25 : Tryd.prog.cellsOf 25 = 1 := by kernel_rfl
theorem cells2 : Tryd.prog.cellsOf 2 = 1 := by kernel_rfl

structure IsRaw (v : Value) (b0 : Bool) (n1 n2 n3 n4 n5 n6 : Int) (b7 : Bool) : Prop where
  is : v = .agg #[.bool b0, .int .i16 n1, .int .i16 n2, .int .i16 n3, .int .i32 n4, .int .u16 n5, .int .u16 n6, .bool b7]
  w1 : (Lit.int .i16 n1).wf = true
  w2 : (Lit.int .i16 n2).wf = true
  w3 : (Lit.int .i16 n3).wf = true
  w4 : (Lit.int .i32 n4).wf = true
  w5 : (Lit.int .u16 n5).wf = true
  w6 : (Lit.int .u16 n6).wf = true

section
variable {H : Type} {enc : TypeId × Value → H} {W : World} {base b' : Nat} {sp : Nat → Bool} {held : Bool} {v : Value} {d : DataW H} {ps : List MemPlace}
set_option maxRecDepth 100000 in
theorem open_raw (hval : Value.okWide Tryd.prog W .any base 27 v) (hd : DataW.Trod enc Tryd.prog W b' sp held 27 v d ps) : ∃ b0 n1 n2 n3 n4 n5 n6 b7, IsRaw v b0 n1 n2 n3 n4 n5 n6 b7 := by
  obtain ⟨cs, rfl, hsz⟩ := okWide_struct Tryd.underlying27 hval
  obtain ⟨fuel, h⟩ := hd
  obtain ⟨xs, n, _, _, hl, hxl, hf⟩ := DataW.trod_struct Tryd.underlying27 h
  rw [cells27] at hsz
  obtain ⟨l⟩ := cs
  obtain ⟨c0, c1, c2, c3, c4, c5, c6, c7, rfl⟩ := list8 l (by simpa using hsz)
  obtain ⟨x0, x1, x2, x3, x4, x5, x6, x7, rfl⟩ := list8 xs (by simpa using hxl)
  have g0 := hf 0 { name := "Any", type := 4, offset := 0, embedded := false, tag := "", pkgPath := "", byteOffset := 0 } rfl
  have g1 := hf 1 { name := "Item", type := 24, offset := 1, embedded := false, tag := "", pkgPath := "", byteOffset := 2 } rfl
  have g2 := hf 2 { name := "Local", type := 24, offset := 2, embedded := false, tag := "", pkgPath := "", byteOffset := 4 } rfl
  have g3 := hf 3 { name := "Group", type := 24, offset := 3, embedded := false, tag := "", pkgPath := "", byteOffset := 6 } rfl
  have g4 := hf 4 { name := "Lo", type := 21, offset := 4, embedded := false, tag := "", pkgPath := "", byteOffset := 8 } rfl
  have g5 := hf 5 { name := "Step", type := 25, offset := 5, embedded := false, tag := "", pkgPath := "", byteOffset := 12 } rfl
  have g6 := hf 6 { name := "N", type := 25, offset := 6, embedded := false, tag := "", pkgPath := "", byteOffset := 14 } rfl
  have g7 := hf 7 { name := "Great", type := 4, offset := 7, embedded := false, tag := "", pkgPath := "", byteOffset := 16 } rfl
  dsimp only at g0 g1 g2 g3 g4 g5 g6 g7
  rw [cells4] at g0 g7
  rw [cells24] at g1 g2 g3
  rw [cells21] at g4
  rw [cells25] at g5 g6
  obtain ⟨b0, e0, _⟩ := DataW.trod_bool Tryd.underlying4 g0
  obtain ⟨n1, e1, _, w1⟩ := DataW.trod_int Tryd.underlying24 g1
  obtain ⟨n2, e2, _, w2⟩ := DataW.trod_int Tryd.underlying24 g2
  obtain ⟨n3, e3, _, w3⟩ := DataW.trod_int Tryd.underlying24 g3
  obtain ⟨n4, e4, _, w4⟩ := DataW.trod_int Tryd.underlying21 g4
  obtain ⟨n5, e5, _, w5⟩ := DataW.trod_int Tryd.underlying25 g5
  obtain ⟨n6, e6, _, w6⟩ := DataW.trod_int Tryd.underlying25 g6
  obtain ⟨b7, e7, _⟩ := DataW.trod_bool Tryd.underlying4 g7
  simp [Value.cells] at e0 e1 e2 e3 e4 e5 e6 e7
  subst e0 e1 e2 e3 e4 e5 e6 e7
  exact ⟨b0, n1, n2, n3, n4, n5, n6, b7, ⟨rfl, w1, w2, w3, w4, w5, w6⟩⟩

set_option maxRecDepth 100000 in
theorem open_arr3 (hval : Value.okWide Tryd.prog W .any base 51 v) (hd : DataW.Trod enc Tryd.prog W b' sp held 51 v d ps) : ∃ n0 n1 n2, v = .agg #[.int .i64 n0, .int .i64 n1, .int .i64 n2] ∧ (Lit.int .i64 n0).wf = true ∧ (Lit.int .i64 n1).wf = true ∧ (Lit.int .i64 n2).wf = true := by
  obtain ⟨fuel, h⟩ := hd
  obtain ⟨xs, n, _, _, hl, hxl, hf⟩ := DataW.trod_array Tryd.underlying51 h
  rw [cells51] at hl
  have hv : ∃ cs, v = .agg cs := by
    simp only [Value.okWide, Tryd.underlying51] at hval
    obtain ⟨cs, h1, _⟩ := hval
    exact ⟨cs, h1⟩
  obtain ⟨⟨l⟩, rfl⟩ := hv
  obtain ⟨c0, c1, c2, rfl⟩ := list3 l (by simpa [Value.cells] using hl)
  obtain ⟨x0, x1, x2, rfl⟩ := list3 xs hxl
  have g0 := hf 0 (by omega)
  have g1 := hf 1 (by omega)
  have g2 := hf 2 (by omega)
  rw [cells2] at g0 g1 g2
  obtain ⟨n0, e0, _, w0⟩ := DataW.trod_int Tryd.underlying2 g0
  obtain ⟨n1, e1, _, w1⟩ := DataW.trod_int Tryd.underlying2 g1
  obtain ⟨n2, e2, _, w2⟩ := DataW.trod_int Tryd.underlying2 g2
  simp [Value.cells] at e0 e1 e2
  subst e0 e1 e2
  exact ⟨n0, n1, n2, rfl, w0, w1, w2⟩
end
end Go.Proofs.YtnjeliicnbfclaaDoor.R
