/- A literal whose elements are rows of the call's own that lie apart: told from the walk's own base. -/
import Derived.Test.YtnjeliicnbfclaaDoorPx0
namespace Go.Proofs.YtnjeliicnbfclaaDoorW.PrintWords
open Go.RowKit
set_option linter.unusedVariables false
namespace Kd
section
variable {α : Type} {P : Program} {ops : Array Oper} {Q : Exit → Act → World → Prop} {rest : List Oper} {o : Oper} {a : Act}
theorem S_rows (d : Kd α) {w0 W : World} (base e : Nat) (hgd : o.guard = none) {N : Tmp} (_hd : o.dst = some N) {xs : List α} {inner : List Value} (okj : Nat → Nat → Prop)
    (hrun : (execOp a.eval o).run P W = .ok (.value (.slice (some ⟨W.heap.size, 0, none⟩) xs.length xs.length)) (W.alloc (.cells inner.toArray e)))
    (hl : inner.length = xs.length * d.sz) (hrep : ∀ j x, xs[j]? = some x → d.M W base (okj j) x ((inner.drop (j * d.sz)).take d.sz)) (hap : ∀ i j k, okj i k → okj j k → i = j) (hbase : base ≤ W.heap.size) (hm : xs.length ≤ 9223372036854775807)
    (h : ∀ v1 w1, S d e w1 base (fun _ => True) v1 xs → Below W.heap.size W w1 → wpList P ops Q rest (a.put o.dst v1) w1) : wpList P ops Q (o :: rest) a W := by
  obtain ⟨f, hr⟩ := reps_tag (d := d) (w := W) (base := base) (ok := fun _ => True) okj hap (fun _ _ _ => trivial) hl hrep
  refine event_run hgd hrun (h _ _ ⟨f, fun k hk => trivial, inner, ?_, ?_⟩ (below_alloc (Below.refl _ _) _))
  · have h2 := World.ownsRow_lit (base := base) (e := e) (size := d.sz) W inner.toArray xs.length hbase (by simpa [maxLen] using hm) (by simpa using hl)
    rw [List.length_zipIdx]
    show (W.alloc (Obj.cells inner.toArray e)).ownsRow base e d.sz (Value.slice (some { block := W.heap.size, off := 0 }) xs.length xs.length) xs.length inner
    simpa using h2
  · refine hr.imp_ (fun p c hp => (tag f d).M_mono (fun k hk => ⟨trivial, fun he => ?_⟩) (M_below ((tag f d).M_bound hp) (below_alloc (Below.refl _ _) _)))
    have h3 : k = W.heap.size := by simpa [Value.ownBlock] using he
    have := hk.2.2.1
    omega
end
end Kd
end Go.Proofs.YtnjeliicnbfclaaDoorW.PrintWords
