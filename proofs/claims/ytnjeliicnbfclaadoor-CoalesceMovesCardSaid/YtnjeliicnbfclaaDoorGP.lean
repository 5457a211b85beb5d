/- Plain lists for layer 22: an increasing list without repeats, and the segments of words. -/
import Derived.Lib.SlKeysI
import Derived.Maps.Views
namespace Go.Proofs.YtnjeliicnbfclaaDoor.P
open Go Go.Maps
set_option linter.unusedVariables false
set_option linter.unusedSimpArgs false

/-- An increasing list with one more number, once. -/
def ins : List Int → Int → List Int
  | [], n => [n]
  | x :: l, n => if n < x then n :: x :: l else if n = x then x :: l else x :: ins l n

/-- The segments of words. -/
def segs (xs : List Int) : List Int := xs.foldl (fun l a => ins l (a / 16)) []

abbrev Inc (l : List Int) : Prop := l.Pairwise (· < ·)

theorem mem_ins (n y : Int) : ∀ l : List Int, y ∈ ins l n ↔ y = n ∨ y ∈ l
  | [] => by simp [ins]
  | x :: l => by
    have ih := mem_ins n y l
    unfold ins
    split
    · simp
    · split
      · rename_i h
        subst h
        simp
      · simp only [List.mem_cons, ih]
        constructor
        · rintro (h | h | h) <;> simp [h]
        · rintro (h | h | h) <;> simp [h]

theorem inc_ins (n : Int) : ∀ l : List Int, Inc l → Inc (ins l n)
  | [], _ => by simp [ins, Inc]
  | x :: l, h => by
    obtain ⟨h1, h2⟩ := List.pairwise_cons.1 h
    have ih := inc_ins n l h2
    unfold ins
    split
    · rename_i hlt
      refine List.pairwise_cons.2 ⟨fun y hy => ?_, h⟩
      rcases List.mem_cons.1 hy with rfl | hy
      · exact hlt
      · exact Int.lt_trans hlt (h1 y hy)
    · split
      · exact h
      · rename_i hn hne
        refine List.pairwise_cons.2 ⟨fun y hy => ?_, ih⟩
        rcases (mem_ins n y l).1 hy with rfl | hy
        · omega
        · exact h1 y hy

theorem foldl_ins_inc (f : Int → Int) : ∀ (xs l : List Int), Inc l → Inc (xs.foldl (fun l a => ins l (f a)) l)
  | [], _, h => h
  | x :: xs, l, h => foldl_ins_inc f xs _ (inc_ins _ _ h)

theorem mem_foldl_ins (f : Int → Int) (y : Int) : ∀ (xs l : List Int), y ∈ xs.foldl (fun l a => ins l (f a)) l ↔ y ∈ l ∨ ∃ x ∈ xs, f x = y
  | [], l => by simp
  | x :: xs, l => by
    rw [List.foldl_cons, mem_foldl_ins f y xs, mem_ins]
    constructor
    · rintro ((h | h) | ⟨z, hz, h⟩)
      · exact .inr ⟨x, by simp, h.symm⟩
      · exact .inl h
      · exact .inr ⟨z, by simp [hz], h⟩
    · rintro (h | ⟨z, hz, h⟩)
      · exact .inl (.inr h)
      · rcases List.mem_cons.1 hz with rfl | hz
        · exact .inl (.inl h.symm)
        · exact .inr ⟨z, hz, h⟩

theorem inc_segs (xs : List Int) : Inc (segs xs) := foldl_ins_inc _ xs [] List.Pairwise.nil
theorem mem_segs (y : Int) (xs : List Int) : y ∈ segs xs ↔ ∃ x ∈ xs, x / 16 = y := by
  unfold segs
  rw [mem_foldl_ins (fun a => a / 16)]
  simp

theorem inc_nodup {l : List Int} (h : Inc l) : l.Nodup := h.imp (fun {a b} hab => by omega)

theorem inc_ext {l l' : List Int} (h : Inc l) (h' : Inc l') (hm : ∀ x, x ∈ l ↔ x ∈ l') : l = l' :=
  List.Perm.eq_of_pairwise (le := fun a b => a < b) (fun a b _ _ h1 h2 => by omega) h h' ((List.perm_ext_iff_of_nodup (inc_nodup h) (inc_nodup h')).2 hm)

theorem inc_sorted {l : List Int} (h : Inc l) : l.mergeSort leI = l :=
  List.mergeSort_of_pairwise (h.imp (fun {a b} hab => by simp [leI]; omega))

theorem length_ins_le (n : Int) : ∀ l : List Int, (ins l n).length ≤ l.length + 1
  | [] => by simp [ins]
  | x :: l => by
    have := length_ins_le n l
    unfold ins
    split
    · simp
    · split
      · simp
      · simp; omega

theorem length_foldl_ins (f : Int → Int) : ∀ (xs l : List Int), (xs.foldl (fun l a => ins l (f a)) l).length ≤ l.length + xs.length
  | [], l => by simp
  | x :: xs, l => by
    have h1 := length_foldl_ins f xs (ins l (f x))
    have h2 := length_ins_le (f x) l
    rw [List.foldl_cons]
    simp
    omega

theorem length_segs (xs : List Int) : (segs xs).length ≤ xs.length := by
  have := length_foldl_ins (fun a => a / 16) xs []
  simpa [segs] using this

/-! ### the map's datum behind k rounds -/
def keysS (xs : List Int) : List Lit := xs.map fun x => .int .i64 (x / 16)
def setS {H : Type} (xs : List Int) : DataW H := setOf (.agg []) (keysS xs)
theorem setS_nil {H : Type} : setS (H := H) [] = .map [] := by simp [setS, keysS, setOf]
theorem setS_snoc {H : Type} (xs : List Int) (x : Int) : setS (H := H) (xs ++ [x]) = (setS xs).put (.int .i64 (x / 16)) (.agg []) := by
  unfold setS keysS
  rw [List.map_append]
  exact setOf_snoc _ _ _

theorem isKey_int (k : IntKind) (x : Int) : WideAt.IsKeyLit (.int k x) := by simp [WideAt.IsKeyLit]

theorem perm_segs {H : Type} {xs ss : List Int} (h : ss.Perm (intKeys (setS (H := H) xs))) : ss.mergeSort leI = segs xs := by
  have hk : ∀ l ∈ keysS xs, WideAt.IsKeyLit l := fun l hl => by
    obtain ⟨x, _, rfl⟩ := List.mem_map.1 hl
    exact isKey_int _ _
  obtain ⟨es, he, hp⟩ := tidy_setOf (H := H) (.agg []) (keysS xs) hk
  have hlits : ∀ p ∈ es, ∃ x, p.1 = Lit.int .i64 x := fun p hp' => by
    have hh : has (setOf (H := H) (.agg []) (keysS xs)) p.1 = true := by
      rw [he, has_eq, List.any_eq_true]
      refine ⟨p, hp', WideAt.sameKey_self ?_⟩
      have h2 : ∀ (acc : List Lit) (m : DataW H), (∀ l ∈ acc, WideAt.IsKeyLit l) → (∀ es, m = .map es → ∀ q ∈ es, WideAt.IsKeyLit q.1) → ∀ es, acc.foldl (fun m x => m.put x (.agg [])) m = .map es → ∀ q ∈ es, WideAt.IsKeyLit q.1 := by
        intro acc
        induction acc with
        | nil => intro m _ hm es he q hq; exact hm es he q hq
        | cons l acc ih =>
          intro m ha hm
          refine ih _ (fun z hz => ha z (by simp [hz])) ?_
          intro es he q hq
          cases m with
          | map es0 =>
            have : es = DataW.insert (l, .agg []) (es0.filter fun p => !p.1.sameKey l) := by
              have := he
              simp only [DataW.put, DataW.map.injEq] at this
              exact this.symm
            subst this
            rcases List.mem_cons.1 ((Go.WideShapes.insert_perm (l, (DataW.agg [] : DataW H)) _).mem_iff.1 hq) with rfl | hq
            · exact ha l (by simp)
            · exact hm es0 rfl q (List.mem_filter.1 hq).1
          | _ => simp [DataW.put] at he
      exact h2 (keysS xs) (.map []) hk (fun es he q hq => by cases he; cases hq) es he p hp'
    rw [has_setOf _ _ _ hk, List.any_eq_true] at hh
    obtain ⟨l, hl, hs⟩ := hh
    obtain ⟨x, _, rfl⟩ := List.mem_map.1 hl
    by_cases e : p.1 = Lit.int .i64 (x / 16)
    · exact ⟨_, e⟩
    · rw [sameKey_ne (fun e' => e e'.symm)] at hs
      cases hs
  have hperm : (segs xs).Perm (intKeys (.map es : DataW H)) := by
    refine perm_intKeys hp hlits (inc_nodup (inc_segs xs)) fun y => ?_
    rw [← he, has_setOf _ _ _ hk, mem_segs, List.any_eq_true]
    constructor
    · rintro ⟨x, hx, rfl⟩
      exact ⟨_, List.mem_map.2 ⟨x, hx, rfl⟩, WideAt.sameKey_self (isKey_int _ _)⟩
    · rintro ⟨l, hl, hs⟩
      obtain ⟨x, hx, rfl⟩ := List.mem_map.1 hl
      exact ⟨x, hx, by simpa [Lit.sameKey] using hs⟩
  have h' : ss.Perm (intKeys (.map es : DataW H)) := by
    have : setS (H := H) xs = .map es := he
    rwa [this] at h
  rw [mergeSort_of_perm_i (h'.trans hperm.symm), inc_sorted (inc_segs xs)]

theorem size_setS {H : Type} (xs : List Int) : Maps.size (setS (H := H) xs) ≤ xs.length := by
  have hk : ∀ l ∈ keysS xs, WideAt.IsKeyLit l := fun l hl => by
    obtain ⟨x, _, rfl⟩ := List.mem_map.1 hl
    exact isKey_int _ _
  unfold setS
  rw [size_setOf _ _ hk]
  have : ∀ (l acc : List Lit), (l.foldl addKey acc).length ≤ acc.length + l.length := by
    intro l
    induction l with
    | nil => intro acc; simp
    | cons x l ih =>
      intro acc
      rw [List.foldl_cons]
      have h1 := ih (addKey acc x)
      have h2 : (addKey acc x).length ≤ acc.length + 1 := by
        unfold addKey
        split <;> simp
      simp
      omega
  have h := this (keysS xs) []
  simpa [keysS] using h

end Go.Proofs.YtnjeliicnbfclaaDoor.P
