/- Plain laws of segments: how many segments a list of words has. -/
import Derived.Test.YtnjeliicnbfclaaDoorG3c
namespace Go.Proofs.YtnjeliicnbfclaaDoor.P
set_option linter.unusedVariables false
set_option linter.unusedSimpArgs false

theorem segs_ext {xs ys : List Int} (h : ∀ y, (∃ x ∈ xs, x / 16 = y) ↔ (∃ x ∈ ys, x / 16 = y)) : segs xs = segs ys :=
  inc_ext (inc_segs xs) (inc_segs ys) fun y => by rw [mem_segs, mem_segs]; exact h y
theorem segs_mem_ext {xs ys : List Int} (h : ∀ y, y ∈ xs ↔ y ∈ ys) : segs xs = segs ys := segs_ext fun y => by simp only [h]

theorem segs_shift (q : Int) (xs : List Int) : segs (xs.map (· + 16 * q)) = (segs xs).map (· + q) := by
  refine inc_ext (inc_segs _) ?_ fun y => ?_
  · exact List.pairwise_map.2 ((inc_segs xs).imp (fun {a b} hab => by omega))
  · rw [mem_segs, List.mem_map]
    constructor
    · rintro ⟨x, hx, rfl⟩
      obtain ⟨z, hz, rfl⟩ := List.mem_map.1 hx
      exact ⟨z / 16, (mem_segs _ _).2 ⟨z, hz, rfl⟩, by omega⟩
    · rintro ⟨x, hx, rfl⟩
      obtain ⟨z, hz, rfl⟩ := (mem_segs _ _).1 hx
      exact ⟨z + 16 * q, List.mem_map.2 ⟨z, hz, rfl⟩, by omega⟩

/-- An increasing list within bounds is short. -/
theorem inc_short : ∀ (l : List Int) (p q : Int), Inc l → (∀ x ∈ l, p ≤ x ∧ x ≤ q) → p ≤ q + 1 → (l.length : Int) ≤ q - p + 1
  | [], p, q, _, _, h => by simp; omega
  | x :: l, p, q, hi, hb, h => by
    obtain ⟨h1, h2⟩ := List.pairwise_cons.1 hi
    have hx := hb x (by simp)
    have := inc_short l (x + 1) q h2 (fun y hy => ⟨by have := h1 y hy; omega, (hb y (by simp [hy])).2⟩) (by omega)
    rw [List.length_cons]
    omega

/-- Words within a width touch few segments. -/
theorem segs_width {xs : List Int} {m wide : Int} (h : ∀ x ∈ xs, m ≤ x ∧ x ≤ m + wide) (hw : 0 ≤ wide + 1) : ((segs xs).length : Int) ≤ (m + wide) / 16 - m / 16 + 1 := by
  refine inc_short _ _ _ (inc_segs xs) (fun y hy => ?_) (by omega)
  obtain ⟨x, hx, rfl⟩ := (mem_segs _ _).1 hy
  have := h x hx
  omega

/-- A subset has no more segments. -/
theorem nodup_sub : ∀ (l l' : List Int), l.Nodup → (∀ x ∈ l, x ∈ l') → l.length ≤ l'.length
  | [], l', _, _ => by simp
  | x :: l, l', h, hm => by
    obtain ⟨h1, h2⟩ := List.nodup_cons.1 h
    have hx := hm x (by simp)
    have := nodup_sub l (l'.erase x) h2 fun y hy => (List.mem_erase_of_ne (by rintro rfl; exact h1 hy)).2 (hm y (by simp [hy]))
    rw [List.length_erase_of_mem hx] at this
    have := List.length_pos_of_mem hx
    rw [List.length_cons]
    omega
theorem inc_sub : ∀ (l l' : List Int), Inc l → Inc l' → (∀ x ∈ l, x ∈ l') → l.length ≤ l'.length := fun l l' h h' hm =>
  nodup_sub l l' (inc_nodup h) hm
theorem segs_sub {xs ys : List Int} (h : ∀ x ∈ xs, x ∈ ys) : (segs xs).length ≤ (segs ys).length :=
  inc_sub _ _ (inc_segs xs) (inc_segs ys) fun y hy => by
    obtain ⟨x, hx, rfl⟩ := (mem_segs _ _).1 hy
    exact (mem_segs _ _).2 ⟨x, h x hx, rfl⟩

/-! ### lanes -/
theorem laneWords_mem {c S y : Int} {l : List Nat} : y ∈ laneWords c S l ↔ ∃ i ∈ l, y = c + S * (i : Int) := by
  unfold laneWords
  rw [List.mem_map]
  constructor
  · rintro ⟨i, hi, rfl⟩; exact ⟨i, hi, rfl⟩
  · rintro ⟨i, hi, rfl⟩; exact ⟨i, hi, rfl⟩
theorem laneWords_sub {c S : Int} {l l' : List Nat} (h : ∀ i ∈ l, i ∈ l') : ∀ x ∈ laneWords c S l, x ∈ laneWords c S l' := fun x hx => by
  obtain ⟨i, hi, rfl⟩ := laneWords_mem.1 hx
  exact laneWords_mem.2 ⟨i, h i hi, rfl⟩
theorem laneWords_length (c S : Int) (l : List Nat) : (laneWords c S l).length = l.length := by simp [laneWords]
theorem lane_shift (c S : Int) (l : List Nat) (q : Int) : (segs (laneWords (c + 16 * q) S l)).length = (segs (laneWords c S l)).length := by
  have : laneWords (c + 16 * q) S l = (laneWords c S l).map (· + 16 * q) := by
    unfold laneWords
    rw [List.map_map]
    apply List.map_congr_left
    intro i _
    simp only [Function.comp]
    omega
  rw [this, segs_shift, List.length_map]

theorem mostS_le_length (S : Int) (l : List Nat) : ∀ k, mostS S l k ≤ l.length
  | 0 => by simp [mostS]
  | k + 1 => by
    have h1 := mostS_le_length S l k
    have h2 := length_segs (laneWords (k : Int) S l)
    rw [laneWords_length] at h2
    rw [mostS]
    omega
theorem mostS_sub (S : Int) {l l' : List Nat} (h : ∀ i ∈ l, i ∈ l') : ∀ k, mostS S l k ≤ mostS S l' k
  | 0 => by simp [mostS]
  | k + 1 => by
    have h1 := mostS_sub S h k
    have h2 := segs_sub (laneWords_sub (c := (k : Int)) (S := S) h)
    rw [mostS, mostS]
    omega
theorem le_mostS (S : Int) (l : List Nat) : ∀ k c : Nat, c < k → (segs (laneWords (c : Int) S l)).length ≤ mostS S l k
  | 0, c, h => by omega
  | k + 1, c, h => by
    rw [mostS]
    by_cases hc : c = k
    · subst hc; omega
    · have := le_mostS S l k c (by omega)
      omega
theorem segs_le_most (S : Int) (l : List Nat) (c : Int) : (segs (laneWords c S l)).length ≤ mostS S l 16 := by
  have h := lane_shift (c % 16) S l (c / 16)
  rw [show c % 16 + 16 * (c / 16) = c by omega] at h
  rw [h]
  have h2 := le_mostS S l 16 (c % 16).toNat (by omega)
  rwa [show (((c % 16).toNat : Nat) : Int) = c % 16 by omega] at h2

/-- Steps of at least 16: each lane has a segment of its own. -/
theorem segs_far (xs : List Int) (h : xs.Pairwise (fun a b => a / 16 ≠ b / 16)) : (segs xs).length = xs.length := by
  have hn : (xs.map (· / 16)).Nodup := List.pairwise_map.2 h
  have hs : ∀ y ∈ xs.map (· / 16), y ∈ segs xs := fun y hy => by
    obtain ⟨x, hx, rfl⟩ := List.mem_map.1 hy
    exact (mem_segs _ _).2 ⟨x, hx, rfl⟩
  have h1 := nodup_sub _ _ hn hs
  have h2 := length_segs xs
  simp at h1
  omega
theorem mostS_far (S : Int) (hS : S ≤ -16 ∨ 16 ≤ S) (l : List Nat) (hl : l.Pairwise (· < ·)) : mostS S l 16 = l.length := by
  have h : (segs (laneWords ((0 : Nat) : Int) S l)).length = l.length := by
    rw [segs_far, laneWords_length]
    unfold laneWords
    refine List.pairwise_map.2 (hl.imp (fun {a b} hab => ?_))
    have hd : ∃ d : Nat, (b : Int) = a + 1 + d := ⟨b - a - 1, by omega⟩
    obtain ⟨d, hd⟩ := hd
    have e : S * (b : Int) = S * a + S + S * d := by rw [hd, Int.mul_add, Int.mul_add, Int.mul_one]
    rcases hS with hS | hS
    · have : S * (d : Int) ≤ 0 := Int.mul_nonpos_of_nonpos_of_nonneg (by omega) (by omega)
      omega
    · have : 0 ≤ S * (d : Int) := Int.mul_nonneg (by omega) (by omega)
      omega
  have h1 := le_mostS S l 16 0 (by omega)
  have h2 := mostS_le_length S l 16
  omega
theorem mostS_zero (l : List Nat) (h : l ≠ []) : mostS 0 l 16 = 1 := by
  have h1 : ∀ c : Int, (segs (laneWords c 0 l)).length = 1 := fun c => by
    have : segs (laneWords c 0 l) = [c / 16] := by
      refine inc_ext (inc_segs _) (by simp [Inc]) fun y => ?_
      rw [mem_segs, List.mem_singleton]
      constructor
      · rintro ⟨x, hx, rfl⟩
        obtain ⟨i, _, rfl⟩ := laneWords_mem.1 hx
        simp
      · rintro rfl
        obtain ⟨i, l', rfl⟩ := List.exists_cons_of_ne_nil h
        exact ⟨_, laneWords_mem.2 ⟨i, by simp, rfl⟩, by simp⟩
    rw [this]
    rfl
  have h2 : ∀ k, mostS 0 l (k + 1) = 1 := by
    intro k
    induction k with
    | zero => rw [mostS, h1]; rfl
    | succ k ih => rw [mostS, ih, h1]; rfl
  exact h2 15

/-! ### all lanes, steps 1 and -1 -/
set_option maxRecDepth 100000 in
theorem mostS_one : ∀ L : Nat, L < 65 → (mostS 1 (onesAt 64 0 (2 ^ L - 1)) 16, mostS (-1) (onesAt 64 0 (2 ^ L - 1)) 16) = if L = 0 then (0, 0) else ((L + 30) / 16, (L + 30) / 16) := by
  decide +kernel

/-! ### the wide bound -/
theorem onesAt_head (s : Nat) (h0 : s ≠ 0) (h : s < 2 ^ 64) : ∀ i ∈ onesAt 64 0 s, Lib.ctz 64 s ≤ i := by
  intro i hi
  have e := onesAt_step 64 0 s h0 h
  have hinc := onesAt_inc 64 0 s
  rw [e] at hi hinc
  have hc : Lib.ctz 64 s = Lib.ctzFrom 64 s := by
    unfold Lib.ctz
    rw [if_neg h0]
  rcases List.mem_cons.1 hi with rfl | hi
  · omega
  · have := (List.pairwise_cons.1 hinc).1 i hi
    omega
theorem onesAt_end (s : Nat) (h0 : s ≠ 0) (h : s < 2 ^ 64) : ∀ i ∈ onesAt 64 0 s, i ≤ Lib.bitLen s - 1 := by
  intro i hi
  have e := onesAt_last 64 0 s h0 h
  have := le_last _ i _ (onesAt_inc 64 0 s) hi e
  have hb : Lib.bitLenAux 64 s = Lib.bitLen s := rfl
  omega
end Go.Proofs.YtnjeliicnbfclaaDoor.P
