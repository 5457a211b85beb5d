/- Plain bits for layer 22: the places of the ones of a number; how many there are, by sums over fields of bits. -/
import Derived.Lib.TrailingZeros
import Derived.Lib.BitFns
namespace Go.Proofs.YtnjeliicnbfclaaDoor.P
open Go
set_option linter.unusedVariables false
set_option linter.unusedSimpArgs false

/-- The places, from b on, of the ones among f bits of x. -/
def onesAt : Nat → Nat → Nat → List Nat
  | 0, _, _ => []
  | f + 1, b, x => if x % 2 = 1 then b :: onesAt f (b + 1) (x / 2) else onesAt f (b + 1) (x / 2)

theorem onesAt_zero : ∀ f b, onesAt f b 0 = []
  | 0, _ => rfl
  | f + 1, b => by simp [onesAt, onesAt_zero f]

theorem and_double (a b : Nat) : (2 * a + 1) &&& (2 * b) = 2 * (a &&& b) := by
  apply Nat.eq_of_testBit_eq
  intro i
  cases i with
  | zero => simp [Nat.testBit_zero, Nat.and_mod_two_pow (n := 1)]
  | succ i =>
    rw [Nat.testBit_and, Nat.testBit_succ, Nat.testBit_succ, Nat.testBit_succ]
    rw [show (2 * a + 1) / 2 = a by omega, show 2 * b / 2 = b by omega, show 2 * (a &&& b) / 2 = (a &&& b) by omega, Nat.testBit_and]
theorem and_double' (a b : Nat) : (2 * a) &&& (2 * b + 1) = 2 * (a &&& b) := by rw [Nat.and_comm, and_double, Nat.and_comm]

theorem clear_odd (m : Nat) : (2 * m + 1) &&& (2 * m + 1 - 1) = 2 * m := by
  rw [show 2 * m + 1 - 1 = 2 * m by omega, and_double, Nat.and_self]
theorem clear_even (m : Nat) (h : m ≠ 0) : (2 * m) &&& (2 * m - 1) = 2 * (m &&& (m - 1)) := by
  rw [show 2 * m - 1 = 2 * (m - 1) + 1 by omega, and_double']

/-- The first place, and the places when its one is cleared. -/
theorem onesAt_step : ∀ (f b x : Nat), x ≠ 0 → x < 2 ^ f → onesAt f b x = (b + Lib.ctzFrom f x) :: onesAt f b (x &&& (x - 1))
  | 0, b, x, h0, h => by simp at h; omega
  | f + 1, b, x, h0, h => by
    by_cases ho : x % 2 = 1
    · obtain ⟨m, rfl⟩ : ∃ m, x = 2 * m + 1 := ⟨x / 2, by omega⟩
      rw [clear_odd]
      have e1 : (2 * m + 1) / 2 = m := by omega
      have e2 : 2 * m / 2 = m := by omega
      have e3 : 2 * m % 2 = 0 := by omega
      simp [onesAt, Lib.ctzFrom, ho, e1, e2, e3]
    · obtain ⟨m, rfl⟩ : ∃ m, x = 2 * m := ⟨x / 2, by omega⟩
      have hm : m ≠ 0 := by omega
      rw [clear_even m hm]
      have e1 : 2 * m / 2 = m := by omega
      have e2 : 2 * (m &&& (m - 1)) / 2 = (m &&& (m - 1)) := by omega
      have e3 : 2 * (m &&& (m - 1)) % 2 = 0 := by omega
      have ih := onesAt_step f (b + 1) m hm (by rw [Nat.pow_succ] at h; omega)
      simp only [onesAt, Lib.ctzFrom, ho, e1, e2, e3, if_false]
      rw [ih]
      simp
      omega

theorem and_pred_lt (x : Nat) (h : x ≠ 0) : x &&& (x - 1) < x := Nat.lt_of_le_of_lt Nat.and_le_right (by omega)

/-- The places are increasing, and lie from b on, below b + f. -/
theorem onesAt_mem : ∀ (f b x i : Nat), i ∈ onesAt f b x ↔ b ≤ i ∧ i < b + f ∧ x / 2 ^ (i - b) % 2 = 1
  | 0, b, x, i => by simp [onesAt]; omega
  | f + 1, b, x, i => by
    have ih := onesAt_mem f (b + 1) (x / 2) i
    have key : b < i → x / 2 ^ (i - b) = x / 2 / 2 ^ (i - (b + 1)) := fun h => by
      rw [Nat.div_div_eq_div_mul, ← Nat.pow_succ', show (i - (b + 1)).succ = i - b by omega]
    unfold onesAt
    split
    · rename_i ho
      rw [List.mem_cons, ih]
      constructor
      · rintro (rfl | ⟨h1, h2, h3⟩)
        · exact ⟨Nat.le_refl _, by omega, by simpa using ho⟩
        · exact ⟨by omega, by omega, by rw [key (by omega)]; exact h3⟩
      · rintro ⟨h1, h2, h3⟩
        by_cases e : i = b
        · exact .inl e
        · exact .inr ⟨by omega, by omega, by rw [← key (by omega)]; exact h3⟩
    · rename_i ho
      rw [ih]
      constructor
      · rintro ⟨h1, h2, h3⟩
        exact ⟨by omega, by omega, by rw [key (by omega)]; exact h3⟩
      · rintro ⟨h1, h2, h3⟩
        have : i ≠ b := by
          rintro rfl
          simp at h3
          exact ho h3
        exact ⟨by omega, by omega, by rw [← key (by omega)]; exact h3⟩

theorem onesAt_inc : ∀ (f b x : Nat), (onesAt f b x).Pairwise (· < ·)
  | 0, _, _ => by simp [onesAt]
  | f + 1, b, x => by
    have ih := onesAt_inc f (b + 1) (x / 2)
    unfold onesAt
    split
    · exact List.pairwise_cons.2 ⟨fun i hi => by have := (onesAt_mem f (b + 1) (x / 2) i).1 hi; omega, ih⟩
    · exact ih

theorem onesAt_length : ∀ (f b x : Nat), (onesAt f b x).length ≤ f
  | 0, _, _ => by simp [onesAt]
  | f + 1, b, x => by
    have ih := onesAt_length f (b + 1) (x / 2)
    unfold onesAt
    split
    · simp; omega
    · omega

theorem onesAt_ne : ∀ (f b x : Nat), x ≠ 0 → x < 2 ^ f → onesAt f b x ≠ [] := fun f b x h0 h => by rw [onesAt_step f b x h0 h]; simp

/-- The last place. -/
theorem onesAt_last : ∀ (f b x : Nat), x ≠ 0 → x < 2 ^ f → (onesAt f b x).getLast? = some (b + Lib.bitLenAux f x - 1)
  | 0, b, x, h0, h => by simp at h; omega
  | f + 1, b, x, h0, h => by
    by_cases hx : x / 2 = 0
    · have : x = 1 := by omega
      subst this
      have e1 : (1 : Nat) / 2 = 0 := by omega
      have e2 : (1 : Nat) % 2 = 1 := by omega
      have e3 : Lib.bitLenAux f 0 = 0 := by cases f <;> simp [Lib.bitLenAux]
      simp [onesAt, Lib.bitLenAux, e1, e2, e3, onesAt_zero]
    · have ih := onesAt_last f (b + 1) (x / 2) hx (by rw [Nat.pow_succ] at h; omega)
      have e0 : Lib.bitLenAux (f + 1) x = 1 + Lib.bitLenAux f (x / 2) := by simp [Lib.bitLenAux, h0]
      have hp : 1 ≤ Lib.bitLenAux f (x / 2) := by
        cases f with
        | zero => rw [Nat.pow_one] at h; omega
        | succ f => simp [Lib.bitLenAux, hx]
      unfold onesAt
      split
      · rw [List.getLast?_cons, ih, e0]
        simp
        omega
      · rw [ih, e0]
        congr 1
        omega

/-! ### How many -/
theorem onesAt_shift : ∀ (f b c x : Nat), (onesAt f b x).length = (onesAt f c x).length
  | 0, _, _, _ => rfl
  | f + 1, b, c, x => by
    unfold onesAt
    have := onesAt_shift f (b + 1) (c + 1) (x / 2)
    split <;> simp [this]
theorem onesAt_split : ∀ (e f b x : Nat), (onesAt (e + f) b x).length = (onesAt e b (x % 2 ^ e)).length + (onesAt f (b + e) (x / 2 ^ e)).length
  | 0, f, b, x => by simp [onesAt, Nat.mod_one]
  | e + 1, f, b, x => by
    have ih := onesAt_split e f (b + 1) (x / 2)
    have h1 : x % 2 ^ (e + 1) % 2 = x % 2 := by rw [Nat.pow_succ', Nat.mod_mul_right_mod]
    have h2 : x % 2 ^ (e + 1) / 2 = x / 2 % 2 ^ e := by rw [Nat.pow_succ', Nat.mod_mul_right_div_self]
    have h3 : x / 2 / 2 ^ e = x / 2 ^ (e + 1) := by rw [Nat.div_div_eq_div_mul, ← Nat.pow_succ']
    rw [show e + 1 + f = (e + f) + 1 by omega]
    simp only [onesAt]
    rw [h1, h2]
    rw [h3, show b + 1 + e = b + (e + 1) by omega] at ih
    split <;> simp [ih] <;> omega

theorem and_bytes (A B C D : Nat) (hB : B < 256) (hD : D < 256) : (256 * A + B) &&& (256 * C + D) = 256 * (A &&& C) + (B &&& D) := by
  apply Nat.eq_of_testBit_eq
  intro i
  have hBD : B &&& D < 2 ^ 8 := Nat.and_lt_two_pow B (by omega)
  rw [Nat.testBit_and]
  rw [show (256 : Nat) = 2 ^ 8 by rfl]
  rw [Nat.testBit_two_pow_mul_add A (show B < 2 ^ 8 by omega), Nat.testBit_two_pow_mul_add C (show D < 2 ^ 8 by omega), Nat.testBit_two_pow_mul_add (A &&& C) hBD]
  split <;> simp [Nat.testBit_and]

def mask : Nat → Nat → Nat
  | 0, _ => 0
  | k + 1, c => 256 * mask k c + c
/-- The number with these bytes. -/
def comb : List Nat → Nat
  | [] => 0
  | b :: l => 256 * comb l + b
def bytes : Nat → Nat → List Nat
  | 0, _ => []
  | k + 1, x => x % 256 :: bytes k (x / 256)
theorem comb_bytes : ∀ (k x : Nat), x < 256 ^ k → comb (bytes k x) = x
  | 0, x, h => by simp at h; simp [bytes, comb]; omega
  | k + 1, x, h => by
    have ih := comb_bytes k (x / 256) (by rw [Nat.pow_succ] at h; omega)
    simp only [bytes, comb, ih]
    omega
theorem bytes_lt : ∀ (k x b : Nat), b ∈ bytes k x → b < 256
  | 0, _, _, h => by cases h
  | k + 1, x, b, h => by
    rcases List.mem_cons.1 h with rfl | h
    · omega
    · exact bytes_lt k _ b h
theorem comb_lt : ∀ (l : List Nat), (∀ b ∈ l, b < 256) → comb l < 256 ^ l.length
  | [], _ => by simp [comb]
  | b :: l, h => by
    have ih := comb_lt l (fun b hb => h b (by simp [hb]))
    have := h b (by simp)
    simp only [comb, List.length_cons, Nat.pow_succ]
    omega

/-- x / s and x, masked, added: byte by byte. -/
theorem fields (s c : Nat) (hc : c < 256) (hz : ∀ q b : Nat, b < 256 → ((256 / s * (q % s) + b / s) &&& c) = (b / s &&& c)) (hd : ∀ q b : Nat, (256 * q + b) / s = 256 * (q / s) + (256 / s * (q % s) + b / s)) (hlt : ∀ q b : Nat, b < 256 → 256 / s * (q % s) + b / s < 256) :
    ∀ l : List Nat, (∀ b ∈ l, b < 256) → (comb l / s &&& mask l.length c) + (comb l &&& mask l.length c) = comb (l.map fun b => (b / s &&& c) + (b &&& c))
  | [], _ => by simp [comb, mask]
  | b :: l, h => by
    have ih := fields s c hc hz hd hlt l (fun b hb => h b (by simp [hb]))
    have hb := h b (by simp)
    simp only [comb, mask, List.length_cons, List.map_cons]
    rw [hd, and_bytes _ _ _ _ (hlt _ _ hb) hc, and_bytes _ _ _ _ hb hc, hz _ _ hb, ← ih]
    omega

theorem nibbles : ∀ l : List Nat, (∀ b ∈ l, b / 16 ≤ 4 ∧ b % 16 ≤ 4) → ((comb l / 16 + comb l) &&& mask l.length 15) = comb (l.map fun b => b / 16 + b % 16) ∧ comb l % 16 ≤ 4
  | [], _ => by simp [comb, mask]
  | b :: l, h => by
    obtain ⟨ih, hl⟩ := nibbles l (fun b hb => h b (by simp [hb]))
    obtain ⟨h1, h2⟩ := h b (by simp)
    simp only [comb, mask, List.length_cons, List.map_cons]
    have e : (256 * comb l + b) / 16 + (256 * comb l + b) = 256 * (comb l / 16 + comb l) + (16 * (comb l % 16 + b / 16) + (b / 16 + b % 16)) := by omega
    rw [e, and_bytes _ _ _ _ (by omega) (by omega), ih]
    refine ⟨?_, by omega⟩
    congr 1
    rw [show (15 : Nat) = 2 ^ 4 - 1 by rfl, Nat.and_two_pow_sub_one_eq_mod]
    omega

theorem comb_le (m : Nat) : ∀ (l : List Nat), (∀ b ∈ l, b ≤ m) → comb l ≤ m * mask l.length 1
  | [], _ => by simp [comb]
  | b :: l, h => by
    have ih := comb_le m l (fun b hb => h b (by simp [hb]))
    have := h b (by simp)
    simp only [comb, List.length_cons, mask, Nat.mul_add, Nat.mul_one]
    have e : m * (256 * mask l.length 1) = 256 * (m * mask l.length 1) := by rw [Nat.mul_left_comm]
    omega

def p1 (b : Nat) : Nat := (b / 2 &&& 85) + (b &&& 85)
def p2 (b : Nat) : Nat := (b / 4 &&& 51) + (b &&& 51)
def p3 (b : Nat) : Nat := b / 16 + b % 16

theorem one_byte : ∀ b, b < 256 → p1 b < 256 ∧ p2 (p1 b) < 256 ∧ p2 (p1 b) / 16 ≤ 4 ∧ p2 (p1 b) % 16 ≤ 4 ∧ p3 (p2 (p1 b)) = (onesAt 8 0 b).length ∧ p3 (p2 (p1 b)) ≤ 8 := by decide +kernel

theorem fields2 (l : List Nat) (h : ∀ b ∈ l, b < 256) : (comb l / 2 &&& mask l.length 85) + (comb l &&& mask l.length 85) = comb (l.map p1) := by
  refine fields 2 85 (by omega) (fun q b hb => ?_) (fun q b => by omega) (fun q b hb => by omega) l h
  have : ∀ z, z < 2 → ∀ b, b < 128 → ((128 * z + b) &&& 85) = (b &&& 85) := by decide +kernel
  exact this (q % 2) (by omega) (b / 2) (by omega)
theorem fields4 (l : List Nat) (h : ∀ b ∈ l, b < 256) : (comb l / 4 &&& mask l.length 51) + (comb l &&& mask l.length 51) = comb (l.map p2) := by
  refine fields 4 51 (by omega) (fun q b hb => ?_) (fun q b => by omega) (fun q b hb => by omega) l h
  have : ∀ z, z < 4 → ∀ b, b < 64 → ((64 * z + b) &&& 51) = (b &&& 51) := by decide +kernel
  exact this (q % 4) (by omega) (b / 4) (by omega)

theorem onesAt_bytes : ∀ (k x : Nat), (onesAt (8 * k) 0 x).length = ((bytes k x).map fun b => (onesAt 8 0 b).length).sum
  | 0, x => by simp [onesAt, bytes]
  | k + 1, x => by
    have ih := onesAt_bytes k (x / 256)
    rw [show 8 * (k + 1) = 8 + 8 * k by omega, onesAt_split 8 (8 * k) 0 x, onesAt_shift (8 * k) (0 + 8) 0]
    simp only [bytes, List.map_cons, List.sum_cons]
    rw [show (2 : Nat) ^ 8 = 256 by rfl, ih]

theorem div1 (M c0 : Nat) (h : c0 < 256) : (256 * M + c0) / 256 = M := by omega
theorem div2 (M c0 c1 : Nat) (h : c0 + 256 * c1 < 65536) : (256 * (256 * M + c1) + c0) / 65536 = M := by omega
theorem div4 (M c0 c1 c2 c3 : Nat) (h : c0 + 256 * c1 + 65536 * c2 + 16777216 * c3 < 4294967296) : (256 * (256 * (256 * (256 * M + c3) + c2) + c1) + c0) / 4294967296 = M := by omega

/-- The count by sums over fields, of a number of 64 bits. -/
def swar (x : Nat) : Nat :=
  let y := (x / 2 &&& 6148914691236517205) + (x &&& 6148914691236517205)
  let z := (y / 4 &&& 3689348814741910323) + (y &&& 3689348814741910323)
  let u := (z / 16 + z) &&& 1085102592571150095
  let v := u + u / 256
  let t := v + v / 65536
  (t + t / 4294967296) % 128

theorem swar_eq (x : Nat) (hx : x < 18446744073709551616) : swar x = (onesAt 64 0 x).length ∧
    ((x / 2 &&& 6148914691236517205) + (x &&& 6148914691236517205)) < 18446744073709551616 ∧
    (let y := (x / 2 &&& 6148914691236517205) + (x &&& 6148914691236517205)
     let z := (y / 4 &&& 3689348814741910323) + (y &&& 3689348814741910323)
     let u := (z / 16 + z) &&& 1085102592571150095
     let v := u + u / 256
     let t := v + v / 65536
     z < 18446744073709551616 ∧ z / 16 + z < 18446744073709551616 ∧ u < 18446744073709551616 ∧ v < 18446744073709551616 ∧ t < 18446744073709551616 ∧ t + t / 4294967296 < 9223372036854775808) := by
  have hl := bytes_lt 8 x
  have hlen : (bytes 8 x).length = 8 := rfl
  have hx' : comb (bytes 8 x) = x := comb_bytes 8 x (by simpa using hx)
  have m1 : mask 8 85 = 6148914691236517205 := by rfl
  have m2 : mask 8 51 = 3689348814741910323 := by rfl
  have m3 : mask 8 15 = 1085102592571150095 := by rfl
  have e1 : (x / 2 &&& 6148914691236517205) + (x &&& 6148914691236517205) = comb ((bytes 8 x).map p1) := by
    have := fields2 _ hl
    rw [hx', hlen, m1] at this
    exact this
  have hl1 : ∀ b ∈ (bytes 8 x).map p1, b < 256 := fun b hb => by
    obtain ⟨c, hc, rfl⟩ := List.mem_map.1 hb
    exact (one_byte c (hl c hc)).1
  have e2 := fields4 _ hl1
  rw [List.length_map, hlen, m2] at e2
  have hl2 : ∀ b ∈ ((bytes 8 x).map p1).map p2, b / 16 ≤ 4 ∧ b % 16 ≤ 4 := fun b hb => by
    obtain ⟨c, hc, rfl⟩ := List.mem_map.1 hb
    obtain ⟨d, hd, rfl⟩ := List.mem_map.1 hc
    have := one_byte d (hl d hd)
    exact ⟨this.2.2.1, this.2.2.2.1⟩
  have e3 := (nibbles _ hl2).1
  rw [List.length_map, List.length_map, hlen, m3] at e3
  have hc2 := comb_lt (((bytes 8 x).map p1).map p2) (fun b hb => by have := hl2 b hb; omega)
  have hc1 := comb_lt ((bytes 8 x).map p1) hl1
  have hc3 := comb_le 68 (((bytes 8 x).map p1).map p2) (fun b hb => by have := hl2 b hb; omega)
  rw [List.length_map, List.length_map, hlen, show mask 8 1 = 72340172838076673 by rfl] at hc3
  simp only [List.length_map, hlen] at hc1 hc2
  have hsum := onesAt_bytes 8 x
  have hb8 : ∀ b ∈ bytes 8 x, p3 (p2 (p1 b)) = (onesAt 8 0 b).length ∧ p3 (p2 (p1 b)) ≤ 8 := fun b hb => ⟨(one_byte b (hl b hb)).2.2.2.2.1, (one_byte b (hl b hb)).2.2.2.2.2⟩
  unfold swar
  simp only [e1, e2, e3]
  have e4 : (((bytes 8 x).map p1).map p2).map (fun b => b / 16 + b % 16) = (bytes 8 x).map fun b => (onesAt 8 0 b).length := by
    rw [List.map_map, List.map_map]
    exact List.map_congr_left fun b hb => (hb8 b hb).1
  rw [e4]
  rw [show 8 * 8 = 64 by rfl] at hsum
  rw [hsum]
  have hb9 : ∀ b ∈ (bytes 8 x).map (fun b => (onesAt 8 0 b).length), b ≤ 8 := fun b hb => by
    obtain ⟨c, hc, rfl⟩ := List.mem_map.1 hb
    rw [← (hb8 c hc).1]
    exact (hb8 c hc).2
  have hlm : ((bytes 8 x).map (fun b => (onesAt 8 0 b).length)).length = 8 := rfl
  generalize (bytes 8 x).map (fun b => (onesAt 8 0 b).length) = L at *
  match L, hlm with
  | [a0, a1, a2, a3, a4, a5, a6, a7], _ =>
    have h0 := hb9 a0 (by simp)
    have h1 := hb9 a1 (by simp)
    have h2 := hb9 a2 (by simp)
    have h3 := hb9 a3 (by simp)
    have h4 := hb9 a4 (by simp)
    have h5 := hb9 a5 (by simp)
    have h6 := hb9 a6 (by simp)
    have h7 := hb9 a7 (by simp)
    clear hb9 e4 e1 e2 e3 hl hl1 hl2 hb8 hsum
    generalize comb (((bytes 8 x).map p1).map p2) = Z at *
    generalize comb ((bytes 8 x).map p1) = Y at *
    simp only [comb, List.sum_cons, List.sum_nil, Nat.mul_zero, Nat.zero_add, Nat.add_zero]
    have n8 : (256 : Nat) ^ 8 = 18446744073709551616 := by rfl
    rw [n8] at hc1 hc2
    generalize hV : 256 * (256 * (256 * (256 * (256 * a7 + (a6 + a7)) + (a5 + a6)) + (a4 + a5)) + (a3 + a4)) + (a2 + a3) = V
    generalize hT : 256 * (256 * (256 * a7 + (a6 + a7)) + (a5 + a6 + a7)) + (a4 + a5 + a6 + a7) = T
    have u1 : (256 * (256 * (256 * (256 * (256 * (256 * (256 * a7 + a6) + a5) + a4) + a3) + a2) + a1) + a0) / 256 = 256 * (256 * (256 * (256 * (256 * (256 * a7 + a6) + a5) + a4) + a3) + a2) + a1 := div1 _ _ (by omega)
    rw [u1]
    have v0 : 256 * (256 * (256 * (256 * (256 * (256 * (256 * a7 + a6) + a5) + a4) + a3) + a2) + a1) + a0 + (256 * (256 * (256 * (256 * (256 * (256 * a7 + a6) + a5) + a4) + a3) + a2) + a1) = 256 * (256 * V + (a1 + a2)) + (a0 + a1) := by rw [← hV]; omega
    rw [v0, div2 V _ _ (by omega)]
    have t0 : 256 * (256 * V + (a1 + a2)) + (a0 + a1) + V = 256 * (256 * (256 * (256 * T + (a3 + a4 + (a5 + a6))) + (a2 + a3 + (a4 + a5))) + (a1 + a2 + (a3 + a4))) + (a0 + a1 + (a2 + a3)) := by rw [← hV, ← hT]; omega
    rw [t0, div4 T _ _ _ _ (by omega)]
    have hTb : T ≤ 553648128 + 2113536 + 8192 + 64 := by rw [← hT]; omega
    have hVb : V ≤ 16 * 1103823438081 := by rw [← hV]; omega
    have fin : (256 * (256 * (256 * (256 * T + (a3 + a4 + (a5 + a6))) + (a2 + a3 + (a4 + a5))) + (a1 + a2 + (a3 + a4))) + (a0 + a1 + (a2 + a3)) + T) % 128 = a0 + (a1 + (a2 + (a3 + (a4 + (a5 + (a6 + a7)))))) := by
      generalize hW : 256 * (256 * (256 * T + (a3 + a4 + (a5 + a6))) + (a2 + a3 + (a4 + a5))) + (a1 + a2 + (a3 + a4)) = W
      generalize hX : 256 * (256 * a7 + (a6 + a7)) + (a5 + a6 + a7) = X at hT
      rw [← hT]
      clear hW hX hV u1 v0 t0 hT
      omega
    clear hV hT u1 v0 t0
    refine ⟨fin, by omega, by omega, by omega, by omega, by omega, by omega, by omega⟩

theorem swar_ex (x : Nat) (hx : x < 18446744073709551616) : ∃ y z u v t : Nat,
    (x / 2 &&& 6148914691236517205) + (x &&& 6148914691236517205) = y ∧ y < 18446744073709551616 ∧
    (y / 4 &&& 3689348814741910323) + (y &&& 3689348814741910323) = z ∧ z < 18446744073709551616 ∧
    z / 16 + z < 18446744073709551616 ∧ ((z / 16 + z) &&& 1085102592571150095) = u ∧
    u + u / 256 = v ∧ v < 18446744073709551616 ∧ v + v / 65536 = t ∧ t < 18446744073709551616 ∧
    t + t / 4294967296 < 9223372036854775808 ∧ (t + t / 4294967296) % 128 = (onesAt 64 0 x).length := by
  obtain ⟨h0, h1, h2, h3, h4, h5, h6, h7⟩ := swar_eq x hx
  exact ⟨_, _, _, _, _, rfl, h1, rfl, h2, h3, rfl, rfl, h5, rfl, h6, h7, h0⟩

end Go.Proofs.YtnjeliicnbfclaaDoor.P
