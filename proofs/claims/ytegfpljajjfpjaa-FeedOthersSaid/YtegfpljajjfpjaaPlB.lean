import Derived.Test.YtegfpljajjfpjaaPlA
import Derived.Test.YtegfpljajjfpjaaFdAll
set_option linter.unusedVariables false
/-! Division of 128 bits by 64. -/
namespace Fl
open Go Fw
theorem distr (q a b : Int) : q * (a * 4294967296 + b) = 4294967296 * (q * a) + q * b := by
  rw [Int.mul_add, ← Int.mul_assoc, Int.mul_comm (q * a)]
theorem mul_le (a b c d : Int) (h1 : a ≤ c) (h2 : b ≤ d) (ha : 0 ≤ c) (hb : 0 ≤ b) : a * b ≤ c * d :=
  Int.le_trans (Int.mul_le_mul_of_nonneg_right h1 hb) (Int.mul_le_mul_of_nonneg_left h2 ha)
/-- What a digit is. -/
structure Digit (u yn1 yn0 d Q : Int) : Prop where
  y1 : 2147483648 ≤ yn1
  y1' : yn1 < 4294967296
  y0 : 0 ≤ yn0
  y0' : yn0 < 4294967296
  d0 : 0 ≤ d
  d1 : d < 4294967296
  q0 : 0 ≤ Q
  q1 : Q < 4294967296
  lo : Q * (yn1 * 4294967296 + yn0) ≤ u * 4294967296 + d
  hi : u * 4294967296 + d < (Q + 1) * (yn1 * 4294967296 + yn0)
structure DigSt (u yn1 yn0 d Q q r : Int) : Prop where
  e : q * yn1 + r = u
  r0 : 0 ≤ r
  r1 : r < 4294967296
  qQ : Q ≤ q
  qB : q ≤ 4294967297
theorem DigSt.prod {u yn1 yn0 d Q q r : Int} (D : Digit u yn1 yn0 d Q) (h : DigSt u yn1 yn0 d Q q r) : 0 ≤ q * yn0 ∧ q * yn0 ≤ 18446744073709551615 := by
  have h0 := D.q0
  have h1 := h.qQ
  have h2 := mul_le q yn0 4294967297 4294967295 h.qB (by have := D.y0'; omega) (by decide) D.y0
  exact ⟨Int.mul_nonneg (by omega) D.y0, by omega⟩
theorem DigSt.done {u yn1 yn0 d Q q r : Int} (D : Digit u yn1 yn0 d Q) (h : DigSt u yn1 yn0 d Q q r) (hc : ¬ 4294967296 * r + d < q * yn0) : q = Q := by
  by_cases hq : q = Q
  · exact hq
  · exfalso
    have h1 : Q + 1 ≤ q := by have := h.qQ; omega
    have hP : 0 ≤ yn1 * 4294967296 + yn0 := by have := D.y1; have := D.y0; omega
    have h2 := Int.mul_le_mul_of_nonneg_right h1 hP
    have h3 := distr q yn1 yn0
    have := D.hi
    have := h.e
    omega
theorem DigSt.more {u yn1 yn0 d Q q r : Int} (D : Digit u yn1 yn0 d Q) (h : DigSt u yn1 yn0 d Q q r) (hc : 4294967296 ≤ q ∨ 4294967296 * r + d < q * yn0) : Q ≤ q - 1 := by
  rcases hc with hc | hc
  · have := D.q1; omega
  · by_cases hq : q = Q
    · exfalso
      subst hq
      have h3 := distr q yn1 yn0
      have := D.lo
      have := h.e
      omega
    · have := h.qQ; omega
theorem sub_one_mul (a b : Int) : (a - 1) * b = a * b - b := by rw [Int.sub_mul, Int.one_mul]
theorem DigSt.big {u yn1 yn0 d Q q r : Int} (D : Digit u yn1 yn0 d Q) (h : DigSt u yn1 yn0 d Q q r) (hc : 4294967296 ≤ q ∨ 4294967296 * r + d < q * yn0) (hr : 4294967296 ≤ r + yn1) : q - 1 = Q := by
  have hm := h.more D hc
  by_cases hq : q - 1 = Q
  · exact hq
  · exfalso
    have h1 : Q + 1 ≤ q - 1 := by omega
    have hP : 0 ≤ yn1 * 4294967296 + yn0 := by have := D.y1; have := D.y0; omega
    have h2 := Int.mul_le_mul_of_nonneg_right h1 hP
    have h3 := distr (q - 1) yn1 yn0
    have h4 := sub_one_mul q yn1
    have h5 := mul_le (q - 1) yn0 4294967296 4294967295 (by have := h.qB; omega) (by have := D.y0'; omega) (by decide) D.y0
    have := D.hi
    have := D.d0
    have := h.e
    omega
theorem DigSt.next {u yn1 yn0 d Q q r : Int} (D : Digit u yn1 yn0 d Q) (h : DigSt u yn1 yn0 d Q q r) (hc : 4294967296 ≤ q ∨ 4294967296 * r + d < q * yn0) (hr : ¬ 4294967296 ≤ r + yn1) : DigSt u yn1 yn0 d Q (q - 1) (r + yn1) := by
  have h4 := sub_one_mul q yn1
  have := h.e
  have := h.r0
  have := D.y1
  exact ⟨by omega, by omega, by omega, h.more D hc, by have := h.qB; omega⟩
theorem l923_spec {a2 a3 s : Int} {u yn1 yn0 d Q : Int} (D : Digit u yn1 yn0 d Q) (e1 : (shL .u64 a3 (IntKind.wrap .u64 s)).fdiv 4294967296 = yn1) (e0 : bAnd .u64 (shL .u64 a3 (IntKind.wrap .u64 s)) 4294967295 = yn0) (ed : (shL .u64 a2 (IntKind.wrap .u64 s)).fdiv 4294967296 = d) :
    ∀ (k : Nat) (q r : Int), DigSt u yn1 yn0 d Q q r → (q - Q).toNat < k → math_bits_Div64.l923 a2 a3 s k q r = some Q := by
  intro k
  induction k with
  | zero => intro q r _ h; omega
  | succ k ih =>
    intro q r h hk
    have hp := h.prod D
    have := h.r0; have := h.r1; have := D.d0; have := D.d1; have := D.y1; have := D.y1'; have := D.q0; have := h.qQ; have := h.qB
    unfold math_bits_Div64.l923
    rw [e0, ed, u64_in (x := 4294967296 * r) (by omega) (by omega), u64_in (x := 4294967296 * r + d) (by omega) (by omega), u64_in (x := q * yn0) hp.1 hp.2]
    have key : 4294967296 ≤ q ∨ 4294967296 * r + d < q * yn0 → math_bits_Div64.j1227 (math_bits_Div64.l923 a2 a3 s k) a3 s q r = some Q := by
      intro hc
      have hm := h.more D hc
      unfold math_bits_Div64.j1227
      rw [e1, u64_in (x := q - 1) (by omega) (by omega), u64_in (x := r + yn1) (by omega) (by omega)]
      by_cases hr : 4294967296 ≤ r + yn1
      · rw [if_pos hr, h.big D hc hr]
      · rw [if_neg hr]
        exact ih _ _ (h.next D hc hr) (by omega)
    by_cases hq : 4294967296 ≤ q
    · rw [if_pos hq]; exact key (.inl hq)
    · rw [if_neg hq]
      by_cases hc : 4294967296 * r + d < q * yn0
      · rw [if_pos hc]; exact key (.inr hc)
      · rw [if_neg hc, h.done D hc]
theorem l1837_spec {a2 a3 s : Int} {u yn1 yn0 d Q : Int} (D : Digit u yn1 yn0 d Q) (e1 : (shL .u64 a3 (IntKind.wrap .u64 s)).fdiv 4294967296 = yn1) (e0 : bAnd .u64 (shL .u64 a3 (IntKind.wrap .u64 s)) 4294967295 = yn0) (ed : bAnd .u64 (shL .u64 a2 (IntKind.wrap .u64 s)) 4294967295 = d) :
    ∀ (k : Nat) (q r : Int), DigSt u yn1 yn0 d Q q r → (q - Q).toNat < k → math_bits_Div64.l1837 a2 a3 s k r q = some Q := by
  intro k
  induction k with
  | zero => intro q r _ h; omega
  | succ k ih =>
    intro q r h hk
    have hp := h.prod D
    have := h.r0; have := h.r1; have := D.d0; have := D.d1; have := D.y1; have := D.y1'; have := D.q0; have := h.qQ; have := h.qB
    unfold math_bits_Div64.l1837
    rw [e0, ed, u64_in (x := 4294967296 * r) (by omega) (by omega), u64_in (x := 4294967296 * r + d) (by omega) (by omega), u64_in (x := q * yn0) hp.1 hp.2]
    have key : 4294967296 ≤ q ∨ 4294967296 * r + d < q * yn0 → math_bits_Div64.j2141 (math_bits_Div64.l1837 a2 a3 s k) a3 s r q = some Q := by
      intro hc
      have hm := h.more D hc
      unfold math_bits_Div64.j2141
      rw [e1, u64_in (x := q - 1) (by omega) (by omega), u64_in (x := r + yn1) (by omega) (by omega)]
      by_cases hr : 4294967296 ≤ r + yn1
      · rw [if_pos hr, h.big D hc hr]
      · rw [if_neg hr]
        exact ih _ _ (h.next D hc hr) (by omega)
    by_cases hq : 4294967296 ≤ q
    · rw [if_pos hq]; exact key (.inl hq)
    · rw [if_neg hq]
      by_cases hc : 4294967296 * r + d < q * yn0
      · rw [if_pos hc]; exact key (.inr hc)
      · rw [if_neg hc, h.done D hc]
/-- The first guess. -/
theorem first_guess {u yn1 yn0 d Q : Int} (D : Digit u yn1 yn0 d Q) (hu : 0 ≤ u) (huy : u < yn1 * 4294967296 + yn0) : DigSt u yn1 yn0 d Q (u / yn1) (u - u / yn1 * yn1) := by
  have := D.y1; have := D.y1'; have := D.y0; have := D.y0'
  have hm := Int.emod_nonneg u (b := yn1) (by omega)
  have hl := Int.emod_lt_of_pos u (b := yn1) (by omega)
  have he := Int.emod_add_mul_ediv u yn1
  have hc := Int.mul_comm (u / yn1) yn1
  have hq0 : 0 ≤ u / yn1 := Int.ediv_nonneg hu (by omega)
  refine ⟨by omega, by omega, by omega, ?_, ?_⟩
  · refine Int.le_of_lt_add_one ?_
    refine Int.lt_of_mul_lt_mul_right (a := yn1) ?_ (by omega)
    have h1 := D.lo
    have h2 := distr Q yn1 yn0
    have h3 : 0 ≤ Q * yn0 := Int.mul_nonneg D.q0 (by omega)
    have h4 := D.d1
    rw [Int.add_mul, Int.one_mul]
    omega
  · refine Int.le_of_lt_add_one ?_
    refine Int.lt_of_mul_lt_mul_right (a := yn1) ?_ (by omega)
    omega

/-! ### How many bits -/
def lenTab : ByteArray := ⟨#[0, 1, 2, 2, 3, 3, 3, 3, 4, 4, 4, 4, 4, 4, 4, 4, 5, 5, 5, 5, 5, 5, 5, 5, 5, 5, 5, 5, 5, 5, 5, 5, 6, 6, 6, 6, 6, 6, 6, 6, 6, 6, 6, 6, 6, 6, 6, 6, 6, 6, 6, 6, 6, 6, 6, 6, 6, 6, 6, 6, 6, 6, 6, 6, 7, 7, 7, 7, 7, 7, 7, 7, 7, 7, 7, 7, 7, 7, 7, 7, 7, 7, 7, 7, 7, 7, 7, 7, 7, 7, 7, 7, 7, 7, 7, 7, 7, 7, 7, 7, 7, 7, 7, 7, 7, 7, 7, 7, 7, 7, 7, 7, 7, 7, 7, 7, 7, 7, 7, 7, 7, 7, 7, 7, 7, 7, 7, 7, 8, 8, 8, 8, 8, 8, 8, 8, 8, 8, 8, 8, 8, 8, 8, 8, 8, 8, 8, 8, 8, 8, 8, 8, 8, 8, 8, 8, 8, 8, 8, 8, 8, 8, 8, 8, 8, 8, 8, 8, 8, 8, 8, 8, 8, 8, 8, 8, 8, 8, 8, 8, 8, 8, 8, 8, 8, 8, 8, 8, 8, 8, 8, 8, 8, 8, 8, 8, 8, 8, 8, 8, 8, 8, 8, 8, 8, 8, 8, 8, 8, 8, 8, 8, 8, 8, 8, 8, 8, 8, 8, 8, 8, 8, 8, 8, 8, 8, 8, 8, 8, 8, 8, 8, 8, 8, 8, 8, 8, 8, 8, 8, 8, 8, 8, 8, 8, 8, 8, 8, 8, 8, 8, 8, 8, 8, 8, 8]⟩
theorem len8 : ∀ v : Fin 256, ∃ t : Nat, lenTab[v.val]? = some (UInt8.ofNat t) ∧ (v.val = 0 → t = 0) ∧ (0 < v.val → 1 ≤ t ∧ 2 ^ (t - 1) ≤ v.val) ∧ v.val < 2 ^ t ∧ t ≤ 8 := by
  intro v
  refine ⟨if v.val = 0 then 0 else Nat.log2 v.val + 1, ?_⟩
  revert v
  decide +kernel
theorem j913_spec (v n : Int) (h0 : 0 < v) (h1 : v < 256) (hn : 0 ≤ n ∧ n ≤ 100) : ∃ t : Nat, math_bits_Len64.j913 v n = some (n + t) ∧ 1 ≤ t ∧ t ≤ 8 ∧ (2 : Int) ^ (t - 1) ≤ v ∧ v < 2 ^ t := by
  obtain ⟨V, rfl⟩ := Int.eq_ofNat_of_zero_le (Int.le_of_lt h0)
  obtain ⟨t, g1, g2, g3, g4, g5⟩ := len8 ⟨V, by omega⟩
  have g1' : lenTab[V]? = some (UInt8.ofNat t) := g1
  have g4' : V < 2 ^ t := g4
  obtain ⟨g6, g7⟩ := g3 (show 0 < V by omega)
  have g7' : 2 ^ (t - 1) ≤ V := g7
  refine ⟨t, ?_, g6, g5, by rw [← pow_cast]; exact_mod_cast g7', by rw [← pow_cast]; exact_mod_cast g4'⟩
  unfold math_bits_Len64.j913
  have e1 : IntKind.wrap .u8 (V : Int) = V := by rw [u8_eq]; omega
  have e2 : bidx lenTab (V : Int) = some (t : Int) := by
    unfold bidx
    rw [if_pos (by omega), Int.toNat_natCast, g1', Option.map_some]
    have e3 : (UInt8.ofNat t).toNat = t := by rw [UInt8.toNat_ofNat', Nat.mod_eq_of_lt (by omega)]
    exact congrArg (fun n : Nat => some (n : Int)) e3
  rw [e1]
  show (bidx lenTab (V : Int)).bind _ = _
  rw [e2, Option.bind_some, w64_in (x := (t : Int)) (by omega) (by omega), w64_in (by omega) (by omega)]
theorem fdiv_pow (x : Int) (n : Nat) (h : 0 ≤ x) : x.fdiv (2 ^ n) = x / 2 ^ n := Int.fdiv_eq_ediv_of_nonneg _ (by rw [← pow_cast]; exact Int.natCast_nonneg _)
theorem pow_step {x : Int} {t n : Nat} (h1 : (2 : Int) ^ (t - 1) ≤ x / 2 ^ n) (h2 : x / 2 ^ n < 2 ^ t) (ht : 1 ≤ t) (hx : 0 ≤ x) : (2 : Int) ^ (n + t - 1) ≤ x ∧ x < 2 ^ (n + t) := by
  have hp : (0 : Int) < 2 ^ n := by rw [← pow_cast]; exact_mod_cast Nat.two_pow_pos n
  constructor
  · have h3 := (Int.le_ediv_iff_mul_le hp).1 h1
    rw [← Int.pow_add] at h3
    rw [show n + t - 1 = t - 1 + n by omega]; exact h3
  · have h3 := (Int.ediv_lt_iff_lt_mul hp).1 h2
    rw [← Int.pow_add] at h3
    rw [Nat.add_comm]; exact h3
theorem j914_spec (v n : Int) (h0 : 0 < v) (h1 : v < 65536) (hn : 0 ≤ n ∧ n ≤ 80) : ∃ t : Nat, math_bits_Len64.j914 v n = some (n + t) ∧ 1 ≤ t ∧ t ≤ 16 ∧ (2 : Int) ^ (t - 1) ≤ v ∧ v < 2 ^ t := by
  unfold math_bits_Len64.j914
  by_cases h : 256 ≤ v
  · rw [if_pos h, show (256 : Int) = 2 ^ 8 from rfl, fdiv_pow _ _ (by omega), w64_in (by omega) (by omega)]
    obtain ⟨t, g1, g2, g3, g4, g5⟩ := j913_spec (v / 2 ^ 8) (n + 8) (by omega) (by omega) (by omega)
    obtain ⟨g6, g7⟩ := pow_step g4 g5 g2 (by omega)
    exact ⟨8 + t, by rw [g1]; congr 1; omega, by omega, by omega, g6, g7⟩
  · rw [if_neg h]
    obtain ⟨t, g1, g2, g3, g4, g5⟩ := j913_spec v n h0 (by omega) (by omega)
    exact ⟨t, g1, g2, by omega, g4, g5⟩
theorem j915_spec (v n : Int) (h0 : 0 < v) (h1 : v < 4294967296) (hn : 0 ≤ n ∧ n ≤ 40) : ∃ t : Nat, math_bits_Len64.j915 v n = some (n + t) ∧ 1 ≤ t ∧ t ≤ 32 ∧ (2 : Int) ^ (t - 1) ≤ v ∧ v < 2 ^ t := by
  unfold math_bits_Len64.j915
  by_cases h : 65536 ≤ v
  · rw [if_pos h, show (65536 : Int) = 2 ^ 16 from rfl, fdiv_pow _ _ (by omega), w64_in (by omega) (by omega)]
    obtain ⟨t, g1, g2, g3, g4, g5⟩ := j914_spec (v / 2 ^ 16) (n + 16) (by omega) (by omega) (by omega)
    obtain ⟨g6, g7⟩ := pow_step g4 g5 g2 (by omega)
    exact ⟨16 + t, by rw [g1]; congr 1; omega, by omega, by omega, g6, g7⟩
  · rw [if_neg h]
    obtain ⟨t, g1, g2, g3, g4, g5⟩ := j914_spec v n h0 (by omega) (by omega)
    exact ⟨t, g1, g2, by omega, g4, g5⟩
theorem Len64_spec (v : Int) (h0 : 0 < v) (h1 : v < 18446744073709551616) : ∃ t : Nat, math_bits_Len64 v = some (t : Int) ∧ 1 ≤ t ∧ t ≤ 64 ∧ (2 : Int) ^ (t - 1) ≤ v ∧ v < 2 ^ t := by
  unfold math_bits_Len64
  by_cases h : 4294967296 ≤ v
  · rw [if_pos h, show (4294967296 : Int) = 2 ^ 32 from rfl, fdiv_pow _ _ (by omega)]
    obtain ⟨t, g1, g2, g3, g4, g5⟩ := j915_spec (v / 2 ^ 32) 32 (by omega) (by omega) (by omega)
    obtain ⟨g6, g7⟩ := pow_step g4 g5 g2 (by omega)
    exact ⟨32 + t, by rw [g1]; congr 1, by omega, by omega, g6, g7⟩
  · rw [if_neg h]
    obtain ⟨t, g1, g2, g3, g4, g5⟩ := j915_spec v 0 h0 (by omega) (by omega)
    exact ⟨t, by rw [g1]; congr 1; omega, g2, by omega, g4, g5⟩
/-- How far a number is shifted up. -/
theorem Lead_spec (v : Int) (h0 : 0 < v) (h1 : v < 18446744073709551616) : ∃ s : Nat, math_bits_LeadingZeros64 v = some (s : Int) ∧ s ≤ 63 ∧ 9223372036854775808 ≤ v * 2 ^ s ∧ v * 2 ^ s < 18446744073709551616 := by
  obtain ⟨t, g1, g2, g3, g4, g5⟩ := Len64_spec v h0 h1
  unfold math_bits_LeadingZeros64
  rw [g1, Option.bind_some, w64_in (by omega) (by omega)]
  have hp : (0 : Int) ≤ 2 ^ (64 - t) := by rw [← pow_cast]; exact Int.natCast_nonneg _
  refine ⟨64 - t, by congr 1; omega, by omega, ?_, ?_⟩
  · have := Int.mul_le_mul_of_nonneg_right g4 hp
    rw [← Int.pow_add, show t - 1 + (64 - t) = 63 by omega] at this
    exact this
  · have := Int.mul_lt_mul_of_pos_right g5 (show (0 : Int) < 2 ^ (64 - t) by rw [← pow_cast]; exact_mod_cast Nat.two_pow_pos _)
    rw [← Int.pow_add, show t + (64 - t) = 64 by omega] at this
    exact this
end Fl
