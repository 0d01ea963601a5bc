import Derived.Test.YtegfpljajjfpjaaPlC
set_option linter.unusedVariables false
/-! 'muldiv.Do': what it is. -/
namespace Fl
open Go Fw
theorem fdiv32 {x : Int} : x.fdiv 4294967296 = x / 4294967296 := Int.fdiv_eq_ediv_of_nonneg _ (by decide)
theorem Mul64_spec (a b : Int) (ha : 0 ≤ a) (ha' : a < 18446744073709551616) (hb : 0 ≤ b) (hb' : b < 18446744073709551616) :
    ∃ hi lo, math_bits_Mul64 a b = some (hi, lo) ∧ hi * 18446744073709551616 + lo = a * b ∧ 0 ≤ lo ∧ lo < 18446744073709551616 ∧ 0 ≤ hi ∧ hi < 18446744073709551616 := by
  unfold math_bits_Mul64
  simp only [fdiv32, bAnd_32]
  have e : a * b = 18446744073709551616 * (a / 4294967296 * (b / 4294967296)) + 4294967296 * (a / 4294967296 * (b % 4294967296)) + 4294967296 * (a % 4294967296 * (b / 4294967296)) + a % 4294967296 * (b % 4294967296) := by
    have h1 : a = 4294967296 * (a / 4294967296) + a % 4294967296 := by omega
    have h2 : b = 4294967296 * (b / 4294967296) + b % 4294967296 := by omega
    generalize a / 4294967296 = x1 at *
    generalize a % 4294967296 = x0 at *
    generalize b / 4294967296 = y1 at *
    generalize b % 4294967296 = y0 at *
    rw [h1, h2]
    have m1 : (4294967296 * x1 + x0) * (4294967296 * y1 + y0) = 4294967296 * x1 * (4294967296 * y1) + 4294967296 * x1 * y0 + (x0 * (4294967296 * y1) + x0 * y0) := by
      rw [Int.add_mul, Int.mul_add, Int.mul_add]
    have m2 : 4294967296 * x1 * (4294967296 * y1) = 18446744073709551616 * (x1 * y1) := by
      rw [Int.mul_assoc, Int.mul_left_comm x1, ← Int.mul_assoc]; rfl
    have m3 : 4294967296 * x1 * y0 = 4294967296 * (x1 * y0) := Int.mul_assoc _ _ _
    have m4 : x0 * (4294967296 * y1) = 4294967296 * (x0 * y1) := Int.mul_left_comm _ _ _
    omega
  have x1 : 0 ≤ a / 4294967296 ∧ a / 4294967296 ≤ 4294967295 := by omega
  have x0 : 0 ≤ a % 4294967296 ∧ a % 4294967296 ≤ 4294967295 := by omega
  have y1 : 0 ≤ b / 4294967296 ∧ b / 4294967296 ≤ 4294967295 := by omega
  have y0 : 0 ≤ b % 4294967296 ∧ b % 4294967296 ≤ 4294967295 := by omega
  generalize a / 4294967296 = X1 at *
  generalize a % 4294967296 = X0 at *
  generalize b / 4294967296 = Y1 at *
  generalize b % 4294967296 = Y0 at *
  have p11 := mul_le X1 Y1 4294967295 4294967295 x1.2 y1.2 (by decide) y1.1
  have p10 := mul_le X1 Y0 4294967295 4294967295 x1.2 y0.2 (by decide) y0.1
  have p01 := mul_le X0 Y1 4294967295 4294967295 x0.2 y1.2 (by decide) y1.1
  have p00 := mul_le X0 Y0 4294967295 4294967295 x0.2 y0.2 (by decide) y0.1
  have n11 := Int.mul_nonneg x1.1 y1.1
  have n10 := Int.mul_nonneg x1.1 y0.1
  have n01 := Int.mul_nonneg x0.1 y1.1
  have n00 := Int.mul_nonneg x0.1 y0.1
  rw [e]
  generalize X1 * Y1 = P at *
  generalize X1 * Y0 = R at *
  generalize X0 * Y1 = S at *
  generalize X0 * Y0 = T at *
  refine ⟨_, _, rfl, ?_⟩
  simp only [u64_eq]
  omega
/-- A number without its sign. -/
theorem size_spec (a : Int) (h : -9223372036854775808 ≤ a) (h' : a ≤ 9223372036854775807) : muldiv_size a = some (if a < 0 then -a else a) := by
  unfold muldiv_size
  by_cases ha : a < 0
  · rw [if_pos ha, if_pos ha]; congr 1; rw [u64_eq, u64_eq]; omega
  · rw [if_neg ha, if_neg ha]; congr 1; rw [u64_eq]; omega
def absI (a : Int) : Int := if a < 0 then -a else a
theorem absI_nn (a : Int) : 0 ≤ absI a := by unfold absI; split <;> omega
/-- A quotient, rounded: 1 down, 3 up, else to the nearest one, of two the greater. -/
def rnd (num den how : Int) : Int := if how = 1 then num / den else if how = 3 then -((-num) / den) else (2 * num + den) / (2 * den)
def held64 (v : Int) : Int := if v < -9223372036854775808 then -9223372036854775808 else if 9223372036854775807 < v then 9223372036854775807 else v
/-- What 'muldiv.Do' is. -/
def mdS (a b c how : Int) : Int := held64 (rnd (if c < 0 then -(a * b) else a * b) (absI c) how)
theorem divided_spec (h l c : Int) (h0 : 0 ≤ h) (h1 : h < 18446744073709551616) (l0 : 0 ≤ l) (l1 : l < 18446744073709551616) (c0 : 0 < c) (c1 : c < 18446744073709551616) :
    ∃ q1 q0 r, muldiv_divided ⟨h, l⟩ c = some (⟨q1, q0⟩, r) ∧ (q1 * 18446744073709551616 + q0) * c + r = h * 18446744073709551616 + l ∧ 0 ≤ r ∧ r < c ∧ 0 ≤ q0 ∧ q0 < 18446744073709551616 ∧ 0 ≤ q1 ∧ q1 ≤ h := by
  unfold muldiv_divided
  have hm := Int.emod_nonneg h (b := c) (by omega)
  have hl := Int.emod_lt_of_pos h c0
  have he := Int.emod_add_mul_ediv h c
  have hc := Int.mul_comm (h / c) c
  obtain ⟨q, r, g1, g2, g3, g4, g5, g6⟩ := Div64_spec (h % c) l c hm hl c1 l0 l1
  refine ⟨h / c, q, r, ?_, ?_, g3, g4, g5, g6, Int.ediv_nonneg h0 (by omega), Int.ediv_le_self _ h0⟩
  · rw [Div64_low h c c0 h0 h1, Option.bind_some]
    simp only
    rw [g1, Option.bind_some]
  · have : (h / c * 18446744073709551616 + q) * c = 18446744073709551616 * (h / c * c) + q * c := by rw [Int.add_mul, Int.mul_comm (h / c), Int.mul_assoc]
    omega
/-- Whether a quotient goes up by one. -/
def ups (left c : Int) (below : Bool) (how : Int) : Bool := if how = 1 then below && decide (0 < left) else if how = 3 then !below && decide (0 < left) else if below then decide (c - left < left) else decide (0 < left) && decide (c - left ≤ left)
theorem up_spec (left c : Int) (below : Bool) (how : Int) (h0 : 0 ≤ left) (h1 : left < c) (c1 : c < 18446744073709551616) : muldiv_up left c below how = some (ups left c below how) := by
  unfold muldiv_up ups
  have e : IntKind.wrap .u64 (c - left) = c - left := u64_in (by omega) (by omega)
  rw [e]
  by_cases a1 : how = 1
  · simp only [a1, if_true]; cases below <;> simp
  · by_cases a3 : how = 3
    · simp only [a3, if_true]; cases below <;> simp
    · simp only [a1, a3, if_false]
      cases below
      · by_cases hl : 0 < left <;> simp [hl]
      · simp
theorem j1840_spec (a1 a2 a3 q1 q0 : Int) (h0 : 0 ≤ q1) (l0 : 0 ≤ q0) (l1 : q0 < 18446744073709551616) (below : Bool) (hb : (((decide (a1 < 0)) != (decide (a2 < 0))) != (decide (a3 < 0))) = below) :
    ∃ ok, muldiv_quotient.j1840 a1 a2 a3 q1 q0 = some (held64 (if below then -(q1 * 18446744073709551616 + q0) else q1 * 18446744073709551616 + q0), ok) := by
  unfold muldiv_quotient.j1840 muldiv_quotient.j1839 muldiv_quotient.j1537 muldiv_quotient.j1838
  rw [hb]
  by_cases hq : 0 < q1
  · simp only [hq, if_true]
    cases below
    · refine ⟨false, ?_⟩
      simp only [Bool.false_eq_true, if_false]
      unfold held64; rw [if_neg (by omega), if_pos (by omega)]
    · refine ⟨false, ?_⟩
      simp only [if_true]
      unfold held64; rw [if_pos (by omega)]
  · obtain rfl : q1 = 0 := by omega
    cases below
    · simp only [Bool.false_eq_true, if_false, Int.lt_irrefl, decide_eq_true_eq]
      by_cases hm : 9223372036854775807 < q0
      · refine ⟨false, ?_⟩
        rw [if_pos hm]; unfold held64; rw [if_neg (by omega), if_pos (by omega)]
      · refine ⟨true, ?_⟩
        rw [if_neg hm]; unfold held64; rw [if_neg (by omega), if_neg (by omega), w64_in (by omega) (by omega)]
        simp
    · simp only [if_true, Int.lt_irrefl, if_false, decide_eq_true_eq]
      by_cases hm : 9223372036854775808 < q0
      · refine ⟨false, ?_⟩
        rw [if_pos hm]; unfold held64; rw [if_pos (by omega)]
      · refine ⟨true, ?_⟩
        rw [if_neg hm]; unfold held64; rw [if_neg (by omega), if_neg (by omega)]
        congr 2
        obtain ⟨k, e1, e2, e3⟩ := w64_eq (IntKind.wrap .u64 (0 - q0))
        rw [u64_eq] at *
        omega
/-- The magnitude, rounded, is the rounded quotient. -/
theorem rnd_mag (N c Q r : Int) (below : Bool) (how : Int) (e : Q * c + r = N) (r0 : 0 ≤ r) (r1 : r < c) (hh : 1 ≤ how ∧ how ≤ 3) :
    rnd (if below then -N else N) c how = if below then -(Q + (if ups r c below how then 1 else 0)) else Q + (if ups r c below how then 1 else 0) := by
  have hc : 0 < c := by omega
  have key : ∀ x q rr : Int, x = q * c + rr → 0 ≤ rr → rr < c → x / c = q := by
    rintro x q rr rfl h1 h2
    rw [Int.add_comm, Int.add_mul_ediv_right _ _ (by omega), Int.ediv_eq_zero_of_lt h1 h2, Int.zero_add]
  have key2 : ∀ x q rr : Int, x = q * (2 * c) + rr → 0 ≤ rr → rr < 2 * c → x / (2 * c) = q := by
    rintro x q rr rfl h1 h2
    rw [Int.add_comm, Int.add_mul_ediv_right _ _ (by omega), Int.ediv_eq_zero_of_lt h1 h2, Int.zero_add]
  have m1 : ∀ q : Int, (-q) * c = -(q * c) := fun q => Int.neg_mul _ _
  have m2 : ∀ q : Int, (-(q + 1)) * c = -(q * c) - c := fun q => by rw [Int.neg_mul, Int.add_mul, Int.one_mul]; omega
  have m3 : ∀ q : Int, q * (2 * c) = 2 * (q * c) := fun q => Int.mul_left_comm _ _ _
  have m4 : (Q + 1) * c = Q * c + c := by rw [Int.add_mul, Int.one_mul]
  unfold rnd ups
  rcases (show how = 1 ∨ how = 2 ∨ how = 3 by omega) with rfl | rfl | rfl
  · simp only [if_true]
    cases below
    · simp only [Bool.false_eq_true, if_false, Bool.false_and, Int.add_zero]
      exact key _ _ r (by omega) r0 r1
    · simp only [if_true, Bool.true_and, decide_eq_true_eq]
      by_cases h : 0 < r
      · rw [if_pos h]
        exact key _ _ (c - r) (by rw [m2]; omega) (by omega) (by omega)
      · rw [if_neg h, Int.add_zero]
        exact key _ _ 0 (by rw [m1]; omega) (by omega) (by omega)
  · simp only [show ¬ (2 : Int) = 1 by decide, show ¬ (2 : Int) = 3 by decide, if_false]
    cases below
    · simp only [Bool.false_eq_true, if_false, Bool.and_eq_true, decide_eq_true_eq]
      by_cases h : 0 < r ∧ c - r ≤ r
      · rw [if_pos h]
        exact key2 _ _ (2 * r - c) (by rw [m3, m4]; omega) (by omega) (by omega)
      · rw [if_neg h, Int.add_zero]
        exact key2 _ _ (2 * r + c) (by rw [m3]; omega) (by omega) (by omega)
    · simp only [if_true, decide_eq_true_eq]
      by_cases h : c - r < r
      · rw [if_pos h]
        exact key2 _ _ (3 * c - 2 * r) (by rw [m3, m2]; omega) (by omega) (by omega)
      · rw [if_neg h, Int.add_zero]
        exact key2 _ _ (c - 2 * r) (by rw [m3, m1]; omega) (by omega) (by omega)
  · simp only [show ¬ (3 : Int) = 1 by decide, if_true, if_false]
    cases below
    · simp only [Bool.false_eq_true, if_false, Bool.not_false, Bool.true_and, decide_eq_true_eq]
      by_cases h : 0 < r
      · rw [if_pos h, key (-N) (-(Q + 1)) (c - r) (by rw [m2]; omega) (by omega) (by omega)]; omega
      · rw [if_neg h, key (-N) (-Q) 0 (by rw [m1]; omega) (by omega) (by omega)]; omega
    · simp only [if_true, Bool.not_true, Bool.false_and, Bool.false_eq_true, if_false, Int.add_zero]
      rw [key (- -N) Q r (by omega) r0 r1]
theorem quotient_spec (a b c how : Int) (ha : -9223372036854775808 ≤ a) (ha' : a ≤ 9223372036854775807) (hb : -9223372036854775808 ≤ b) (hb' : b ≤ 9223372036854775807) (hc : -9223372036854775808 ≤ c) (hc' : c ≤ 9223372036854775807) (hc0 : c ≠ 0) (hh : 1 ≤ how ∧ how ≤ 3) :
    ∃ ok, muldiv_quotient a b c how = some (mdS a b c how, ok) := by
  unfold muldiv_quotient muldiv_quotient.j309 muldiv_quotient.j1841
  rw [if_neg hc0, if_neg (by omega)]
  have hd : decide (3 < how) = false := by simp; omega
  rw [hd]
  simp only [Bool.false_eq_true, if_false]
  rw [size_spec a ha ha', size_spec b hb hb', size_spec c hc hc']
  simp only [Option.bind_some]
  have ea : (if a < 0 then -a else a) = absI a := rfl
  have eb : (if b < 0 then -b else b) = absI b := rfl
  have ec : (if c < 0 then -c else c) = absI c := rfl
  rw [ea, eb, ec]
  have a0 : 0 ≤ absI a ∧ absI a ≤ 9223372036854775808 := by unfold absI; split <;> omega
  have b0 : 0 ≤ absI b ∧ absI b ≤ 9223372036854775808 := by unfold absI; split <;> omega
  have c0 : 0 < absI c ∧ absI c ≤ 9223372036854775808 := by unfold absI; split <;> omega
  obtain ⟨hi, lo, g1, g2, g3, g4, g5, g6⟩ := Mul64_spec (absI a) (absI b) a0.1 (by omega) b0.1 (by omega)
  rw [g1, Option.bind_some]
  simp only
  have hi' : hi ≤ 4611686018427387904 := by
    have := mul_le (absI a) (absI b) 9223372036854775808 9223372036854775808 a0.2 b0.2 (by decide) b0.1
    omega
  obtain ⟨q1, q0, r, d1, d2, d3, d4, d5, d6, d7, d8⟩ := divided_spec hi lo (absI c) g5 g6 g3 g4 c0.1 (by omega)
  rw [d1, Option.bind_some]
  simp only
  generalize hbl : (((decide (a < 0)) != (decide (b < 0))) != (decide (c < 0))) = below
  rw [up_spec r (absI c) below how d3 d4 (by omega), Option.bind_some]
  have hnum : (if c < 0 then -(a * b) else a * b) = (if below then -(absI a * absI b) else absI a * absI b) := by
    subst hbl
    unfold absI
    by_cases ha0 : a < 0 <;> by_cases hb0 : b < 0 <;> by_cases hcc : c < 0 <;> simp [ha0, hb0, hcc, Int.neg_mul, Int.mul_neg]
  have hR := rnd_mag (absI a * absI b) (absI c) (q1 * 18446744073709551616 + q0) r below how (by omega) d3 d4 hh
  unfold mdS
  rw [hnum, hR]
  by_cases hu : ups r (absI c) below how = true
  · rw [if_pos hu]
    have hadd : add64 q0 1 0 = some ((q0 + 1 + 0) % 18446744073709551616, (q0 + 1 + 0) / 18446744073709551616) := by unfold add64; rw [if_pos (by omega)]
    rw [hadd, Option.bind_some]
    simp only
    have e1 : IntKind.wrap .u64 (q1 + (q0 + 1 + 0) / 18446744073709551616) = q1 + (q0 + 1 + 0) / 18446744073709551616 := u64_in (by omega) (by omega)
    rw [e1]
    obtain ⟨ok, h⟩ := j1840_spec a b c (q1 + (q0 + 1 + 0) / 18446744073709551616) ((q0 + 1 + 0) % 18446744073709551616) (by omega) (by omega) (by omega) below hbl
    refine ⟨ok, ?_⟩
    rw [h]
    have e2 : (q1 + (q0 + 1 + 0) / 18446744073709551616) * 18446744073709551616 + (q0 + 1 + 0) % 18446744073709551616 = q1 * 18446744073709551616 + q0 + 1 := by omega
    rw [e2, hu]; simp
  · rw [if_neg hu]
    obtain ⟨ok, h⟩ := j1840_spec a b c q1 q0 d7 d5 d6 below hbl
    refine ⟨ok, ?_⟩
    rw [h]
    have : ups r (absI c) below how = false := by simpa using hu
    rw [this]; simp
theorem Do_spec (a b c how : Int) (ha : -9223372036854775808 ≤ a) (ha' : a ≤ 9223372036854775807) (hb : -9223372036854775808 ≤ b) (hb' : b ≤ 9223372036854775807) (hc : -9223372036854775808 ≤ c) (hc' : c ≤ 9223372036854775807) (hc0 : c ≠ 0) (hh : 1 ≤ how ∧ how ≤ 3) :
    muldiv_Do a b c how = some (mdS a b c how) := by
  unfold muldiv_Do
  obtain ⟨ok, h⟩ := quotient_spec a b c how ha ha' hb hb' hc hc' hc0 hh
  rw [h]; rfl
theorem held64_in (v : Int) : -9223372036854775808 ≤ held64 v ∧ held64 v ≤ 9223372036854775807 := by unfold held64; split <;> (try split) <;> omega
theorem mdS_in (a b c how : Int) : -9223372036854775808 ≤ mdS a b c how ∧ mdS a b c how ≤ 9223372036854775807 := held64_in _
end Fl
