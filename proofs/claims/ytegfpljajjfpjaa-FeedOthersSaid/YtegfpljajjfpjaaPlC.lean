import Derived.Test.YtegfpljajjfpjaaPlB
set_option linter.unusedVariables false
/-! Products divided. -/
namespace Fl
open Go Fw
theorem digit_mk {u d Y : Int} (hu : 0 ≤ u) (hY : u < Y) (h1 : 9223372036854775808 ≤ Y) (h2 : Y < 18446744073709551616) (d0 : 0 ≤ d) (d1 : d < 4294967296) : Digit u (Y / 4294967296) (Y % 4294967296) d ((u * 4294967296 + d) / Y) := by
  have hYe : Y / 4294967296 * 4294967296 + Y % 4294967296 = Y := by omega
  have hm := Int.emod_nonneg (u * 4294967296 + d) (b := Y) (by omega)
  have hl := Int.emod_lt_of_pos (u * 4294967296 + d) (b := Y) (by omega)
  have he := Int.emod_add_mul_ediv (u * 4294967296 + d) Y
  have hc := Int.mul_comm ((u * 4294967296 + d) / Y) Y
  refine ⟨by omega, by omega, by omega, by omega, d0, d1, Int.ediv_nonneg (by omega) (by omega), ?_, ?_, ?_⟩
  · exact Int.ediv_lt_of_lt_mul (by omega) (by omega)
  · rw [hYe]; omega
  · rw [hYe, Int.add_mul, Int.one_mul]; omega
theorem tdiv_pos {a b : Int} (ha : 0 ≤ a) : a.tdiv b = a / b := Int.tdiv_eq_ediv_of_nonneg ha
theorem tmod_pos {a b : Int} (ha : 0 ≤ a) : a.tmod b = a % b := Int.tmod_eq_emod_of_nonneg ha
theorem bAnd_32 {x : Int} : bAnd .u64 x 4294967295 = x % 4294967296 := bAnd_pow x 32 (by decide)
theorem Div64_low (a2 a3 : Int) (h0 : 0 < a3) (g0 : 0 ≤ a2) (g1 : a2 < 18446744073709551616) : math_bits_Div64 0 a2 a3 = some (a2 / a3, a2 % a3) := by
  have hq : a2 / a3 ≤ a2 := Int.ediv_le_self _ g0
  have hq0 : 0 ≤ a2 / a3 := Int.ediv_nonneg g0 (by omega)
  unfold math_bits_Div64 math_bits_Div64.j2445 math_bits_Div64.j2444
  rw [if_neg (by omega), if_neg (by omega), if_pos rfl, if_neg (by omega), if_neg (by omega), tdiv_pos g0, tmod_pos g0, u64_in hq0 (by omega)]
theorem Div64_spec (a1 a2 a3 : Int) (h0 : 0 ≤ a1) (h1 : a1 < a3) (h2 : a3 < 18446744073709551616) (g0 : 0 ≤ a2) (g1 : a2 < 18446744073709551616) :
    ∃ q r, math_bits_Div64 a1 a2 a3 = some (q, r) ∧ q * a3 + r = a1 * 18446744073709551616 + a2 ∧ 0 ≤ r ∧ r < a3 ∧ 0 ≤ q ∧ q < 18446744073709551616 := by
  by_cases ha : a1 = 0
  · subst ha
    refine ⟨_, _, Div64_low a2 a3 h1 g0 g1, ?_, Int.emod_nonneg _ (by omega), Int.emod_lt_of_pos _ h1, Int.ediv_nonneg g0 (by omega), ?_⟩
    · have := Int.emod_add_mul_ediv a2 a3
      have := Int.mul_comm (a2 / a3) a3
      omega
    · have := Int.ediv_le_self a3 g0; omega
  · obtain ⟨s, l1, l2, l3, l4⟩ := Lead_spec a3 (by omega) h2
    have hp0 : (0 : Int) < 2 ^ s := by rw [← pow_cast]; exact_mod_cast Nat.two_pow_pos s
    have hpc0 : (0 : Int) < 2 ^ (64 - s) := by rw [← pow_cast]; exact_mod_cast Nat.two_pow_pos _
    have hpp : (2 : Int) ^ (64 - s) * 2 ^ s = 18446744073709551616 := by rw [← Int.pow_add, show 64 - s + s = 64 by omega]; rfl
    generalize hp : (2 : Int) ^ s = p at *
    generalize hpc : (2 : Int) ^ (64 - s) = pc at *
    have hs : IntKind.wrap .u64 (s : Int) = s := u64_in (by omega) (by omega)
    have hs2 : IntKind.wrap .u64 (64 - (s : Int)) = 64 - s := u64_in (by omega) (by omega)
    have hY : shL .u64 a3 (s : Int) = a3 * p := by rw [shL_eq (by simp only [Int.toNat_natCast, IntKind.bits]; omega), Int.toNat_natCast, hp]; exact u64_in (by omega) (by omega)
    have hap : a1 * p ≤ a3 * p - p := by
      have := Int.mul_le_mul_of_nonneg_right (show a1 ≤ a3 - 1 by omega) (Int.le_of_lt hp0)
      rw [Int.sub_mul, Int.one_mul] at this; exact this
    have ha0 : 0 ≤ a1 * p := Int.mul_nonneg h0 (Int.le_of_lt hp0)
    have hH : shL .u64 a1 (s : Int) = a1 * p := by rw [shL_eq (by simp only [Int.toNat_natCast, IntKind.bits]; omega), Int.toNat_natCast, hp]; exact u64_in (by omega) (by omega)
    have hR : shR .u64 a2 (64 - (s : Int)) = a2 / pc := by
      rw [shR_eq (by simp only [IntKind.bits]; omega), show (64 - (s : Int)).toNat = 64 - s by omega, hpc]
    have hh0 : 0 ≤ a2 / pc := Int.ediv_nonneg g0 (by omega)
    have hh1 : a2 / pc < p := Int.ediv_lt_of_lt_mul hpc0 (by rw [Int.mul_comm, hpp]; exact g1)
    have hL : shL .u64 a2 (s : Int) = a2 * p % 18446744073709551616 := by rw [shL_eq (by simp only [Int.toNat_natCast, IntKind.bits]; omega), Int.toNat_natCast, hp, u64_eq]
    have hdiv : a2 * p / 18446744073709551616 = a2 / pc := by rw [← hpp]; exact Int.mul_ediv_mul_of_pos_left _ _ hp0
    have hdm : a2 * p = a2 / pc * 18446744073709551616 + a2 * p % 18446744073709551616 := by rw [← hdiv]; omega
    have hO : bOr .u64 (a1 * p) (a2 / pc) = a1 * p + a2 / pc := by
      rw [← hp]; exact bOr_add s h0 hh0 (by rw [hp]; exact hh1) (by rw [hp]; show a1 * p + a2 / pc < 18446744073709551616; omega) rfl
    generalize hU : a1 * p + a2 / pc = U at *
    generalize hT : a2 * p % 18446744073709551616 = T at *
    generalize hYY : a3 * p = Y at *
    have hT0 : 0 ≤ T ∧ T < 18446744073709551616 := by subst hT; exact ⟨Int.emod_nonneg _ (by decide), Int.emod_lt_of_pos _ (by decide)⟩
    have hUY : U < Y := by omega
    have hU0 : 0 ≤ U := by omega
    have D1 := digit_mk (d := T / 4294967296) hU0 hUY l3 l4 (by omega) (by omega)
    generalize hq1 : (U * 4294967296 + T / 4294967296) / Y = q1 at *
    have hR1 : 0 ≤ U * 4294967296 + T / 4294967296 - q1 * Y ∧ U * 4294967296 + T / 4294967296 - q1 * Y < Y := by
      have hYe : Y / 4294967296 * 4294967296 + Y % 4294967296 = Y := by omega
      have a := D1.lo; have b := D1.hi
      rw [hYe] at a b
      rw [Int.add_mul, Int.one_mul] at b
      omega
    generalize hr1 : U * 4294967296 + T / 4294967296 - q1 * Y = r1 at *
    have D2 := digit_mk (d := T % 4294967296) hR1.1 hR1.2 l3 l4 (by omega) (by omega)
    generalize hq0 : (r1 * 4294967296 + T % 4294967296) / Y = q0 at *
    have hR0 : 0 ≤ r1 * 4294967296 + T % 4294967296 - q0 * Y ∧ r1 * 4294967296 + T % 4294967296 - q0 * Y < Y := by
      have hYe : Y / 4294967296 * 4294967296 + Y % 4294967296 = Y := by omega
      have a := D2.lo; have b := D2.hi
      rw [hYe] at a b
      rw [Int.add_mul, Int.one_mul] at b
      omega
    have hy1 : Y.fdiv 4294967296 = Y / 4294967296 := Int.fdiv_eq_ediv_of_nonneg _ (by decide)
    have ht1 : T.fdiv 4294967296 = T / 4294967296 := Int.fdiv_eq_ediv_of_nonneg _ (by decide)
    have hyn : ¬ Y / 4294967296 = 0 := by omega
    have G1 := first_guess D1 hU0 (by omega)
    have G2 := first_guess D2 hR1.1 (by omega)
    have hg1 : 0 ≤ U / (Y / 4294967296) ∧ U / (Y / 4294967296) ≤ 4294967297 := ⟨by have := G1.qQ; have := D1.q0; omega, G1.qB⟩
    have hg2 : 0 ≤ r1 / (Y / 4294967296) ∧ r1 / (Y / 4294967296) ≤ 4294967297 := ⟨by have := G2.qQ; have := D2.q0; omega, G2.qB⟩
    have hk1 : 0 ≤ U / (Y / 4294967296) * (Y / 4294967296) ∧ U / (Y / 4294967296) * (Y / 4294967296) ≤ U := by
      have := G1.e; have := G1.r0; exact ⟨Int.mul_nonneg hg1.1 (by omega), by omega⟩
    have hk2 : 0 ≤ r1 / (Y / 4294967296) * (Y / 4294967296) ∧ r1 / (Y / 4294967296) * (Y / 4294967296) ≤ r1 := by
      have := G2.e; have := G2.r0; exact ⟨Int.mul_nonneg hg2.1 (by omega), by omega⟩
    have S1 := l923_spec (a2 := a2) (a3 := a3) (s := (s : Int)) D1 (by rw [hs, hY, hy1]) (by rw [hs, hY, bAnd_32]) (by rw [hs, hL, ht1]) FUEL _ _ G1 (by have := G1.qB; have := D1.q0; simp only [FUEL]; omega)
    have S2 := l1837_spec (a2 := a2) (a3 := a3) (s := (s : Int)) D2 (by rw [hs, hY, hy1]) (by rw [hs, hY, bAnd_32]) (by rw [hs, hL, bAnd_32]) FUEL _ _ G2 (by have := G2.qB; have := D2.q0; simp only [FUEL]; omega)
    have w1 : IntKind.wrap .u64 (U.tdiv (Y / 4294967296)) = U / (Y / 4294967296) := by rw [tdiv_pos hU0]; exact u64_in hg1.1 (by omega)
    have w2 : IntKind.wrap .u64 (U - IntKind.wrap .u64 (U / (Y / 4294967296) * (Y / 4294967296))) = U - U / (Y / 4294967296) * (Y / 4294967296) := by
      rw [u64_in (x := U / (Y / 4294967296) * (Y / 4294967296)) hk1.1 (by omega)]; exact u64_in (by omega) (by omega)
    have w3 : IntKind.wrap .u64 (IntKind.wrap .u64 (IntKind.wrap .u64 (U * 4294967296) + T / 4294967296) - IntKind.wrap .u64 (q1 * Y)) = r1 := by
      rw [u64_eq, u64_eq, u64_eq, u64_eq]; omega
    have w4 : IntKind.wrap .u64 (r1.tdiv (Y / 4294967296)) = r1 / (Y / 4294967296) := by rw [tdiv_pos hR1.1]; exact u64_in hg2.1 (by omega)
    have w5 : IntKind.wrap .u64 (r1 - IntKind.wrap .u64 (r1 / (Y / 4294967296) * (Y / 4294967296))) = r1 - r1 / (Y / 4294967296) * (Y / 4294967296) := by
      rw [u64_in (x := r1 / (Y / 4294967296) * (Y / 4294967296)) hk2.1 (by omega)]; exact u64_in (by omega) (by omega)
    have w6 : IntKind.wrap .u64 (IntKind.wrap .u64 (IntKind.wrap .u64 (r1 * 4294967296) + T % 4294967296) - IntKind.wrap .u64 (q0 * Y)) = r1 * 4294967296 + T % 4294967296 - q0 * Y := by
      rw [u64_eq, u64_eq, u64_eq, u64_eq]; omega
    have w7 : IntKind.wrap .u64 (IntKind.wrap .u64 (q1 * 4294967296) + q0) = q1 * 4294967296 + q0 := by
      have := D1.q0; have := D1.q1; have := D2.q0; have := D2.q1
      rw [u64_in (x := q1 * 4294967296) (by omega) (by omega)]; exact u64_in (by omega) (by omega)
    have w8 : shR .u64 (r1 * 4294967296 + T % 4294967296 - q0 * Y) (s : Int) = (r1 * 4294967296 + T % 4294967296 - q0 * Y) / p := by
      rw [shR_eq (by simp only [Int.toNat_natCast, IntKind.bits]; omega), Int.toNat_natCast, hp]
    have hfin : (q1 * 4294967296 + q0) * Y + (r1 * 4294967296 + T % 4294967296 - q0 * Y) = (a1 * 18446744073709551616 + a2) * p := by
      have e1 : (q1 * 4294967296 + q0) * Y = 4294967296 * (q1 * Y) + q0 * Y := by rw [Int.add_mul, Int.mul_comm q1, Int.mul_assoc]
      have e2 : (a1 * 18446744073709551616 + a2) * p = 18446744073709551616 * (a1 * p) + a2 * p := by rw [Int.add_mul, Int.mul_comm a1, Int.mul_assoc]
      rw [e1, e2]
      omega
    have hdvd : ∃ r, r1 * 4294967296 + T % 4294967296 - q0 * Y = r * p := ⟨a1 * 18446744073709551616 + a2 - (q1 * 4294967296 + q0) * a3, by
      rw [Int.sub_mul, Int.mul_assoc, hYY]; omega⟩
    obtain ⟨r, hr⟩ := hdvd
    have hrp : (r1 * 4294967296 + T % 4294967296 - q0 * Y) / p = r := by rw [hr]; exact Int.mul_ediv_cancel _ (by omega)
    refine ⟨q1 * 4294967296 + q0, r, ?_, ?_, ?_, ?_, ?_, ?_⟩
    · unfold math_bits_Div64 math_bits_Div64.j2445 math_bits_Div64.j2444
      rw [if_neg (by omega), if_neg (by omega), if_neg ha, l1, Option.bind_some]
      simp only [hs, hs2]
      rw [if_neg (by omega), if_neg (by omega), if_neg (by omega), if_neg (by omega)]
      simp only [hY, hH, hR, hO, hL, hy1, ht1, w1, w2]
      rw [if_neg hyn, S1, Option.bind_some, if_neg hyn]
      simp only [w3, w4, w5]
      rw [S2, Option.bind_some, if_neg (by omega)]
      simp only [bAnd_32, w6, w7, w8, hrp]
    · have h3 : ((q1 * 4294967296 + q0) * a3 + r) * p = (a1 * 18446744073709551616 + a2) * p := by
        rw [Int.add_mul, Int.mul_assoc, hYY, ← hr]; exact hfin
      exact Int.eq_of_mul_eq_mul_right (by omega) h3
    · refine Int.nonneg_of_mul_nonneg_left ?_ hp0
      rw [← hr]; exact hR0.1
    · refine Int.lt_of_mul_lt_mul_right (a := p) ?_ (by omega)
      rw [← hr, hYY]; exact hR0.2
    · have := D1.q0; have := D2.q0; omega
    · have := D1.q1; have := D2.q1; omega
end Fl
