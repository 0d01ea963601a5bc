import Derived.Test.YtegfpljajjfpjaaFwT
import Derived.IntWalk
import Derived.Laws.Strings
set_option linter.unusedVariables false
/-! Words of the plain functions: what they are in whole numbers. -/
namespace Fw
open Go
theorem w64_in {x : Int} (h : -9223372036854775808 ≤ x) (h' : x ≤ 9223372036854775807) : w64 x = x := by unfold w64; rw [IntKind.wrap_i64]; omega
theorem u64_in {x : Int} (h : 0 ≤ x) (h' : x ≤ 18446744073709551615) : IntKind.wrap .u64 x = x := by simp [IntKind.wrap, IntKind.bits, IntKind.signed]; omega
theorem u64_eq (x : Int) : IntKind.wrap .u64 x = x % 18446744073709551616 := by simp [IntKind.wrap, IntKind.bits, IntKind.signed]
theorem u32_eq (x : Int) : IntKind.wrap .u32 x = x % 4294967296 := by simp [IntKind.wrap, IntKind.bits, IntKind.signed]
theorem u8_eq (x : Int) : IntKind.wrap .u8 x = x % 256 := by simp [IntKind.wrap, IntKind.bits, IntKind.signed]
theorem w64_eq (x : Int) : ∃ q : Int, w64 x = x - 18446744073709551616 * q ∧ -9223372036854775808 ≤ w64 x ∧ w64 x ≤ 9223372036854775807 := by
  unfold w64; rw [IntKind.wrap_i64]
  refine ⟨(x + 9223372036854775808) / 18446744073709551616, ?_⟩
  omega
theorem w64_lo (x : Int) : -9223372036854775808 ≤ w64 x := by obtain ⟨_, _, h, _⟩ := w64_eq x; exact h
theorem w64_hi (x : Int) : w64 x ≤ 9223372036854775807 := by obtain ⟨_, _, _, h⟩ := w64_eq x; exact h
theorem i32_eq (x : Int) : ∃ q : Int, IntKind.wrap .i32 x = x - 4294967296 * q ∧ -2147483648 ≤ IntKind.wrap .i32 x ∧ IntKind.wrap .i32 x ≤ 2147483647 := by
  rw [IntKind.wrap_i32]
  refine ⟨(x + 2147483648) / 4294967296, ?_⟩
  omega
theorem wrap_small {k : IntKind} {m : Int} (h0 : 0 ≤ m) (h : m < 2 ^ (k.bits - 1)) : k.wrap m = m := by
  have h2 : (2 : Int) ^ k.bits = 2 * 2 ^ (k.bits - 1) := by cases k <;> rfl
  unfold IntKind.wrap
  have hm : m % 2 ^ k.bits = m := Int.emod_eq_of_lt h0 (by omega)
  simp only [hm]
  have : ¬ (m ≥ 2 ^ (k.bits - 1)) := by omega
  simp [this]
theorem wrap_u {k : IntKind} (hk : k.signed = false) (m : Int) : k.wrap m = m % 2 ^ k.bits := by
  unfold IntKind.wrap; simp [hk]
theorem pow_cast (n : Nat) : ((2 ^ n : Nat) : Int) = 2 ^ n := by simp
/-- The lower bits. -/
theorem bAnd_pow {k : IntKind} (x : Int) (n : Nat) (hn : n < k.bits) : bAnd k x (2 ^ n - 1) = x % 2 ^ n := by
  have hp : 0 < 2 ^ n := Nat.two_pow_pos n
  have hlt : 2 ^ n < 2 ^ k.bits := Nat.pow_lt_pow_right (by decide) hn
  have hle : 2 ^ n ≤ 2 ^ (k.bits - 1) := Nat.pow_le_pow_right (by decide) (by omega)
  have h1 : ((2 : Int) ^ n - 1) = ((2 ^ n - 1 : Nat) : Int) := by rw [Int.ofNat_sub hp, pow_cast]; rfl
  unfold bAnd
  rw [h1, BitVec.toNat_and, BitVec.toNat_ofInt, BitVec.toNat_ofInt]
  have h2 : (((2 ^ n - 1 : Nat) : Int) % ((2 ^ k.bits : Nat) : Int)).toNat = 2 ^ n - 1 := by
    rw [Int.emod_eq_of_lt (by omega) (by omega)]; omega
  rw [h2, Nat.and_two_pow_sub_one_eq_mod]
  have hx0 : 0 ≤ x % ((2 ^ k.bits : Nat) : Int) := Int.emod_nonneg _ (by have := Nat.two_pow_pos k.bits; omega)
  have h3 : (((x % ((2 ^ k.bits : Nat) : Int)).toNat % 2 ^ n : Nat) : Int) = x % 2 ^ n := by
    rw [Int.natCast_emod, Int.toNat_of_nonneg hx0, pow_cast, pow_cast]
    exact Int.emod_emod_of_dvd _ (by rw [← pow_cast, ← pow_cast]; exact_mod_cast Nat.pow_dvd_pow 2 (by omega))
  rw [h3]
  have hmod0 : 0 ≤ x % (2 : Int) ^ n := Int.emod_nonneg _ (by rw [← pow_cast]; omega)
  have hmodlt : x % (2 : Int) ^ n < 2 ^ n := Int.emod_lt_of_pos _ (by rw [← pow_cast]; omega)
  refine wrap_small hmod0 ?_
  have : ((2 ^ n : Nat) : Int) ≤ ((2 ^ (k.bits - 1) : Nat) : Int) := by exact_mod_cast hle
  rw [pow_cast, pow_cast] at this
  omega
/-- Bits side by side. -/
theorem bOr_add {k : IntKind} {a b : Int} (n : Nat) (ha : 0 ≤ a) (hb : 0 ≤ b) (hbn : b < 2 ^ n) (hs : a * 2 ^ n + b < 2 ^ k.bits) (hk : k.signed = false) : bOr k (a * 2 ^ n) b = a * 2 ^ n + b := by
  obtain ⟨A, rfl⟩ := Int.eq_ofNat_of_zero_le ha
  obtain ⟨B, rfl⟩ := Int.eq_ofNat_of_zero_le hb
  have hB : B < 2 ^ n := by rw [← pow_cast] at hbn; exact_mod_cast hbn
  have hs' : A * 2 ^ n + B < 2 ^ k.bits := by rw [← pow_cast, ← pow_cast] at hs; exact_mod_cast hs
  have e1 : ((A : Int) * 2 ^ n) = ((A * 2 ^ n : Nat) : Int) := by rw [Int.natCast_mul, pow_cast]
  unfold bOr
  rw [e1, BitVec.toNat_or, BitVec.toNat_ofInt, BitVec.toNat_ofInt]
  rw [Int.emod_eq_of_lt (by omega) (by omega), Int.emod_eq_of_lt (by omega) (by omega), Int.toNat_natCast, Int.toNat_natCast]
  rw [Nat.mul_comm A, ← Nat.two_pow_add_eq_or_of_lt hB, wrap_u hk]
  rw [← pow_cast k.bits, Int.emod_eq_of_lt (by omega) (by rw [Nat.mul_comm]; omega)]
  omega
theorem shL_eq {k : IntKind} {x y : Int} (hy : y.toNat ≤ k.bits) : shL k x y = k.wrap (x * 2 ^ y.toNat) := by
  unfold shL; rw [Nat.min_eq_left hy]
theorem shR_eq {k : IntKind} {x y : Int} (hy : y.toNat ≤ k.bits) : shR k x y = x / 2 ^ y.toNat := by
  unfold shR; rw [Nat.min_eq_left hy]
  exact Int.fdiv_eq_ediv_of_nonneg _ (by rw [← pow_cast]; exact Int.natCast_nonneg _)
/-! ### Lists, strings -/
theorem idx_some {α : Type} {l : List α} {i : Int} (h0 : 0 ≤ i) (h1 : i < (l.length : Int)) : ∃ y, idx l i = some y ∧ l[i.toNat]? = some y := by
  have : i.toNat < l.length := by omega
  exact ⟨l[i.toNat], by unfold idx; rw [if_pos h0]; simp [this], by simp [this]⟩
theorem idx_nat {α : Type} {l : List α} {i : Nat} {y : α} (h : l[i]? = some y) : idx l (i : Int) = some y := by
  unfold idx; rw [if_pos (by omega)]; simpa using h
theorem cat_in {α : Type} {n : Nat} {L M : List α} (h : L.length + M.length ≤ n) : cat n L M = some (L ++ M) := by unfold cat; rw [if_pos h]
/-- A byte. -/
def byt (s : ByteArray) (i : Nat) : Nat := (s.data.getD i 0).toNat
theorem byt_lt (s : ByteArray) (i : Nat) : byt s i < 256 := UInt8.toNat_lt _
theorem bidx_in {s : ByteArray} {i : Int} (h0 : 0 ≤ i) (h1 : i < (s.size : Int)) : bidx s i = some (byt s i.toNat : Int) := by
  unfold bidx
  have hl : i.toNat < s.size := by omega
  rw [if_pos h0, getElem?_pos s i.toNat hl, Option.map_some]
  congr 2
  unfold byt
  have : i.toNat < s.data.size := hl
  rw [Array.getD_eq_getD_getElem?, Array.getElem?_eq_getElem this]
  rfl
theorem bsl_in {s : ByteArray} {lo hi : Int} (h0 : 0 ≤ lo) (h1 : lo ≤ hi) (h2 : hi ≤ (s.size : Int)) : bsl s lo hi = some (s.extract lo.toNat hi.toNat) := by
  unfold bsl; rw [if_pos ⟨by omega, h2⟩, if_pos ⟨h0, h1⟩]
theorem size_extract (s : ByteArray) (a b : Nat) (h : b ≤ s.size) : (s.extract a b).size = b - a := by
  rw [ByteArray.size_extract]; omega
theorem byt_extract (s : ByteArray) (a b i : Nat) (h : a + i < b) (hb : b ≤ s.size) : byt (s.extract a b) i = byt s (a + i) := by
  unfold byt
  rw [ByteArray.data_extract, Array.getD_eq_getD_getElem?, Array.getD_eq_getD_getElem?, Array.getElem?_extract]
  have hs : s.data.size = s.size := rfl
  rw [if_pos (by omega)]
theorem extract_extract (s : ByteArray) (a b c d : Nat) (hd : a + d ≤ b) : (s.extract a b).extract c d = s.extract (a + c) (a + d) := by
  apply ByteArray.ext
  rw [ByteArray.data_extract, ByteArray.data_extract, ByteArray.data_extract, Array.extract_extract]
  congr 1
  omega
theorem extract_all (s : ByteArray) : s.extract 0 s.size = s := by
  apply ByteArray.ext
  rw [ByteArray.data_extract]
  exact Array.extract_size
theorem sEq_iff {a b : ByteArray} : sEq a b = true ↔ a = b := by
  unfold sEq
  rw [beq_iff_eq, Go.ByteArray.toList_eq, Go.ByteArray.toList_eq]
  constructor
  · intro h
    apply ByteArray.ext
    exact Array.toList_inj.1 h
  · rintro rfl; rfl
theorem size_zero {s : ByteArray} (h : s.size = 0) : s = (⟨#[]⟩ : ByteArray) := by
  apply ByteArray.ext
  exact Array.eq_empty_of_size_eq_zero h
theorem sEq_empty (s : ByteArray) : (sEq s (⟨#[]⟩ : ByteArray) = true) ↔ s.size = 0 := by
  rw [sEq_iff]
  exact ⟨fun h => by rw [h]; rfl, size_zero⟩
end Fw
