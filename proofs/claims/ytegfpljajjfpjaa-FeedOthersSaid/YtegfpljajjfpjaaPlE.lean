import Derived.Test.YtegfpljajjfpjaaPlD
set_option linter.unusedVariables false
/-! The reader of bits. -/
namespace Fl
open Go Fw
theorem fuel_big : 1000000000000 ≤ FUEL := by unfold FUEL; decide
def bitI (s : ByteArray) (i : Nat) : Int := (byt s (i / 8) / 2 ^ (7 - i % 8) % 2 : Nat)
def bitsV (s : ByteArray) (at_ : Nat) : Nat → Int
  | 0 => 0
  | n + 1 => 2 * bitsV s at_ n + bitI s (at_ + n)
theorem bitI_in (s : ByteArray) (i : Nat) : 0 ≤ bitI s i ∧ bitI s i ≤ 1 := by unfold bitI; omega
theorem bitsV_in (s : ByteArray) (a n : Nat) : 0 ≤ bitsV s a n ∧ bitsV s a n < 2 ^ n := by
  induction n with
  | zero => exact ⟨Int.le_refl _, by show (0 : Int) < 1; decide⟩
  | succ n ih =>
    have := bitI_in s (a + n)
    rw [Int.pow_succ]
    unfold bitsV
    omega
structure Rd (r : S_bits_Reader) : Prop where
  sz : r.s.size ≤ 65536
  lo : 0 ≤ r.at_
  hi : r.at_ ≤ 8 * (r.s.size : Int)
/-- What 'Get' is. -/
def getS (r : S_bits_Reader) (n : Int) : Int × S_bits_Reader :=
  if r.bad = true then (0, r) else if n < 0 ∨ 32 < n ∨ 8 * (r.s.size : Int) - r.at_ < n then (0, ⟨r.s, r.at_, true⟩) else (bitsV r.s r.at_.toNat n.toNat, ⟨r.s, r.at_ + n, r.bad⟩)
theorem step_bit (x : Int) (b j : Nat) (h0 : 0 ≤ x) (h1 : x < 2147483648) (hb : b < 256) (hj : j ≤ 7) :
    bOr .u32 (IntKind.wrap .u32 (x * 2)) (IntKind.wrap .u32 (bAnd .u8 (shR .u8 (b : Int) (j : Int)) 1)) = 2 * x + (b / 2 ^ j % 2 : Nat) := by
  rw [shR_eq (by simp only [Int.toNat_natCast, IntKind.bits]; omega), Int.toNat_natCast]
  have e1 : bAnd .u8 ((b : Int) / 2 ^ j) 1 = (b : Int) / 2 ^ j % 2 := bAnd_pow ((b : Int) / 2 ^ j) 1 (by decide)
  have e2 : (b : Int) / 2 ^ j % 2 = ((b / 2 ^ j % 2 : Nat) : Int) := by rw [← pow_cast, ← Int.natCast_ediv]; rfl
  rw [e1, e2, u32_eq, u32_eq]
  have h2 : b / 2 ^ j % 2 < 2 := Nat.mod_lt _ (by decide)
  rw [show x * 2 % 4294967296 = x * 2 ^ 1 by omega, show ((b / 2 ^ j % 2 : Nat) : Int) % 4294967296 = ((b / 2 ^ j % 2 : Nat) : Int) by omega]
  rw [bOr_add 1 h0 (by omega) (by omega) (by show x * 2 + _ < 4294967296; omega) rfl]
  omega
theorem l1848_spec (r : S_bits_Reader) (h : Rd r) (n : Nat) (hn : n ≤ 32) (hl : (n : Int) ≤ 8 * (r.s.size : Int) - r.at_) : ∀ (k j : Nat), j ≤ n → n - j < k →
    bits_Reader_Get.l1848 r n k (bitsV r.s r.at_.toNat j) ⟨r.s, r.at_ + j, r.bad⟩ = some (bitsV r.s r.at_.toNat n, ⟨r.s, r.at_ + n, r.bad⟩) := by
  have hsz := h.sz; have hlo := h.lo; have hhi := h.hi
  intro k
  induction k with
  | zero => intro j _ h; omega
  | succ k ih =>
    intro j hj hk
    unfold bits_Reader_Get.l1848
    dsimp only
    rw [w64_in (x := r.at_ + (n : Int)) (by omega) (by omega)]
    by_cases hlt : j < n
    · rw [if_pos (by omega)]
      have ht : (r.at_ + (j : Int)).tdiv 8 = (r.at_ + (j : Int)) / 8 := tdiv_pos (by omega)
      have hm : (r.at_ + (j : Int)).tmod 8 = (r.at_ + (j : Int)) % 8 := tmod_pos (by omega)
      rw [ht, hm, w64_in (x := (r.at_ + (j : Int)) / 8) (by omega) (by omega), bidx_in (by omega) (by omega), Option.bind_some, w64_in (x := 7 - (r.at_ + (j : Int)) % 8) (by omega) (by omega), if_neg (by omega)]
      have hb := bitsV_in r.s r.at_.toNat j
      have hp : (2 : Int) ^ j ≤ 2147483648 := by
        have : (2 : Nat) ^ j ≤ 2 ^ 31 := Nat.pow_le_pow_right (by decide) (by omega)
        rw [← pow_cast]; generalize 2 ^ j = z at this ⊢; omega
      have e1 : 7 - (r.at_ + (j : Int)) % 8 = ((7 - (r.at_.toNat + j) % 8 : Nat) : Int) := by omega
      have e2 : ((r.at_ + (j : Int)) / 8).toNat = (r.at_.toNat + j) / 8 := by omega
      rw [e1, e2, step_bit _ _ _ hb.1 (by omega) (byt_lt _ _) (by omega), w64_in (x := r.at_ + (j : Int) + 1) (by omega) (by omega)]
      have := ih (j + 1) (by omega) (by omega)
      rw [show bitsV r.s r.at_.toNat (j + 1) = 2 * bitsV r.s r.at_.toNat j + ((byt r.s ((r.at_.toNat + j) / 8) / 2 ^ (7 - (r.at_.toNat + j) % 8) % 2 : Nat) : Int) from rfl] at this
      rw [show r.at_ + (j : Int) + 1 = r.at_ + ((j + 1 : Nat) : Int) by omega]
      exact this
    · rw [if_neg (by omega)]
      obtain rfl : j = n := by omega
      rfl
theorem Get_spec (r : S_bits_Reader) (n : Int) (h : Rd r) (h1 : -9223372036854775808 ≤ n) (h2 : n ≤ 9223372036854775807) : bits_Reader_Get r n = some (getS r n) := by
  have hsz := h.sz; have hlo := h.lo; have hhi := h.hi
  unfold bits_Reader_Get bits_Reader_Get.j1854 bits_Reader_Get.j1536 bits_Reader_Get.j1853 getS
  by_cases hb : r.bad = true
  · rw [if_pos hb, if_pos hb]
  · rw [if_neg hb, if_neg hb]
    simp only [if_true]
    rw [w64_in (x := 8 * (r.s.size : Int)) (by omega) (by omega), w64_in (x := 8 * (r.s.size : Int) - r.at_) (by omega) (by omega)]
    by_cases c1 : n < 0
    · rw [if_pos c1, if_pos (.inl c1)]
    · rw [if_neg c1]
      by_cases c2 : 32 < n
      · rw [if_pos c2, if_pos (.inr (.inl c2))]
      · rw [if_neg c2]
        by_cases c3 : 8 * (r.s.size : Int) - r.at_ < n
        · rw [if_pos (by simpa using c3), if_pos (.inr (.inr c3))]
        · rw [if_neg (by simpa using c3), if_neg (by omega)]
          have := l1848_spec r h n.toNat (by omega) (by omega) FUEL 0 (Nat.zero_le _) (by have := fuel_big; omega)
          rw [show ((n.toNat : Nat) : Int) = n by omega] at this
          rw [show r.at_ + ((0 : Nat) : Int) = r.at_ by omega] at this
          exact this
theorem getS_rd {r : S_bits_Reader} {n : Int} (h : Rd r) : Rd (getS r n).2 ∧ (getS r n).2.s = r.s := by
  have hsz := h.sz; have hlo := h.lo; have hhi := h.hi
  unfold getS
  split
  · exact ⟨h, rfl⟩
  · split
    · exact ⟨⟨hsz, hlo, hhi⟩, rfl⟩
    · rename_i hc; exact ⟨⟨hsz, by show 0 ≤ r.at_ + n; omega, by show r.at_ + n ≤ 8 * (r.s.size : Int); omega⟩, rfl⟩
theorem getS_in {r : S_bits_Reader} (n : Nat) : 0 ≤ (getS r n).1 ∧ (getS r n).1 < 2 ^ n := by
  have hp : (0 : Int) < 2 ^ n := by rw [← pow_cast]; exact_mod_cast Nat.two_pow_pos n
  unfold getS
  split
  · exact ⟨Int.le_refl _, hp⟩
  · split
    · exact ⟨Int.le_refl _, hp⟩
    · exact bitsV_in _ _ _
theorem Left_spec (r : S_bits_Reader) (h : Rd r) : bits_Reader_Left r = some (if r.bad = true then 0 else 8 * (r.s.size : Int) - r.at_) := by
  have hsz := h.sz; have hlo := h.lo; have hhi := h.hi
  unfold bits_Reader_Left bits_Reader_Left.j303
  split
  · rfl
  · rw [w64_in (x := 8 * (r.s.size : Int)) (by omega) (by omega), w64_in (by omega) (by omega)]
theorem rd_read {s : ByteArray} (h : s.size ≤ 65536) : Rd ⟨s, 0, false⟩ := ⟨h, Int.le_refl _, by show (0 : Int) ≤ 8 * (s.size : Int); omega⟩
end Fl
