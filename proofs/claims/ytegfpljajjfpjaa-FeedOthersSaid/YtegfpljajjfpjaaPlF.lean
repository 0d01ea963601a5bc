import Derived.Test.YtegfpljajjfpjaaPlE
set_option linter.unusedVariables false
/-! Messages and their parts. -/
namespace Fl
open Go Fw
theorem getS_ok {s : ByteArray} {at_ n : Int} (h0 : 0 ≤ n) (h1 : n ≤ 32) (h2 : n ≤ 8 * (s.size : Int) - at_) : getS ⟨s, at_, false⟩ n = (bitsV s at_.toNat n.toNat, ⟨s, at_ + n, false⟩) := by
  unfold getS
  simp only [Bool.false_eq_true, if_false]
  rw [if_neg (by omega)]
theorem getS_bad {s : ByteArray} {at_ n : Int} (h2 : 8 * (s.size : Int) - at_ < n) : getS ⟨s, at_, false⟩ n = (0, ⟨s, at_, true⟩) := by
  unfold getS
  simp only [Bool.false_eq_true, if_false]
  rw [if_pos (by omega)]
theorem getS_was {s : ByteArray} {at_ n : Int} : getS ⟨s, at_, true⟩ n = (0, ⟨s, at_, true⟩) := by unfold getS; simp
/-- What a part is. -/
def partP (t : ByteArray) : Except Int (S_api_Part × Int) :=
  let n : Nat := 4 * (256 * byt t 2 + byt t 3)
  if t.size < 4 then .error 60 else
  if t.size < 4 + n then .error 60 else
  if byt t 0 / 64 ≠ 2 then .error 70 else
  if byt t 1 < 192 ∨ 223 < byt t 1 then .error 81 else
  if byt t 0 / 32 % 2 = 1 then
    let m := if 0 < n then byt t (4 + n - 1) else 0
    if 4 + n = t.size ∧ 4 ≤ m ∧ m % 4 = 0 ∧ m ≤ n then .ok (⟨(byt t 0 % 32 : Nat), (byt t 1 : Nat), t.extract 4 (4 + n - m)⟩, ((4 + n : Nat) : Int)) else .error 91
  else .ok (⟨(byt t 0 % 32 : Nat), (byt t 1 : Nat), t.extract 4 (4 + n)⟩, ((4 + n : Nat) : Int))
def flt (e : Int) : Value := .iface 71 (.agg #[.int .i64 e])
def toX {α : Type} : Except Int α → Except Value α
  | .ok x => .ok x
  | .error e => .error (flt e)
theorem want_t (e : Int) : rtcp_want true e = some (.ok ()) := by simp [rtcp_want]
theorem want_f (e : Int) : rtcp_want false e = some (.error (flt e)) := by simp [rtcp_want, flt]
theorem bits_b0 (s : ByteArray) : bitsV s 0 2 = (byt s 0 / 64 : Nat) ∧ bitsV s 2 1 = (byt s 0 / 32 % 2 : Nat) ∧ bitsV s 3 5 = (byt s 0 % 32 : Nat) := by
  have hb := byt_lt s 0
  simp only [bitsV, bitI, show (0 + 0) / 8 = 0 from rfl, show (0 + 1) / 8 = 0 from rfl, show (2 + 0) / 8 = 0 from rfl, show (3 + 0) / 8 = 0 from rfl, show (3 + 1) / 8 = 0 from rfl, show (3 + 2) / 8 = 0 from rfl, show (3 + 3) / 8 = 0 from rfl, show (3 + 4) / 8 = 0 from rfl,
    show 7 - (0 + 0) % 8 = 7 from rfl, show 7 - (0 + 1) % 8 = 6 from rfl, show 7 - (2 + 0) % 8 = 5 from rfl, show 7 - (3 + 0) % 8 = 4 from rfl, show 7 - (3 + 1) % 8 = 3 from rfl, show 7 - (3 + 2) % 8 = 2 from rfl, show 7 - (3 + 3) % 8 = 1 from rfl, show 7 - (3 + 4) % 8 = 0 from rfl]
  generalize byt s 0 = b at *
  omega
theorem bitsV_add (s : ByteArray) (a m : Nat) : ∀ n : Nat, bitsV s a (m + n) = bitsV s a m * 2 ^ n + bitsV s (a + m) n
  | 0 => by simp [bitsV]
  | n + 1 => by
    show 2 * bitsV s a (m + n) + bitI s (a + (m + n)) = _
    rw [bitsV_add s a m n, Int.pow_succ]
    have : bitsV s a m * (2 ^ n * 2) = 2 * (bitsV s a m * 2 ^ n) := by rw [← Int.mul_assoc]; omega
    show _ = _ + (2 * bitsV s (a + m) n + bitI s (a + m + n))
    rw [this, Nat.add_assoc a m n]
    omega
theorem bits_byte (s : ByteArray) (i : Nat) : bitsV s (8 * i) 8 = (byt s i : Nat) := by
  have hb := byt_lt s i
  have e : ∀ j : Nat, j < 8 → bitI s (8 * i + j) = (byt s i / 2 ^ (7 - j) % 2 : Nat) := fun j hj => by
    unfold bitI
    rw [show (8 * i + j) / 8 = i by omega, show (8 * i + j) % 8 = j by omega]
  simp only [bitsV, e 0 (by decide), e 1 (by decide), e 2 (by decide), e 3 (by decide), e 4 (by decide), e 5 (by decide), e 6 (by decide), e 7 (by decide)]
  generalize byt s i = b at *
  simp only [show 2 ^ (7 - 0) = 128 from rfl, show 2 ^ (7 - 1) = 64 from rfl, show 2 ^ (7 - 2) = 32 from rfl, show 2 ^ (7 - 3) = 16 from rfl, show 2 ^ (7 - 4) = 8 from rfl, show 2 ^ (7 - 5) = 4 from rfl, show 2 ^ (7 - 6) = 2 from rfl, show 2 ^ (7 - 7) = 1 from rfl]
  omega
theorem bits_word (s : ByteArray) (i : Nat) : bitsV s (8 * i) 16 = 256 * (byt s i : Nat) + (byt s (i + 1) : Nat) := by
  have := bitsV_add s (8 * i) 8 8
  rw [show 8 * i + 8 = 8 * (i + 1) by omega, bits_byte, bits_byte] at this
  rw [show (8 + 8 : Nat) = 16 from rfl] at this
  rw [this]
  show (byt s i : Int) * 256 + _ = _
  omega
theorem part_spec (t : ByteArray) (ht : t.size ≤ 65536) : rtcp_part t = some (toX (partP t)) := by
  unfold rtcp_part bits_Read
  have R0 : Rd ⟨t, 0, false⟩ := rd_read ht
  rw [Option.bind_some, Get_spec _ 2 R0 (by decide) (by decide), Option.bind_some]
  have R1 := (getS_rd (n := 2) R0).1
  rw [Get_spec _ 1 R1 (by decide) (by decide), Option.bind_some]
  have R2 := (getS_rd (n := 1) R1).1
  rw [Get_spec _ 5 R2 (by decide) (by decide), Option.bind_some]
  have R3 := (getS_rd (n := 5) R2).1
  rw [Get_spec _ 8 R3 (by decide) (by decide), Option.bind_some]
  have R4 := (getS_rd (n := 8) R3).1
  rw [Get_spec _ 16 R4 (by decide) (by decide), Option.bind_some]
  clear R0 R1 R2 R3 R4
  unfold bits_Reader_Bad
  rw [Option.bind_some]
  by_cases h4 : t.size < 4
  · have hP : partP t = .error 60 := by unfold partP; simp only; rw [if_pos h4]
    rw [hP]
    have hbad : (getS (getS (getS (getS (getS ⟨t, 0, false⟩ 2).2 1).2 5).2 8).2 16).2.bad = true := by
      by_cases c0 : t.size = 0
      · rw [getS_bad (n := 2) (by omega)]; simp only [getS_was]
      · rw [getS_ok (n := 2) (by decide) (by decide) (by omega)]
        rw [getS_ok (n := 1) (by decide) (by decide) (by omega)]
        rw [getS_ok (n := 5) (by decide) (by decide) (by omega)]
        by_cases c1 : t.size = 1
        · rw [getS_bad (n := 8) (by omega)]; simp only [getS_was]
        · rw [getS_ok (n := 8) (by decide) (by decide) (by omega)]
          rw [getS_bad (n := 16) (by omega)]
    rw [if_pos hbad, want_f, Option.bind_some]
    rfl
  · rw [getS_ok (n := 2) (by decide) (by decide) (by omega)]
    dsimp only
    rw [getS_ok (n := 1) (by decide) (by decide) (by omega)]
    dsimp only
    rw [getS_ok (n := 5) (by decide) (by decide) (by omega)]
    dsimp only
    rw [getS_ok (n := 8) (by decide) (by decide) (by omega)]
    dsimp only
    rw [getS_ok (n := 16) (by decide) (by decide) (by omega)]
    dsimp only
    obtain ⟨b1, b2, b3⟩ := bits_b0 t
    have b4 := bits_byte t 1
    have b5 : bitsV t (8 * 2) 16 = 256 * ((byt t 2 : Nat) : Int) + ((byt t 3 : Nat) : Int) := bits_word t 2
    simp only [show (0 : Int).toNat = 0 from rfl, show (2 : Int).toNat = 2 from rfl, show (0 + 2 : Int).toNat = 2 from rfl, show (1 : Int).toNat = 1 from rfl, show (0 + 2 + 1 : Int).toNat = 3 from rfl, show (5 : Int).toNat = 5 from rfl, show (0 + 2 + 1 + 5 : Int).toNat = 8 * 1 from rfl, show (8 : Int).toNat = 8 from rfl, show (0 + 2 + 1 + 5 + 8 : Int).toNat = 8 * 2 from rfl, show (16 : Int).toNat = 16 from rfl, b1, b2, b3, b4, b5]
    have x0 := byt_lt t 0
    have x1 := byt_lt t 1
    have x2 := byt_lt t 2
    have x3 := byt_lt t 3
    have w1 : w64 (256 * ((byt t 2 : Nat) : Int) + ((byt t 3 : Nat) : Int)) = 256 * ((byt t 2 : Nat) : Int) + ((byt t 3 : Nat) : Int) := w64_in (by omega) (by omega)
    have w2 : w64 (4 * (256 * ((byt t 2 : Nat) : Int) + ((byt t 3 : Nat) : Int))) = 4 * (256 * ((byt t 2 : Nat) : Int) + ((byt t 3 : Nat) : Int)) := w64_in (by omega) (by omega)
    have w3 : w64 (4 + 4 * (256 * ((byt t 2 : Nat) : Int) + ((byt t 3 : Nat) : Int))) = ((4 + 4 * (256 * byt t 2 + byt t 3) : Nat) : Int) := by rw [w64_in (by omega) (by omega)]; omega
    have w4 : w64 ((byt t 1 : Nat) : Int) = ((byt t 1 : Nat) : Int) := w64_in (by omega) (by omega)
    have w5 : w64 ((byt t 0 % 32 : Nat) : Int) = ((byt t 0 % 32 : Nat) : Int) := w64_in (by omega) (by omega)
    simp only [Bool.false_eq_true, if_false]
    unfold rtcp_part.j1574 rtcp_part.j1573 rtcp_part.j1572
    simp only [w1, w2, w3, w4, w5]
    unfold partP
    dsimp only
    rw [if_neg h4]
    generalize hn : 4 * (256 * byt t 2 + byt t 3) = n at *
    have hn2 : n ≤ 262140 := by omega
    by_cases hs : t.size < 4 + n
    · rw [if_pos hs, show decide (((4 + n : Nat) : Int) ≤ (t.size : Int)) = false by simp; omega, want_f]; rfl
    · rw [if_neg hs, show decide (((4 + n : Nat) : Int) ≤ (t.size : Int)) = true by simp; omega, want_t, Option.bind_some]
      dsimp only [onOk]
      by_cases hm : byt t 0 / 64 = 2
      · rw [if_neg (show ¬ (byt t 0 / 64 ≠ 2) by omega), show (((byt t 0 / 64 : Nat) : Int) == 2) = true by simp; omega, want_t, Option.bind_some]
        dsimp only [onOk]
        by_cases hk1 : 192 ≤ byt t 1
        · rw [if_pos (show (192 : Int) ≤ ((byt t 1 : Nat) : Int) by omega)]
          by_cases hk2 : byt t 1 ≤ 223
          · rw [show decide (((byt t 1 : Nat) : Int) ≤ 223) = true by simp; omega, want_t, Option.bind_some, if_neg (show ¬ (byt t 1 < 192 ∨ 223 < byt t 1) by omega)]
            dsimp only [onOk]
            rw [bsl_in (by decide) (by omega) (by omega), Option.bind_some]
            have hsz : (t.extract (4 : Int).toNat ((4 + n : Nat) : Int).toNat).size = n := by rw [size_extract _ _ _ (by omega)]; omega
            by_cases hp : byt t 0 / 32 % 2 = 1
            · rw [if_pos (show ((byt t 0 / 32 % 2 : Nat) : Int) = 1 by omega), if_pos hp]
              have fin : ∀ m : Nat, m < 256 → rtcp_part.j1270 t (((byt t 0 % 32 : Nat) : Int), ⟨t, 0 + 2 + 1 + 5, false⟩) (((byt t 1 : Nat) : Int), ⟨t, 0 + 2 + 1 + 5 + 8, false⟩) (256 * ((byt t 2 : Nat) : Int) + ((byt t 3 : Nat) : Int), ⟨t, 0 + 2 + 1 + 5 + 8 + 16, false⟩) (t.extract (4 : Int).toNat ((4 + n : Nat) : Int).toNat) (m : Int) =
                  some (toX (if 4 + n = t.size ∧ 4 ≤ m ∧ m % 4 = 0 ∧ m ≤ n then .ok (⟨(byt t 0 % 32 : Nat), (byt t 1 : Nat), t.extract 4 (4 + n - m)⟩, ((4 + n : Nat) : Int)) else .error 91)) := by
                intro m hm256
                unfold rtcp_part.j1270
                dsimp only
                rw [w1, w2, w3]
                by_cases c1 : 4 + n = t.size
                · rw [if_pos (show ((4 + n : Nat) : Int) = (t.size : Int) by omega)]
                  by_cases c2 : 4 ≤ m
                  · rw [if_pos (show (4 : Int) ≤ (m : Int) by omega), tmod_pos (by omega)]
                    by_cases c3 : m % 4 = 0
                    · rw [if_pos (show (m : Int) % 4 = 0 by omega), hsz]
                      by_cases c4 : m ≤ n
                      · rw [show decide ((m : Int) ≤ (n : Int)) = true by simp; omega, want_t, Option.bind_some, if_pos ⟨c1, c2, c3, c4⟩]
                        dsimp only [onOk]
                        unfold rtcp_part.j1269 rtcp_part.j1572
                        dsimp only
                        rw [hsz, w64_in (x := (n : Int) - (m : Int)) (by omega) (by omega), bsl_in (by decide) (by omega) (by rw [hsz]; omega), Option.bind_some, w1, w2, w3, w4, w5]
                        have : (t.extract (4 : Int).toNat ((4 + n : Nat) : Int).toNat).extract (0 : Int).toNat ((n : Int) - (m : Int)).toNat = t.extract 4 (4 + n - m) := by
                          show (t.extract 4 (4 + n)).extract 0 ((n : Int) - (m : Int)).toNat = _
                          rw [extract_extract _ _ _ _ _ (by omega)]
                          congr 1; omega
                        rw [this]; rfl
                      · rw [show decide ((m : Int) ≤ (n : Int)) = false by simp; omega, want_f, if_neg (fun h => c4 h.2.2.2)]; rfl
                    · rw [if_neg (show ¬ (m : Int) % 4 = 0 by omega), want_f, if_neg (fun h => c3 h.2.2.1)]; rfl
                  · rw [if_neg (show ¬ (4 : Int) ≤ (m : Int) by omega), want_f, if_neg (fun h => c2 h.2.1)]; rfl
                · rw [if_neg (show ¬ ((4 + n : Nat) : Int) = (t.size : Int) by omega), want_f, if_neg (fun h => c1 h.1)]; rfl
              by_cases hn0 : 0 < n
              · rw [if_pos (show (4 : Int) < ((4 + n : Nat) : Int) by omega), w64_in (x := ((4 + n : Nat) : Int) - 1) (by omega) (by omega), bidx_in (by omega) (by omega), Option.bind_some, show (((4 + n : Nat) : Int) - 1).toNat = 4 + n - 1 by omega]
                have := byt_lt t (4 + n - 1)
                rw [w64_in (x := ((byt t (4 + n - 1) : Nat) : Int)) (by omega) (by omega), if_pos hn0]
                exact fin _ this
              · rw [if_neg (show ¬ (4 : Int) < ((4 + n : Nat) : Int) by omega), if_neg hn0]
                exact fin 0 (by decide)
            · rw [if_neg (show ¬ ((byt t 0 / 32 % 2 : Nat) : Int) = 1 by omega), if_neg hp]
              rfl
          · rw [show decide (((byt t 1 : Nat) : Int) ≤ 223) = false by simp; omega, want_f, if_pos (show byt t 1 < 192 ∨ 223 < byt t 1 by omega)]; rfl
        · rw [if_neg (show ¬ (192 : Int) ≤ ((byt t 1 : Nat) : Int) by omega), want_f, if_pos (show byt t 1 < 192 ∨ 223 < byt t 1 by omega)]; rfl
      · rw [if_pos (show byt t 0 / 64 ≠ 2 from hm), show (((byt t 0 / 64 : Nat) : Int) == 2) = false by simp; omega, want_f]; rfl
end Fl
