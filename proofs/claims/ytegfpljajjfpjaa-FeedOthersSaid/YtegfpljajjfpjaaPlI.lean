import Derived.Test.YtegfpljajjfpjaaPlH
set_option linter.unusedVariables false
/-! All that decodes ends. -/
namespace Fl
open Go Fw
theorem get_bind {α : Type} {r : S_bits_Reader} (n : Nat) (h : Rd r) (hn : n ≤ 100000) (f : Int × S_bits_Reader → Option α) : (bits_Reader_Get r (n : Int)).bind f = f (getS r n) := by
  rw [Get_spec r n h (by omega) (by omega)]; rfl
def left (r : S_bits_Reader) : Int := if r.bad = true then 0 else 8 * (r.s.size : Int) - r.at_
theorem left_in {r : S_bits_Reader} (h : Rd r) : 0 ≤ left r ∧ left r ≤ 524288 := by have := h.sz; have := h.lo; have := h.hi; unfold left; split <;> omega
theorem left_bind {α : Type} {r : S_bits_Reader} (h : Rd r) (f : Int → Option α) : (bits_Reader_Left r).bind f = f (left r) := by rw [Left_spec r h]; rfl
theorem left_get_le {r : S_bits_Reader} (n : Nat) (h : Rd r) : left (getS r n).2 ≤ left r := by
  have hl := left_in h
  obtain ⟨s, a, b⟩ := r
  cases b with
  | true => rw [getS_was]; exact Int.le_refl _
  | false =>
    have e1 : left ⟨s, a, false⟩ = 8 * (s.size : Int) - a := rfl
    rw [e1] at *
    unfold getS
    simp only [Bool.false_eq_true, if_false]
    by_cases c : (n : Int) < 0 ∨ 32 < (n : Int) ∨ 8 * (s.size : Int) - a < (n : Int)
    · rw [if_pos c]; exact hl.1
    · rw [if_neg c]; show 8 * (s.size : Int) - (a + n) ≤ _; omega
theorem left_get {r : S_bits_Reader} (n : Nat) (_h : Rd r) (hn : 0 < n) (hl : 0 < left r) : left (getS r n).2 < left r := by
  obtain ⟨s, a, b⟩ := r
  cases b with
  | true => exact absurd hl (Int.lt_irrefl 0)
  | false =>
    have e1 : left ⟨s, a, false⟩ = 8 * (s.size : Int) - a := rfl
    rw [e1] at *
    unfold getS
    simp only [Bool.false_eq_true, if_false]
    by_cases c : (n : Int) < 0 ∨ 32 < (n : Int) ∨ 8 * (s.size : Int) - a < (n : Int)
    · rw [if_pos c]; exact hl
    · rw [if_neg c]; show 8 * (s.size : Int) - (a + n) < _; omega
theorem rd1 {r : S_bits_Reader} (n : Nat) (h : Rd r) : Rd (getS r n).2 := (getS_rd h).1
theorem get_in {r : S_bits_Reader} (n : Nat) (hn : n ≤ 32) : 0 ≤ (getS r n).1 ∧ (getS r n).1 ≤ 4294967295 ∧ (n ≤ 16 → (getS r n).1 ≤ 65535) ∧ (n ≤ 13 → (getS r n).1 ≤ 8191) ∧ (n ≤ 2 → (getS r n).1 ≤ 3) := by
  have h := getS_in (r := r) n
  have hp : ∀ m : Nat, n ≤ m → (2 : Int) ^ n ≤ 2 ^ m := fun m hm => by
    rw [← pow_cast, ← pow_cast]; exact Int.ofNat_le.2 (Nat.pow_le_pow_right (by decide) hm)
  have e32 : (2 : Int) ^ 32 = 4294967296 := rfl
  have e16 : (2 : Int) ^ 16 = 65536 := rfl
  have e13 : (2 : Int) ^ 13 = 8192 := rfl
  have e2 : (2 : Int) ^ 2 = 4 := rfl
  have := hp 32 hn
  exact ⟨h.1, by omega, fun hm => by have := hp 16 hm; omega, fun hm => by have := hp 13 hm; omega, fun hm => by have := hp 2 hm; omega⟩
/-! ### The first kind -/
structure BlockOk (b : S_api_Block) : Prop where
  len : b.Metrics.length ≤ 4096
  ago : ∀ m ∈ b.Metrics, 0 ≤ m.Ago ∧ m.Ago ≤ 8191
theorem block_nil (a b : Int) : BlockOk ⟨a, b, []⟩ := ⟨by simp, fun m hm => by cases hm⟩
theorem block_loop (y1 y2 y3 : Int × S_bits_Reader) (h3 : 0 ≤ y3.1 ∧ y3.1 ≤ 4096) : ∀ (k i : Nat) (r : S_bits_Reader) (l : List S_api_Metric), Rd r → l.length = i → (i : Int) ≤ y3.1 → (∀ m ∈ l, 0 ≤ m.Ago ∧ m.Ago ≤ 8191) → (y3.1 - i).toNat < k →
    ∃ b e r', ccfb_block.l6196 y1 y2 y3 k (i : Int) r l = some (b, e, r') ∧ Rd r' ∧ BlockOk b ∧ left r' ≤ left r := by
  intro k
  induction k with
  | zero => intro i r l _ _ _ _ h; omega
  | succ k ih =>
    intro i r l hR hl hi hm hk
    unfold ccfb_block.l6196
    rw [w64_in (x := y3.1) (by omega) (by omega)]
    by_cases hlt : (i : Int) < y3.1
    · rw [if_pos hlt, show (1 : Int) = ((1 : Nat) : Int) from rfl, get_bind 1 hR (by decide), show (2 : Int) = ((2 : Nat) : Int) from rfl, get_bind 2 (rd1 1 hR) (by decide), show (13 : Int) = ((13 : Nat) : Int) from rfl, get_bind 13 (rd1 2 (rd1 1 hR)) (by decide)]
      have hR3 := rd1 13 (rd1 2 (rd1 1 hR))
      have hle : left (getS (getS (getS r ((1 : Nat) : Int)).2 ((2 : Nat) : Int)).2 ((13 : Nat) : Int)).2 ≤ left r :=
        Int.le_trans (left_get_le 13 (rd1 2 (rd1 1 hR))) (Int.le_trans (left_get_le 2 (rd1 1 hR)) (left_get_le 1 hR))
      have a13 := get_in (r := (getS (getS r ((1 : Nat) : Int)).2 ((2 : Nat) : Int)).2) 13 (by decide)
      generalize getS (getS (getS r ((1 : Nat) : Int)).2 ((2 : Nat) : Int)).2 ((13 : Nat) : Int) = g3 at *
      generalize getS (getS r ((1 : Nat) : Int)).2 ((2 : Nat) : Int) = g2 at *
      generalize getS r ((1 : Nat) : Int) = g1 at *
      have step : ∀ b : Bool, ∃ b' e r', ccfb_block.j6510 (ccfb_block.l6196 y1 y2 y3 k) (i : Int) l g1 g2 g3 b = some (b', e, r') ∧ Rd r' ∧ BlockOk b' ∧ left r' ≤ left r := by
        intro b
        unfold ccfb_block.j6510 ccfb_block.j6814
        cases b with
        | true => exact ⟨_, _, _, rfl, hR3, block_nil _ _, hle⟩
        | false =>
          simp only [Bool.false_eq_true, if_false]
          rw [cat_in (by simp only [List.length_cons, List.length_nil]; omega), Option.bind_some, w64_in (x := (i : Int) + 1) (by omega) (by omega)]
          obtain ⟨b', e, r', q1, q2, q3, q4⟩ := ih (i + 1) g3.2 (l ++ [⟨g1.1 == 1, w64 g2.1, w64 g3.1⟩]) hR3 (by rw [List.length_append, hl]; rfl) (by omega) (fun m hmm => by
            rcases List.mem_append.1 hmm with hmm | hmm
            · exact hm m hmm
            · simp only [List.mem_singleton] at hmm
              subst hmm
              show 0 ≤ w64 g3.1 ∧ w64 g3.1 ≤ 8191
              have := a13.2.2.2.1 (by decide)
              rw [w64_in (by omega) (by omega)]
              omega) (by omega)
          exact ⟨b', e, r', q1, q2, q3, Int.le_trans q4 hle⟩
      split
      · exact step _
      · split
        · exact step _
        · exact step _
    · rw [if_neg hlt]
      have fin : ∀ (b : Bool) (r' : S_bits_Reader), Rd r' → left r' ≤ left r → ∃ b' e r'', ccfb_block.j7122 y1 y2 l b r' = some (b', e, r'') ∧ Rd r'' ∧ BlockOk b' ∧ left r'' ≤ left r := by
        intro b r' hr hlr
        unfold ccfb_block.j7122 ccfb_block.j7424
        cases b with
        | true => exact ⟨_, _, _, rfl, hr, block_nil _ _, hlr⟩
        | false => exact ⟨_, _, _, rfl, hr, ⟨by show l.length ≤ 4096; omega, hm⟩, hlr⟩
      split
      · rw [show (16 : Int) = ((16 : Nat) : Int) from rfl, get_bind 16 hR (by decide)]
        exact fin _ _ (rd1 16 hR) (left_get_le 16 hR)
      · exact fin _ _ hR (Int.le_refl _)
theorem block_total (r : S_bits_Reader) (h : Rd r) : ∃ b e r', ccfb_block r = some (b, e, r') ∧ Rd r' ∧ BlockOk b ∧ (e = 0 → left r' < left r) := by
  unfold ccfb_block
  rw [left_bind h]
  by_cases h96 : left r < 96
  · rw [if_pos h96]; exact ⟨_, _, _, rfl, h, block_nil _ _, fun h => by cases h⟩
  · rw [if_neg h96, show (32 : Int) = ((32 : Nat) : Int) from rfl, get_bind 32 h (by decide), show (16 : Int) = ((16 : Nat) : Int) from rfl, get_bind 16 (rd1 32 h) (by decide), get_bind 16 (rd1 16 (rd1 32 h)) (by decide)]
    have hR3 := rd1 16 (rd1 16 (rd1 32 h))
    have hlt := left_get 32 h (by decide) (by omega)
    have hle : left (getS (getS (getS r ((32 : Nat) : Int)).2 ((16 : Nat) : Int)).2 ((16 : Nat) : Int)).2 < left r :=
      Int.lt_of_le_of_lt (Int.le_trans (left_get_le 16 (rd1 16 (rd1 32 h))) (left_get_le 16 (rd1 32 h))) hlt
    have a16 := get_in (r := (getS (getS r ((32 : Nat) : Int)).2 ((16 : Nat) : Int)).2) 16 (by decide)
    generalize getS (getS (getS r ((32 : Nat) : Int)).2 ((16 : Nat) : Int)).2 ((16 : Nat) : Int) = g3 at *
    generalize getS (getS r ((32 : Nat) : Int)).2 ((16 : Nat) : Int) = g2 at *
    generalize getS r ((32 : Nat) : Int) = g1 at *
    rw [w64_in (x := g3.1) (by omega) (by omega)]
    by_cases hmany : 4096 < g3.1
    · rw [if_pos hmany]; exact ⟨_, _, _, rfl, hR3, block_nil _ _, fun h => by cases h⟩
    · rw [if_neg hmany, left_bind hR3]
      split
      · exact ⟨_, _, _, rfl, hR3, block_nil _ _, fun h => by cases h⟩
      · obtain ⟨b, e, r', q1, q2, q3, q4⟩ := block_loop g1 g2 g3 ⟨a16.1, by omega⟩ FUEL 0 g3.2 [] hR3 rfl (by have := a16.1; omega) (fun m hm => by cases hm) (by have := fuel_big; omega)
        exact ⟨b, e, r', q1, q2, q3, fun _ => by omega⟩
structure CcfbOk (c : S_api_Ccfb) : Prop where
  len : c.Blocks.length ≤ 16
  blk : ∀ b ∈ c.Blocks, BlockOk b
  s0 : 0 ≤ c.Stamp
  s1 : c.Stamp ≤ 4294967295
theorem ccfb_nil : CcfbOk ⟨0, [], 0⟩ := { len := by simp, blk := fun _ hb => (by cases hb), s0 := by decide, s1 := by decide }
theorem ccfb_loop (y : Int × S_bits_Reader) : ∀ (k : Nat) (l : List S_api_Block) (r : S_bits_Reader), Rd r → l.length ≤ 16 → (∀ b ∈ l, BlockOk b) → 16 - l.length < k → ∃ c e, ccfb_Decode.l51 y k l r = some (c, e) ∧ CcfbOk c := by
  intro k
  induction k with
  | zero => intro l r _ _ _ h; omega
  | succ k ih =>
    intro l r hR hl hb hk
    unfold ccfb_Decode.l51
    rw [left_bind hR]
    by_cases h32 : 32 < left r
    · rw [if_pos h32]
      by_cases h16 : (l.length : Int) = 16
      · rw [if_pos h16]; exact ⟨_, _, rfl, ccfb_nil⟩
      · rw [if_neg h16]
        obtain ⟨b, e, r', q1, q2, q3, _⟩ := block_total r hR
        rw [q1, Option.bind_some]
        dsimp only
        by_cases he : e = 0
        · rw [if_pos he, cat_in (by simp only [List.length_cons, List.length_nil]; omega), Option.bind_some]
          exact ih _ _ q2 (by rw [List.length_append, List.length_singleton]; omega) (fun x hx => by
            rcases List.mem_append.1 hx with hx | hx
            · exact hb x hx
            · simp only [List.mem_singleton] at hx; subst hx; exact q3) (by rw [List.length_append, List.length_singleton]; omega)
        · rw [if_neg he]; exact ⟨_, _, rfl, ccfb_nil⟩
    · rw [if_neg h32, show (32 : Int) = ((32 : Nat) : Int) from rfl, get_bind 32 hR (by decide)]
      have := get_in (r := r) 32 (by decide)
      exact ⟨_, _, rfl, hl, hb, this.1, this.2.1⟩
theorem ccfb_total (s : ByteArray) : ∃ c e, ccfb_Decode s = some (c, e) ∧ CcfbOk c := by
  unfold ccfb_Decode
  by_cases h1 : 65536 < (s.size : Int)
  · rw [if_pos h1]; exact ⟨_, _, rfl, ccfb_nil⟩
  · rw [if_neg h1]
    split
    · split
      · exact ⟨_, _, rfl, ccfb_nil⟩
      · unfold bits_Read
        rw [Option.bind_some]
        have hR := rd_read (s := s) (by omega)
        rw [show (32 : Int) = ((32 : Nat) : Int) from rfl, get_bind 32 hR (by decide)]
        exact ccfb_loop _ FUEL [] _ (rd1 32 hR) (by simp) (fun b hb => by cases hb) (by have := fuel_big; simp; omega)
    · exact ⟨_, _, rfl, ccfb_nil⟩
end Fl
