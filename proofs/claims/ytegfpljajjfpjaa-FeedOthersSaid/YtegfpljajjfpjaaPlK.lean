import Derived.Test.YtegfpljajjfpjaaPlJ
set_option linter.unusedVariables false
/-! Lists of what was lost; what is told; 'Read'. -/
namespace Fl
open Go Fw
theorem Cut16 (n : Int) : wrap_Cut n 16 = some (n % 65536) := by
  unfold wrap_Cut wrap_good wrap_lower_int64
  have : bAnd .i64 n 65535 = n % 65536 := bAnd_pow n 16 (by decide)
  simp only [show (1 : Int) ≤ 16 from by decide, if_true, show decide ((16 : Int) ≤ 32) = true from by decide, Option.bind_some, show ¬ (16 : Int) < 0 from by decide, if_false, show w64 (shL .i64 1 16 - 1) = 65535 from by decide, this]
theorem After16 (a b : Int) : ∃ c, wrap_After a b 16 = some c := by
  unfold wrap_After wrap_good wrap_After.j317 wrap_lower_int
  simp only [show (1 : Int) ≤ 16 from by decide, if_true, show decide ((16 : Int) ≤ 32) = true from by decide, Option.bind_some, show ¬ (16 : Int) < 0 from by decide, if_false, show ¬ w64 ((16 : Int) - 1) < 0 from by decide]
  repeat' split
  all_goals exact ⟨_, rfl⟩
theorem Near24 (a v : Int) : ∃ c, wrap_Near a v 24 = some c := by
  unfold wrap_Near wrap_good wrap_Near.j315 wrap_lower_int wrap_lower_int64
  simp only [show (1 : Int) ≤ 24 from by decide, if_true, show decide ((24 : Int) ≤ 32) = true from by decide, Option.bind_some, show ¬ (24 : Int) < 0 from by decide, if_false, show ¬ w64 ((24 : Int) - 1) < 0 from by decide]
  split <;> exact ⟨_, rfl⟩
theorem fault_loop (L : List Int) (hL : L.length ≤ 4096) : ∀ (k i : Nat), i ≤ L.length → L.length - i < k → ∃ e, nack_fault.l19 L k (i : Int) = some e := by
  intro k
  induction k with
  | zero => intro i _ h; omega
  | succ k ih =>
    intro i hi hk
    unfold nack_fault.l19
    by_cases hlt : i < L.length
    · rw [if_pos (by omega), idx_nat (List.getElem?_eq_getElem hlt), Option.bind_some]
      have w : w64 ((i : Int) + 1) = ((i + 1 : Nat) : Int) := by rw [w64_in (by omega) (by omega)]; omega
      rw [w]
      split
      · exact ⟨_, rfl⟩
      · split
        · exact ⟨_, rfl⟩
        · split
          · rename_i h0
            rw [w64_in (x := (i : Int) - 1) (by omega) (by omega)]
            obtain ⟨y, hy, _⟩ := idx_some (l := L) (i := (i : Int) - 1) (by omega) (by omega)
            rw [hy, Option.bind_some]
            obtain ⟨c, hc⟩ := After16 L[i] y
            rw [hc, Option.bind_some]
            split
            · obtain ⟨z, hz, _⟩ := idx_some (l := L) (i := 0) (by omega) (by omega)
              rw [hz, Option.bind_some]
              obtain ⟨c', hc'⟩ := After16 L[i] z
              rw [hc', Option.bind_some]
              split
              · exact ih (i + 1) (by omega) (by omega)
              · exact ⟨_, rfl⟩
            · exact ⟨_, rfl⟩
          · exact ih (i + 1) (by omega) (by omega)
    · rw [if_neg (by omega)]
      split <;> exact ⟨_, rfl⟩
theorem fault_total (L : List Int) : ∃ e, nack_fault L = some e := by
  unfold nack_fault
  split
  · exact ⟨_, rfl⟩
  · exact fault_loop L (by omega) FUEL 0 (by omega) (by have := fuel_big; omega)
theorem mask_loop (R : List Int → S_bits_Reader → Option (S_api_Nack × Int)) (y1 y2 : Int × S_bits_Reader) (P : Nat) (hP : P ≤ 1000000) (hR : ∀ L : List Int, L.length ≤ P → ∃ n e, R L y2.2 = some (n, e) ∧ n.Lost.length ≤ 1000000) : ∀ (k i : Nat) (L : List Int), i ≤ 15 → L.length + (16 - i) ≤ P → 16 - i < k →
    ∃ n e, nack_Decode.l2564 R y1 y2 k (i : Int) L = some (n, e) ∧ n.Lost.length ≤ 1000000 := by
  intro k
  induction k with
  | zero => intro i L _ _ h; omega
  | succ k ih =>
    intro i L hi hL hk
    unfold nack_Decode.l2564
    rw [if_neg (by omega)]
    have step : ∀ M : List Int, M.length + (16 - (i + 1)) ≤ P → ∃ n e, nack_Decode.j2875 (nack_Decode.l2564 R y1 y2 k) R y2 (i : Int) M = some (n, e) ∧ n.Lost.length ≤ 1000000 := by
      intro M hM
      unfold nack_Decode.j2875
      rw [w64_in (x := (i : Int) + 1) (by omega) (by omega)]
      by_cases h : (i : Int) + 1 < 16
      · rw [if_pos h]; exact ih (i + 1) M (by omega) hM (by omega)
      · rw [if_neg h]; exact hR M (by omega)
    split
    · rw [Cut16, Option.bind_some, cat_in (by simp only [List.length_cons, List.length_nil]; omega), Option.bind_some]
      exact step _ (by rw [List.length_append, List.length_singleton]; omega)
    · exact step _ (by omega)
theorem lost_loop (y1 y2 : Int × S_bits_Reader) : ∀ (k : Nat) (L : List Int) (r : S_bits_Reader), Rd r → (left r).toNat < k → L.length ≤ 17 * (32769 - ((left r).toNat + 15) / 16) → ∃ n e, nack_Decode.l1927 y1 y2 k L r = some (n, e) ∧ n.Lost.length ≤ 1000000 := by
  intro k
  induction k with
  | zero => intro L r _ h; omega
  | succ k ih =>
    intro L r hR hk hL
    have hl := left_in hR
    unfold nack_Decode.l1927
    rw [left_bind hR]
    by_cases h0 : 0 < left r
    · rw [if_pos h0, show (16 : Int) = ((16 : Nat) : Int) from rfl, get_bind 16 hR (by decide), get_bind 16 (rd1 16 hR) (by decide)]
      have hR2 := rd1 16 (rd1 16 hR)
      have hlt := left_get 16 hR (by decide) h0
      have hle := left_get_le 16 (rd1 16 hR)
      have hstep : ((left (getS (getS r ((16 : Nat) : Int)).2 ((16 : Nat) : Int)).2).toNat + 15) / 16 + 1 ≤ ((left r).toNat + 15) / 16 := by
        have key : left (getS r ((16 : Nat) : Int)).2 = 0 ∨ left (getS r ((16 : Nat) : Int)).2 = left r - 16 := by
          obtain ⟨s, a, b⟩ := r
          cases b with
          | true => exact absurd h0 (Int.lt_irrefl 0)
          | false =>
            unfold getS
            simp only [Bool.false_eq_true, if_false]
            by_cases c : ((16 : Nat) : Int) < 0 ∨ 32 < ((16 : Nat) : Int) ∨ 8 * (s.size : Int) - a < ((16 : Nat) : Int)
            · rw [if_pos c]; exact .inl rfl
            · rw [if_neg c]; right; show 8 * (s.size : Int) - (a + 16) = 8 * (s.size : Int) - a - 16; omega
        have h3 := (left_in (rd1 16 (rd1 16 hR))).1
        rcases key with key | key <;> omega
      have h3 := left_in hR2
      generalize getS (getS r ((16 : Nat) : Int)).2 ((16 : Nat) : Int) = g2 at *
      generalize getS r ((16 : Nat) : Int) = g1 at *
      rw [cat_in (by simp only [List.length_cons, List.length_nil]; omega), Option.bind_some]
      refine mask_loop _ g1 g2 (L.length + 17) (by omega) (fun M hM => ih M g2.2 hR2 (by omega) (by omega)) FUEL 0 _ (by decide) (by rw [List.length_append, List.length_singleton]; omega) (by have := fuel_big; omega)
    · rw [if_neg h0]
      obtain ⟨e, he⟩ := fault_total L
      rw [he, Option.bind_some]
      split
      · exact ⟨_, _, rfl, by show L.length ≤ 1000000; omega⟩
      · exact ⟨_, _, rfl, by simp⟩
theorem nack_total (s : ByteArray) : ∃ n e, nack_Decode s = some (n, e) ∧ n.Lost.length ≤ 1000000 := by
  unfold nack_Decode
  by_cases h1 : 65536 < (s.size : Int)
  · rw [if_pos h1]; exact ⟨_, _, rfl, by simp⟩
  · rw [if_neg h1]
    split
    · split
      · exact ⟨_, _, rfl, by simp⟩
      · unfold bits_Read
        rw [Option.bind_some]
        have hR := rd_read (s := s) (by omega)
        rw [show (32 : Int) = ((32 : Nat) : Int) from rfl, get_bind 32 hR (by decide), get_bind 32 (rd1 32 hR) (by decide)]
        have hR2 := rd1 32 (rd1 32 hR)
        have := left_in hR2
        exact lost_loop _ _ FUEL [] _ hR2 (by have := fuel_big; omega) (by simp)
    · exact ⟨_, _, rfl, by simp⟩
/-! ### What is told -/
theorem FromStamp_some (a n : Int) : ∃ v, units_FromStamp a n = some v := by
  unfold units_FromStamp units_stamped units_FromStamp.j309
  rw [mn_eq, mx_eq, Do_spec _ _ _ _ (by omega) (by omega) (by decide) (by decide) (by decide) (by decide) (by decide) (by decide), Option.bind_some, Option.bind_some]
  have key : ∀ x : Int, ∃ v, ((muldiv_Do (w64 x) 1000000 65536 3).bind fun y308 => some y308) = some v := fun x => by
    rw [Do_spec _ _ _ _ (w64_lo x) (w64_hi x) (by decide) (by decide) (by decide) (by decide) (by decide) (by decide)]; exact ⟨_, rfl⟩
  split <;> exact key _
theorem first_inner (R : Int → S_feed_Feedback → Option S_feed_Feedback) (y x : Int) (b : S_api_Block) (hb : BlockOk b) (P : Nat) (hP : P ≤ 4000000000000) (Q : S_feed_Feedback → Prop) (A : List Int) (hR : ∀ f : S_feed_Feedback, f.Reports.length ≤ P → f.Again = A → ∃ g, R (w64 (x + 1)) f = some g ∧ Q g) : ∀ (k i : Nat) (f : S_feed_Feedback), i ≤ b.Metrics.length → b.Metrics.length - i < k → f.Reports.length + (b.Metrics.length - i) ≤ P → f.Again = A →
    ∃ g, feed_Feedback_first.l5489 R y x b k (i : Int) f = some g ∧ Q g := by
  have hlen := hb.len
  intro k
  induction k with
  | zero => intro i f _ h; omega
  | succ k ih =>
    intro i f hi hk hf hA
    unfold feed_Feedback_first.l5489
    by_cases hlt : i < b.Metrics.length
    · rw [if_pos (by omega), idx_nat (List.getElem?_eq_getElem hlt), Option.bind_some]
      have hm := hb.ago b.Metrics[i] (List.getElem_mem hlt)
      generalize b.Metrics[i] = m at *
      rw [Cut16, Option.bind_some]
      have step : ∀ (c d : Int) (p q : Bool), ∃ g, feed_Feedback_first.j5808 (feed_Feedback_first.l5489 R y x b k) (i : Int) f m c d p q = some g ∧ Q g := by
        intro c d p q
        unfold feed_Feedback_first.j5808
        have w : w64 ((i : Int) + 1) = ((i + 1 : Nat) : Int) := by rw [w64_in (by omega) (by omega)]; omega
        rw [cat_in (by simp only [List.length_cons, List.length_nil]; omega), Option.bind_some, w]
        exact ih (i + 1) _ (by omega) (by omega) (by show (f.Reports ++ [_]).length + _ ≤ P; rw [List.length_append, List.length_singleton]; omega) hA
      split
      · split
        · exact step _ _ _ _
        · rw [Do_spec _ _ _ _ (by omega) (by omega) (by decide) (by decide) (by decide) (by decide) (by decide) (by decide), Option.bind_some]
          exact step _ _ _ _
      · exact step _ _ _ _
    · rw [if_neg (by omega)]
      exact hR f (by omega) hA
theorem first_loop (c : S_api_Ccfb) (hc : CcfbOk c) (y : Int) (P : Nat) (hP : P ≤ 4000000000000) (A : List Int) : ∀ (k i : Nat) (f : S_feed_Feedback), i ≤ c.Blocks.length → c.Blocks.length - i < k → f.Reports.length + 4096 * (c.Blocks.length - i) ≤ P → f.Again = A →
    ∃ g, feed_Feedback_first.l4843 c y k (i : Int) f = some g ∧ g.Reports.length ≤ P ∧ g.Again = A := by
  have hlen := hc.len
  intro k
  induction k with
  | zero => intro i f _ h; omega
  | succ k ih =>
    intro i f hi hk hf hA
    unfold feed_Feedback_first.l4843
    by_cases hlt : i < c.Blocks.length
    · rw [if_pos (by omega), idx_nat (List.getElem?_eq_getElem hlt), Option.bind_some]
      have hb := hc.blk c.Blocks[i] (List.getElem_mem hlt)
      generalize c.Blocks[i] = b at *
      have w : w64 ((i : Int) + 1) = ((i + 1 : Nat) : Int) := by rw [w64_in (by omega) (by omega)]; omega
      have hbl := hb.len
      exact first_inner (feed_Feedback_first.l4843 c y k) y (i : Int) b hb (f.Reports.length + 4096) (by omega) (fun g => g.Reports.length ≤ P ∧ g.Again = A) A (fun f' hf' hA' => by
        rw [w]; exact ih (i + 1) f' (by omega) (by omega) (by omega) hA') FUEL 0 f (by omega) (by have := fuel_big; omega) (by omega) hA
    · rw [if_neg (by omega)]
      exact ⟨f, rfl, by omega, hA⟩
theorem first_total (f : S_feed_Feedback) (c : S_api_Ccfb) (n : Int) (hc : CcfbOk c) (hf : f.Reports.length ≤ 3000000000000) : ∃ g, feed_Feedback_first f c n = some g ∧ g.Reports.length ≤ f.Reports.length + 65536 ∧ g.Again = f.Again := by
  have hlen := hc.len
  unfold feed_Feedback_first
  obtain ⟨v, hv⟩ := FromStamp_some c.Stamp n
  rw [hv, Option.bind_some]
  exact first_loop c hc v (f.Reports.length + 65536) (by omega) f.Again FUEL 0 f (by omega) (by have := fuel_big; omega) (by omega) rfl
theorem second_loop (t : S_api_Twcc) (ht : TwccOk t) : ∀ (k i : Nat) (x : Int) (f : S_feed_Feedback), i ≤ t.Status.length → t.Status.length - i < k → f.Reports.length + (t.Status.length - i) ≤ 3100000000000 →
    ∃ g, feed_Feedback_second.l1611 t k x (nz (t.Status.take i) : Int) (i : Int) f = some g ∧ g.Reports.length ≤ f.Reports.length + (t.Status.length - i) ∧ g.Again = f.Again := by
  have hlen := ht.len
  intro k
  induction k with
  | zero => intro i x f _ h; omega
  | succ k ih =>
    intro i x f hi hk hf
    unfold feed_Feedback_second.l1611
    by_cases hlt : i < t.Status.length
    · rw [if_pos (by omega), idx_nat (List.getElem?_eq_getElem hlt), Option.bind_some, Cut16, Option.bind_some]
      have hn := nz_take t.Status i hlt
      have hnl := nz_le t.Status (i + 1)
      have hnl2 := nz_len t.Status
      have hd := ht.del
      generalize t.Status[i] = s at *
      have w : w64 ((i : Int) + 1) = ((i + 1 : Nat) : Int) := by rw [w64_in (by omega) (by omega)]; omega
      have step : ∀ (a b c : Int), b = (nz (t.Status.take (i + 1)) : Int) → ∃ g, feed_Feedback_second.j1927 (feed_Feedback_second.l1611 t k) (i : Int) f s ((w64 (t.First + (i : Int))) % 65536) a b c = some g ∧ g.Reports.length ≤ f.Reports.length + (t.Status.length - i) ∧ g.Again = f.Again := by
        rintro a b c rfl
        unfold feed_Feedback_second.j1927
        rw [cat_in (by simp only [List.length_cons, List.length_nil]; omega), Option.bind_some, w]
        obtain ⟨g, q1, q2, q3⟩ := ih (i + 1) a ⟨f.Reports ++ [⟨(w64 (t.First + (i : Int))) % 65536, decide (0 < s), c, false, false⟩], f.Again⟩ (by omega) (by omega) (by show (f.Reports ++ [_]).length + _ ≤ _; rw [List.length_append, List.length_singleton]; omega)
        exact ⟨g, q1, by have : (f.Reports ++ [(⟨(w64 (t.First + (i : Int))) % 65536, decide (0 < s), c, false, false⟩ : S_api_Report)]).length = f.Reports.length + 1 := by rw [List.length_append, List.length_singleton]
                         dsimp only at q2; omega, q3⟩
      by_cases h0 : 0 < s
      · rw [if_pos h0]
        rw [if_pos h0] at hn
        obtain ⟨z, hz, _⟩ := idx_some (l := t.Deltas) (i := (nz (t.Status.take i) : Int)) (by omega) (by omega)
        rw [hz, Option.bind_some]
        exact step _ _ _ (by rw [w64_in (by omega) (by omega), hn]; omega)
      · rw [if_neg h0]
        rw [if_neg h0] at hn
        exact step _ _ _ (by rw [hn]; rfl)
    · rw [if_neg (by omega)]
      exact ⟨f, rfl, by omega, rfl⟩
theorem second_total (f : S_feed_Feedback) (t : S_api_Twcc) (n : Int) (hn : -9223372036854775808 ≤ n ∧ n ≤ 9223372036854775807) (ht : TwccOk t) (hf : f.Reports.length ≤ 3000000000000) : ∃ g, feed_Feedback_second f t n = some g ∧ g.Reports.length ≤ f.Reports.length + 4096 ∧ g.Again = f.Again := by
  have hlen := ht.len
  unfold feed_Feedback_second
  rw [Do_spec _ _ _ _ hn.1 hn.2 (by decide) (by decide) (by decide) (by decide) (by decide) (by decide), Option.bind_some]
  obtain ⟨v, hv⟩ := Near24 (mdS n 1 64000 1) t.Base
  rw [hv, Option.bind_some]
  obtain ⟨g, q1, q2, q3⟩ := second_loop t ht FUEL 0 (w64 (64000 * v)) f (by omega) (by have := fuel_big; omega) (by omega)
  exact ⟨g, q1, by omega, q3⟩
/-! ### A message's parts, one by one -/
def near (n : Int) : Int := mn (mx n 0) 1125899906842624
theorem near_in (n : Int) : 0 ≤ near n ∧ near n ≤ 1125899906842624 := by unfold near; rw [mn_eq, mx_eq]; omega
def endL (x : Int) (f : S_feed_Feedback) : S_feed_Feedback × Int :=
  if x = 0 then (⟨[], []⟩, 120) else if 4096 < (f.Reports.length : Int) ∨ 4096 < (f.Again.length : Int) then (⟨[], []⟩, 3) else (f, 0)
def readL (n : Int) : List S_api_Part → Int → S_feed_Feedback → Option (S_feed_Feedback × Int)
  | [], x, f => some (endL x f)
  | p :: l, x, f => (feed_decoded p).bind fun y => if y.2 = 0 then (match y.1 with
    | .nil => readL n l x f
    | .c0 c => (feed_Feedback_first f c (near n)).bind fun g => readL n l (w64 (x + 1)) g
    | .c1 c => (feed_Feedback_second f c (near n)).bind fun g => readL n l (w64 (x + 1)) g
    | .c2 c => (cat 17592186044416 f.Again c.Lost).bind fun g => readL n l (w64 (x + 1)) ⟨f.Reports, g⟩) else some (⟨[], []⟩, y.2)
theorem read_loop (n : Int) (y : List S_api_Part × Int) (hy : y.1.length ≤ 100000) : ∀ (k i : Nat) (x : Int) (f : S_feed_Feedback), i ≤ y.1.length → y.1.length - i < k → feed_Read.l1964 n y k x (i : Int) f = readL n (y.1.drop i) x f := by
  intro k
  induction k with
  | zero => intro i x f _ h; omega
  | succ k ih =>
    intro i x f hi hk
    unfold feed_Read.l1964
    by_cases hlt : i < y.1.length
    · rw [if_pos (by omega), idx_nat (List.getElem?_eq_getElem hlt), Option.bind_some, List.drop_eq_getElem_cons hlt]
      unfold readL
      have w : w64 ((i : Int) + 1) = ((i + 1 : Nat) : Int) := by rw [w64_in (by omega) (by omega)]; omega
      rw [w]
      congr 1
      funext d
      by_cases h0 : d.2 = 0
      · rw [if_pos h0, if_pos h0]
        obtain ⟨d1, d2⟩ := d
        cases d1 with
        | nil => exact ih (i + 1) x f (by omega) (by omega)
        | c0 c => show Option.bind _ _ = Option.bind _ _; congr 1; funext g; exact ih (i + 1) _ g (by omega) (by omega)
        | c1 c => show Option.bind _ _ = Option.bind _ _; congr 1; funext g; exact ih (i + 1) _ g (by omega) (by omega)
        | c2 c => show Option.bind _ _ = Option.bind _ _; congr 1; funext g; exact ih (i + 1) _ _ (by omega) (by omega)
      · rw [if_neg h0, if_neg h0]
    · rw [if_neg (by omega)]
      obtain rfl : i = y.1.length := by omega
      rw [List.drop_length]
      unfold readL endL feed_Read.j2306 feed_Read.j2609
      by_cases hx : x = 0
      · rw [if_pos hx, if_pos hx]
      · rw [if_neg hx, if_neg hx]
        by_cases h1 : 4096 < (f.Reports.length : Int)
        · rw [if_pos h1, if_pos (Or.inl h1)]; rfl
        · rw [if_neg h1]
          by_cases h2 : 4096 < (f.Again.length : Int)
          · rw [if_pos (Or.inr h2)]; simp [h2]
          · rw [if_neg (show ¬ (4096 < (f.Reports.length : Int) ∨ 4096 < (f.Again.length : Int)) by omega)]; simp [h2]
theorem Read_spec (s : ByteArray) (n : Int) : feed_Read s n = if (splitS s).2 = 0 then readL n (splitS s).1 0 ⟨[], []⟩ else some (⟨[], []⟩, (splitS s).2) := by
  unfold feed_Read
  rw [Split_spec, Option.bind_some]
  by_cases h : (splitS s).2 = 0
  · rw [if_pos h, if_pos h]
    obtain ⟨_, _, h3, h4⟩ := splitS_out s h
    have hl := total_len (splitS s).1
    have := read_loop n (splitS s) (by omega) FUEL 0 0 ⟨[], []⟩ (by omega) (by have := fuel_big; omega)
    rw [List.drop_zero] at this
    exact this
  · rw [if_neg h, if_neg h]
theorem decoded_total (p : S_api_Part) : ∃ d e, feed_decoded p = some (d, e) ∧ (match d with
    | .nil => True
    | .c0 c => CcfbOk c
    | .c1 c => TwccOk c
    | .c2 c => c.Lost.length ≤ 1000000) := by
  unfold feed_decoded
  split
  · split
    · obtain ⟨c, e, h1, h2⟩ := ccfb_total p.Body
      rw [h1]; exact ⟨.c0 c, e, rfl, h2⟩
    · split
      · obtain ⟨c, e, h1, h2⟩ := twcc_total p.Body
        rw [h1]; exact ⟨.c1 c, e, rfl, h2⟩
      · split
        · obtain ⟨c, e, h1, h2⟩ := nack_total p.Body
          rw [h1]; exact ⟨.c2 c, e, rfl, h2⟩
        · exact ⟨.nil, 0, rfl, trivial⟩
  · exact ⟨.nil, 0, rfl, trivial⟩
theorem readL_total (n : Int) : ∀ (l : List S_api_Part) (x : Int) (f : S_feed_Feedback), f.Reports.length + 65536 * l.length ≤ 3000000000000 → f.Again.length + 1000000 * l.length ≤ 3000000000000 → ∃ r e, readL n l x f = some (r, e) ∧ r.Reports.length ≤ 4096 ∧ r.Again.length ≤ 4096
  | [], x, f, _, _ => by
    have key : (endL x f).1.Reports.length ≤ 4096 ∧ (endL x f).1.Again.length ≤ 4096 := by
      unfold endL
      split
      · simp
      · split
        · simp
        · dsimp only; omega
    exact ⟨(endL x f).1, (endL x f).2, rfl, key⟩
  | p :: l, x, f, h1, h2 => by
    simp only [List.length_cons] at h1 h2
    have hn := near_in n
    obtain ⟨d, e, hd, hok⟩ := decoded_total p
    unfold readL
    rw [hd, Option.bind_some]
    dsimp only
    by_cases he : e = 0
    · rw [if_pos he]
      cases d with
      | nil => exact readL_total n l x f (by omega) (by omega)
      | c0 c =>
        obtain ⟨g, q1, q2, q3⟩ := first_total f c (near n) hok (by omega)
        show ∃ r e, (feed_Feedback_first f c (near n)).bind _ = some (r, e) ∧ _
        rw [q1, Option.bind_some]
        exact readL_total n l _ g (by omega) (by rw [q3]; omega)
      | c1 c =>
        obtain ⟨g, q1, q2, q3⟩ := second_total f c (near n) (by omega) hok (by omega)
        show ∃ r e, (feed_Feedback_second f c (near n)).bind _ = some (r, e) ∧ _
        rw [q1, Option.bind_some]
        exact readL_total n l _ g (by omega) (by rw [q3]; omega)
      | c2 c =>
        show ∃ r e, (cat 17592186044416 f.Again c.Lost).bind _ = some (r, e) ∧ _
        have hc : c.Lost.length ≤ 1000000 := hok
        rw [cat_in (by omega), Option.bind_some]
        exact readL_total n l _ _ (by show f.Reports.length + _ ≤ _; omega) (by show (f.Again ++ c.Lost).length + _ ≤ _; rw [List.length_append]; omega)
    · rw [if_neg he]; exact ⟨_, _, rfl, by simp, by simp⟩
end Fl
