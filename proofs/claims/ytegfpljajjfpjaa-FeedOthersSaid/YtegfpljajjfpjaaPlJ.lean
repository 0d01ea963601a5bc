import Derived.Test.YtegfpljajjfpjaaPlI
set_option linter.unusedVariables false
/-! The second kind, lists of what was lost, and what is told of them. -/
namespace Fl
open Go Fw
def St3 (l : List Int) : Prop := ∀ s ∈ l, 0 ≤ s ∧ s ≤ 2
theorem st3_snoc {l : List Int} {x : Int} (h : St3 l) (h0 : 0 ≤ x) (h2 : x ≤ 2) : St3 (l ++ [x]) := fun s hs => by
  rcases List.mem_append.1 hs with hs | hs
  · exact h s hs
  · simp only [List.mem_singleton] at hs; subst hs; exact ⟨h0, h2⟩
theorem mn_eq (x y : Int) : mn x y = min x y := by unfold mn; split <;> omega
theorem mx_eq (x y : Int) : mx x y = max x y := by unfold mx; split <;> omega
theorem run_loop (a : Int) (y1 y2 : Int × S_bits_Reader) (h0 : 0 ≤ y1.1) (h2 : y1.1 ≤ 2) (g0 : 0 ≤ y2.1 ∧ y2.1 ≤ 8191) (ha : 0 ≤ a ∧ a ≤ 4096) : ∀ (k i : Nat) (l : List Int), l.length = i → (i : Int) ≤ min y2.1 a → St3 l → (min y2.1 a - i).toNat < k →
    ∃ l', twcc_chunk.l2520 a y1 y2 k l (i : Int) = some (l', 0, y2.2) ∧ (l'.length : Int) = min y2.1 a ∧ St3 l' := by
  intro k
  induction k with
  | zero => intro i l _ _ _ h; omega
  | succ k ih =>
    intro i l hl hi hs hk
    unfold twcc_chunk.l2520
    rw [w64_in (x := y2.1) (by omega) (by omega), mn_eq, w64_in (x := y1.1) (by omega) (by omega)]
    by_cases hlt : (i : Int) < min y2.1 a
    · rw [if_pos hlt, cat_in (by simp only [List.length_cons, List.length_nil]; omega), Option.bind_some, w64_in (x := (i : Int) + 1) (by omega) (by omega)]
      exact ih (i + 1) _ (by rw [List.length_append, hl]; rfl) (by omega) (st3_snoc hs h0 h2) (by omega)
    · rw [if_neg hlt]
      exact ⟨l, rfl, by omega, hs⟩
theorem row_loop (a : Int) (many each : Nat) (hm : many ≤ 14) (he : each ≤ 2) (ha : 0 < a ∧ a ≤ 4096) : ∀ (k i : Nat) (l : List Int) (ok : Bool) (r : S_bits_Reader), Rd r → (l.length : Int) = min (i : Int) a → i ≤ many → (ok = true → St3 l) → many - i < k →
    ∃ l' e r', twcc_chunk.l3472 a (many : Int) (each : Int) k l ok (i : Int) r = some (l', e, r') ∧ Rd r' ∧ (e = 0 → (l'.length : Int) = min (many : Int) a ∧ St3 l') := by
  intro k
  induction k with
  | zero => intro i l ok r _ _ _ _ h; omega
  | succ k ih =>
    intro i l ok r hR hl hi hs hk
    unfold twcc_chunk.l3472
    by_cases hlt : (i : Int) < (many : Int)
    · rw [if_pos hlt, get_bind each hR (by omega)]
      have hR2 := rd1 each hR
      have hg := get_in (r := r) each (by omega)
      generalize getS r (each : Int) = g at *
      have step : ∀ ok' : Bool, (ok' = true → ok = true ∧ g.1 ≤ 2) → ∃ l' e r', twcc_chunk.j3784 (twcc_chunk.l3472 a (many : Int) (each : Int) k) a l (i : Int) g ok' = some (l', e, r') ∧ Rd r' ∧ (e = 0 → (l'.length : Int) = min (many : Int) a ∧ St3 l') := by
        intro ok' hok
        unfold twcc_chunk.j3784
        rw [w64_in (x := g.1) (by omega) (by omega)]
        have w : w64 ((i : Int) + 1) = ((i + 1 : Nat) : Int) := by rw [w64_in (by omega) (by omega)]; omega
        by_cases hia : (i : Int) < a
        · rw [if_pos hia, cat_in (by simp only [List.length_cons, List.length_nil]; omega), Option.bind_some, w]
          refine ih (i + 1) _ _ _ hR2 (by rw [List.length_append, List.length_singleton]; omega) (by omega) (fun h => ?_) (by omega)
          obtain ⟨q1, q2⟩ := hok h
          exact st3_snoc (hs q1) hg.1 q2
        · rw [if_neg hia, w]
          exact ih (i + 1) _ _ _ hR2 (by omega) (by omega) (fun h => hs (hok h).1) (by omega)
      rw [w64_in (x := g.1) (by omega) (by omega)]
      by_cases hk' : ok = true
      · rw [if_pos hk']
        by_cases h2 : g.1 ≤ 2
        · rw [if_pos h2]
          split
          · exact step _ fun _ => ⟨hk', h2⟩
          · exact step _ fun _ => ⟨hk', h2⟩
        · rw [if_neg h2]; exact step _ fun h => by cases h
      · rw [if_neg hk']; exact step _ fun h => by cases h
    · rw [if_neg hlt]
      by_cases hk' : ok = true
      · rw [if_pos hk']
        exact ⟨_, _, _, rfl, hR, fun _ => ⟨by omega, hs hk'⟩⟩
      · rw [if_neg hk']; exact ⟨_, _, _, rfl, hR, fun h => by cases h⟩
theorem chunk_total (r : S_bits_Reader) (a : Int) (h : Rd r) (ha : 0 < a ∧ a ≤ 4096) : ∃ l e r', twcc_chunk r a = some (l, e, r') ∧ Rd r' ∧ (e = 0 → 1 ≤ l.length ∧ (l.length : Int) ≤ a ∧ St3 l) := by
  unfold twcc_chunk
  rw [left_bind h]
  by_cases h16 : left r < 16
  · rw [if_pos h16]; exact ⟨_, _, _, rfl, h, fun h => by cases h⟩
  · rw [if_neg h16, show (1 : Int) = ((1 : Nat) : Int) from rfl, get_bind 1 h (by decide)]
    have hR1 := rd1 1 h
    generalize getS r ((1 : Nat) : Int) = g1 at *
    by_cases h0 : g1.1 = 0
    · rw [if_pos h0, show (2 : Int) = ((2 : Nat) : Int) from rfl, get_bind 2 hR1 (by decide), show (13 : Int) = ((13 : Nat) : Int) from rfl, get_bind 13 (rd1 2 hR1) (by decide)]
      have hR3 := rd1 13 (rd1 2 hR1)
      have b2 := get_in (r := g1.2) 2 (by decide)
      have b13 := get_in (r := (getS g1.2 ((2 : Nat) : Int)).2) 13 (by decide)
      generalize getS (getS g1.2 ((2 : Nat) : Int)).2 ((13 : Nat) : Int) = g3 at *
      generalize getS g1.2 ((2 : Nat) : Int) = g2 at *
      unfold twcc_chunk.j2211 twcc_chunk.j2526
      rw [w64_in (x := g2.1) (by omega) (by omega), w64_in (x := g3.1) (by omega) (by omega)]
      by_cases hs : ((2 : Nat) : Int) < g2.1
      · rw [if_pos hs]; exact ⟨_, _, _, rfl, hR3, fun h => by cases h⟩
      · rw [if_neg hs]
        by_cases hz : g3.1 = 0
        · rw [show (g3.1 == 0) = true by simp [hz]]; exact ⟨_, _, _, rfl, hR3, fun h => by cases h⟩
        · rw [show (g3.1 == 0) = false by simp [hz]]
          simp only [Bool.false_eq_true, if_false]
          have h13 := b13.2.2.2.1 (by decide)
          obtain ⟨l', q1, q2, q3⟩ := run_loop a g2 g3 b2.1 (by omega) ⟨b13.1, h13⟩ ⟨by omega, ha.2⟩ FUEL 0 [] rfl (by have := b13.1; omega) (fun s hs => by cases hs) (by have := fuel_big; omega)
          exact ⟨l', 0, g3.2, q1, hR3, fun _ => ⟨by have := b13.1; omega, by omega, q3⟩⟩
    · rw [if_neg h0, get_bind 1 hR1 (by decide)]
      have hR2 := rd1 1 hR1
      generalize getS g1.2 ((1 : Nat) : Int) = g2 at *
      unfold twcc_chunk.j3788
      have fin : ∀ many each : Nat, many ≤ 14 → 1 ≤ many → each ≤ 2 → ∃ l e r', twcc_chunk.l3472 a (many : Int) (each : Int) FUEL [] true 0 g2.2 = some (l, e, r') ∧ Rd r' ∧ (e = 0 → 1 ≤ l.length ∧ (l.length : Int) ≤ a ∧ St3 l) := by
        intro many each hm hm1 hea
        obtain ⟨l', e, r', q1, q2, q3⟩ := row_loop a many each hm hea ha FUEL 0 [] true g2.2 hR2 (by simp; omega) (by omega) (fun _ s hs => by cases hs) (by have := fuel_big; omega)
        exact ⟨l', e, r', q1, q2, fun he => by
          obtain ⟨q4, q5⟩ := q3 he
          exact ⟨by omega, by omega, q5⟩⟩
      split
      · exact fin 7 2 (by decide) (by decide) (by decide)
      · exact fin 14 1 (by decide) (by decide) (by decide)
def nz (l : List Int) : Nat := (l.filter fun s => decide (0 < s)).length
theorem nz_snoc (l : List Int) (x : Int) : nz (l ++ [x]) = nz l + if 0 < x then 1 else 0 := by
  unfold nz; rw [List.filter_append, List.length_append]
  by_cases h : 0 < x <;> simp [h]
theorem nz_take (l : List Int) (i : Nat) (h : i < l.length) : nz (l.take (i + 1)) = nz (l.take i) + if 0 < l[i] then 1 else 0 := by
  rw [List.take_succ_eq_append_getElem h, nz_snoc]
theorem nz_le (l : List Int) (i : Nat) : nz (l.take i) ≤ nz l := by
  have : nz l = nz (l.take i) + nz (l.drop i) := by
    unfold nz
    rw [← List.length_append, ← List.filter_append, List.take_append_drop]
  omega
theorem nz_len (l : List Int) : nz l ≤ l.length := List.length_filter_le _ _
structure TwccOk (t : S_api_Twcc) : Prop where
  len : t.Status.length ≤ 4096
  st : St3 t.Status
  del : t.Deltas.length = nz t.Status
theorem twcc_nil : TwccOk ⟨0, 0, 0, 0, 0, [], []⟩ := { len := by simp, st := fun _ hs => (by cases hs), del := rfl }
theorem signed_some (v : Int) (n : Nat) (hn : n ≤ 32) : ∃ z, twcc_signed v (n : Int) = some z := by
  unfold twcc_signed
  rw [w64_in (x := 32 - (n : Int)) (by omega) (by omega), if_neg (by omega), if_neg (by omega)]
  exact ⟨_, rfl⟩
theorem delta_loop (y1 y2 y3 : Int × S_bits_Reader) (b : Int) (y4 : Int × S_bits_Reader) (L : List Int) (hL : L.length ≤ 4096) (hS : St3 L) : ∀ (k i : Nat) (r : S_bits_Reader) (D : List Int), Rd r → i ≤ L.length → D.length = nz (L.take i) → L.length - i < k →
    ∃ t e, twcc_Decode.l5201 y1 y2 y3 b y4 L k (i : Int) r D = some (t, e) ∧ TwccOk t := by
  intro k
  induction k with
  | zero => intro i r D _ _ _ h; omega
  | succ k ih =>
    intro i r D hR hi hD hk
    unfold twcc_Decode.l5201
    by_cases hlt : i < L.length
    · rw [if_pos (by omega), idx_nat (List.getElem?_eq_getElem hlt), Option.bind_some]
      have hs := hS L[i] (List.getElem_mem hlt)
      have hn := nz_take L i hlt
      have hnl := nz_le L i
      have hnl2 := nz_len L
      have w : w64 ((i : Int) + 1) = ((i + 1 : Nat) : Int) := by rw [w64_in (by omega) (by omega)]; omega
      generalize L[i] = s at *
      rw [w]
      by_cases h1 : s = 1
      · rw [if_pos h1, show (8 : Int) = ((8 : Nat) : Int) from rfl, get_bind 8 hR (by decide), cat_in (by simp only [List.length_cons, List.length_nil]; omega), Option.bind_some]
        exact ih (i + 1) _ _ (rd1 8 hR) (by omega) (by rw [List.length_append, List.length_singleton, hn, if_pos (by omega), hD]) (by omega)
      · rw [if_neg h1]
        by_cases h2 : s = 2
        · obtain ⟨z, hz⟩ := signed_some (getS r ((16 : Nat) : Int)).1 16 (by decide)
          rw [if_pos h2, show (16 : Int) = ((16 : Nat) : Int) from rfl, get_bind 16 hR (by decide), hz, Option.bind_some, cat_in (by simp only [List.length_cons, List.length_nil]; omega), Option.bind_some]
          exact ih (i + 1) _ _ (rd1 16 hR) (by omega) (by rw [List.length_append, List.length_singleton, hn, if_pos (by omega), hD]) (by omega)
        · rw [if_neg h2]
          exact ih (i + 1) _ _ hR (by omega) (by rw [hn, if_neg (by omega), hD]; rfl) (by omega)
    · rw [if_neg (by omega)]
      obtain rfl : i = L.length := by omega
      rw [List.take_length] at hD
      unfold bits_Reader_Bad
      rw [Option.bind_some]
      split
      · exact ⟨_, _, rfl, twcc_nil⟩
      · rw [left_bind hR]
        have fin : ∀ x : Bool, ∃ t e, twcc_Decode.j5532 y1 y2 y3 b y4 L D x = some (t, e) ∧ TwccOk t := by
          intro x
          unfold twcc_Decode.j5532 twcc_Decode.j5833
          cases x with
          | true => exact ⟨_, _, rfl, twcc_nil⟩
          | false => exact ⟨_, _, rfl, ⟨hL, hS, hD⟩⟩
        split
        · exact fin _
        · rw [Get_spec _ _ hR (by have := left_in hR; omega) (by have := left_in hR; omega), Option.bind_some]
          exact fin _
theorem status_loop (y1 y2 y3 y0 : Int × S_bits_Reader) (b : Int) (y4 : Int × S_bits_Reader) (h0 : 0 ≤ y0.1 ∧ y0.1 ≤ 4096) : ∀ (k : Nat) (r : S_bits_Reader) (L : List Int), Rd r → (L.length : Int) ≤ y0.1 → St3 L → (y0.1 - L.length).toNat < k →
    ∃ t e, twcc_Decode.l3904 y1 y2 y3 y0 b y4 k r L = some (t, e) ∧ TwccOk t := by
  intro k
  induction k with
  | zero => intro r L _ _ _ h; omega
  | succ k ih =>
    intro r L hR hl hS hk
    unfold twcc_Decode.l3904
    rw [w64_in (x := y0.1) (by omega) (by omega), w64_in (x := y0.1 - (L.length : Int)) (by omega) (by omega)]
    by_cases hlt : 0 < y0.1 - (L.length : Int)
    · rw [if_pos hlt]
      obtain ⟨l, e, r', q1, q2, q3⟩ := chunk_total r _ hR (⟨hlt, by omega⟩ : 0 < y0.1 - (L.length : Int) ∧ y0.1 - (L.length : Int) ≤ 4096)
      rw [q1, Option.bind_some]
      dsimp only
      by_cases he : e = 0
      · obtain ⟨q4, q5, q6⟩ := q3 he
        rw [if_pos he, cat_in (by omega), Option.bind_some]
        exact ih _ _ q2 (by rw [List.length_append]; omega) (fun s hs => by
          rcases List.mem_append.1 hs with hs | hs
          · exact hS s hs
          · exact q6 s hs) (by rw [List.length_append]; omega)
      · rw [if_neg he]; exact ⟨_, _, rfl, twcc_nil⟩
    · rw [if_neg hlt]
      exact delta_loop y1 y2 y3 b y4 L (by omega) hS FUEL 0 r [] hR (by omega) rfl (by have := fuel_big; omega)
theorem twcc_total (s : ByteArray) : ∃ t e, twcc_Decode s = some (t, e) ∧ TwccOk t := by
  unfold twcc_Decode
  by_cases h1 : 65536 < (s.size : Int)
  · rw [if_pos h1]; exact ⟨_, _, rfl, twcc_nil⟩
  · rw [if_neg h1]
    split
    · split
      · exact ⟨_, _, rfl, twcc_nil⟩
      · unfold bits_Read
        rw [Option.bind_some]
        have hR := rd_read (s := s) (by omega)
        obtain ⟨z, hz⟩ := signed_some (getS (getS (getS (getS (getS ⟨s, 0, false⟩ ((32 : Nat) : Int)).2 ((32 : Nat) : Int)).2 ((16 : Nat) : Int)).2 ((16 : Nat) : Int)).2 ((24 : Nat) : Int)).1 24 (by decide)
        rw [show (32 : Int) = ((32 : Nat) : Int) from rfl, show (16 : Int) = ((16 : Nat) : Int) from rfl, show (24 : Int) = ((24 : Nat) : Int) from rfl, show (8 : Int) = ((8 : Nat) : Int) from rfl]
        rw [get_bind 32 hR (by decide), get_bind 32 (rd1 32 hR) (by decide), get_bind 16 (rd1 32 (rd1 32 hR)) (by decide), get_bind 16 (rd1 16 (rd1 32 (rd1 32 hR))) (by decide), get_bind 24 (rd1 16 (rd1 16 (rd1 32 (rd1 32 hR)))) (by decide), hz, Option.bind_some, get_bind 8 (rd1 24 (rd1 16 (rd1 16 (rd1 32 (rd1 32 hR))))) (by decide)]
        have hR8 := rd1 8 (rd1 24 (rd1 16 (rd1 16 (rd1 32 (rd1 32 hR)))))
        have b16 := get_in (r := (getS (getS (getS ⟨s, 0, false⟩ ((32 : Nat) : Int)).2 ((32 : Nat) : Int)).2 ((16 : Nat) : Int)).2) 16 (by decide)
        generalize getS (getS (getS (getS (getS (getS ⟨s, 0, false⟩ ((32 : Nat) : Int)).2 ((32 : Nat) : Int)).2 ((16 : Nat) : Int)).2 ((16 : Nat) : Int)).2 ((24 : Nat) : Int)).2 ((8 : Nat) : Int) = g8 at *
        generalize getS (getS (getS (getS ⟨s, 0, false⟩ ((32 : Nat) : Int)).2 ((32 : Nat) : Int)).2 ((16 : Nat) : Int)).2 ((16 : Nat) : Int) = g4 at *
        rw [w64_in (x := g4.1) (by omega) (by omega)]
        split
        · exact ⟨_, _, rfl, twcc_nil⟩
        · split
          · exact ⟨_, _, rfl, twcc_nil⟩
          · exact status_loop _ _ _ _ _ _ ⟨b16.1, by omega⟩ FUEL _ [] hR8 (by have := b16.1; simp; omega) (fun s hs => by cases hs) (by have := fuel_big; simp; omega)
    · exact ⟨_, _, rfl, twcc_nil⟩
end Fl
