import Derived.Test.YtegfpljajjfpjaaPlF
set_option linter.unusedVariables false
/-! 'Split', twice; 'Join'. -/
namespace Fl
open Go Fw
def parts : Nat → ByteArray → List S_api_Part → List S_api_Part × Int
  | 0, _, acc => (acc, 0)
  | k + 1, t, acc => match partP t with
    | .error e => ([], e)
    | .ok (p, n) => if (t.extract n.toNat t.size).size = 0 then (acc ++ [p], 0) else parts k (t.extract n.toNat t.size) (acc ++ [p])
theorem partP_ok {t : ByteArray} {p : S_api_Part} {n : Int} (h : partP t = .ok (p, n)) : 4 ≤ n ∧ n ≤ (t.size : Int) ∧ 0 ≤ p.Count ∧ p.Count ≤ 31 ∧ 192 ≤ p.Type_ ∧ p.Type_ ≤ 223 ∧ p.Body.size % 4 = 0 ∧ 4 + (p.Body.size : Int) ≤ n := by
  unfold partP at h
  dsimp only at h
  generalize hn : 4 * (256 * byt t 2 + byt t 3) = m at *
  split at h
  · cases h
  · split at h
    · cases h
    · split at h
      · cases h
      · split at h
        · cases h
        · split at h
          · generalize (if 0 < m then byt t (4 + m - 1) else 0) = mm at h
            split at h
            · rename_i hc
              cases h
              dsimp only
              rw [size_extract _ _ _ (by omega)]
              omega
            · cases h
          · cases h
            dsimp only
            rw [size_extract _ _ _ (by omega)]
            omega
theorem l44_spec : ∀ (k K : Nat) (t : ByteArray) (acc : List S_api_Part), t.size < 4 * k → k ≤ K → t.size ≤ 65536 → 0 < t.size → acc.length + t.size ≤ 100000 → rtcp_Split.l44 K t acc = some (parts k t acc) := by
  intro k
  induction k with
  | zero => intro K t acc h; omega
  | succ k ih =>
    intro K t acc hk hK hs h0 hl
    obtain ⟨K, rfl⟩ : ∃ K', K = K' + 1 := ⟨K - 1, by omega⟩
    unfold rtcp_Split.l44 parts
    rw [part_spec t hs, Option.bind_some]
    cases hp : partP t with
    | error e =>
      simp [onOk, toX, flt, catchV, catchC]
    | ok x =>
      obtain ⟨p, n⟩ := x
      obtain ⟨h1, h2, _⟩ := partP_ok hp
      show (cat 4398046511104 acc [p]).bind _ = _
      rw [cat_in (by simp only [List.length_cons, List.length_nil]; omega), Option.bind_some]
      dsimp only
      rw [bsl_in (by omega) (by omega) (Int.le_refl _), Option.bind_some, Int.toNat_natCast]
      have hsz := size_extract t n.toNat t.size (Nat.le_refl _)
      by_cases hz : (t.extract n.toNat t.size).size = 0
      · rw [if_pos ((sEq_empty _).2 hz), if_pos hz]
      · rw [if_neg (fun h => hz ((sEq_empty _).1 h)), if_neg hz]
        refine ih K _ _ (by omega) (by omega) (by omega) (by omega) ?_
        rw [List.length_append, List.length_singleton]
        omega
def splitS (s : ByteArray) : List S_api_Part × Int := if 65536 < s.size then ([], 2) else if s.size = 0 then ([], 60) else parts s.size s []
theorem Split_spec (s : ByteArray) : rtcp_Split s = some (splitS s) := by
  unfold rtcp_Split splitS
  by_cases h1 : 65536 < s.size
  · rw [if_pos h1, show decide ((s.size : Int) ≤ 65536) = false by simp; omega, want_f, Option.bind_some]
    simp [onOk, flt, catchV, catchC]
  · rw [if_neg h1, show decide ((s.size : Int) ≤ 65536) = true by simp; omega, want_t, Option.bind_some]
    dsimp only [onOk]
    by_cases h2 : s.size = 0
    · rw [if_pos h2, (sEq_empty s).2 h2]
      show (rtcp_want false 60).bind _ = _
      rw [want_f, Option.bind_some]
      simp [onOk, flt, catchV, catchC]
    · rw [if_neg h2]
      have : sEq s (⟨#[]⟩ : ByteArray) = false := by
        cases hh : sEq s (⟨#[]⟩ : ByteArray) with
        | true => exact absurd ((sEq_empty s).1 hh) h2
        | false => rfl
      rw [this]
      show (rtcp_want true 60).bind _ = _
      rw [want_t, Option.bind_some]
      dsimp only [onOk]
      exact l44_spec s.size FUEL s [] (by omega) (by have := fuel_big; omega) (by omega) (by omega) (by simp; omega)
theorem band31 (b : Nat) (_h : b < 256) : bAnd .u8 (b : Int) 31 = ((b % 32 : Nat) : Int) := by
  have := bAnd_pow (k := .u8) (b : Int) 5 (by decide)
  rw [show (2 : Int) ^ 5 - 1 = 31 from rfl] at this
  rw [this]; show (b : Int) % 32 = _; omega
theorem band1 (b : Nat) (_h : b < 256) : bAnd .u8 (b : Int) 1 = ((b % 2 : Nat) : Int) := by
  have := bAnd_pow (k := .u8) (b : Int) 1 (by decide)
  rw [show (2 : Int) ^ 1 - 1 = 1 from rfl] at this
  rw [this]; show (b : Int) % 2 = _; omega
theorem l2161_spec (s : ByteArray) (hs : s.size ≤ 65536) : ∀ (k K at_ : Nat) (acc : List S_api_Part), s.size - at_ < 4 * k → k ≤ K → at_ < s.size → acc.length + (s.size - at_) ≤ 100000 → ref08_Split.l2161 s (K + 1) acc (at_ : Int) = some (parts k (s.extract at_ s.size) acc) := by
  intro k
  induction k with
  | zero => intro K at_ acc h; omega
  | succ k ih =>
    intro K at_ acc hk hK hlt hl
    unfold ref08_Split.l2161 parts
    have hsz : (s.extract at_ s.size).size = s.size - at_ := size_extract _ _ _ (Nat.le_refl _)
    generalize ht : s.extract at_ s.size = t at *
    have hbyt : ∀ i : Nat, at_ + i < s.size → byt s (at_ + i) = byt t i := fun i hi => by rw [← ht, byt_extract _ _ _ _ hi (Nat.le_refl _)]
    rw [if_pos (show (at_ : Int) < (s.size : Int) by omega), w64_in (x := (s.size : Int) - (at_ : Int)) (by omega) (by omega)]
    by_cases h4 : t.size < 4
    · rw [if_pos (by omega)]
      have : partP t = .error 60 := by unfold partP; dsimp only; rw [if_pos h4]
      rw [this]
    · rw [if_neg (by omega), w64_in (x := (at_ : Int) + 2) (by omega) (by omega), w64_in (x := (at_ : Int) + 3) (by omega) (by omega), w64_in (x := (at_ : Int) + 1) (by omega) (by omega), w64_in (x := (at_ : Int) + 4) (by omega) (by omega), bidx_in (i := (at_ : Int) + 2) (by omega) (by omega), Option.bind_some, bidx_in (i := (at_ : Int) + 3) (by omega) (by omega), Option.bind_some]
      rw [show ((at_ : Int) + 2).toNat = at_ + 2 by omega, show ((at_ : Int) + 3).toNat = at_ + 3 by omega, hbyt 2 (by omega), hbyt 3 (by omega)]
      have x0 := byt_lt t 0
      have x1 := byt_lt t 1
      have x2 := byt_lt t 2
      have x3 := byt_lt t 3
      have w1 : w64 (4 * w64 (w64 (w64 ((byt t 2 : Nat) : Int) * 256) + w64 ((byt t 3 : Nat) : Int))) = ((4 * (256 * byt t 2 + byt t 3) : Nat) : Int) := by
        rw [w64_in (x := ((byt t 2 : Nat) : Int)) (by omega) (by omega), w64_in (x := ((byt t 3 : Nat) : Int)) (by omega) (by omega), w64_in (x := ((byt t 2 : Nat) : Int) * 256) (by omega) (by omega), w64_in (x := ((byt t 2 : Nat) : Int) * 256 + ((byt t 3 : Nat) : Int)) (by omega) (by omega), w64_in (by omega) (by omega)]
        omega
      have hP : partP t = (let n : Nat := 4 * (256 * byt t 2 + byt t 3)
          if t.size < 4 then .error 60 else
          if t.size < 4 + n then .error 60 else
          if byt t 0 / 64 ≠ 2 then .error 70 else
          if byt t 1 < 192 ∨ 223 < byt t 1 then .error 81 else
          if byt t 0 / 32 % 2 = 1 then
            let m := if 0 < n then byt t (4 + n - 1) else 0
            if 4 + n = t.size ∧ 4 ≤ m ∧ m % 4 = 0 ∧ m ≤ n then .ok (⟨(byt t 0 % 32 : Nat), (byt t 1 : Nat), t.extract 4 (4 + n - m)⟩, ((4 + n : Nat) : Int)) else .error 91
          else .ok (⟨(byt t 0 % 32 : Nat), (byt t 1 : Nat), t.extract 4 (4 + n)⟩, ((4 + n : Nat) : Int))) := rfl
      rw [hP]
      dsimp only
      rw [if_neg h4, w1]
      unfold ref08_Split.j2486 ref08_Split.j4312 ref08_Split.j3094 ref08_Split.j4006 ref08_Split.j3702 ref08_Split.j4005 ref08_Split.j4311
      simp only [w1]
      generalize hn : 4 * (256 * byt t 2 + byt t 3) = n at *
      have hn2 : n ≤ 262140 := by omega
      have w2 : w64 (4 + (n : Int)) = 4 + n := w64_in (by omega) (by omega)
      have w3 : w64 ((at_ : Int) + (4 + n)) = ((at_ + (4 + n) : Nat) : Int) := by rw [w64_in (by omega) (by omega)]; omega
      have w4 : w64 ((byt t 1 : Nat) : Int) = ((byt t 1 : Nat) : Int) := w64_in (by omega) (by omega)
      simp only [w2, w3]
      rw [w64_in (x := (s.size : Int) - (at_ : Int) - 4) (by omega) (by omega)]
      by_cases hs2 : t.size < 4 + n
      · rw [if_pos (by omega), if_pos hs2]
      · rw [if_neg (by omega), if_neg hs2, bidx_in (i := (at_ : Int)) (by omega) (by omega), Option.bind_some, bidx_in (i := (at_ : Int) + 1) (by omega) (by omega), Option.bind_some]
        rw [show ((at_ : Int)).toNat = at_ + 0 by omega, show ((at_ : Int) + 1).toNat = at_ + 1 by omega, hbyt 0 (by omega), hbyt 1 (by omega), w4]
        have w5 : w64 ((at_ : Int) + 4 + (n : Int)) = ((at_ + (4 + n) : Nat) : Int) := by rw [w64_in (by omega) (by omega)]; omega
        rw [w5, bsl_in (by omega) (by omega) (by omega), Option.bind_some, Option.bind_some]
        have hbody : s.extract ((at_ : Int) + 4).toNat ((at_ + (4 + n) : Nat) : Int).toNat = t.extract 4 (4 + n) := by
          rw [← ht, extract_extract _ _ _ _ _ (by omega)]
          congr 1
        rw [hbody]
        have hbs : (t.extract 4 (4 + n)).size = n := by rw [size_extract _ _ _ (by omega)]; omega
        have f64 : ((byt t 0 : Nat) : Int).fdiv 64 = ((byt t 0 / 64 : Nat) : Int) := by rw [Int.fdiv_eq_ediv_of_nonneg _ (by decide)]; rfl
        have f32 : ((byt t 0 : Nat) : Int).fdiv 32 = ((byt t 0 / 32 : Nat) : Int) := by rw [Int.fdiv_eq_ediv_of_nonneg _ (by decide)]; rfl
        rw [f64]
        -- the rest of the round
        have rest : ∀ p : S_api_Part, ref08_Split.l2161 s K (acc ++ [p]) ((at_ + (4 + n) : Nat) : Int) = some (if (t.extract ((4 + n : Nat) : Int).toNat t.size).size = 0 then (acc ++ [p], 0) else parts k (t.extract ((4 + n : Nat) : Int).toNat t.size) (acc ++ [p])) := by
          intro p
          have he : t.extract ((4 + n : Nat) : Int).toNat t.size = s.extract (at_ + (4 + n)) s.size := by
            rw [← ht, extract_extract _ _ _ _ _ (by rw [size_extract _ _ _ (Nat.le_refl _)]; omega), size_extract _ _ _ (Nat.le_refl _)]
            congr 1; omega
          rw [he, size_extract _ _ _ (Nat.le_refl _)]
          obtain ⟨K, rfl⟩ : ∃ K', K = K' + 1 := ⟨K - 1, by omega⟩
          by_cases hz : s.size - (at_ + (4 + n)) = 0
          · rw [if_pos hz]
            unfold ref08_Split.l2161
            rw [if_neg (by omega)]
          · rw [if_neg hz]
            exact ih K _ _ (by omega) (by omega) (by omega) (by rw [List.length_append, List.length_singleton]; omega)
        have cat1 : ∀ p : S_api_Part, cat 4398046511104 acc [p] = some (acc ++ [p]) := fun p => cat_in (by simp only [List.length_cons, List.length_nil]; omega)
        by_cases hm : byt t 0 / 64 = 2
        · rw [if_pos (show ((byt t 0 / 64 : Nat) : Int) = 2 by omega), if_neg (show ¬ (byt t 0 / 64 ≠ 2) by omega)]
          by_cases hk1 : byt t 1 < 192
          · rw [if_pos (show ((byt t 1 : Nat) : Int) < 192 by omega), if_pos (Or.inl hk1)]
            simp only [if_true]
          · rw [if_neg (show ¬ ((byt t 1 : Nat) : Int) < 192 by omega)]
            by_cases hk2 : 223 < byt t 1
            · rw [show decide ((223 : Int) < ((byt t 1 : Nat) : Int)) = true by simp; omega, if_pos (Or.inr hk2)]
              simp only [if_true]
            · rw [show decide ((223 : Int) < ((byt t 1 : Nat) : Int)) = false by simp; omega, if_neg (show ¬ (byt t 1 < 192 ∨ 223 < byt t 1) by omega)]
              simp only [Bool.false_eq_true, if_false, Option.bind_some]
              rw [f32, band1 _ (by omega), band31 _ x0, w64_in (x := ((byt t 0 % 32 : Nat) : Int)) (by omega) (by omega)]
              by_cases hp : byt t 0 / 32 % 2 = 1
              · rw [if_pos (show ((byt t 0 / 32 % 2 : Nat) : Int) = 1 by omega), if_pos hp]
                by_cases c1 : 4 + n = t.size
                · rw [if_neg (show ¬ ((at_ + (4 + n) : Nat) : Int) < (s.size : Int) by omega)]
                  by_cases hn0 : 0 < n
                  · rw [show (((n : Nat) : Int) == 0) = false by simp; omega, if_pos hn0]
                    simp only [Bool.false_eq_true, if_false]
                    rw [w64_in (x := (n : Int) - 1) (by omega) (by omega), bidx_in (by omega) (by omega), Option.bind_some, show ((n : Int) - 1).toNat = n - 1 by omega, byt_extract _ _ _ _ (by omega) (by omega), show 4 + (n - 1) = 4 + n - 1 by omega]
                    have hmm := byt_lt t (4 + n - 1)
                    generalize byt t (4 + n - 1) = m at *
                    rw [w64_in (x := (m : Int)) (by omega) (by omega)]
                    by_cases c2 : 4 ≤ m
                    · rw [if_neg (show ¬ (m : Int) < 4 by omega), tmod_pos (by omega)]
                      by_cases c3 : m % 4 = 0
                      · rw [if_pos (show (m : Int) % 4 = 0 by omega)]
                        by_cases c4 : m ≤ n
                        · rw [show decide ((n : Int) < (m : Int)) = false by simp; omega]
                          simp only [Bool.false_eq_true, if_false]
                          rw [if_pos ⟨c1, c2, c3, c4⟩]
                          dsimp only
                          rw [w64_in (x := (n : Int) - (m : Int)) (by omega) (by omega), bsl_in (by decide) (by omega) (by omega), Option.bind_some]
                          have : (t.extract 4 (4 + n)).extract (0 : Int).toNat ((n : Int) - (m : Int)).toNat = t.extract 4 (4 + n - m) := by
                            show (t.extract 4 (4 + n)).extract 0 ((n : Int) - (m : Int)).toNat = _
                            rw [extract_extract _ _ _ _ _ (by omega)]
                            congr 1; omega
                          rw [this, cat1, Option.bind_some, rest]
                        · rw [show decide ((n : Int) < (m : Int)) = true by simp; omega]
                          simp only [if_true]
                          rw [if_neg (fun h => c4 h.2.2.2)]
                      · rw [if_neg (show ¬ (m : Int) % 4 = 0 by omega)]
                        simp only [if_true]
                        rw [if_neg (fun h => c3 h.2.2.1)]
                    · rw [if_pos (show (m : Int) < 4 by omega)]
                      simp only [if_true]
                      rw [if_neg (fun h => c2 h.2.1)]
                  · rw [show (((n : Nat) : Int) == 0) = true by simp; omega, if_neg hn0]
                    simp only [if_true]
                    rw [if_neg (fun h => absurd h.2.1 (by decide))]
                · rw [if_pos (show ((at_ + (4 + n) : Nat) : Int) < (s.size : Int) by omega)]
                  simp only [if_true]
                  rw [if_neg (fun h => c1 h.1)]
              · rw [if_neg (show ¬ ((byt t 0 / 32 % 2 : Nat) : Int) = 1 by omega), if_neg hp, cat1, Option.bind_some, rest]
        · rw [if_neg (show ¬ ((byt t 0 / 64 : Nat) : Int) = 2 by omega), if_pos (show byt t 0 / 64 ≠ 2 from hm)]
theorem ref_Split_spec (s : ByteArray) : ref08_Split s = some (splitS s) := by
  unfold ref08_Split splitS
  by_cases h1 : 65536 < s.size
  · rw [if_pos (by omega), if_pos h1]
  · rw [if_neg (by omega), if_neg h1]
    by_cases h2 : s.size = 0
    · rw [if_pos ((sEq_empty s).2 h2), if_pos h2]
    · rw [if_neg (fun h => h2 ((sEq_empty s).1 h)), if_neg h2]
      have := l2161_spec s (by omega) s.size (FUEL - 1) 0 [] (by omega) (by have := fuel_big; omega) (by omega) (by simp; omega)
      rw [extract_all, show FUEL - 1 + 1 = FUEL by have := fuel_big; omega] at this
      exact this
end Fl
