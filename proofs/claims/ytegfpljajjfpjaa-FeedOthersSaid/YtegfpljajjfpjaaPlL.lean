import Derived.Test.YtegfpljajjfpjaaPlK
set_option linter.unusedVariables false
/-! The law FeedOthers, in plain words. -/
namespace Fl
open Go Fw
theorem wakes_true : law12_wakes = some true := by kernel_rfl
theorem ints_same (l : List Int) (hl : l.length ≤ 4096) : keep_Ints l l = some true := by
  unfold keep_Ints
  rw [if_pos rfl]
  have key : ∀ (k i : Nat), i ≤ l.length → l.length - i < k → keep_Ints.l11 l l k (i : Int) = some true := by
    intro k
    induction k with
    | zero => intro i _ h; omega
    | succ k ih =>
      intro i hi hk
      unfold keep_Ints.l11
      by_cases hlt : i < l.length
      · rw [if_pos (by omega), idx_nat (List.getElem?_eq_getElem hlt), Option.bind_some, Option.bind_some, if_pos rfl, w64_in (by omega) (by omega)]
        exact ih (i + 1) (by omega) (by omega)
      · rw [if_neg (by omega)]
  exact key FUEL 0 (by omega) (by have := fuel_big; omega)
theorem bne_self (b : Bool) : ¬ (b != b) = true := by cases b <;> decide
theorem reports_same (l : List S_api_Report) (hl : l.length ≤ 4096) : keep_Reports l l = some true := by
  unfold keep_Reports
  rw [if_pos rfl]
  have key : ∀ (k i : Nat), i ≤ l.length → l.length - i < k → keep_Reports.l17 l l k (i : Int) = some true := by
    intro k
    induction k with
    | zero => intro i _ h; omega
    | succ k ih =>
      intro i hi hk
      unfold keep_Reports.l17
      by_cases hlt : i < l.length
      · rw [if_pos (by omega), idx_nat (List.getElem?_eq_getElem hlt), Option.bind_some, Option.bind_some, if_pos rfl, if_neg (bne_self _), if_pos rfl, if_neg (bne_self _), if_neg (bne_self _), w64_in (by omega) (by omega)]
        exact ih (i + 1) (by omega) (by omega)
      · rw [if_neg (by omega)]
  exact key FUEL 0 (by omega) (by have := fuel_big; omega)
/-- A part that is no feedback tells nothing. -/
theorem other (n : Int) (o : S_api_Part) (h : o.Type_ ≠ 205) (l : List S_api_Part) (x : Int) (f : S_feed_Feedback) : readL n (o :: l) x f = readL n l x f := by
  rw [readL]
  unfold feed_decoded
  rw [if_neg h, Option.bind_some, if_pos rfl]
theorem other_end (n : Int) (o : S_api_Part) (h : o.Type_ ≠ 205) : ∀ (l : List S_api_Part) (x : Int) (f : S_feed_Feedback), readL n (l ++ [o]) x f = readL n l x f
  | [], x, f => other n o h [] x f
  | p :: l, x, f => by
    rw [List.cons_append, readL, readL]
    congr 1
    funext d
    congr 1
    obtain ⟨d1, d2⟩ := d
    cases d1 with
    | nil => exact other_end n o h l x f
    | c0 c => show Option.bind _ _ = Option.bind _ _; congr 1; funext g; exact other_end n o h l _ g
    | c1 c => show Option.bind _ _ = Option.bind _ _; congr 1; funext g; exact other_end n o h l _ g
    | c2 c => show Option.bind _ _ = Option.bind _ _; congr 1; funext g; exact other_end n o h l _ _
theorem FeedOthers_true (a1 : ByteArray) (a2 a3 : Int) (h0 : 0 ≤ a3) (h1 : a3 ≤ 255) : law12_FeedOthers a1 a2 a3 = some true := by
  unfold law12_FeedOthers
  by_cases hs : 30000 < (a1.size : Int)
  · rw [if_pos hs, wakes_true]; rfl
  · rw [if_neg hs, ref_Split_spec, Option.bind_some, w64_in (x := a3) (by omega) (by omega), tmod_pos h0, tmod_pos h0, w64_in (x := 200 + a3 % 5) (by omega) (by omega)]
    generalize ho : (⟨a3 % 32, 200 + a3 % 5, (⟨#[97, 98, 99, 100]⟩ : ByteArray)⟩ : S_api_Part) = o at *
    have hv : Valid o := by subst ho; exact ⟨by dsimp only; omega, by dsimp only; omega, by dsimp only; omega, by dsimp only; omega, by show (4 : Nat) % 4 = 0; decide, by show (4 : Nat) ≤ 65536; decide⟩
    have ht : o.Type_ ≠ 205 := by subst ho; dsimp only; omega
    have hb : o.Body.size = 4 := by subst ho; rfl
    have t1 : ∀ l, total (o :: l) = 8 + total l := fun l => by rw [total_cons, hb]
    have hv2 : ∀ p ∈ [o, o], Valid p := fun p hp => by simp at hp; subst hp; exact hv
    rw [Join_spec [o, o] (by simp) hv2 (by rw [t1, t1, total_nil]; decide), Option.bind_some]
    dsimp only
    rw [Read_spec (bS (encs [o, o])), splitS_encs [o, o] (by simp) hv2 (by rw [t1, t1, total_nil]; decide)]
    rw [if_pos rfl, other a2 o ht, other a2 o ht]
    show Option.bind (some (endL 0 ⟨[], []⟩)) _ = _
    rw [Option.bind_some]
    show (if (120 : Int) = 120 then _ else _) = _
    rw [if_pos rfl]
    by_cases he : (splitS a1).2 = 0
    · rw [if_pos he]
      obtain ⟨g1, g2, g3, g4⟩ := splitS_out a1 he
      have hlen := total_len (splitS a1).1
      have hread := Read_spec a1 a2
      rw [if_pos he] at hread
      obtain ⟨r, e, q1, q2, q3⟩ := readL_total a2 (splitS a1).1 0 ⟨[], []⟩ (by simp; omega) (by simp; omega)
      rw [q1] at hread
      generalize (splitS a1).1 = l at *
      rw [cat_in (by simp only [List.length_cons, List.length_nil]; omega), Option.bind_some, cat_in (by simp only [List.length_append, List.length_cons, List.length_nil]; omega), Option.bind_some]
      have e1 : [o] ++ l ++ [o] = o :: (l ++ [o]) := rfl
      have hv3 : ∀ p ∈ o :: (l ++ [o]), Valid p := fun p hp => by
        rcases List.mem_cons.1 hp with rfl | hp
        · exact hv
        · rcases List.mem_append.1 hp with hp | hp
          · exact g2 p hp
          · simp only [List.mem_singleton] at hp; subst hp; exact hv
      have ht3 : total (o :: (l ++ [o])) ≤ 65536 := by rw [t1, total_append, t1, total_nil]; omega
      rw [e1, Join_spec _ (by simp) hv3 ht3, Option.bind_some, hread, Option.bind_some]
      dsimp only
      rw [Read_spec (bS (encs (o :: (l ++ [o])))), splitS_encs _ (by simp) hv3 ht3, if_pos rfl, other a2 o ht, other_end a2 o ht, q1, Option.bind_some]
      dsimp only
      rw [if_pos rfl, reports_same _ q2, Option.bind_some, if_pos rfl, ints_same _ q3, Option.bind_some, if_pos rfl, wakes_true]
      rfl
    · rw [if_neg he, wakes_true]; rfl
end Fl
