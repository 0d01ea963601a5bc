import Derived.Test.YtegfpljajjfpjaaPlG
set_option linter.unusedVariables false
/-! 'Join', and back. -/
namespace Fl
open Go Fw
theorem foldl_push (l : List Int) : ∀ (r : ByteArray), (l.foldl (fun r n => r.push (UInt8.ofNat n.toNat)) r).data.toList = r.data.toList ++ l.map fun n => UInt8.ofNat n.toNat := by
  induction l with
  | nil => intro r; simp
  | cons x l ih => intro r; rw [List.foldl_cons, ih]; simp [ByteArray.push]
theorem bS_data (l : List Int) : (bS l).data.toList = l.map fun n => UInt8.ofNat n.toNat := by
  unfold bS; rw [foldl_push]; rfl
theorem bS_size (l : List Int) : (bS l).size = l.length := by
  show (bS l).data.size = _
  rw [← Array.length_toList, bS_data, List.length_map]
theorem bS_ext {a : ByteArray} {l : List Int} (h : a.data.toList = l.map fun n => UInt8.ofNat n.toNat) : a = bS l := by
  apply ByteArray.ext
  exact Array.toList_inj.1 (by rw [h, bS_data])
theorem bS_sB (s : ByteArray) : bS (sB s) = s := by
  symm
  apply bS_ext
  unfold sB
  rw [List.map_map]
  symm
  refine (List.map_congr_left (g := id) fun b _ => ?_).trans (List.map_id _)
  simp
theorem bS_byt (l : List Int) (i : Nat) (n : Nat) (h : l[i]? = some (n : Int)) (hn : n < 256) : byt (bS l) i = n := by
  unfold byt
  rw [Array.getD_eq_getD_getElem?, ← Array.getElem?_toList, bS_data, List.getElem?_map, h]
  simp only [Option.map_some, Option.getD_some, Int.toNat_natCast]
  rw [UInt8.toNat_ofNat', Nat.mod_eq_of_lt (by omega)]
theorem bS_extract (l : List Int) (a b : Nat) : (bS l).extract a b = bS ((l.take b).drop a) := by
  apply bS_ext
  rw [ByteArray.data_extract, Array.toList_extract, bS_data, List.extract_eq_take_drop, ← List.map_drop, ← List.map_take]
  congr 1
  rw [List.take_drop]
  by_cases h : a ≤ b
  · rw [show a + (b - a) = b by omega]
  · rw [List.drop_eq_nil_of_le (by rw [List.length_take]; omega), List.drop_eq_nil_of_le (by rw [List.length_take]; omega)]
structure Valid (p : S_api_Part) : Prop where
  c0 : 0 ≤ p.Count
  c1 : p.Count ≤ 31
  t0 : 192 ≤ p.Type_
  t1 : p.Type_ ≤ 223
  b4 : p.Body.size % 4 = 0
  bm : p.Body.size ≤ 65536
/-- The bytes of a part. -/
def encP (p : S_api_Part) : List Int := [128 + p.Count, p.Type_, ((p.Body.size / 4 / 256 : Nat) : Int), ((p.Body.size / 4 % 256 : Nat) : Int)] ++ sB p.Body
theorem sB_len (s : ByteArray) : (sB s).length = s.size := by unfold sB; rw [List.length_map]; rfl
theorem encP_len (p : S_api_Part) : (encP p).length = 4 + p.Body.size := by unfold encP; rw [List.length_append, sB_len]; rfl
def encs (l : List S_api_Part) : List Int := l.flatMap encP
def total (l : List S_api_Part) : Nat := (encs l).length
theorem total_nil : total [] = 0 := rfl
theorem total_cons (p : S_api_Part) (l : List S_api_Part) : total (p :: l) = 4 + p.Body.size + total l := by unfold total encs; rw [List.flatMap_cons, List.length_append, encP_len]
theorem total_append (l m : List S_api_Part) : total (l ++ m) = total l + total m := by unfold total encs; rw [List.flatMap_append, List.length_append]
theorem total_len (l : List S_api_Part) : 4 * l.length ≤ total l := by
  induction l with
  | nil => exact Nat.zero_le _
  | cons p l ih => rw [total_cons, List.length_cons]; omega
theorem join1 (l : List S_api_Part) (hv : ∀ p ∈ l, Valid p) (ht : total l ≤ 65536) : ∀ (k i : Nat), i ≤ l.length → l.length - i < k → ref08_Join.l377 l k (i : Int) = ref08_Join.l720 l FUEL 0 0 := by
  have hlen := total_len l
  intro k
  induction k with
  | zero => intro i _ h; omega
  | succ k ih =>
    intro i hi hk
    unfold ref08_Join.l377
    by_cases hlt : i < l.length
    · rw [if_pos (by omega)]
      have hp := hv l[i] (List.getElem_mem hlt)
      rw [idx_nat (List.getElem?_eq_getElem hlt), Option.bind_some]
      generalize l[i] = p at *
      have h0 := hp.c0; have h1 := hp.c1; have h2 := hp.t0; have h3 := hp.t1; have h4 := hp.b4; have h5 := hp.bm
      rw [if_neg (show ¬ p.Count < 0 by omega), if_neg (show ¬ 31 < p.Count by omega), if_neg (show ¬ p.Type_ < 192 by omega), if_neg (show ¬ 223 < p.Type_ by omega), tmod_pos (by omega), if_pos (by omega)]
      unfold ref08_Join.j688
      rw [show decide (262140 < (p.Body.size : Int)) = false by simp; omega]
      simp only [Bool.false_eq_true, if_false]
      rw [w64_in (by omega) (by omega)]
      exact ih (i + 1) (by omega) (by omega)
    · rw [if_neg (by omega)]
theorem total_drop (l : List S_api_Part) (i : Nat) (h : i < l.length) : total (l.drop i) = 4 + l[i].Body.size + total (l.drop (i + 1)) := by
  rw [List.drop_eq_getElem_cons h, total_cons]
theorem join2 (l : List S_api_Part) (ht : total l ≤ 65536) : ∀ (k i : Nat) (n : Int), i ≤ l.length → l.length - i < k → 0 ≤ n → n + (total (l.drop i) : Int) ≤ 65536 → ref08_Join.l720 l k n (i : Int) = ref08_Join.l738 l FUEL [] 0 := by
  have hlen := total_len l
  intro k
  induction k with
  | zero => intro i n _ h; omega
  | succ k ih =>
    intro i n hi hk h0 hn
    unfold ref08_Join.l720
    by_cases hlt : i < l.length
    · rw [if_pos (by omega), idx_nat (List.getElem?_eq_getElem hlt), Option.bind_some]
      have htd := total_drop l i hlt
      generalize l[i] = p at *
      rw [w64_in (x := 4 + (p.Body.size : Int)) (by omega) (by omega), w64_in (x := n + (4 + (p.Body.size : Int))) (by omega) (by omega), if_neg (by omega), w64_in (x := (i : Int) + 1) (by omega) (by omega)]
      exact ih (i + 1) _ (by omega) (by omega) (by omega) (by omega)
    · rw [if_neg (by omega)]
theorem join3 (l : List S_api_Part) (hv : ∀ p ∈ l, Valid p) (ht : total l ≤ 65536) : ∀ (k i : Nat), i ≤ l.length → l.length - i < k → ref08_Join.l738 l k (encs (l.take i)) (i : Int) = some (bS (encs l), 0) := by
  have hlen := total_len l
  intro k
  induction k with
  | zero => intro i _ h; omega
  | succ k ih =>
    intro i hi hk
    unfold ref08_Join.l738
    by_cases hlt : i < l.length
    · rw [if_pos (by omega), idx_nat (List.getElem?_eq_getElem hlt)]
      simp only [Option.bind_some]
      have hp := hv l[i] (List.getElem_mem hlt)
      have e1 : encs (l.take (i + 1)) = encs (l.take i) ++ encP l[i] := by
        rw [List.take_succ_eq_append_getElem hlt]
        unfold encs
        rw [List.flatMap_append, List.flatMap_cons, List.flatMap_nil, List.append_nil]
      have e2 : total (l.take i) + total (l.drop i) = total l := by rw [← total_append, List.take_append_drop]
      have e3 := total_drop l i hlt
      have e4 : (encs (l.take i)).length = total (l.take i) := rfl
      generalize l[i] = p at *
      have h0 := hp.c0; have h1 := hp.c1; have h2 := hp.t0; have h3 := hp.t1; have h4 := hp.b4; have h5 := hp.bm
      have w1 : IntKind.wrap .u8 (w64 (128 + p.Count)) = 128 + p.Count := by rw [w64_in (by omega) (by omega), u8_eq]; omega
      have w2 : IntKind.wrap .u8 p.Type_ = p.Type_ := by rw [u8_eq]; omega
      have w3 : w64 ((p.Body.size : Int).tdiv 4) = ((p.Body.size / 4 : Nat) : Int) := by rw [tdiv_pos (by omega), w64_in (by omega) (by omega)]; omega
      have w4 : IntKind.wrap .u8 (((p.Body.size / 4 : Nat) : Int).fdiv 256) = ((p.Body.size / 4 / 256 : Nat) : Int) := by rw [Int.fdiv_eq_ediv_of_nonneg _ (by decide), u8_eq]; omega
      have w5 : IntKind.wrap .u8 ((p.Body.size / 4 : Nat) : Int) = ((p.Body.size / 4 % 256 : Nat) : Int) := by rw [u8_eq]; omega
      rw [w1, w2, w3, w4, w5, cat_in (by simp only [List.length_cons, List.length_nil]; omega), Option.bind_some, cat_in (by rw [sB_len, List.length_append]; simp only [List.length_cons, List.length_nil]; omega), Option.bind_some, w64_in (by omega) (by omega)]
      have := ih (i + 1) (by omega) (by omega)
      rw [e1] at this
      rw [List.append_assoc]
      exact this
    · rw [if_neg (by omega)]
      obtain rfl : i = l.length := by omega
      rw [List.take_length]
theorem Join_spec (l : List S_api_Part) (h0 : l ≠ []) (hv : ∀ p ∈ l, Valid p) (ht : total l ≤ 65536) : ref08_Join l = some (bS (encs l), 0) := by
  have hlen := total_len l
  have hf := fuel_big
  have hl0 : 0 < l.length := List.length_pos_iff.2 h0
  unfold ref08_Join
  rw [if_neg (by omega)]
  have a1 := join1 l hv ht FUEL 0 (by omega) (by omega)
  have a2 := join2 l ht FUEL 0 0 (by omega) (by omega) (by omega) (by rw [List.drop_zero]; omega)
  have a3 := join3 l hv ht FUEL 0 (by omega) (by omega)
  rw [Int.natCast_zero] at a1 a2 a3
  rw [a1, a2]
  exact a3
/-- The part ahead of others. -/
theorem partP_enc (p : S_api_Part) (hp : Valid p) (R : List Int) : partP (bS (encP p ++ R)) = .ok (p, ((4 + p.Body.size : Nat) : Int)) := by
  have h0 := hp.c0; have h1 := hp.c1; have h2 := hp.t0; have h3 := hp.t1; have h4 := hp.b4; have h5 := hp.bm
  obtain ⟨c, hc⟩ := Int.eq_ofNat_of_zero_le h0
  obtain ⟨t, htt⟩ := Int.eq_ofNat_of_zero_le (show 0 ≤ p.Type_ by omega)
  have hl : (encP p ++ R)= [128 + p.Count, p.Type_, ((p.Body.size / 4 / 256 : Nat) : Int), ((p.Body.size / 4 % 256 : Nat) : Int)] ++ (sB p.Body ++ R) := by unfold encP; rw [List.append_assoc]
  have b0 : byt (bS (encP p ++ R)) 0 = 128 + c := bS_byt _ 0 _ (by rw [hl, hc]; show some _ = some _; congr 1) (by omega)
  have b1 : byt (bS (encP p ++ R)) 1 = t := bS_byt _ 1 _ (by rw [hl, htt]; rfl) (by omega)
  have b2 : byt (bS (encP p ++ R)) 2 = p.Body.size / 4 / 256 := bS_byt _ 2 _ (by rw [hl]; rfl) (by omega)
  have b3 : byt (bS (encP p ++ R)) 3 = p.Body.size / 4 % 256 := bS_byt _ 3 _ (by rw [hl]; rfl) (by omega)
  have hsz : (bS (encP p ++ R)).size = 4 + p.Body.size + R.length := by rw [bS_size, List.length_append, encP_len]
  have hbody : (bS (encP p ++ R)).extract 4 (4 + p.Body.size) = p.Body := by
    rw [bS_extract, List.take_left' (encP_len p)]
    exact bS_sB _
  unfold partP
  dsimp only
  have hn : 4 * (256 * byt (bS (encP p ++ R)) 2 + byt (bS (encP p ++ R)) 3) = p.Body.size := by rw [b2, b3]; omega
  rw [hn, b0, b1, hsz]
  rw [if_neg (show ¬ 4 + p.Body.size + R.length < 4 by omega), if_neg (show ¬ 4 + p.Body.size + R.length < 4 + p.Body.size by omega), if_neg (show ¬ ((128 + c) / 64 ≠ 2) by omega), if_neg (show ¬ (t < 192 ∨ 223 < t) by omega), if_neg (show ¬ (128 + c) / 32 % 2 = 1 by omega), hbody]
  congr 2
  obtain ⟨pc, pt, pb⟩ := p
  simp only at hc htt
  rw [hc, htt]
  congr 1
  simp only at h1
  omega
theorem extract_enc (p : S_api_Part) (R : List Int) : (bS (encP p ++ R)).extract ((4 + p.Body.size : Nat) : Int).toNat (bS (encP p ++ R)).size = bS R := by
  rw [bS_extract, bS_size, List.take_length, Int.toNat_natCast, List.drop_left' (encP_len p)]
theorem parts_encs : ∀ (l : List S_api_Part) (k : Nat) (acc : List S_api_Part), l ≠ [] → (∀ p ∈ l, Valid p) → l.length ≤ k → parts k (bS (encs l)) acc = (acc ++ l, 0)
  | [], _, _, h, _, _ => absurd rfl h
  | p :: l, 0, _, _, _, h => by simp at h
  | p :: l, k + 1, acc, _, hv, hk => by
    have e : encs (p :: l) = encP p ++ encs l := by unfold encs; rw [List.flatMap_cons]
    unfold parts
    rw [e, partP_enc p (hv p (List.mem_cons_self ..))]
    dsimp only
    rw [extract_enc]
    cases l with
    | nil => rw [if_pos (by rw [bS_size]; rfl)]
    | cons q l =>
      have h2 : ¬ (bS (encs (q :: l))).size = 0 := by rw [bS_size]; have := total_cons q l; unfold total at this; omega
      rw [if_neg h2, parts_encs (q :: l) k _ (by simp) (fun x hx => hv x (List.mem_cons_of_mem _ hx)) (by simpa using hk), List.append_assoc]
      rfl
theorem splitS_encs (l : List S_api_Part) (h0 : l ≠ []) (hv : ∀ p ∈ l, Valid p) (ht : total l ≤ 65536) : splitS (bS (encs l)) = (l, 0) := by
  have hsz : (bS (encs l)).size = total l := bS_size _
  have hlen := total_len l
  have hl0 : 0 < l.length := List.length_pos_iff.2 h0
  unfold splitS
  rw [if_neg (by omega), if_neg (by omega), parts_encs l _ [] h0 hv (by omega)]
  rfl
theorem partP_valid {t : ByteArray} {p : S_api_Part} {n : Int} (h : partP t = .ok (p, n)) (ht : t.size ≤ 65536) : Valid p := by
  obtain ⟨_, h2, h3, h4, h5, h6, h7, h8⟩ := partP_ok h
  exact ⟨h3, h4, h5, h6, h7, by omega⟩
/-- What 'Split' hands back. -/
theorem parts_out : ∀ (k : Nat) (t : ByteArray) (acc : List S_api_Part), t.size < 4 * k → t.size ≤ 65536 → 0 < t.size → (parts k t acc).2 = 0 → ∃ l, (parts k t acc).1 = acc ++ l ∧ l ≠ [] ∧ (∀ p ∈ l, Valid p) ∧ total l ≤ t.size := by
  intro k
  induction k with
  | zero => intro t acc h; omega
  | succ k ih =>
    intro t acc hk hs h0 he
    unfold parts at he ⊢
    cases hp : partP t with
    | error e => 
      rw [hp] at he
      dsimp only at he
      exfalso
      unfold partP at hp
      dsimp only at hp
      split at hp
      · cases hp; cases he
      · split at hp
        · cases hp; cases he
        · split at hp
          · cases hp; cases he
          · split at hp
            · cases hp; cases he
            · split at hp
              · generalize (if 0 < 4 * (256 * byt t 2 + byt t 3) then byt t (4 + 4 * (256 * byt t 2 + byt t 3) - 1) else 0) = mm at hp
                split at hp
                · cases hp
                · cases hp; cases he
              · cases hp
    | ok x =>
      obtain ⟨p, n⟩ := x
      rw [hp] at he
      have hval := partP_valid hp hs
      obtain ⟨h1, h2, _, _, _, _, _, h8⟩ := partP_ok hp
      have hsz := size_extract t n.toNat t.size (Nat.le_refl _)
      dsimp only at he ⊢
      by_cases hz : (t.extract n.toNat t.size).size = 0
      · rw [if_pos hz]
        exact ⟨[p], rfl, by simp, fun q hq => by simp at hq; subst hq; exact hval, by rw [total_cons, total_nil]; omega⟩
      · rw [if_neg hz] at he ⊢
        obtain ⟨l, e1, e2, e3, e4⟩ := ih _ _ (by omega) (by omega) (by omega) he
        refine ⟨p :: l, by rw [e1, List.append_assoc]; rfl, by simp, fun q hq => ?_, by rw [total_cons]; omega⟩
        rcases List.mem_cons.1 hq with rfl | hq
        · exact hval
        · exact e3 q hq
theorem splitS_out (s : ByteArray) (he : (splitS s).2 = 0) : (splitS s).1 ≠ [] ∧ (∀ p ∈ (splitS s).1, Valid p) ∧ total (splitS s).1 ≤ s.size ∧ s.size ≤ 65536 := by
  unfold splitS at he ⊢
  by_cases h1 : 65536 < s.size
  · rw [if_pos h1] at he; cases he
  · rw [if_neg h1] at he ⊢
    by_cases h2 : s.size = 0
    · rw [if_pos h2] at he; cases he
    · rw [if_neg h2] at he ⊢
      obtain ⟨l, e1, e2, e3, e4⟩ := parts_out s.size s [] (by omega) (by omega) (by omega) he
      rw [e1]
      exact ⟨e2, e3, e4, by omega⟩
end Fl
