import Derived.Test.YtegfpljajjfpjaaFwT
import Derived.Test.YtegfpljajjfpjaaProg
import Derived.Test.YtegfpljajjfpjaaFd4
set_option linter.unusedVariables false
set_option maxRecDepth 100000
set_option maxHeartbeats 8000000
namespace Fl
open Go Go.Proofs Fw
/- 53 math/bits.LeadingZeros64 -/
def math_bits_LeadingZeros64 (a1 : Int) : Option Int :=
  (math_bits_Len64 a1).bind fun y3 =>
  some (w64 (64 - y3))
theorem math_bits_LeadingZeros64_ok {a1 : Int} {r : Int} (hres : math_bits_LeadingZeros64 a1 = some r) {w0 w : World} {F : List Asn} (hw : SH w0 w (F)) :
    Calls Try.prog 53 #[.int .u64 a1] w fun e w' => e = .returned (.int .i64 r) ∧ SH w0 w' (F) := by
  refine fw_enter (n := 6) (bs := []) (env := [(0, U .u64 a1)]) (H := []) (F := F) Try.func53 rfl (by kernel_rfl) (by kernel_rfl) (by kernel_rfl) (hw.eq (by kernel_rfl)) ?_
  unfold math_bits_LeadingZeros64 at hres
  refine rn_seq ?_
  refine rn_q [] [0] [(0, U .u64 a1)] [] (by kernel_rfl) trivial (fin_next ?_)
  refine rn_seq ?_
  refine rn_text ?_
  refine ro_q 1 [] [3] [(3, U .u64 a1)] [] (by kernel_rfl) trivial ?_
  refine bind_elim hres fun y3 hy3 hres => ?_
  refine ro_op (by kernel_rfl) (op_call (f := 54) (xs := #[(.tmp 3)]) (ats := #[115]) (d := (some 4)) (args := #[.int .u64 a1]) (by kernel_rfl) (by kernel_rfl) (by kernel_rfl) (by kernel_rfl) fun w hw => (math_bits_Len64_ok hy3 hw).mono ?_)
  rintro _ w1 ⟨rfl, hw1⟩
  refine ⟨_, [], [], _, rfl, hw1.eq (by kernel_rfl), rfl, mt_same, ro_fin ?_⟩
  refine ro_q 2 [] [2] [(2, I (w64 (64 - y3)))] [] (by kernel_rfl) trivial ?_
  refine ro_end (by kernel_rfl) (fin_next ?_)
  refine rn_ret ?_
  refine fin_ret [.int .i64 (w64 (64 - y3))] (by kernel_rfl) fun w' hw' => ?_
  have hq := Option.some.inj hres
  subst hq
  exact ⟨rfl, hw'.drop⟩
/- 52 math/bits.Div64 -/
def math_bits_Div64.j1227 (r1 : Int → Int → Option Int) (a3 : Int) (y610 : Int) (x617 : Int) (x618 : Int) : Option Int :=
  (if 4294967296 ≤ (IntKind.wrap .u64 (x618 + ((shL .u64 a3 (IntKind.wrap .u64 (y610))).fdiv 4294967296))) then some (IntKind.wrap .u64 (x617 - 1)) else r1 (IntKind.wrap .u64 (x617 - 1)) (IntKind.wrap .u64 (x618 + ((shL .u64 a3 (IntKind.wrap .u64 (y610))).fdiv 4294967296))))
def math_bits_Div64.l923 (a2 : Int) (a3 : Int) (y610 : Int) : Nat → Int → Int → Option Int
  | 0, _, _ => none
  | k + 1, x617, x618 =>
    (if 4294967296 ≤ x617 then math_bits_Div64.j1227 (math_bits_Div64.l923 a2 a3 y610 k) a3 y610 x617 x618 else (if (IntKind.wrap .u64 ((IntKind.wrap .u64 (4294967296 * x618)) + ((shL .u64 a2 (IntKind.wrap .u64 (y610))).fdiv 4294967296))) < (IntKind.wrap .u64 (x617 * (bAnd .u64 (shL .u64 a3 (IntKind.wrap .u64 (y610))) 4294967295))) then math_bits_Div64.j1227 (math_bits_Div64.l923 a2 a3 y610 k) a3 y610 x617 x618 else some x617))
def math_bits_Div64.j2141 (r1 : Int → Int → Option Int) (a3 : Int) (y610 : Int) (x1531 : Int) (x1532 : Int) : Option Int :=
  (if 4294967296 ≤ (IntKind.wrap .u64 (x1531 + ((shL .u64 a3 (IntKind.wrap .u64 (y610))).fdiv 4294967296))) then some (IntKind.wrap .u64 (x1532 - 1)) else r1 (IntKind.wrap .u64 (x1531 + ((shL .u64 a3 (IntKind.wrap .u64 (y610))).fdiv 4294967296))) (IntKind.wrap .u64 (x1532 - 1)))
def math_bits_Div64.l1837 (a2 : Int) (a3 : Int) (y610 : Int) : Nat → Int → Int → Option Int
  | 0, _, _ => none
  | k + 1, x1531, x1532 =>
    (if 4294967296 ≤ x1532 then math_bits_Div64.j2141 (math_bits_Div64.l1837 a2 a3 y610 k) a3 y610 x1531 x1532 else (if (IntKind.wrap .u64 ((IntKind.wrap .u64 (4294967296 * x1531)) + (bAnd .u64 (shL .u64 a2 (IntKind.wrap .u64 (y610))) 4294967295))) < (IntKind.wrap .u64 (x1532 * (bAnd .u64 (shL .u64 a3 (IntKind.wrap .u64 (y610))) 4294967295))) then math_bits_Div64.j2141 (math_bits_Div64.l1837 a2 a3 y610 k) a3 y610 x1531 x1532 else some x1532))
def math_bits_Div64.j2444 (a1 : Int) (a2 : Int) (a3 : Int) : Option (Int × Int) :=
  (if a1 = 0 then (if a3 = 0 then none else
  (if a3 = 0 then none else
  some (IntKind.wrap .u64 (a2.tdiv a3), a2.tmod a3))) else (math_bits_LeadingZeros64 a3).bind fun y610 =>
  (if (IntKind.wrap .u64 (y610)) < 0 then none else
  (if (IntKind.wrap .u64 (y610)) < 0 then none else
  (if (IntKind.wrap .u64 (64 - (IntKind.wrap .u64 (y610)))) < 0 then none else
  (if (IntKind.wrap .u64 (y610)) < 0 then none else
  (if ((shL .u64 a3 (IntKind.wrap .u64 (y610))).fdiv 4294967296) = 0 then none else
  (math_bits_Div64.l923 a2 a3 y610 FUEL (IntKind.wrap .u64 ((bOr .u64 (shL .u64 a1 (IntKind.wrap .u64 (y610))) (shR .u64 a2 (IntKind.wrap .u64 (64 - (IntKind.wrap .u64 (y610)))))).tdiv ((shL .u64 a3 (IntKind.wrap .u64 (y610))).fdiv 4294967296))) (IntKind.wrap .u64 ((bOr .u64 (shL .u64 a1 (IntKind.wrap .u64 (y610))) (shR .u64 a2 (IntKind.wrap .u64 (64 - (IntKind.wrap .u64 (y610)))))) - (IntKind.wrap .u64 ((IntKind.wrap .u64 ((bOr .u64 (shL .u64 a1 (IntKind.wrap .u64 (y610))) (shR .u64 a2 (IntKind.wrap .u64 (64 - (IntKind.wrap .u64 (y610)))))).tdiv ((shL .u64 a3 (IntKind.wrap .u64 (y610))).fdiv 4294967296))) * ((shL .u64 a3 (IntKind.wrap .u64 (y610))).fdiv 4294967296)))))).bind fun e1528 =>
  (if ((shL .u64 a3 (IntKind.wrap .u64 (y610))).fdiv 4294967296) = 0 then none else
  (math_bits_Div64.l1837 a2 a3 y610 FUEL (IntKind.wrap .u64 ((IntKind.wrap .u64 ((IntKind.wrap .u64 ((IntKind.wrap .u64 ((bOr .u64 (shL .u64 a1 (IntKind.wrap .u64 (y610))) (shR .u64 a2 (IntKind.wrap .u64 (64 - (IntKind.wrap .u64 (y610)))))) * 4294967296)) + ((shL .u64 a2 (IntKind.wrap .u64 (y610))).fdiv 4294967296))) - (IntKind.wrap .u64 (e1528 * (shL .u64 a3 (IntKind.wrap .u64 (y610))))))) - (IntKind.wrap .u64 ((IntKind.wrap .u64 ((IntKind.wrap .u64 ((IntKind.wrap .u64 ((IntKind.wrap .u64 ((bOr .u64 (shL .u64 a1 (IntKind.wrap .u64 (y610))) (shR .u64 a2 (IntKind.wrap .u64 (64 - (IntKind.wrap .u64 (y610)))))) * 4294967296)) + ((shL .u64 a2 (IntKind.wrap .u64 (y610))).fdiv 4294967296))) - (IntKind.wrap .u64 (e1528 * (shL .u64 a3 (IntKind.wrap .u64 (y610))))))).tdiv ((shL .u64 a3 (IntKind.wrap .u64 (y610))).fdiv 4294967296))) * ((shL .u64 a3 (IntKind.wrap .u64 (y610))).fdiv 4294967296))))) (IntKind.wrap .u64 ((IntKind.wrap .u64 ((IntKind.wrap .u64 ((IntKind.wrap .u64 ((bOr .u64 (shL .u64 a1 (IntKind.wrap .u64 (y610))) (shR .u64 a2 (IntKind.wrap .u64 (64 - (IntKind.wrap .u64 (y610)))))) * 4294967296)) + ((shL .u64 a2 (IntKind.wrap .u64 (y610))).fdiv 4294967296))) - (IntKind.wrap .u64 (e1528 * (shL .u64 a3 (IntKind.wrap .u64 (y610))))))).tdiv ((shL .u64 a3 (IntKind.wrap .u64 (y610))).fdiv 4294967296)))).bind fun e2442 =>
  (if (IntKind.wrap .u64 (y610)) < 0 then none else
  some (IntKind.wrap .u64 ((IntKind.wrap .u64 (e1528 * 4294967296)) + e2442), shR .u64 (IntKind.wrap .u64 ((IntKind.wrap .u64 ((IntKind.wrap .u64 ((IntKind.wrap .u64 ((IntKind.wrap .u64 ((IntKind.wrap .u64 ((bOr .u64 (shL .u64 a1 (IntKind.wrap .u64 (y610))) (shR .u64 a2 (IntKind.wrap .u64 (64 - (IntKind.wrap .u64 (y610)))))) * 4294967296)) + ((shL .u64 a2 (IntKind.wrap .u64 (y610))).fdiv 4294967296))) - (IntKind.wrap .u64 (e1528 * (shL .u64 a3 (IntKind.wrap .u64 (y610))))))) * 4294967296)) + (bAnd .u64 (shL .u64 a2 (IntKind.wrap .u64 (y610))) 4294967295))) - (IntKind.wrap .u64 (e2442 * (shL .u64 a3 (IntKind.wrap .u64 (y610))))))) (IntKind.wrap .u64 (y610)))))))))))
def math_bits_Div64.j2445 (a1 : Int) (a2 : Int) (a3 : Int) : Option (Int × Int) :=
  (if a3 ≤ a1 then none else math_bits_Div64.j2444 a1 a2 a3)
def math_bits_Div64 (a1 : Int) (a2 : Int) (a3 : Int) : Option (Int × Int) :=
  (if a3 = 0 then none else math_bits_Div64.j2445 a1 a2 a3)
theorem math_bits_Div64_ok {a1 : Int} {a2 : Int} {a3 : Int} {r : Int × Int} (hres : math_bits_Div64 a1 a2 a3 = some r) {w0 w : World} {F : List Asn} (hw : SH w0 w (F)) :
    Calls Try.prog 52 #[.int .u64 a1, .int .u64 a2, .int .u64 a3] w fun e w' => e = .returned (.tuple #[.int .u64 r.1, .int .u64 r.2]) ∧ SH w0 w' (F) := by
  refine fw_enter (n := 135) (bs := []) (env := [(0, U .u64 a1), (1, U .u64 a2), (2, U .u64 a3)]) (H := []) (F := F) Try.func52 rfl (by kernel_rfl) (by kernel_rfl) (by kernel_rfl) (hw.eq (by kernel_rfl)) ?_
  unfold math_bits_Div64 at hres
  refine rn_seq ?_
  refine rn_q [] [0, 1, 2] [(0, U .u64 a1), (1, U .u64 a2), (2, U .u64 a3)] [] (by kernel_rfl) trivial (fin_next ?_)
  refine rn_join (V := Unit) (J := fun v => math_bits_Div64.j2445 a1 a2 a3 = some r) (sv := fun v => ⟨[], [(0, U .u64 a1), (1, U .u64 a2), (2, U .u64 a3)], []⟩) ?_ ?_
  · refine rn_seq ?_
    refine rn_q [] [0, 1, 2, 20] [(0, U .u64 a1), (1, U .u64 a2), (2, U .u64 a3), (20, B (a3 == 0))] [] (by kernel_rfl) trivial (fin_next ?_)
    refine rn_cond (a3 == 0) (by kernel_rfl) (fun c4 => ?_) (fun c4 => ?_)
    · rw [if_pos (eq_t c4)] at hres
      cases hres
    · rw [if_neg (eq_f c4)] at hres
      refine rn_skip (fin_then ?_)
      refine fin_join () hres [] [] (by kernel_rfl) (by kernel_rfl) (by kernel_rfl)
  · rintro ⟨⟩ hres
    unfold math_bits_Div64.j2445 at hres
    refine rn_join (V := Unit) (J := fun v => math_bits_Div64.j2444 a1 a2 a3 = some r) (sv := fun v => ⟨[], [(0, U .u64 a1), (1, U .u64 a2), (2, U .u64 a3)], []⟩) ?_ ?_
    · refine rn_seq ?_
      refine rn_q [] [0, 1, 2, 24] [(0, U .u64 a1), (1, U .u64 a2), (2, U .u64 a3), (24, B (decide (a3 ≤ a1)))] [] (by kernel_rfl) trivial (fin_next ?_)
      refine rn_cond (decide (a3 ≤ a1)) (by kernel_rfl) (fun c305 => ?_) (fun c305 => ?_)
      · rw [if_pos (of_decide_eq_true c305)] at hres
        cases hres
      · rw [if_neg (of_decide_eq_false c305)] at hres
        refine rn_skip (fin_then ?_)
        refine fin_join () hres [] [] (by kernel_rfl) (by kernel_rfl) (by kernel_rfl)
    · rintro ⟨⟩ hres
      unfold math_bits_Div64.j2444 at hres
      refine rn_seq ?_
      refine rn_seq ?_
      refine rn_q [] [0, 1, 2, 27] [(0, U .u64 a1), (1, U .u64 a2), (2, U .u64 a3), (27, B (a1 == 0))] [] (by kernel_rfl) trivial (fin_next ?_)
      refine rn_cond (a1 == 0) (by kernel_rfl) (fun c606 => ?_) (fun c606 => ?_)
      · rw [if_pos (eq_t c606)] at hres
        refine rn_seq ?_
        have hy607 : ¬ a3 = 0 := by intro hz; rw [if_pos hz] at hres; cases hres
        rw [if_neg hy607] at hres
        have hy608 : ¬ a3 = 0 := by intro hz; rw [if_pos hz] at hres; cases hres
        rw [if_neg hy608] at hres
        refine rn_held (hden [] [] ++ F) (by kernel_rfl) ?_
        refine rh_q [] 0 [0, 1, 2, 3, 4, 5, 6, 7] [(2, U .u64 (IntKind.wrap .u64 (a2.tdiv a3))), (5, U .u64 (a2.tmod a3))] [6, 7] [(6, U .u64 (IntKind.wrap .u64 (a2.tdiv a3))), (7, U .u64 (a2.tmod a3))] [true, true, true, true, true, true, true, true] [(smQuo .u64 a2 a3, .int .u64 (IntKind.wrap .u64 (a2.tdiv a3))), (smRem .u64 a2 a3, .int .u64 (a2.tmod a3))] rfl (by kernel_rfl) rfl [] [] (by kernel_rfl) (by kernel_rfl) ⟨ob_quo hy607, ⟨ob_rem hy608, trivial⟩⟩ ?_
        refine rh_end (by kernel_rfl) (fin_next ?_)
        refine rn_ret (fin_then_ret ?_)
        refine fin_ret [.int .u64 (IntKind.wrap .u64 (a2.tdiv a3)), .int .u64 (a2.tmod a3)] (by kernel_rfl) fun w' hw' => ?_
        have hq := Option.some.inj hres
        subst hq
        exact ⟨rfl, hw'.drop⟩
      · rw [if_neg (eq_f c606)] at hres
        refine rn_skip (fin_next ?_)
        refine rn_seq ?_
        refine rn_text ?_
        refine ro_q 1 [] [0, 1, 2, 34] [(0, U .u64 a1), (1, U .u64 a2), (2, U .u64 a3), (34, U .u64 a3)] [] (by kernel_rfl) trivial ?_
        refine bind_elim hres fun y610 hy610 hres => ?_
        refine ro_op (by kernel_rfl) (op_call (f := 53) (xs := #[(.tmp 34)]) (ats := #[115]) (d := (some 35)) (args := #[.int .u64 a3]) (by kernel_rfl) (by kernel_rfl) (by kernel_rfl) (by kernel_rfl) fun w hw => (math_bits_LeadingZeros64_ok hy610 hw).mono ?_)
        rintro _ w1 ⟨rfl, hw1⟩
        refine ⟨_, [], [], _, rfl, hw1.eq (by kernel_rfl), rfl, mt_same, ro_fin ?_⟩
        refine ro_q 2 [] [0, 1, 2, 8] [(0, U .u64 a1), (1, U .u64 a2), (2, U .u64 a3), (8, U .u64 (IntKind.wrap .u64 (y610)))] [] (by kernel_rfl) trivial ?_
        refine ro_end (by kernel_rfl) (fin_next ?_)
        refine rn_seq ?_
        have hy611 : ¬ (IntKind.wrap .u64 (y610)) < 0 := by intro hz; rw [if_pos hz] at hres; cases hres
        rw [if_neg hy611] at hres
        refine rn_q [(2, U .u64 (shL .u64 a3 (IntKind.wrap .u64 (y610))))] [0, 1, 2, 8] [(0, U .u64 a1), (1, U .u64 a2), (2, U .u64 (shL .u64 a3 (IntKind.wrap .u64 (y610)))), (8, U .u64 (IntKind.wrap .u64 (y610)))] [(smShl .u64 a3 .u64 (IntKind.wrap .u64 (y610)), .int .u64 (shL .u64 a3 (IntKind.wrap .u64 (y610))))] (by kernel_rfl) ⟨ob_shl hy611, trivial⟩ (fin_next ?_)
        refine rn_seq ?_
        refine rn_q [] [0, 1, 2, 8, 9] [(0, U .u64 a1), (1, U .u64 a2), (2, U .u64 (shL .u64 a3 (IntKind.wrap .u64 (y610)))), (8, U .u64 (IntKind.wrap .u64 (y610))), (9, U .u64 ((shL .u64 a3 (IntKind.wrap .u64 (y610))).fdiv 4294967296))] [] (by kernel_rfl) trivial (fin_next ?_)
        refine rn_seq ?_
        refine rn_q [] [0, 1, 2, 8, 9, 10] [(0, U .u64 a1), (1, U .u64 a2), (2, U .u64 (shL .u64 a3 (IntKind.wrap .u64 (y610)))), (8, U .u64 (IntKind.wrap .u64 (y610))), (9, U .u64 ((shL .u64 a3 (IntKind.wrap .u64 (y610))).fdiv 4294967296)), (10, U .u64 (bAnd .u64 (shL .u64 a3 (IntKind.wrap .u64 (y610))) 4294967295))] [] (by kernel_rfl) trivial (fin_next ?_)
        refine rn_seq ?_
        have hy612 : ¬ (IntKind.wrap .u64 (y610)) < 0 := by intro hz; rw [if_pos hz] at hres; cases hres
        rw [if_neg hy612] at hres
        have hy613 : ¬ (IntKind.wrap .u64 (64 - (IntKind.wrap .u64 (y610)))) < 0 := by intro hz; rw [if_pos hz] at hres; cases hres
        rw [if_neg hy613] at hres
        refine rn_q [(2, U .u64 (shL .u64 a1 (IntKind.wrap .u64 (y610)))), (6, U .u64 (shR .u64 a2 (IntKind.wrap .u64 (64 - (IntKind.wrap .u64 (y610))))))] [1, 2, 8, 9, 10, 11] [(1, U .u64 a2), (2, U .u64 (shL .u64 a3 (IntKind.wrap .u64 (y610)))), (8, U .u64 (IntKind.wrap .u64 (y610))), (9, U .u64 ((shL .u64 a3 (IntKind.wrap .u64 (y610))).fdiv 4294967296)), (10, U .u64 (bAnd .u64 (shL .u64 a3 (IntKind.wrap .u64 (y610))) 4294967295)), (11, U .u64 (bOr .u64 (shL .u64 a1 (IntKind.wrap .u64 (y610))) (shR .u64 a2 (IntKind.wrap .u64 (64 - (IntKind.wrap .u64 (y610)))))))] [(smShl .u64 a1 .u64 (IntKind.wrap .u64 (y610)), .int .u64 (shL .u64 a1 (IntKind.wrap .u64 (y610)))), (smShr .u64 a2 .u64 (IntKind.wrap .u64 (64 - (IntKind.wrap .u64 (y610)))), .int .u64 (shR .u64 a2 (IntKind.wrap .u64 (64 - (IntKind.wrap .u64 (y610))))))] (by kernel_rfl) ⟨ob_shl hy612, ⟨ob_shr hy613, trivial⟩⟩ (fin_next ?_)
        refine rn_seq ?_
        have hy614 : ¬ (IntKind.wrap .u64 (y610)) < 0 := by intro hz; rw [if_pos hz] at hres; cases hres
        rw [if_neg hy614] at hres
        refine rn_q [(2, U .u64 (shL .u64 a2 (IntKind.wrap .u64 (y610))))] [2, 8, 9, 10, 11, 12] [(2, U .u64 (shL .u64 a3 (IntKind.wrap .u64 (y610)))), (8, U .u64 (IntKind.wrap .u64 (y610))), (9, U .u64 ((shL .u64 a3 (IntKind.wrap .u64 (y610))).fdiv 4294967296)), (10, U .u64 (bAnd .u64 (shL .u64 a3 (IntKind.wrap .u64 (y610))) 4294967295)), (11, U .u64 (bOr .u64 (shL .u64 a1 (IntKind.wrap .u64 (y610))) (shR .u64 a2 (IntKind.wrap .u64 (64 - (IntKind.wrap .u64 (y610))))))), (12, U .u64 (shL .u64 a2 (IntKind.wrap .u64 (y610))))] [(smShl .u64 a2 .u64 (IntKind.wrap .u64 (y610)), .int .u64 (shL .u64 a2 (IntKind.wrap .u64 (y610))))] (by kernel_rfl) ⟨ob_shl hy614, trivial⟩ (fin_next ?_)
        refine rn_seq ?_
        refine rn_q [] [2, 8, 9, 10, 11, 12, 13] [(2, U .u64 (shL .u64 a3 (IntKind.wrap .u64 (y610)))), (8, U .u64 (IntKind.wrap .u64 (y610))), (9, U .u64 ((shL .u64 a3 (IntKind.wrap .u64 (y610))).fdiv 4294967296)), (10, U .u64 (bAnd .u64 (shL .u64 a3 (IntKind.wrap .u64 (y610))) 4294967295)), (11, U .u64 (bOr .u64 (shL .u64 a1 (IntKind.wrap .u64 (y610))) (shR .u64 a2 (IntKind.wrap .u64 (64 - (IntKind.wrap .u64 (y610))))))), (12, U .u64 (shL .u64 a2 (IntKind.wrap .u64 (y610)))), (13, U .u64 ((shL .u64 a2 (IntKind.wrap .u64 (y610))).fdiv 4294967296))] [] (by kernel_rfl) trivial (fin_next ?_)
        refine rn_seq ?_
        refine rn_q [] [2, 8, 9, 10, 11, 13, 14] [(2, U .u64 (shL .u64 a3 (IntKind.wrap .u64 (y610)))), (8, U .u64 (IntKind.wrap .u64 (y610))), (9, U .u64 ((shL .u64 a3 (IntKind.wrap .u64 (y610))).fdiv 4294967296)), (10, U .u64 (bAnd .u64 (shL .u64 a3 (IntKind.wrap .u64 (y610))) 4294967295)), (11, U .u64 (bOr .u64 (shL .u64 a1 (IntKind.wrap .u64 (y610))) (shR .u64 a2 (IntKind.wrap .u64 (64 - (IntKind.wrap .u64 (y610))))))), (13, U .u64 ((shL .u64 a2 (IntKind.wrap .u64 (y610))).fdiv 4294967296)), (14, U .u64 (bAnd .u64 (shL .u64 a2 (IntKind.wrap .u64 (y610))) 4294967295))] [] (by kernel_rfl) trivial (fin_next ?_)
        refine rn_seq ?_
        have hy615 : ¬ ((shL .u64 a3 (IntKind.wrap .u64 (y610))).fdiv 4294967296) = 0 := by intro hz; rw [if_pos hz] at hres; cases hres
        rw [if_neg hy615] at hres
        refine rn_q [(2, U .u64 (IntKind.wrap .u64 ((bOr .u64 (shL .u64 a1 (IntKind.wrap .u64 (y610))) (shR .u64 a2 (IntKind.wrap .u64 (64 - (IntKind.wrap .u64 (y610)))))).tdiv ((shL .u64 a3 (IntKind.wrap .u64 (y610))).fdiv 4294967296))))] [2, 8, 9, 10, 11, 13, 14, 15] [(2, U .u64 (shL .u64 a3 (IntKind.wrap .u64 (y610)))), (8, U .u64 (IntKind.wrap .u64 (y610))), (9, U .u64 ((shL .u64 a3 (IntKind.wrap .u64 (y610))).fdiv 4294967296)), (10, U .u64 (bAnd .u64 (shL .u64 a3 (IntKind.wrap .u64 (y610))) 4294967295)), (11, U .u64 (bOr .u64 (shL .u64 a1 (IntKind.wrap .u64 (y610))) (shR .u64 a2 (IntKind.wrap .u64 (64 - (IntKind.wrap .u64 (y610))))))), (13, U .u64 ((shL .u64 a2 (IntKind.wrap .u64 (y610))).fdiv 4294967296)), (14, U .u64 (bAnd .u64 (shL .u64 a2 (IntKind.wrap .u64 (y610))) 4294967295)), (15, U .u64 (IntKind.wrap .u64 ((bOr .u64 (shL .u64 a1 (IntKind.wrap .u64 (y610))) (shR .u64 a2 (IntKind.wrap .u64 (64 - (IntKind.wrap .u64 (y610)))))).tdiv ((shL .u64 a3 (IntKind.wrap .u64 (y610))).fdiv 4294967296))))] [(smQuo .u64 (bOr .u64 (shL .u64 a1 (IntKind.wrap .u64 (y610))) (shR .u64 a2 (IntKind.wrap .u64 (64 - (IntKind.wrap .u64 (y610)))))) ((shL .u64 a3 (IntKind.wrap .u64 (y610))).fdiv 4294967296), .int .u64 (IntKind.wrap .u64 ((bOr .u64 (shL .u64 a1 (IntKind.wrap .u64 (y610))) (shR .u64 a2 (IntKind.wrap .u64 (64 - (IntKind.wrap .u64 (y610)))))).tdiv ((shL .u64 a3 (IntKind.wrap .u64 (y610))).fdiv 4294967296))))] (by kernel_rfl) ⟨ob_quo hy615, trivial⟩ (fin_next ?_)
        refine rn_seq ?_
        refine rn_q [] [2, 8, 9, 10, 11, 13, 14, 15, 16] [(2, U .u64 (shL .u64 a3 (IntKind.wrap .u64 (y610)))), (8, U .u64 (IntKind.wrap .u64 (y610))), (9, U .u64 ((shL .u64 a3 (IntKind.wrap .u64 (y610))).fdiv 4294967296)), (10, U .u64 (bAnd .u64 (shL .u64 a3 (IntKind.wrap .u64 (y610))) 4294967295)), (11, U .u64 (bOr .u64 (shL .u64 a1 (IntKind.wrap .u64 (y610))) (shR .u64 a2 (IntKind.wrap .u64 (64 - (IntKind.wrap .u64 (y610))))))), (13, U .u64 ((shL .u64 a2 (IntKind.wrap .u64 (y610))).fdiv 4294967296)), (14, U .u64 (bAnd .u64 (shL .u64 a2 (IntKind.wrap .u64 (y610))) 4294967295)), (15, U .u64 (IntKind.wrap .u64 ((bOr .u64 (shL .u64 a1 (IntKind.wrap .u64 (y610))) (shR .u64 a2 (IntKind.wrap .u64 (64 - (IntKind.wrap .u64 (y610)))))).tdiv ((shL .u64 a3 (IntKind.wrap .u64 (y610))).fdiv 4294967296)))), (16, U .u64 (IntKind.wrap .u64 ((bOr .u64 (shL .u64 a1 (IntKind.wrap .u64 (y610))) (shR .u64 a2 (IntKind.wrap .u64 (64 - (IntKind.wrap .u64 (y610)))))) - (IntKind.wrap .u64 ((IntKind.wrap .u64 ((bOr .u64 (shL .u64 a1 (IntKind.wrap .u64 (y610))) (shR .u64 a2 (IntKind.wrap .u64 (64 - (IntKind.wrap .u64 (y610)))))).tdiv ((shL .u64 a3 (IntKind.wrap .u64 (y610))).fdiv 4294967296))) * ((shL .u64 a3 (IntKind.wrap .u64 (y610))).fdiv 4294967296))))))] [] (by kernel_rfl) trivial (fin_next ?_)
        refine bind_elim hres fun e1528 h616 hres => ?_
        refine rn_join (V := Int) (J := fun v => e1528 = v) (sv := fun v => ⟨[], [(2, U .u64 (shL .u64 a3 (IntKind.wrap .u64 (y610)))), (8, U .u64 (IntKind.wrap .u64 (y610))), (9, U .u64 ((shL .u64 a3 (IntKind.wrap .u64 (y610))).fdiv 4294967296)), (10, U .u64 (bAnd .u64 (shL .u64 a3 (IntKind.wrap .u64 (y610))) 4294967295)), (11, U .u64 (bOr .u64 (shL .u64 a1 (IntKind.wrap .u64 (y610))) (shR .u64 a2 (IntKind.wrap .u64 (64 - (IntKind.wrap .u64 (y610))))))), (13, U .u64 ((shL .u64 a2 (IntKind.wrap .u64 (y610))).fdiv 4294967296)), (14, U .u64 (bAnd .u64 (shL .u64 a2 (IntKind.wrap .u64 (y610))) 4294967295)), (15, U .u64 v)], []⟩) ?_ ?_
        · refine rn_block ?_
          refine rn_loop (V := Int × Int) (J := fun k v => math_bits_Div64.l923 a2 a3 y610 k v.1 v.2 = some e1528) (sv := fun v => ⟨[], [(2, U .u64 (shL .u64 a3 (IntKind.wrap .u64 (y610)))), (8, U .u64 (IntKind.wrap .u64 (y610))), (9, U .u64 ((shL .u64 a3 (IntKind.wrap .u64 (y610))).fdiv 4294967296)), (10, U .u64 (bAnd .u64 (shL .u64 a3 (IntKind.wrap .u64 (y610))) 4294967295)), (11, U .u64 (bOr .u64 (shL .u64 a1 (IntKind.wrap .u64 (y610))) (shR .u64 a2 (IntKind.wrap .u64 (64 - (IntKind.wrap .u64 (y610))))))), (13, U .u64 ((shL .u64 a2 (IntKind.wrap .u64 (y610))).fdiv 4294967296)), (14, U .u64 (bAnd .u64 (shL .u64 a2 (IntKind.wrap .u64 (y610))) 4294967295)), (15, U .u64 v.1), (16, U .u64 v.2)], []⟩) FUEL (IntKind.wrap .u64 ((bOr .u64 (shL .u64 a1 (IntKind.wrap .u64 (y610))) (shR .u64 a2 (IntKind.wrap .u64 (64 - (IntKind.wrap .u64 (y610)))))).tdiv ((shL .u64 a3 (IntKind.wrap .u64 (y610))).fdiv 4294967296)), IntKind.wrap .u64 ((bOr .u64 (shL .u64 a1 (IntKind.wrap .u64 (y610))) (shR .u64 a2 (IntKind.wrap .u64 (64 - (IntKind.wrap .u64 (y610)))))) - (IntKind.wrap .u64 ((IntKind.wrap .u64 ((bOr .u64 (shL .u64 a1 (IntKind.wrap .u64 (y610))) (shR .u64 a2 (IntKind.wrap .u64 (64 - (IntKind.wrap .u64 (y610)))))).tdiv ((shL .u64 a3 (IntKind.wrap .u64 (y610))).fdiv 4294967296))) * ((shL .u64 a3 (IntKind.wrap .u64 (y610))).fdiv 4294967296))))) h616 (fun a w hs => hs.conv [] (by kernel_rfl) (by kernel_rfl) ⟨[], by kernel_rfl⟩) ?_
          rintro k923 ⟨x617, x618⟩ h616
          rcases k923 with _ | k923
          · rw [math_bits_Div64.l923] at h616; cases h616
          · rw [math_bits_Div64.l923] at h616
            refine rn_join (V := Unit) (J := fun v => math_bits_Div64.j1227 (math_bits_Div64.l923 a2 a3 y610 k923) a3 y610 x617 x618 = some e1528) (sv := fun v => ⟨[], [(2, U .u64 (shL .u64 a3 (IntKind.wrap .u64 (y610)))), (8, U .u64 (IntKind.wrap .u64 (y610))), (9, U .u64 ((shL .u64 a3 (IntKind.wrap .u64 (y610))).fdiv 4294967296)), (10, U .u64 (bAnd .u64 (shL .u64 a3 (IntKind.wrap .u64 (y610))) 4294967295)), (11, U .u64 (bOr .u64 (shL .u64 a1 (IntKind.wrap .u64 (y610))) (shR .u64 a2 (IntKind.wrap .u64 (64 - (IntKind.wrap .u64 (y610))))))), (13, U .u64 ((shL .u64 a2 (IntKind.wrap .u64 (y610))).fdiv 4294967296)), (14, U .u64 (bAnd .u64 (shL .u64 a2 (IntKind.wrap .u64 (y610))) 4294967295)), (15, U .u64 x617), (16, U .u64 x618)], []⟩) ?_ ?_
            · refine rn_seq ?_
              refine rn_text ?_
              refine ro_q 3 [] [2, 8, 9, 10, 11, 13, 14, 15, 16, 69] [(2, U .u64 (shL .u64 a3 (IntKind.wrap .u64 (y610)))), (8, U .u64 (IntKind.wrap .u64 (y610))), (9, U .u64 ((shL .u64 a3 (IntKind.wrap .u64 (y610))).fdiv 4294967296)), (10, U .u64 (bAnd .u64 (shL .u64 a3 (IntKind.wrap .u64 (y610))) 4294967295)), (11, U .u64 (bOr .u64 (shL .u64 a1 (IntKind.wrap .u64 (y610))) (shR .u64 a2 (IntKind.wrap .u64 (64 - (IntKind.wrap .u64 (y610))))))), (13, U .u64 ((shL .u64 a2 (IntKind.wrap .u64 (y610))).fdiv 4294967296)), (14, U .u64 (bAnd .u64 (shL .u64 a2 (IntKind.wrap .u64 (y610))) 4294967295)), (15, U .u64 x617), (16, U .u64 x618), (69, B (decide (4294967296 ≤ x617)))] [] (by kernel_rfl) trivial ?_
              refine ro_split 69 (decide (4294967296 ≤ x617)) (by kernel_rfl) (fun c924 => ?_) (fun c924 => ?_)
              · rw [if_pos (of_decide_eq_true c924)] at h616
                refine ro_q 9 [] [2, 8, 9, 10, 11, 13, 14, 15, 16, 78] [(2, U .u64 (shL .u64 a3 (IntKind.wrap .u64 (y610)))), (8, U .u64 (IntKind.wrap .u64 (y610))), (9, U .u64 ((shL .u64 a3 (IntKind.wrap .u64 (y610))).fdiv 4294967296)), (10, U .u64 (bAnd .u64 (shL .u64 a3 (IntKind.wrap .u64 (y610))) 4294967295)), (11, U .u64 (bOr .u64 (shL .u64 a1 (IntKind.wrap .u64 (y610))) (shR .u64 a2 (IntKind.wrap .u64 (64 - (IntKind.wrap .u64 (y610))))))), (13, U .u64 ((shL .u64 a2 (IntKind.wrap .u64 (y610))).fdiv 4294967296)), (14, U .u64 (bAnd .u64 (shL .u64 a2 (IntKind.wrap .u64 (y610))) 4294967295)), (15, U .u64 x617), (16, U .u64 x618), (78, B true)] [] (by kernel_rfl) trivial ?_
                refine ro_end (by kernel_rfl) (fin_next ?_)
                refine rn_cond_t (by kernel_rfl) ?_
                refine rn_skip (fin_then ?_)
                refine fin_join () h616 [] [] (by kernel_rfl) (by kernel_rfl) (by kernel_rfl)
              · rw [if_neg (of_decide_eq_false c924)] at h616
                refine ro_q 9 [] [2, 8, 9, 10, 11, 13, 14, 15, 16, 78] [(2, U .u64 (shL .u64 a3 (IntKind.wrap .u64 (y610)))), (8, U .u64 (IntKind.wrap .u64 (y610))), (9, U .u64 ((shL .u64 a3 (IntKind.wrap .u64 (y610))).fdiv 4294967296)), (10, U .u64 (bAnd .u64 (shL .u64 a3 (IntKind.wrap .u64 (y610))) 4294967295)), (11, U .u64 (bOr .u64 (shL .u64 a1 (IntKind.wrap .u64 (y610))) (shR .u64 a2 (IntKind.wrap .u64 (64 - (IntKind.wrap .u64 (y610))))))), (13, U .u64 ((shL .u64 a2 (IntKind.wrap .u64 (y610))).fdiv 4294967296)), (14, U .u64 (bAnd .u64 (shL .u64 a2 (IntKind.wrap .u64 (y610))) 4294967295)), (15, U .u64 x617), (16, U .u64 x618), (78, B (decide ((IntKind.wrap .u64 ((IntKind.wrap .u64 (4294967296 * x618)) + ((shL .u64 a2 (IntKind.wrap .u64 (y610))).fdiv 4294967296))) < (IntKind.wrap .u64 (x617 * (bAnd .u64 (shL .u64 a3 (IntKind.wrap .u64 (y610))) 4294967295))))))] [] (by kernel_rfl) trivial ?_
                refine ro_end (by kernel_rfl) (fin_next ?_)
                refine rn_cond (decide ((IntKind.wrap .u64 ((IntKind.wrap .u64 (4294967296 * x618)) + ((shL .u64 a2 (IntKind.wrap .u64 (y610))).fdiv 4294967296))) < (IntKind.wrap .u64 (x617 * (bAnd .u64 (shL .u64 a3 (IntKind.wrap .u64 (y610))) 4294967295))))) (by kernel_rfl) (fun c925 => ?_) (fun c925 => ?_)
                · rw [if_pos (of_decide_eq_true c925)] at h616
                  refine rn_skip (fin_then ?_)
                  refine fin_join () h616 [] [] (by kernel_rfl) (by kernel_rfl) (by kernel_rfl)
                · rw [if_neg (of_decide_eq_false c925)] at h616
                  refine rn_exit (fin_then_exit (fin_then_exit (fin_block_exit (fin_then ?_))))
                  refine fin_join x617 (by cases h616; exact rfl) [] [] (by kernel_rfl) (by kernel_rfl) (by kernel_rfl)
            · rintro ⟨⟩ h616
              unfold math_bits_Div64.j1227 at h616
              refine rn_block ?_
              refine rn_seq ?_
              refine rn_q [] [2, 8, 9, 10, 11, 13, 14, 15, 16] [(2, U .u64 (shL .u64 a3 (IntKind.wrap .u64 (y610)))), (8, U .u64 (IntKind.wrap .u64 (y610))), (9, U .u64 ((shL .u64 a3 (IntKind.wrap .u64 (y610))).fdiv 4294967296)), (10, U .u64 (bAnd .u64 (shL .u64 a3 (IntKind.wrap .u64 (y610))) 4294967295)), (11, U .u64 (bOr .u64 (shL .u64 a1 (IntKind.wrap .u64 (y610))) (shR .u64 a2 (IntKind.wrap .u64 (64 - (IntKind.wrap .u64 (y610))))))), (13, U .u64 ((shL .u64 a2 (IntKind.wrap .u64 (y610))).fdiv 4294967296)), (14, U .u64 (bAnd .u64 (shL .u64 a2 (IntKind.wrap .u64 (y610))) 4294967295)), (15, U .u64 (IntKind.wrap .u64 (x617 - 1))), (16, U .u64 x618)] [] (by kernel_rfl) trivial (fin_next ?_)
              refine rn_seq ?_
              refine rn_q [] [2, 8, 9, 10, 11, 13, 14, 15, 16] [(2, U .u64 (shL .u64 a3 (IntKind.wrap .u64 (y610)))), (8, U .u64 (IntKind.wrap .u64 (y610))), (9, U .u64 ((shL .u64 a3 (IntKind.wrap .u64 (y610))).fdiv 4294967296)), (10, U .u64 (bAnd .u64 (shL .u64 a3 (IntKind.wrap .u64 (y610))) 4294967295)), (11, U .u64 (bOr .u64 (shL .u64 a1 (IntKind.wrap .u64 (y610))) (shR .u64 a2 (IntKind.wrap .u64 (64 - (IntKind.wrap .u64 (y610))))))), (13, U .u64 ((shL .u64 a2 (IntKind.wrap .u64 (y610))).fdiv 4294967296)), (14, U .u64 (bAnd .u64 (shL .u64 a2 (IntKind.wrap .u64 (y610))) 4294967295)), (15, U .u64 (IntKind.wrap .u64 (x617 - 1))), (16, U .u64 (IntKind.wrap .u64 (x618 + ((shL .u64 a3 (IntKind.wrap .u64 (y610))).fdiv 4294967296))))] [] (by kernel_rfl) trivial (fin_next ?_)
              refine rn_seq ?_
              refine rn_q [] [2, 8, 9, 10, 11, 13, 14, 15, 16, 85] [(2, U .u64 (shL .u64 a3 (IntKind.wrap .u64 (y610)))), (8, U .u64 (IntKind.wrap .u64 (y610))), (9, U .u64 ((shL .u64 a3 (IntKind.wrap .u64 (y610))).fdiv 4294967296)), (10, U .u64 (bAnd .u64 (shL .u64 a3 (IntKind.wrap .u64 (y610))) 4294967295)), (11, U .u64 (bOr .u64 (shL .u64 a1 (IntKind.wrap .u64 (y610))) (shR .u64 a2 (IntKind.wrap .u64 (64 - (IntKind.wrap .u64 (y610))))))), (13, U .u64 ((shL .u64 a2 (IntKind.wrap .u64 (y610))).fdiv 4294967296)), (14, U .u64 (bAnd .u64 (shL .u64 a2 (IntKind.wrap .u64 (y610))) 4294967295)), (15, U .u64 (IntKind.wrap .u64 (x617 - 1))), (16, U .u64 (IntKind.wrap .u64 (x618 + ((shL .u64 a3 (IntKind.wrap .u64 (y610))).fdiv 4294967296)))), (85, B (decide (4294967296 ≤ (IntKind.wrap .u64 (x618 + ((shL .u64 a3 (IntKind.wrap .u64 (y610))).fdiv 4294967296))))))] [] (by kernel_rfl) trivial (fin_next ?_)
              refine rn_cond (decide (4294967296 ≤ (IntKind.wrap .u64 (x618 + ((shL .u64 a3 (IntKind.wrap .u64 (y610))).fdiv 4294967296))))) (by kernel_rfl) (fun c1226 => ?_) (fun c1226 => ?_)
              · rw [if_pos (of_decide_eq_true c1226)] at h616
                refine rn_exit (fin_block_other (by decide) (fin_then_exit (fin_block_exit (fin_then ?_))))
                refine fin_join (IntKind.wrap .u64 (x617 - 1)) (by cases h616; exact rfl) [] [] (by kernel_rfl) (by kernel_rfl) (by kernel_rfl)
              · rw [if_neg (of_decide_eq_false c1226)] at h616
                refine rn_skip (fin_block (fin_then ?_))
                refine fin_loop (IntKind.wrap .u64 (x617 - 1), IntKind.wrap .u64 (x618 + ((shL .u64 a3 (IntKind.wrap .u64 (y610))).fdiv 4294967296))) h616 [] [] (by kernel_rfl) (by kernel_rfl) (by kernel_rfl)
        · rintro _ rfl
          refine rn_seq ?_
          refine rn_q [] [2, 8, 9, 10, 14, 15, 17] [(2, U .u64 (shL .u64 a3 (IntKind.wrap .u64 (y610)))), (8, U .u64 (IntKind.wrap .u64 (y610))), (9, U .u64 ((shL .u64 a3 (IntKind.wrap .u64 (y610))).fdiv 4294967296)), (10, U .u64 (bAnd .u64 (shL .u64 a3 (IntKind.wrap .u64 (y610))) 4294967295)), (14, U .u64 (bAnd .u64 (shL .u64 a2 (IntKind.wrap .u64 (y610))) 4294967295)), (15, U .u64 e1528), (17, U .u64 (IntKind.wrap .u64 ((IntKind.wrap .u64 ((IntKind.wrap .u64 ((bOr .u64 (shL .u64 a1 (IntKind.wrap .u64 (y610))) (shR .u64 a2 (IntKind.wrap .u64 (64 - (IntKind.wrap .u64 (y610)))))) * 4294967296)) + ((shL .u64 a2 (IntKind.wrap .u64 (y610))).fdiv 4294967296))) - (IntKind.wrap .u64 (e1528 * (shL .u64 a3 (IntKind.wrap .u64 (y610))))))))] [] (by kernel_rfl) trivial (fin_next ?_)
          refine rn_seq ?_
          have hy1529 : ¬ ((shL .u64 a3 (IntKind.wrap .u64 (y610))).fdiv 4294967296) = 0 := by intro hz; rw [if_pos hz] at hres; cases hres
          rw [if_neg hy1529] at hres
          refine rn_q [(2, U .u64 (IntKind.wrap .u64 ((IntKind.wrap .u64 ((IntKind.wrap .u64 ((IntKind.wrap .u64 ((bOr .u64 (shL .u64 a1 (IntKind.wrap .u64 (y610))) (shR .u64 a2 (IntKind.wrap .u64 (64 - (IntKind.wrap .u64 (y610)))))) * 4294967296)) + ((shL .u64 a2 (IntKind.wrap .u64 (y610))).fdiv 4294967296))) - (IntKind.wrap .u64 (e1528 * (shL .u64 a3 (IntKind.wrap .u64 (y610))))))).tdiv ((shL .u64 a3 (IntKind.wrap .u64 (y610))).fdiv 4294967296))))] [2, 8, 9, 10, 14, 15, 17, 18] [(2, U .u64 (shL .u64 a3 (IntKind.wrap .u64 (y610)))), (8, U .u64 (IntKind.wrap .u64 (y610))), (9, U .u64 ((shL .u64 a3 (IntKind.wrap .u64 (y610))).fdiv 4294967296)), (10, U .u64 (bAnd .u64 (shL .u64 a3 (IntKind.wrap .u64 (y610))) 4294967295)), (14, U .u64 (bAnd .u64 (shL .u64 a2 (IntKind.wrap .u64 (y610))) 4294967295)), (15, U .u64 e1528), (17, U .u64 (IntKind.wrap .u64 ((IntKind.wrap .u64 ((IntKind.wrap .u64 ((bOr .u64 (shL .u64 a1 (IntKind.wrap .u64 (y610))) (shR .u64 a2 (IntKind.wrap .u64 (64 - (IntKind.wrap .u64 (y610)))))) * 4294967296)) + ((shL .u64 a2 (IntKind.wrap .u64 (y610))).fdiv 4294967296))) - (IntKind.wrap .u64 (e1528 * (shL .u64 a3 (IntKind.wrap .u64 (y610)))))))), (18, U .u64 (IntKind.wrap .u64 ((IntKind.wrap .u64 ((IntKind.wrap .u64 ((IntKind.wrap .u64 ((bOr .u64 (shL .u64 a1 (IntKind.wrap .u64 (y610))) (shR .u64 a2 (IntKind.wrap .u64 (64 - (IntKind.wrap .u64 (y610)))))) * 4294967296)) + ((shL .u64 a2 (IntKind.wrap .u64 (y610))).fdiv 4294967296))) - (IntKind.wrap .u64 (e1528 * (shL .u64 a3 (IntKind.wrap .u64 (y610))))))).tdiv ((shL .u64 a3 (IntKind.wrap .u64 (y610))).fdiv 4294967296))))] [(smQuo .u64 (IntKind.wrap .u64 ((IntKind.wrap .u64 ((IntKind.wrap .u64 ((bOr .u64 (shL .u64 a1 (IntKind.wrap .u64 (y610))) (shR .u64 a2 (IntKind.wrap .u64 (64 - (IntKind.wrap .u64 (y610)))))) * 4294967296)) + ((shL .u64 a2 (IntKind.wrap .u64 (y610))).fdiv 4294967296))) - (IntKind.wrap .u64 (e1528 * (shL .u64 a3 (IntKind.wrap .u64 (y610))))))) ((shL .u64 a3 (IntKind.wrap .u64 (y610))).fdiv 4294967296), .int .u64 (IntKind.wrap .u64 ((IntKind.wrap .u64 ((IntKind.wrap .u64 ((IntKind.wrap .u64 ((bOr .u64 (shL .u64 a1 (IntKind.wrap .u64 (y610))) (shR .u64 a2 (IntKind.wrap .u64 (64 - (IntKind.wrap .u64 (y610)))))) * 4294967296)) + ((shL .u64 a2 (IntKind.wrap .u64 (y610))).fdiv 4294967296))) - (IntKind.wrap .u64 (e1528 * (shL .u64 a3 (IntKind.wrap .u64 (y610))))))).tdiv ((shL .u64 a3 (IntKind.wrap .u64 (y610))).fdiv 4294967296))))] (by kernel_rfl) ⟨ob_quo hy1529, trivial⟩ (fin_next ?_)
          refine rn_seq ?_
          refine rn_q [] [2, 8, 9, 10, 14, 15, 16, 17, 18] [(2, U .u64 (shL .u64 a3 (IntKind.wrap .u64 (y610)))), (8, U .u64 (IntKind.wrap .u64 (y610))), (9, U .u64 ((shL .u64 a3 (IntKind.wrap .u64 (y610))).fdiv 4294967296)), (10, U .u64 (bAnd .u64 (shL .u64 a3 (IntKind.wrap .u64 (y610))) 4294967295)), (14, U .u64 (bAnd .u64 (shL .u64 a2 (IntKind.wrap .u64 (y610))) 4294967295)), (15, U .u64 e1528), (16, U .u64 (IntKind.wrap .u64 ((IntKind.wrap .u64 ((IntKind.wrap .u64 ((IntKind.wrap .u64 ((bOr .u64 (shL .u64 a1 (IntKind.wrap .u64 (y610))) (shR .u64 a2 (IntKind.wrap .u64 (64 - (IntKind.wrap .u64 (y610)))))) * 4294967296)) + ((shL .u64 a2 (IntKind.wrap .u64 (y610))).fdiv 4294967296))) - (IntKind.wrap .u64 (e1528 * (shL .u64 a3 (IntKind.wrap .u64 (y610))))))) - (IntKind.wrap .u64 ((IntKind.wrap .u64 ((IntKind.wrap .u64 ((IntKind.wrap .u64 ((IntKind.wrap .u64 ((bOr .u64 (shL .u64 a1 (IntKind.wrap .u64 (y610))) (shR .u64 a2 (IntKind.wrap .u64 (64 - (IntKind.wrap .u64 (y610)))))) * 4294967296)) + ((shL .u64 a2 (IntKind.wrap .u64 (y610))).fdiv 4294967296))) - (IntKind.wrap .u64 (e1528 * (shL .u64 a3 (IntKind.wrap .u64 (y610))))))).tdiv ((shL .u64 a3 (IntKind.wrap .u64 (y610))).fdiv 4294967296))) * ((shL .u64 a3 (IntKind.wrap .u64 (y610))).fdiv 4294967296)))))), (17, U .u64 (IntKind.wrap .u64 ((IntKind.wrap .u64 ((IntKind.wrap .u64 ((bOr .u64 (shL .u64 a1 (IntKind.wrap .u64 (y610))) (shR .u64 a2 (IntKind.wrap .u64 (64 - (IntKind.wrap .u64 (y610)))))) * 4294967296)) + ((shL .u64 a2 (IntKind.wrap .u64 (y610))).fdiv 4294967296))) - (IntKind.wrap .u64 (e1528 * (shL .u64 a3 (IntKind.wrap .u64 (y610)))))))), (18, U .u64 (IntKind.wrap .u64 ((IntKind.wrap .u64 ((IntKind.wrap .u64 ((IntKind.wrap .u64 ((bOr .u64 (shL .u64 a1 (IntKind.wrap .u64 (y610))) (shR .u64 a2 (IntKind.wrap .u64 (64 - (IntKind.wrap .u64 (y610)))))) * 4294967296)) + ((shL .u64 a2 (IntKind.wrap .u64 (y610))).fdiv 4294967296))) - (IntKind.wrap .u64 (e1528 * (shL .u64 a3 (IntKind.wrap .u64 (y610))))))).tdiv ((shL .u64 a3 (IntKind.wrap .u64 (y610))).fdiv 4294967296))))] [] (by kernel_rfl) trivial (fin_next ?_)
          refine bind_elim hres fun e2442 h1530 hres => ?_
          refine rn_join (V := Int) (J := fun v => e2442 = v) (sv := fun v => ⟨[], [(2, U .u64 (shL .u64 a3 (IntKind.wrap .u64 (y610)))), (8, U .u64 (IntKind.wrap .u64 (y610))), (14, U .u64 (bAnd .u64 (shL .u64 a2 (IntKind.wrap .u64 (y610))) 4294967295)), (15, U .u64 e1528), (17, U .u64 (IntKind.wrap .u64 ((IntKind.wrap .u64 ((IntKind.wrap .u64 ((bOr .u64 (shL .u64 a1 (IntKind.wrap .u64 (y610))) (shR .u64 a2 (IntKind.wrap .u64 (64 - (IntKind.wrap .u64 (y610)))))) * 4294967296)) + ((shL .u64 a2 (IntKind.wrap .u64 (y610))).fdiv 4294967296))) - (IntKind.wrap .u64 (e1528 * (shL .u64 a3 (IntKind.wrap .u64 (y610)))))))), (18, U .u64 v)], []⟩) ?_ ?_
          · refine rn_block ?_
            refine rn_loop (V := Int × Int) (J := fun k v => math_bits_Div64.l1837 a2 a3 y610 k v.1 v.2 = some e2442) (sv := fun v => ⟨[], [(2, U .u64 (shL .u64 a3 (IntKind.wrap .u64 (y610)))), (8, U .u64 (IntKind.wrap .u64 (y610))), (9, U .u64 ((shL .u64 a3 (IntKind.wrap .u64 (y610))).fdiv 4294967296)), (10, U .u64 (bAnd .u64 (shL .u64 a3 (IntKind.wrap .u64 (y610))) 4294967295)), (14, U .u64 (bAnd .u64 (shL .u64 a2 (IntKind.wrap .u64 (y610))) 4294967295)), (15, U .u64 e1528), (16, U .u64 v.1), (17, U .u64 (IntKind.wrap .u64 ((IntKind.wrap .u64 ((IntKind.wrap .u64 ((bOr .u64 (shL .u64 a1 (IntKind.wrap .u64 (y610))) (shR .u64 a2 (IntKind.wrap .u64 (64 - (IntKind.wrap .u64 (y610)))))) * 4294967296)) + ((shL .u64 a2 (IntKind.wrap .u64 (y610))).fdiv 4294967296))) - (IntKind.wrap .u64 (e1528 * (shL .u64 a3 (IntKind.wrap .u64 (y610)))))))), (18, U .u64 v.2)], []⟩) FUEL (IntKind.wrap .u64 ((IntKind.wrap .u64 ((IntKind.wrap .u64 ((IntKind.wrap .u64 ((bOr .u64 (shL .u64 a1 (IntKind.wrap .u64 (y610))) (shR .u64 a2 (IntKind.wrap .u64 (64 - (IntKind.wrap .u64 (y610)))))) * 4294967296)) + ((shL .u64 a2 (IntKind.wrap .u64 (y610))).fdiv 4294967296))) - (IntKind.wrap .u64 (e1528 * (shL .u64 a3 (IntKind.wrap .u64 (y610))))))) - (IntKind.wrap .u64 ((IntKind.wrap .u64 ((IntKind.wrap .u64 ((IntKind.wrap .u64 ((IntKind.wrap .u64 ((bOr .u64 (shL .u64 a1 (IntKind.wrap .u64 (y610))) (shR .u64 a2 (IntKind.wrap .u64 (64 - (IntKind.wrap .u64 (y610)))))) * 4294967296)) + ((shL .u64 a2 (IntKind.wrap .u64 (y610))).fdiv 4294967296))) - (IntKind.wrap .u64 (e1528 * (shL .u64 a3 (IntKind.wrap .u64 (y610))))))).tdiv ((shL .u64 a3 (IntKind.wrap .u64 (y610))).fdiv 4294967296))) * ((shL .u64 a3 (IntKind.wrap .u64 (y610))).fdiv 4294967296)))), IntKind.wrap .u64 ((IntKind.wrap .u64 ((IntKind.wrap .u64 ((IntKind.wrap .u64 ((bOr .u64 (shL .u64 a1 (IntKind.wrap .u64 (y610))) (shR .u64 a2 (IntKind.wrap .u64 (64 - (IntKind.wrap .u64 (y610)))))) * 4294967296)) + ((shL .u64 a2 (IntKind.wrap .u64 (y610))).fdiv 4294967296))) - (IntKind.wrap .u64 (e1528 * (shL .u64 a3 (IntKind.wrap .u64 (y610))))))).tdiv ((shL .u64 a3 (IntKind.wrap .u64 (y610))).fdiv 4294967296))) h1530 (fun a w hs => hs.conv [] (by kernel_rfl) (by kernel_rfl) ⟨[], by kernel_rfl⟩) ?_
            rintro k1837 ⟨x1531, x1532⟩ h1530
            rcases k1837 with _ | k1837
            · rw [math_bits_Div64.l1837] at h1530; cases h1530
            · rw [math_bits_Div64.l1837] at h1530
              refine rn_join (V := Unit) (J := fun v => math_bits_Div64.j2141 (math_bits_Div64.l1837 a2 a3 y610 k1837) a3 y610 x1531 x1532 = some e2442) (sv := fun v => ⟨[], [(2, U .u64 (shL .u64 a3 (IntKind.wrap .u64 (y610)))), (8, U .u64 (IntKind.wrap .u64 (y610))), (9, U .u64 ((shL .u64 a3 (IntKind.wrap .u64 (y610))).fdiv 4294967296)), (10, U .u64 (bAnd .u64 (shL .u64 a3 (IntKind.wrap .u64 (y610))) 4294967295)), (14, U .u64 (bAnd .u64 (shL .u64 a2 (IntKind.wrap .u64 (y610))) 4294967295)), (15, U .u64 e1528), (16, U .u64 x1531), (17, U .u64 (IntKind.wrap .u64 ((IntKind.wrap .u64 ((IntKind.wrap .u64 ((bOr .u64 (shL .u64 a1 (IntKind.wrap .u64 (y610))) (shR .u64 a2 (IntKind.wrap .u64 (64 - (IntKind.wrap .u64 (y610)))))) * 4294967296)) + ((shL .u64 a2 (IntKind.wrap .u64 (y610))).fdiv 4294967296))) - (IntKind.wrap .u64 (e1528 * (shL .u64 a3 (IntKind.wrap .u64 (y610)))))))), (18, U .u64 x1532)], []⟩) ?_ ?_
              · refine rn_seq ?_
                refine rn_text ?_
                refine ro_q 3 [] [2, 8, 9, 10, 14, 15, 16, 17, 18, 104] [(2, U .u64 (shL .u64 a3 (IntKind.wrap .u64 (y610)))), (8, U .u64 (IntKind.wrap .u64 (y610))), (9, U .u64 ((shL .u64 a3 (IntKind.wrap .u64 (y610))).fdiv 4294967296)), (10, U .u64 (bAnd .u64 (shL .u64 a3 (IntKind.wrap .u64 (y610))) 4294967295)), (14, U .u64 (bAnd .u64 (shL .u64 a2 (IntKind.wrap .u64 (y610))) 4294967295)), (15, U .u64 e1528), (16, U .u64 x1531), (17, U .u64 (IntKind.wrap .u64 ((IntKind.wrap .u64 ((IntKind.wrap .u64 ((bOr .u64 (shL .u64 a1 (IntKind.wrap .u64 (y610))) (shR .u64 a2 (IntKind.wrap .u64 (64 - (IntKind.wrap .u64 (y610)))))) * 4294967296)) + ((shL .u64 a2 (IntKind.wrap .u64 (y610))).fdiv 4294967296))) - (IntKind.wrap .u64 (e1528 * (shL .u64 a3 (IntKind.wrap .u64 (y610)))))))), (18, U .u64 x1532), (104, B (decide (4294967296 ≤ x1532)))] [] (by kernel_rfl) trivial ?_
                refine ro_split 104 (decide (4294967296 ≤ x1532)) (by kernel_rfl) (fun c1838 => ?_) (fun c1838 => ?_)
                · rw [if_pos (of_decide_eq_true c1838)] at h1530
                  refine ro_q 9 [] [2, 8, 9, 10, 14, 15, 16, 17, 18, 113] [(2, U .u64 (shL .u64 a3 (IntKind.wrap .u64 (y610)))), (8, U .u64 (IntKind.wrap .u64 (y610))), (9, U .u64 ((shL .u64 a3 (IntKind.wrap .u64 (y610))).fdiv 4294967296)), (10, U .u64 (bAnd .u64 (shL .u64 a3 (IntKind.wrap .u64 (y610))) 4294967295)), (14, U .u64 (bAnd .u64 (shL .u64 a2 (IntKind.wrap .u64 (y610))) 4294967295)), (15, U .u64 e1528), (16, U .u64 x1531), (17, U .u64 (IntKind.wrap .u64 ((IntKind.wrap .u64 ((IntKind.wrap .u64 ((bOr .u64 (shL .u64 a1 (IntKind.wrap .u64 (y610))) (shR .u64 a2 (IntKind.wrap .u64 (64 - (IntKind.wrap .u64 (y610)))))) * 4294967296)) + ((shL .u64 a2 (IntKind.wrap .u64 (y610))).fdiv 4294967296))) - (IntKind.wrap .u64 (e1528 * (shL .u64 a3 (IntKind.wrap .u64 (y610)))))))), (18, U .u64 x1532), (113, B true)] [] (by kernel_rfl) trivial ?_
                  refine ro_end (by kernel_rfl) (fin_next ?_)
                  refine rn_cond_t (by kernel_rfl) ?_
                  refine rn_skip (fin_then ?_)
                  refine fin_join () h1530 [] [] (by kernel_rfl) (by kernel_rfl) (by kernel_rfl)
                · rw [if_neg (of_decide_eq_false c1838)] at h1530
                  refine ro_q 9 [] [2, 8, 9, 10, 14, 15, 16, 17, 18, 113] [(2, U .u64 (shL .u64 a3 (IntKind.wrap .u64 (y610)))), (8, U .u64 (IntKind.wrap .u64 (y610))), (9, U .u64 ((shL .u64 a3 (IntKind.wrap .u64 (y610))).fdiv 4294967296)), (10, U .u64 (bAnd .u64 (shL .u64 a3 (IntKind.wrap .u64 (y610))) 4294967295)), (14, U .u64 (bAnd .u64 (shL .u64 a2 (IntKind.wrap .u64 (y610))) 4294967295)), (15, U .u64 e1528), (16, U .u64 x1531), (17, U .u64 (IntKind.wrap .u64 ((IntKind.wrap .u64 ((IntKind.wrap .u64 ((bOr .u64 (shL .u64 a1 (IntKind.wrap .u64 (y610))) (shR .u64 a2 (IntKind.wrap .u64 (64 - (IntKind.wrap .u64 (y610)))))) * 4294967296)) + ((shL .u64 a2 (IntKind.wrap .u64 (y610))).fdiv 4294967296))) - (IntKind.wrap .u64 (e1528 * (shL .u64 a3 (IntKind.wrap .u64 (y610)))))))), (18, U .u64 x1532), (113, B (decide ((IntKind.wrap .u64 ((IntKind.wrap .u64 (4294967296 * x1531)) + (bAnd .u64 (shL .u64 a2 (IntKind.wrap .u64 (y610))) 4294967295))) < (IntKind.wrap .u64 (x1532 * (bAnd .u64 (shL .u64 a3 (IntKind.wrap .u64 (y610))) 4294967295))))))] [] (by kernel_rfl) trivial ?_
                  refine ro_end (by kernel_rfl) (fin_next ?_)
                  refine rn_cond (decide ((IntKind.wrap .u64 ((IntKind.wrap .u64 (4294967296 * x1531)) + (bAnd .u64 (shL .u64 a2 (IntKind.wrap .u64 (y610))) 4294967295))) < (IntKind.wrap .u64 (x1532 * (bAnd .u64 (shL .u64 a3 (IntKind.wrap .u64 (y610))) 4294967295))))) (by kernel_rfl) (fun c1839 => ?_) (fun c1839 => ?_)
                  · rw [if_pos (of_decide_eq_true c1839)] at h1530
                    refine rn_skip (fin_then ?_)
                    refine fin_join () h1530 [] [] (by kernel_rfl) (by kernel_rfl) (by kernel_rfl)
                  · rw [if_neg (of_decide_eq_false c1839)] at h1530
                    refine rn_exit (fin_then_exit (fin_then_exit (fin_block_exit (fin_then ?_))))
                    refine fin_join x1532 (by cases h1530; exact rfl) [] [] (by kernel_rfl) (by kernel_rfl) (by kernel_rfl)
              · rintro ⟨⟩ h1530
                unfold math_bits_Div64.j2141 at h1530
                refine rn_block ?_
                refine rn_seq ?_
                refine rn_q [] [2, 8, 9, 10, 14, 15, 16, 17, 18] [(2, U .u64 (shL .u64 a3 (IntKind.wrap .u64 (y610)))), (8, U .u64 (IntKind.wrap .u64 (y610))), (9, U .u64 ((shL .u64 a3 (IntKind.wrap .u64 (y610))).fdiv 4294967296)), (10, U .u64 (bAnd .u64 (shL .u64 a3 (IntKind.wrap .u64 (y610))) 4294967295)), (14, U .u64 (bAnd .u64 (shL .u64 a2 (IntKind.wrap .u64 (y610))) 4294967295)), (15, U .u64 e1528), (16, U .u64 x1531), (17, U .u64 (IntKind.wrap .u64 ((IntKind.wrap .u64 ((IntKind.wrap .u64 ((bOr .u64 (shL .u64 a1 (IntKind.wrap .u64 (y610))) (shR .u64 a2 (IntKind.wrap .u64 (64 - (IntKind.wrap .u64 (y610)))))) * 4294967296)) + ((shL .u64 a2 (IntKind.wrap .u64 (y610))).fdiv 4294967296))) - (IntKind.wrap .u64 (e1528 * (shL .u64 a3 (IntKind.wrap .u64 (y610)))))))), (18, U .u64 (IntKind.wrap .u64 (x1532 - 1)))] [] (by kernel_rfl) trivial (fin_next ?_)
                refine rn_seq ?_
                refine rn_q [] [2, 8, 9, 10, 14, 15, 16, 17, 18] [(2, U .u64 (shL .u64 a3 (IntKind.wrap .u64 (y610)))), (8, U .u64 (IntKind.wrap .u64 (y610))), (9, U .u64 ((shL .u64 a3 (IntKind.wrap .u64 (y610))).fdiv 4294967296)), (10, U .u64 (bAnd .u64 (shL .u64 a3 (IntKind.wrap .u64 (y610))) 4294967295)), (14, U .u64 (bAnd .u64 (shL .u64 a2 (IntKind.wrap .u64 (y610))) 4294967295)), (15, U .u64 e1528), (16, U .u64 (IntKind.wrap .u64 (x1531 + ((shL .u64 a3 (IntKind.wrap .u64 (y610))).fdiv 4294967296)))), (17, U .u64 (IntKind.wrap .u64 ((IntKind.wrap .u64 ((IntKind.wrap .u64 ((bOr .u64 (shL .u64 a1 (IntKind.wrap .u64 (y610))) (shR .u64 a2 (IntKind.wrap .u64 (64 - (IntKind.wrap .u64 (y610)))))) * 4294967296)) + ((shL .u64 a2 (IntKind.wrap .u64 (y610))).fdiv 4294967296))) - (IntKind.wrap .u64 (e1528 * (shL .u64 a3 (IntKind.wrap .u64 (y610)))))))), (18, U .u64 (IntKind.wrap .u64 (x1532 - 1)))] [] (by kernel_rfl) trivial (fin_next ?_)
                refine rn_seq ?_
                refine rn_q [] [2, 8, 9, 10, 14, 15, 16, 17, 18, 120] [(2, U .u64 (shL .u64 a3 (IntKind.wrap .u64 (y610)))), (8, U .u64 (IntKind.wrap .u64 (y610))), (9, U .u64 ((shL .u64 a3 (IntKind.wrap .u64 (y610))).fdiv 4294967296)), (10, U .u64 (bAnd .u64 (shL .u64 a3 (IntKind.wrap .u64 (y610))) 4294967295)), (14, U .u64 (bAnd .u64 (shL .u64 a2 (IntKind.wrap .u64 (y610))) 4294967295)), (15, U .u64 e1528), (16, U .u64 (IntKind.wrap .u64 (x1531 + ((shL .u64 a3 (IntKind.wrap .u64 (y610))).fdiv 4294967296)))), (17, U .u64 (IntKind.wrap .u64 ((IntKind.wrap .u64 ((IntKind.wrap .u64 ((bOr .u64 (shL .u64 a1 (IntKind.wrap .u64 (y610))) (shR .u64 a2 (IntKind.wrap .u64 (64 - (IntKind.wrap .u64 (y610)))))) * 4294967296)) + ((shL .u64 a2 (IntKind.wrap .u64 (y610))).fdiv 4294967296))) - (IntKind.wrap .u64 (e1528 * (shL .u64 a3 (IntKind.wrap .u64 (y610)))))))), (18, U .u64 (IntKind.wrap .u64 (x1532 - 1))), (120, B (decide (4294967296 ≤ (IntKind.wrap .u64 (x1531 + ((shL .u64 a3 (IntKind.wrap .u64 (y610))).fdiv 4294967296))))))] [] (by kernel_rfl) trivial (fin_next ?_)
                refine rn_cond (decide (4294967296 ≤ (IntKind.wrap .u64 (x1531 + ((shL .u64 a3 (IntKind.wrap .u64 (y610))).fdiv 4294967296))))) (by kernel_rfl) (fun c2140 => ?_) (fun c2140 => ?_)
                · rw [if_pos (of_decide_eq_true c2140)] at h1530
                  refine rn_exit (fin_block_other (by decide) (fin_then_exit (fin_block_exit (fin_then ?_))))
                  refine fin_join (IntKind.wrap .u64 (x1532 - 1)) (by cases h1530; exact rfl) [] [] (by kernel_rfl) (by kernel_rfl) (by kernel_rfl)
                · rw [if_neg (of_decide_eq_false c2140)] at h1530
                  refine rn_skip (fin_block (fin_then ?_))
                  refine fin_loop (IntKind.wrap .u64 (x1531 + ((shL .u64 a3 (IntKind.wrap .u64 (y610))).fdiv 4294967296)), IntKind.wrap .u64 (x1532 - 1)) h1530 [] [] (by kernel_rfl) (by kernel_rfl) (by kernel_rfl)
          · rintro _ rfl
            refine rn_seq ?_
            have hy2443 : ¬ (IntKind.wrap .u64 (y610)) < 0 := by intro hz; rw [if_pos hz] at hres; cases hres
            rw [if_neg hy2443] at hres
            refine rn_q [(13, U .u64 (shR .u64 (IntKind.wrap .u64 ((IntKind.wrap .u64 ((IntKind.wrap .u64 ((IntKind.wrap .u64 ((IntKind.wrap .u64 ((IntKind.wrap .u64 ((bOr .u64 (shL .u64 a1 (IntKind.wrap .u64 (y610))) (shR .u64 a2 (IntKind.wrap .u64 (64 - (IntKind.wrap .u64 (y610)))))) * 4294967296)) + ((shL .u64 a2 (IntKind.wrap .u64 (y610))).fdiv 4294967296))) - (IntKind.wrap .u64 (e1528 * (shL .u64 a3 (IntKind.wrap .u64 (y610))))))) * 4294967296)) + (bAnd .u64 (shL .u64 a2 (IntKind.wrap .u64 (y610))) 4294967295))) - (IntKind.wrap .u64 (e2442 * (shL .u64 a3 (IntKind.wrap .u64 (y610))))))) (IntKind.wrap .u64 (y610))))] [6, 7] [(6, U .u64 (IntKind.wrap .u64 ((IntKind.wrap .u64 (e1528 * 4294967296)) + e2442))), (7, U .u64 (shR .u64 (IntKind.wrap .u64 ((IntKind.wrap .u64 ((IntKind.wrap .u64 ((IntKind.wrap .u64 ((IntKind.wrap .u64 ((IntKind.wrap .u64 ((bOr .u64 (shL .u64 a1 (IntKind.wrap .u64 (y610))) (shR .u64 a2 (IntKind.wrap .u64 (64 - (IntKind.wrap .u64 (y610)))))) * 4294967296)) + ((shL .u64 a2 (IntKind.wrap .u64 (y610))).fdiv 4294967296))) - (IntKind.wrap .u64 (e1528 * (shL .u64 a3 (IntKind.wrap .u64 (y610))))))) * 4294967296)) + (bAnd .u64 (shL .u64 a2 (IntKind.wrap .u64 (y610))) 4294967295))) - (IntKind.wrap .u64 (e2442 * (shL .u64 a3 (IntKind.wrap .u64 (y610))))))) (IntKind.wrap .u64 (y610))))] [(smShr .u64 (IntKind.wrap .u64 ((IntKind.wrap .u64 ((IntKind.wrap .u64 ((IntKind.wrap .u64 ((IntKind.wrap .u64 ((IntKind.wrap .u64 ((bOr .u64 (shL .u64 a1 (IntKind.wrap .u64 (y610))) (shR .u64 a2 (IntKind.wrap .u64 (64 - (IntKind.wrap .u64 (y610)))))) * 4294967296)) + ((shL .u64 a2 (IntKind.wrap .u64 (y610))).fdiv 4294967296))) - (IntKind.wrap .u64 (e1528 * (shL .u64 a3 (IntKind.wrap .u64 (y610))))))) * 4294967296)) + (bAnd .u64 (shL .u64 a2 (IntKind.wrap .u64 (y610))) 4294967295))) - (IntKind.wrap .u64 (e2442 * (shL .u64 a3 (IntKind.wrap .u64 (y610))))))) .u64 (IntKind.wrap .u64 (y610)), .int .u64 (shR .u64 (IntKind.wrap .u64 ((IntKind.wrap .u64 ((IntKind.wrap .u64 ((IntKind.wrap .u64 ((IntKind.wrap .u64 ((IntKind.wrap .u64 ((bOr .u64 (shL .u64 a1 (IntKind.wrap .u64 (y610))) (shR .u64 a2 (IntKind.wrap .u64 (64 - (IntKind.wrap .u64 (y610)))))) * 4294967296)) + ((shL .u64 a2 (IntKind.wrap .u64 (y610))).fdiv 4294967296))) - (IntKind.wrap .u64 (e1528 * (shL .u64 a3 (IntKind.wrap .u64 (y610))))))) * 4294967296)) + (bAnd .u64 (shL .u64 a2 (IntKind.wrap .u64 (y610))) 4294967295))) - (IntKind.wrap .u64 (e2442 * (shL .u64 a3 (IntKind.wrap .u64 (y610))))))) (IntKind.wrap .u64 (y610))))] (by kernel_rfl) ⟨ob_shr hy2443, trivial⟩ (fin_next ?_)
            refine rn_ret ?_
            refine fin_ret [.int .u64 (IntKind.wrap .u64 ((IntKind.wrap .u64 (e1528 * 4294967296)) + e2442)), .int .u64 (shR .u64 (IntKind.wrap .u64 ((IntKind.wrap .u64 ((IntKind.wrap .u64 ((IntKind.wrap .u64 ((IntKind.wrap .u64 ((IntKind.wrap .u64 ((bOr .u64 (shL .u64 a1 (IntKind.wrap .u64 (y610))) (shR .u64 a2 (IntKind.wrap .u64 (64 - (IntKind.wrap .u64 (y610)))))) * 4294967296)) + ((shL .u64 a2 (IntKind.wrap .u64 (y610))).fdiv 4294967296))) - (IntKind.wrap .u64 (e1528 * (shL .u64 a3 (IntKind.wrap .u64 (y610))))))) * 4294967296)) + (bAnd .u64 (shL .u64 a2 (IntKind.wrap .u64 (y610))) 4294967295))) - (IntKind.wrap .u64 (e2442 * (shL .u64 a3 (IntKind.wrap .u64 (y610))))))) (IntKind.wrap .u64 (y610)))] (by kernel_rfl) fun w' hw' => ?_
            have hq := Option.some.inj hres
            subst hq
            exact ⟨rfl, hw'.drop⟩
structure S_muldiv_halves where
  e0 : Int
  e1 : Int
/- 49 flywheel/muldiv.divided -/
def muldiv_divided (a1 : S_muldiv_halves) (a2 : Int) : Option (S_muldiv_halves × Int) :=
  (math_bits_Div64 0 a1.e0 a2).bind fun y7 =>
  (math_bits_Div64 y7.2 a1.e1 a2).bind fun y9 =>
  some ((⟨y7.1, y9.1⟩ : S_muldiv_halves), y9.2)
theorem muldiv_divided_ok {a1 : S_muldiv_halves} {a2 : Int} {r : S_muldiv_halves × Int} (hres : muldiv_divided a1 a2 = some r) {w0 w : World} {F : List Asn} (hw : SH w0 w (F)) :
    Calls Try.prog 49 #[.agg #[.int .u64 a1.e0, .int .u64 a1.e1], .int .u64 a2] w fun e w' => e = .returned (.tuple #[.agg #[.int .u64 r.1.e0, .int .u64 r.1.e1], .int .u64 r.2]) ∧ SH w0 w' (F) := by
  refine fw_enter (n := 26) (bs := []) (env := [(0, .v (.agg #[.int .u64 a1.e0, .int .u64 a1.e1])), (1, U .u64 a2)]) (H := []) (F := F) Try.func49 rfl (by kernel_rfl) (by kernel_rfl) (by kernel_rfl) (hw.eq (by kernel_rfl)) ?_
  unfold muldiv_divided at hres
  refine rn_seq ?_
  refine rn_text ?_
  refine ro_op (by kernel_rfl) (op_box 117 (.tmp 0) (.v (.agg #[.int .u64 a1.e0, .int .u64 a1.e1])) 2 [U .u64 a1.e0, U .u64 a1.e1] (fun b3 => [b3]) (fun b3 => [.c 0 [U .u64 a1.e0, U .u64 a1.e1] 117]) (by kernel_rfl) (by kernel_rfl) (by kernel_rfl) (by kernel_rfl) 0 (fun _ => by kernel_rfl) (fun _ => mt_bs (by kernel_rfl)) (fun _ => by kernel_rfl) (fun b3 => ro_fin ?_))
  refine ro_op (by kernel_rfl) (op_alloc 117 4 (.agg #[.int .u64 0, .int .u64 0]) [U .u64 0, U .u64 0] (fun b4 => [b3, b4]) (fun b4 => [.c 1 [U .u64 0, U .u64 0] 117, .c 0 [U .u64 a1.e0, U .u64 a1.e1] 117]) (by kernel_rfl) (by kernel_rfl) (by kernel_rfl) (by kernel_rfl) 1 (fun _ => by kernel_rfl) (fun _ => mt_bs (by kernel_rfl)) (fun _ => by kernel_rfl) (fun b4 => ro_fin ?_))
  refine ro_q 1 [] [1, 2, 4] [(1, U .u64 a2), (2, .p 0 0), (4, .p 1 0)] [] (by kernel_rfl) trivial ?_
  refine ro_end (by kernel_rfl) (fin_next ?_)
  refine rn_scope ?_
  refine rn_seq ?_
  refine rn_text ?_
  refine ro_op (by kernel_rfl) (op_alloc 117 6 (.agg #[.int .u64 0, .int .u64 0]) [U .u64 0, U .u64 0] (fun b5 => [b3, b4, b5]) (fun b5 => [.c 2 [U .u64 0, U .u64 0] 117, .c 1 [U .u64 0, U .u64 0] 117, .c 0 [U .u64 a1.e0, U .u64 a1.e1] 117]) (by kernel_rfl) (by kernel_rfl) (by kernel_rfl) (by kernel_rfl) 2 (fun _ => by kernel_rfl) (fun _ => mt_bs (by kernel_rfl)) (fun _ => by kernel_rfl) (fun b5 => ro_fin ?_))
  refine ro_end (by kernel_rfl) (fin_next ?_)
  refine rn_seq ?_
  refine rn_q [] [1, 2, 4, 6, 7, 8] [(1, U .u64 a2), (2, .p 0 0), (4, .p 1 0), (6, .p 2 0), (7, U .u64 0), (8, I 0)] [] (by kernel_rfl) trivial (fin_next ?_)
  refine rn_label_un 2 ?_
  refine rn_seq ?_
  refine rn_text ?_
  refine ro_q 6 [(3, .p 0 0)] [1, 2, 4, 6, 8, 10, 11, 14, 15] [(1, U .u64 a2), (2, .p 0 0), (4, .p 1 0), (6, .p 2 0), (8, I 0), (10, I 0), (11, U .u64 0), (14, U .u64 a1.e0), (15, U .u64 a2)] [(smIa 117 (.pointer (some ⟨b3, 0, none⟩)) (.int .i64 0), .pointer (some ⟨b3, 0, none⟩))] (by kernel_rfl) ⟨ob_pure (by kernel_rfl), trivial⟩ ?_
  refine bind_elim hres fun y7 hy7 hres => ?_
  refine ro_op (by kernel_rfl) (op_call (f := 52) (xs := #[(.tmp 11), (.tmp 14), (.tmp 15)]) (ats := #[115, 115, 115]) (d := (some 16)) (args := #[.int .u64 0, .int .u64 a1.e0, .int .u64 a2]) (by kernel_rfl) (by kernel_rfl) (by kernel_rfl) (by kernel_rfl) fun w hw => (math_bits_Div64_ok hy7 hw).mono ?_)
  rintro _ w1 ⟨rfl, hw1⟩
  refine ⟨_, [b3, b4, b5], [.c 2 [U .u64 0, U .u64 0] 117, .c 1 [U .u64 0, U .u64 0] 117, .c 0 [U .u64 a1.e0, U .u64 a1.e1] 117], _, rfl, hw1.eq (by kernel_rfl), rfl, mt_same, ro_fin ?_⟩
  refine ro_q 4 [(10, .p 2 0)] [1, 2, 4, 6, 8, 17, 18, 19] [(1, U .u64 a2), (2, .p 0 0), (4, .p 1 0), (6, .p 2 0), (8, I 0), (17, U .u64 y7.1), (18, U .u64 y7.2), (19, .p 2 0)] [(smIa 117 (.pointer (some ⟨b5, 0, none⟩)) (.int .i64 0), .pointer (some ⟨b5, 0, none⟩))] (by kernel_rfl) ⟨ob_pure (by kernel_rfl), trivial⟩ ?_
  refine ro_op (by kernel_rfl) (op_store 115 (.tmp 19) (.tmp 17) 2 0 (U .u64 y7.1) [.c 2 [U .u64 y7.1, U .u64 0] 117, .c 1 [U .u64 0, U .u64 0] 117, .c 0 [U .u64 a1.e0, U .u64 a1.e1] 117] (by kernel_rfl) (by kernel_rfl) (by kernel_rfl) (by kernel_rfl) (ro_fin ?_))
  refine ro_q 1 [] [1, 2, 4, 6, 7, 8] [(1, U .u64 a2), (2, .p 0 0), (4, .p 1 0), (6, .p 2 0), (7, U .u64 y7.2), (8, I 0)] [] (by kernel_rfl) trivial ?_
  refine ro_end (by kernel_rfl) (fin_next ?_)
  refine rn_seq ?_
  refine rn_q [] [1, 2, 4, 6, 7, 8] [(1, U .u64 a2), (2, .p 0 0), (4, .p 1 0), (6, .p 2 0), (7, U .u64 y7.2), (8, I 1)] [] (by kernel_rfl) trivial (fin_next ?_)
  refine rn_seq ?_
  refine rn_seq ?_
  refine rn_q [] [1, 2, 4, 6, 7, 8, 23] [(1, U .u64 a2), (2, .p 0 0), (4, .p 1 0), (6, .p 2 0), (7, U .u64 y7.2), (8, I 1), (23, B true)] [] (by kernel_rfl) trivial (fin_next ?_)
  refine rn_cond_t (by kernel_rfl) ?_
  refine rn_goto (fin_then_goto (fin_goto_un rfl ?_))
  refine rn_seq ?_
  refine rn_text ?_
  refine ro_q 6 [(3, .p 0 1)] [1, 2, 4, 6, 8, 10, 11, 14, 15] [(1, U .u64 a2), (2, .p 0 0), (4, .p 1 0), (6, .p 2 0), (8, I 1), (10, I 1), (11, U .u64 y7.2), (14, U .u64 a1.e1), (15, U .u64 a2)] [(smIa 117 (.pointer (some ⟨b3, 0, none⟩)) (.int .i64 1), .pointer (some ⟨b3, 1, none⟩))] (by kernel_rfl) ⟨ob_pure (by kernel_rfl), trivial⟩ ?_
  refine bind_elim hres fun y9 hy9 hres => ?_
  refine ro_op (by kernel_rfl) (op_call (f := 52) (xs := #[(.tmp 11), (.tmp 14), (.tmp 15)]) (ats := #[115, 115, 115]) (d := (some 16)) (args := #[.int .u64 y7.2, .int .u64 a1.e1, .int .u64 a2]) (by kernel_rfl) (by kernel_rfl) (by kernel_rfl) (by kernel_rfl) fun w hw => (math_bits_Div64_ok hy9 hw).mono ?_)
  rintro _ w1 ⟨rfl, hw1⟩
  refine ⟨_, [b3, b4, b5], [.c 2 [U .u64 y7.1, U .u64 0] 117, .c 1 [U .u64 0, U .u64 0] 117, .c 0 [U .u64 a1.e0, U .u64 a1.e1] 117], _, rfl, hw1.eq (by kernel_rfl), rfl, mt_same, ro_fin ?_⟩
  refine ro_q 4 [(10, .p 2 1)] [1, 2, 4, 6, 8, 17, 18, 19] [(1, U .u64 a2), (2, .p 0 0), (4, .p 1 0), (6, .p 2 0), (8, I 1), (17, U .u64 y9.1), (18, U .u64 y9.2), (19, .p 2 1)] [(smIa 117 (.pointer (some ⟨b5, 0, none⟩)) (.int .i64 1), .pointer (some ⟨b5, 1, none⟩))] (by kernel_rfl) ⟨ob_pure (by kernel_rfl), trivial⟩ ?_
  refine ro_op (by kernel_rfl) (op_store 115 (.tmp 19) (.tmp 17) 2 1 (U .u64 y9.1) [.c 2 [U .u64 y7.1, U .u64 y9.1] 117, .c 1 [U .u64 0, U .u64 0] 117, .c 0 [U .u64 a1.e0, U .u64 a1.e1] 117] (by kernel_rfl) (by kernel_rfl) (by kernel_rfl) (by kernel_rfl) (ro_fin ?_))
  refine ro_q 1 [] [1, 2, 4, 6, 7, 8] [(1, U .u64 a2), (2, .p 0 0), (4, .p 1 0), (6, .p 2 0), (7, U .u64 y9.2), (8, I 1)] [] (by kernel_rfl) trivial ?_
  refine ro_end (by kernel_rfl) (fin_next ?_)
  refine rn_seq ?_
  refine rn_q [] [1, 2, 4, 6, 7, 8] [(1, U .u64 a2), (2, .p 0 0), (4, .p 1 0), (6, .p 2 0), (7, U .u64 y9.2), (8, I 2)] [] (by kernel_rfl) trivial (fin_next ?_)
  refine rn_seq ?_
  refine rn_seq ?_
  refine rn_q [] [1, 2, 4, 6, 7, 8, 23] [(1, U .u64 a2), (2, .p 0 0), (4, .p 1 0), (6, .p 2 0), (7, U .u64 y9.2), (8, I 2), (23, B false)] [] (by kernel_rfl) trivial (fin_next ?_)
  refine rn_cond_f (by kernel_rfl) ?_
  refine rn_skip (fin_next ?_)
  refine rn_seq ?_
  refine rn_text ?_
  refine ro_q 2 [] [4, 24, 25] [(4, .p 1 0), (24, .v (.agg #[.int .u64 y7.1, .int .u64 y9.1])), (25, U .u64 y9.2)] [] (by kernel_rfl) trivial ?_
  refine ro_op (by kernel_rfl) (op_store 117 (.tmp 4) (.tmp 24) 1 0 (.v (.agg #[.int .u64 y7.1, .int .u64 y9.1])) [.c 2 [U .u64 y7.1, U .u64 y9.1] 117, .c 1 [U .u64 y7.1, U .u64 y9.1] 117, .c 0 [U .u64 a1.e0, U .u64 a1.e1] 117] (by kernel_rfl) (by kernel_rfl) (by kernel_rfl) (by kernel_rfl) (ro_fin ?_))
  refine ro_q 1 [] [4, 5] [(4, .p 1 0), (5, U .u64 y9.2)] [] (by kernel_rfl) trivial ?_
  refine ro_end (by kernel_rfl) (fin_next ?_)
  refine rn_ret (fin_scope_ret ?_)
  refine fin_ret [.agg #[.int .u64 y7.1, .int .u64 y9.1], .int .u64 y9.2] (by kernel_rfl) fun w' hw' => ?_
  have hq := Option.some.inj hres
  subst hq
  exact ⟨rfl, hw'.drop⟩
/- 50 flywheel/muldiv.up -/
def muldiv_up (a1 : Int) (a2 : Int) (a3 : Bool) (a4 : Int) : Option Bool :=
  (if a4 = 1 then (if a3 = true then some (decide (0 < a1)) else some false) else (if a4 = 3 then (if a3 = true then some false else some (decide (0 < a1))) else (if a3 = true then some (decide ((IntKind.wrap .u64 (a2 - a1)) < a1)) else (if 0 < a1 then some (decide ((IntKind.wrap .u64 (a2 - a1)) ≤ a1)) else some false))))
theorem muldiv_up_ok {a1 : Int} {a2 : Int} {a3 : Bool} {a4 : Int} {r : Bool} (hres : muldiv_up a1 a2 a3 a4 = some r) {w0 w : World} {F : List Asn} (hw : SH w0 w (F)) :
    Calls Try.prog 50 #[.int .u64 a1, .int .u64 a2, .bool a3, .int .i64 a4] w fun e w' => e = .returned (.bool r) ∧ SH w0 w' (F) := by
  refine fw_enter (n := 40) (bs := []) (env := [(0, U .u64 a1), (1, U .u64 a2), (2, B a3), (3, I a4)]) (H := []) (F := F) Try.func50 rfl (by kernel_rfl) (by kernel_rfl) (by kernel_rfl) (hw.eq (by kernel_rfl)) ?_
  unfold muldiv_up at hres
  refine rn_seq ?_
  refine rn_q [] [0, 1, 2, 3] [(0, U .u64 a1), (1, U .u64 a2), (2, B a3), (3, I a4)] [] (by kernel_rfl) trivial (fin_next ?_)
  refine rn_seq ?_
  refine rn_seq ?_
  refine rn_q [] [0, 1, 2, 9] [(0, U .u64 a1), (1, U .u64 a2), (2, B a3), (9, I a4)] [] (by kernel_rfl) trivial (fin_next ?_)
  refine rn_block ?_
  refine rn_seq ?_
  refine rn_q [] [0, 1, 2, 9, 10] [(0, U .u64 a1), (1, U .u64 a2), (2, B a3), (9, I a4), (10, B (a4 == 1))] [] (by kernel_rfl) trivial (fin_next ?_)
  refine rn_cond (a4 == 1) (by kernel_rfl) (fun c5 => ?_) (fun c5 => ?_)
  · rw [if_pos (eq_t c5)] at hres
    refine rn_seq ?_
    refine rn_text ?_
    refine ro_q 2 [] [0, 13] [(0, U .u64 a1), (13, B a3)] [] (by kernel_rfl) trivial ?_
    refine ro_split 13 (a3) (by kernel_rfl) (fun c6 => ?_) (fun c6 => ?_)
    · rw [if_pos (c6)] at hres
      refine ro_q 4 [] [8] [(8, B (decide (0 < a1)))] [] (by kernel_rfl) trivial ?_
      refine ro_end (by kernel_rfl) (fin_next ?_)
      refine rn_ret (fin_block_ret (fin_then_ret ?_))
      refine fin_ret [.bool (decide (0 < a1))] (by kernel_rfl) fun w' hw' => ?_
      have hq := Option.some.inj hres
      subst hq
      exact ⟨rfl, hw'.drop⟩
    · rw [if_neg (nt_of_f c6)] at hres
      refine ro_q 4 [] [8] [(8, B false)] [] (by kernel_rfl) trivial ?_
      refine ro_end (by kernel_rfl) (fin_next ?_)
      refine rn_ret (fin_block_ret (fin_then_ret ?_))
      refine fin_ret [.bool false] (by kernel_rfl) fun w' hw' => ?_
      have hq := Option.some.inj hres
      subst hq
      exact ⟨rfl, hw'.drop⟩
  · rw [if_neg (eq_f c5)] at hres
    refine rn_seq ?_
    refine rn_q [] [0, 1, 2, 17] [(0, U .u64 a1), (1, U .u64 a2), (2, B a3), (17, B (a4 == 3))] [] (by kernel_rfl) trivial (fin_next ?_)
    refine rn_cond (a4 == 3) (by kernel_rfl) (fun c7 => ?_) (fun c7 => ?_)
    · rw [if_pos (eq_t c7)] at hres
      refine rn_seq ?_
      refine rn_text ?_
      refine ro_q 3 [] [0, 21] [(0, U .u64 a1), (21, B (!a3))] [] (by kernel_rfl) trivial ?_
      refine ro_split 21 (!a3) (by kernel_rfl) (fun c8 => ?_) (fun c8 => ?_)
      · rw [if_neg (nt_of_f (nb_t c8))] at hres
        refine ro_q 4 [] [8] [(8, B (decide (0 < a1)))] [] (by kernel_rfl) trivial ?_
        refine ro_end (by kernel_rfl) (fin_next ?_)
        refine rn_ret (fin_block_ret (fin_then_ret ?_))
        refine fin_ret [.bool (decide (0 < a1))] (by kernel_rfl) fun w' hw' => ?_
        have hq := Option.some.inj hres
        subst hq
        exact ⟨rfl, hw'.drop⟩
      · rw [if_pos ((nb_f c8))] at hres
        refine ro_q 4 [] [8] [(8, B false)] [] (by kernel_rfl) trivial ?_
        refine ro_end (by kernel_rfl) (fin_next ?_)
        refine rn_ret (fin_block_ret (fin_then_ret ?_))
        refine fin_ret [.bool false] (by kernel_rfl) fun w' hw' => ?_
        have hq := Option.some.inj hres
        subst hq
        exact ⟨rfl, hw'.drop⟩
    · rw [if_neg (eq_f c7)] at hres
      refine rn_skip (fin_block (fin_next ?_))
      refine rn_seq ?_
      refine rn_seq ?_
      refine rn_q [] [0, 1, 25] [(0, U .u64 a1), (1, U .u64 a2), (25, B a3)] [] (by kernel_rfl) trivial (fin_next ?_)
      refine rn_cond (a3) (by kernel_rfl) (fun c9 => ?_) (fun c9 => ?_)
      · rw [if_pos (c9)] at hres
        refine rn_seq ?_
        refine rn_q [] [8] [(8, B (decide ((IntKind.wrap .u64 (a2 - a1)) < a1)))] [] (by kernel_rfl) trivial (fin_next ?_)
        refine rn_ret (fin_then_ret ?_)
        refine fin_ret [.bool (decide ((IntKind.wrap .u64 (a2 - a1)) < a1))] (by kernel_rfl) fun w' hw' => ?_
        have hq := Option.some.inj hres
        subst hq
        exact ⟨rfl, hw'.drop⟩
      · rw [if_neg (nt_of_f c9)] at hres
        refine rn_skip (fin_next ?_)
        refine rn_seq ?_
        refine rn_text ?_
        refine ro_q 3 [] [0, 1, 33] [(0, U .u64 a1), (1, U .u64 a2), (33, B (decide (0 < a1)))] [] (by kernel_rfl) trivial ?_
        refine ro_split 33 (decide (0 < a1)) (by kernel_rfl) (fun c10 => ?_) (fun c10 => ?_)
        · rw [if_pos (of_decide_eq_true c10)] at hres
          refine ro_q 7 [] [8] [(8, B (decide ((IntKind.wrap .u64 (a2 - a1)) ≤ a1)))] [] (by kernel_rfl) trivial ?_
          refine ro_end (by kernel_rfl) (fin_next ?_)
          refine rn_ret ?_
          refine fin_ret [.bool (decide ((IntKind.wrap .u64 (a2 - a1)) ≤ a1))] (by kernel_rfl) fun w' hw' => ?_
          have hq := Option.some.inj hres
          subst hq
          exact ⟨rfl, hw'.drop⟩
        · rw [if_neg (of_decide_eq_false c10)] at hres
          refine ro_q 7 [] [8] [(8, B false)] [] (by kernel_rfl) trivial ?_
          refine ro_end (by kernel_rfl) (fin_next ?_)
          refine rn_ret ?_
          refine fin_ret [.bool false] (by kernel_rfl) fun w' hw' => ?_
          have hq := Option.some.inj hres
          subst hq
          exact ⟨rfl, hw'.drop⟩
/- 44 flywheel/muldiv.quotient -/
def muldiv_quotient.j1838 (j929 : Int) : Option (Int × Bool) :=
  some (w64 (j929), true)
def muldiv_quotient.j1537 (a1 : Int) (a2 : Int) (a3 : Int) (j929 : Int) (j1533 : Bool) : Option (Int × Bool) :=
  (if j1533 = true then (if (((decide (a1 < 0)) != (decide (a2 < 0))) != (decide (a3 < 0))) = true then some ((-9223372036854775808), false) else some (9223372036854775807, false)) else (if (((decide (a1 < 0)) != (decide (a2 < 0))) != (decide (a3 < 0))) = true then some (w64 (IntKind.wrap .u64 (0 - j929)), true) else muldiv_quotient.j1838 j929))
def muldiv_quotient.j1839 (a1 : Int) (a2 : Int) (a3 : Int) (j928 : Int) (j929 : Int) (j1231 : Int) : Option (Int × Bool) :=
  (if 0 < j928 then muldiv_quotient.j1537 a1 a2 a3 j929 true else muldiv_quotient.j1537 a1 a2 a3 j929 (decide (j1231 < j929)))
def muldiv_quotient.j1840 (a1 : Int) (a2 : Int) (a3 : Int) (j928 : Int) (j929 : Int) : Option (Int × Bool) :=
  (if (((decide (a1 < 0)) != (decide (a2 < 0))) != (decide (a3 < 0))) = true then muldiv_quotient.j1839 a1 a2 a3 j928 j929 9223372036854775808 else muldiv_quotient.j1839 a1 a2 a3 j928 j929 9223372036854775807)
def muldiv_quotient.j1841 (a1 : Int) (a2 : Int) (a3 : Int) (a4 : Int) : Option (Int × Bool) :=
  (muldiv_size a1).bind fun y612 =>
  (muldiv_size a2).bind fun y614 =>
  (math_bits_Mul64 y612 y614).bind fun y616 =>
  (muldiv_size a3).bind fun y618 =>
  (muldiv_divided (⟨y616.1, y616.2⟩ : S_muldiv_halves) y618).bind fun y620 =>
  (muldiv_size a3).bind fun y623 =>
  (muldiv_up y620.2 y623 (((decide (a1 < 0)) != (decide (a2 < 0))) != (decide (a3 < 0))) a4).bind fun y625 =>
  (if y625 = true then (add64 y620.1.e1 1 0).bind fun y627 =>
  muldiv_quotient.j1840 a1 a2 a3 (IntKind.wrap .u64 (y620.1.e0 + y627.2)) y627.1 else muldiv_quotient.j1840 a1 a2 a3 y620.1.e0 y620.1.e1)
def muldiv_quotient.j309 (a1 : Int) (a2 : Int) (a3 : Int) (a4 : Int) (j307 : Bool) : Option (Int × Bool) :=
  (if j307 = true then some (0, false) else muldiv_quotient.j1841 a1 a2 a3 a4)
def muldiv_quotient (a1 : Int) (a2 : Int) (a3 : Int) (a4 : Int) : Option (Int × Bool) :=
  (if a3 = 0 then muldiv_quotient.j309 a1 a2 a3 a4 true else (if a4 < 1 then muldiv_quotient.j309 a1 a2 a3 a4 true else muldiv_quotient.j309 a1 a2 a3 a4 (decide (3 < a4))))
theorem muldiv_quotient_ok {a1 : Int} {a2 : Int} {a3 : Int} {a4 : Int} {r : Int × Bool} (hres : muldiv_quotient a1 a2 a3 a4 = some r) {w0 w : World} {F : List Asn} (hw : SH w0 w (F)) :
    Calls Try.prog 44 #[.int .i64 a1, .int .i64 a2, .int .i64 a3, .int .i64 a4] w fun e w' => e = .returned (.tuple #[.int .i64 r.1, .bool r.2]) ∧ SH w0 w' (F) := by
  refine fw_enter (n := 93) (bs := []) (env := [(0, I a1), (1, I a2), (2, I a3), (3, I a4)]) (H := []) (F := F) Try.func44 rfl (by kernel_rfl) (by kernel_rfl) (by kernel_rfl) (hw.eq (by kernel_rfl)) ?_
  unfold muldiv_quotient at hres
  refine rn_seq ?_
  refine rn_q [] [0, 1, 2, 3] [(0, I a1), (1, I a2), (2, I a3), (3, I a4)] [] (by kernel_rfl) trivial (fin_next ?_)
  refine rn_join (V := Unit) (J := fun v => muldiv_quotient.j1841 a1 a2 a3 a4 = some r) (sv := fun v => ⟨[], [(0, I a1), (1, I a2), (2, I a3), (3, I a4)], []⟩) ?_ ?_
  · refine rn_join (V := Bool) (J := fun v => muldiv_quotient.j309 a1 a2 a3 a4 v = some r) (sv := fun v => ⟨[], [(0, I a1), (1, I a2), (2, I a3), (3, I a4), (26, B v)], []⟩) ?_ ?_
    · refine rn_text ?_
      refine ro_q 3 [] [0, 1, 2, 3, 19] [(0, I a1), (1, I a2), (2, I a3), (3, I a4), (19, B (a3 == 0))] [] (by kernel_rfl) trivial ?_
      refine ro_split 19 (a3 == 0) (by kernel_rfl) (fun c5 => ?_) (fun c5 => ?_)
      · rw [if_pos (eq_t c5)] at hres
        refine ro_q 7 [] [0, 1, 2, 3, 26] [(0, I a1), (1, I a2), (2, I a3), (3, I a4), (26, B true)] [] (by kernel_rfl) trivial ?_
        refine ro_end (by kernel_rfl) (fin_then ?_)
        refine fin_join true hres [] [] (by kernel_rfl) (by kernel_rfl) (by kernel_rfl)
      · rw [if_neg (eq_f c5)] at hres
        refine ro_q 4 [] [0, 1, 2, 3, 23] [(0, I a1), (1, I a2), (2, I a3), (3, I a4), (23, B (decide (a4 < 1)))] [] (by kernel_rfl) trivial ?_
        refine ro_split 23 (decide (a4 < 1)) (by kernel_rfl) (fun c6 => ?_) (fun c6 => ?_)
        · rw [if_pos (of_decide_eq_true c6)] at hres
          refine ro_q 3 [] [0, 1, 2, 3, 26] [(0, I a1), (1, I a2), (2, I a3), (3, I a4), (26, B true)] [] (by kernel_rfl) trivial ?_
          refine ro_end (by kernel_rfl) (fin_then ?_)
          refine fin_join true hres [] [] (by kernel_rfl) (by kernel_rfl) (by kernel_rfl)
        · rw [if_neg (of_decide_eq_false c6)] at hres
          refine ro_q 3 [] [0, 1, 2, 3, 26] [(0, I a1), (1, I a2), (2, I a3), (3, I a4), (26, B (decide (3 < a4)))] [] (by kernel_rfl) trivial ?_
          refine ro_end (by kernel_rfl) (fin_then ?_)
          refine fin_join (decide (3 < a4)) hres [] [] (by kernel_rfl) (by kernel_rfl) (by kernel_rfl)
    · rintro j307 hres
      unfold muldiv_quotient.j309 at hres
      refine rn_cond (j307) (by kernel_rfl) (fun c308 => ?_) (fun c308 => ?_)
      · rw [if_pos (c308)] at hres
        refine rn_seq ?_
        refine rn_q [] [8, 9] [(8, I 0), (9, B false)] [] (by kernel_rfl) trivial (fin_next ?_)
        refine rn_ret (fin_then_ret ?_)
        refine fin_ret [.int .i64 0, .bool false] (by kernel_rfl) fun w' hw' => ?_
        have hq := Option.some.inj hres
        subst hq
        exact ⟨rfl, hw'.drop⟩
      · rw [if_neg (nt_of_f c308)] at hres
        refine rn_skip (fin_then ?_)
        refine fin_join () hres [] [] (by kernel_rfl) (by kernel_rfl) (by kernel_rfl)
  · rintro ⟨⟩ hres
    unfold muldiv_quotient.j1841 at hres
    refine rn_seq ?_
    refine rn_text ?_
    refine ro_op (by kernel_rfl) (op_alloc 117 10 (.agg #[.int .u64 0, .int .u64 0]) [U .u64 0, U .u64 0] (fun b610 => [b610]) (fun b610 => [.c 0 [U .u64 0, U .u64 0] 117]) (by kernel_rfl) (by kernel_rfl) (by kernel_rfl) (by kernel_rfl) 0 (fun _ => by kernel_rfl) (fun _ => mt_bs (by kernel_rfl)) (fun _ => by kernel_rfl) (fun b610 => ro_fin ?_))
    refine ro_end (by kernel_rfl) (fin_next ?_)
    refine rn_seq ?_
    refine rn_text ?_
    refine ro_q 1 [] [0, 1, 2, 3, 10, 28] [(0, I a1), (1, I a2), (2, I a3), (3, I a4), (10, .p 0 0), (28, I a1)] [] (by kernel_rfl) trivial ?_
    refine bind_elim hres fun y612 hy612 hres => ?_
    refine ro_op (by kernel_rfl) (op_call (f := 48) (xs := #[(.tmp 28)]) (ats := #[2]) (d := (some 29)) (args := #[.int .i64 a1]) (by kernel_rfl) (by kernel_rfl) (by kernel_rfl) (by kernel_rfl) fun w hw => (muldiv_size_ok hy612 hw).mono ?_)
    rintro _ w1 ⟨rfl, hw1⟩
    refine ⟨_, [b610], [.c 0 [U .u64 0, U .u64 0] 117], _, rfl, hw1.eq (by kernel_rfl), rfl, mt_same, ro_fin ?_⟩
    refine ro_q 1 [] [0, 1, 2, 3, 10, 29, 30] [(0, I a1), (1, I a2), (2, I a3), (3, I a4), (10, .p 0 0), (29, U .u64 y612), (30, I a2)] [] (by kernel_rfl) trivial ?_
    refine bind_elim hres fun y614 hy614 hres => ?_
    refine ro_op (by kernel_rfl) (op_call (f := 48) (xs := #[(.tmp 30)]) (ats := #[2]) (d := (some 31)) (args := #[.int .i64 a2]) (by kernel_rfl) (by kernel_rfl) (by kernel_rfl) (by kernel_rfl) fun w hw => (muldiv_size_ok hy614 hw).mono ?_)
    rintro _ w1 ⟨rfl, hw1⟩
    refine ⟨_, [b610], [.c 0 [U .u64 0, U .u64 0] 117], _, rfl, hw1.eq (by kernel_rfl), rfl, mt_same, ro_fin ?_⟩
    refine bind_elim hres fun y616 hy616 hres => ?_
    refine ro_op (by kernel_rfl) (op_call (f := 47) (xs := #[(.tmp 29), (.tmp 31)]) (ats := #[115, 115]) (d := (some 32)) (args := #[.int .u64 y612, .int .u64 y614]) (by kernel_rfl) (by kernel_rfl) (by kernel_rfl) (by kernel_rfl) fun w hw => (math_bits_Mul64_ok hy616 hw).mono ?_)
    rintro _ w1 ⟨rfl, hw1⟩
    refine ⟨_, [b610], [.c 0 [U .u64 0, U .u64 0] 117], _, rfl, hw1.eq (by kernel_rfl), rfl, mt_same, ro_fin ?_⟩
    refine ro_q 4 [(8, .p 0 0)] [0, 1, 2, 3, 10, 33, 34, 35] [(0, I a1), (1, I a2), (2, I a3), (3, I a4), (10, .p 0 0), (33, U .u64 y616.1), (34, U .u64 y616.2), (35, .p 0 0)] [(smIa 117 (.pointer (some ⟨b610, 0, none⟩)) (.int .i64 0), .pointer (some ⟨b610, 0, none⟩))] (by kernel_rfl) ⟨ob_pure (by kernel_rfl), trivial⟩ ?_
    refine ro_op (by kernel_rfl) (op_store 115 (.tmp 35) (.tmp 33) 0 0 (U .u64 y616.1) [.c 0 [U .u64 y616.1, U .u64 0] 117] (by kernel_rfl) (by kernel_rfl) (by kernel_rfl) (by kernel_rfl) (ro_fin ?_))
    refine ro_q 1 [(10, .p 0 1)] [0, 1, 2, 3, 10, 34, 36] [(0, I a1), (1, I a2), (2, I a3), (3, I a4), (10, .p 0 0), (34, U .u64 y616.2), (36, .p 0 1)] [(smIa 117 (.pointer (some ⟨b610, 0, none⟩)) (.int .i64 1), .pointer (some ⟨b610, 1, none⟩))] (by kernel_rfl) ⟨ob_pure (by kernel_rfl), trivial⟩ ?_
    refine ro_op (by kernel_rfl) (op_store 115 (.tmp 36) (.tmp 34) 0 1 (U .u64 y616.2) [.c 0 [U .u64 y616.1, U .u64 y616.2] 117] (by kernel_rfl) (by kernel_rfl) (by kernel_rfl) (by kernel_rfl) (ro_fin ?_))
    refine ro_end (by kernel_rfl) (fin_next ?_)
    refine rn_seq ?_
    refine rn_q [] [2, 3, 10, 11] [(2, I a3), (3, I a4), (10, .p 0 0), (11, B (((decide (a1 < 0)) != (decide (a2 < 0))) != (decide (a3 < 0))))] [] (by kernel_rfl) trivial (fin_next ?_)
    refine rn_seq ?_
    refine bind_elim hres fun y618 hy618 hres => ?_
    refine bind_elim hres fun y620 hy620 hres => ?_
    refine rn_meet (V := Nat) (J := fun _ => True) (sv := fun v => ⟨[b610, v], [(2, I a3), (3, I a4), (11, B (((decide (a1 < 0)) != (decide (a2 < 0))) != (decide (a3 < 0)))), (12, .p 1 0), (13, U .u64 y620.2)], [.c 1 [U .u64 y620.1.e0, U .u64 y620.1.e1] 117, .c 0 [U .u64 y616.1, U .u64 y616.2] 117]⟩) ?_ ?_
    · refine rn_held (hden [b610] [.c 0 [U .u64 y616.1, U .u64 y616.2] 117] ++ F) (by kernel_rfl) ?_
      refine rh_q [.c 0 [U .u64 y616.1, U .u64 y616.2] 117] 8 [0, 1] [] [2, 3, 11, 46, 47] [(2, I a3), (3, I a4), (11, B (((decide (a1 < 0)) != (decide (a2 < 0))) != (decide (a3 < 0)))), (46, .v (.agg #[.int .u64 y616.1, .int .u64 y616.2])), (47, I a3)] [true, true, false, false, false, false, false, false, false, false] [] rfl (by kernel_rfl) rfl [0] [] (by kernel_rfl) (by kernel_rfl) trivial ?_
      refine rh_2 2 7 (by kernel_rfl) ?_ ?_
      · refine op_call (f := 48) (xs := #[(.tmp 47)]) (ats := #[2]) (d := (some 48)) (args := #[.int .i64 a3]) (by kernel_rfl) (by kernel_rfl) (by kernel_rfl) (by kernel_rfl) fun w hw => (muldiv_size_ok hy618 hw).mono ?_
        rintro _ w1 ⟨rfl, hw1⟩
        refine ⟨_, [b610], [.c 0 [U .u64 y616.1, U .u64 y616.2] 117], _, rfl, hw1.eq (by kernel_rfl), rfl, mt_same, fin_held [.c 0 [U .u64 y616.1, U .u64 y616.2] 117] [true, true, true, false, false, false, false, false, false, false] (by kernel_rfl) rfl [0] [] (by kernel_rfl) ?_⟩
        refine rh_2 3 7 (by kernel_rfl) ?_ ?_
        · refine op_call (f := 49) (xs := #[(.tmp 46), (.tmp 48)]) (ats := #[117, 115]) (d := (some 49)) (args := #[.agg #[.int .u64 y616.1, .int .u64 y616.2], .int .u64 y618]) (by kernel_rfl) (by kernel_rfl) (by kernel_rfl) (by kernel_rfl) fun w hw => (muldiv_divided_ok hy620 hw).mono ?_
          rintro _ w1 ⟨rfl, hw1⟩
          refine ⟨_, [b610], [.c 0 [U .u64 y616.1, U .u64 y616.2] 117], _, rfl, hw1.eq (by kernel_rfl), rfl, mt_same, fin_held [.c 0 [U .u64 y616.1, U .u64 y616.2] 117] [true, true, true, true, false, false, false, false, false, false] (by kernel_rfl) rfl [0] [] (by kernel_rfl) ?_⟩
          refine rh_q [.c 0 [U .u64 y616.1, U .u64 y616.2] 117] 3 [4, 5, 6] [] [2, 3, 11, 50, 51] [(2, I a3), (3, I a4), (11, B (((decide (a1 < 0)) != (decide (a2 < 0))) != (decide (a3 < 0)))), (50, .v (.agg #[.int .u64 y620.1.e0, .int .u64 y620.1.e1])), (51, U .u64 y620.2)] [true, true, true, true, true, true, true, false, false, false] [] rfl (by kernel_rfl) rfl [0] [] (by kernel_rfl) (by kernel_rfl) trivial ?_
          refine rh_1 7 (by kernel_rfl) ?_
          refine op_alloc 117 12 (.agg #[.int .u64 0, .int .u64 0]) [U .u64 0, U .u64 0] (fun b621 => [b610, b621]) (fun b621 => [.c 1 [U .u64 0, U .u64 0] 117, .c 0 [U .u64 y616.1, U .u64 y616.2] 117]) (by kernel_rfl) (by kernel_rfl) (by kernel_rfl) (by kernel_rfl) 1 (fun _ => by kernel_rfl) (fun _ => mt_bs (by kernel_rfl)) (fun _ => by kernel_rfl) (fun b621 => fin_held [.c 0 [U .u64 y616.1, U .u64 y616.2] 117] [true, true, true, true, true, true, true, true, false, false] (by kernel_rfl) rfl [1] [cellsA b621 [.int .u64 0, .int .u64 0] 117] (by kernel_rfl) ?_)
          refine rh_1 8 (by kernel_rfl) ?_
          refine op_store 117 (.tmp 12) (.tmp 50) 1 0 (.v (.agg #[.int .u64 y620.1.e0, .int .u64 y620.1.e1])) [.c 1 [U .u64 y620.1.e0, U .u64 y620.1.e1] 117, .c 0 [U .u64 y616.1, U .u64 y616.2] 117] (by kernel_rfl) (by kernel_rfl) (by kernel_rfl) (by kernel_rfl) (fin_held [.c 0 [U .u64 y616.1, U .u64 y616.2] 117] [true, true, true, true, true, true, true, true, true, false] (by kernel_rfl) rfl [1] [cellsA b621 [.int .u64 y620.1.e0, .int .u64 y620.1.e1] 117] (by kernel_rfl) ?_)
          refine rh_q [.c 0 [U .u64 y616.1, U .u64 y616.2] 117] 0 [9] [] [2, 3, 11, 12, 13] [(2, I a3), (3, I a4), (11, B (((decide (a1 < 0)) != (decide (a2 < 0))) != (decide (a3 < 0)))), (12, .p 1 0), (13, U .u64 y620.2)] [true, true, true, true, true, true, true, true, true, true] [] rfl (by kernel_rfl) rfl [1] [cellsA b621 [.int .u64 y620.1.e0, .int .u64 y620.1.e1] 117] (by kernel_rfl) (by kernel_rfl) trivial ?_
          refine rh_end (by kernel_rfl) (fin_then ?_)
          exact fin_join b621 trivial [0, 0] [] (by kernel_rfl) (by kernel_rfl) (by kernel_rfl)
        · refine op_alloc 117 12 (.agg #[.int .u64 0, .int .u64 0]) [U .u64 0, U .u64 0] (fun b621 => [b610, b621]) (fun b621 => [.c 1 [U .u64 0, U .u64 0] 117, .c 0 [U .u64 y616.1, U .u64 y616.2] 117]) (by kernel_rfl) (by kernel_rfl) (by kernel_rfl) (by kernel_rfl) 1 (fun _ => by kernel_rfl) (fun _ => mt_bs (by kernel_rfl)) (fun _ => by kernel_rfl) (fun b621 => fin_held [.c 0 [U .u64 y616.1, U .u64 y616.2] 117] [true, true, true, false, false, false, false, true, false, false] (by kernel_rfl) rfl [1] [cellsA b621 [.int .u64 0, .int .u64 0] 117] (by kernel_rfl) ?_)
          refine rh_1 3 (by kernel_rfl) ?_
          refine op_call (f := 49) (xs := #[(.tmp 46), (.tmp 48)]) (ats := #[117, 115]) (d := (some 49)) (args := #[.agg #[.int .u64 y616.1, .int .u64 y616.2], .int .u64 y618]) (by kernel_rfl) (by kernel_rfl) (by kernel_rfl) (by kernel_rfl) fun w hw => (muldiv_divided_ok hy620 hw).mono ?_
          rintro _ w1 ⟨rfl, hw1⟩
          refine ⟨_, [b610, b621], [.c 1 [U .u64 0, U .u64 0] 117, .c 0 [U .u64 y616.1, U .u64 y616.2] 117], _, rfl, hw1.eq (by kernel_rfl), rfl, mt_same, fin_held [.c 0 [U .u64 y616.1, U .u64 y616.2] 117] [true, true, true, true, false, false, false, true, false, false] (by kernel_rfl) rfl [1] [cellsA b621 [.int .u64 0, .int .u64 0] 117] (by kernel_rfl) ?_⟩
          refine rh_q [.c 0 [U .u64 y616.1, U .u64 y616.2] 117] 2 [4, 5, 6] [] [2, 3, 11, 12, 50, 51] [(2, I a3), (3, I a4), (11, B (((decide (a1 < 0)) != (decide (a2 < 0))) != (decide (a3 < 0)))), (12, .p 1 0), (50, .v (.agg #[.int .u64 y620.1.e0, .int .u64 y620.1.e1])), (51, U .u64 y620.2)] [true, true, true, true, true, true, true, true, false, false] [] rfl (by kernel_rfl) rfl [1] [cellsA b621 [.int .u64 0, .int .u64 0] 117] (by kernel_rfl) (by kernel_rfl) trivial ?_
          refine rh_1 8 (by kernel_rfl) ?_
          refine op_store 117 (.tmp 12) (.tmp 50) 1 0 (.v (.agg #[.int .u64 y620.1.e0, .int .u64 y620.1.e1])) [.c 1 [U .u64 y620.1.e0, U .u64 y620.1.e1] 117, .c 0 [U .u64 y616.1, U .u64 y616.2] 117] (by kernel_rfl) (by kernel_rfl) (by kernel_rfl) (by kernel_rfl) (fin_held [.c 0 [U .u64 y616.1, U .u64 y616.2] 117] [true, true, true, true, true, true, true, true, true, false] (by kernel_rfl) rfl [1] [cellsA b621 [.int .u64 y620.1.e0, .int .u64 y620.1.e1] 117] (by kernel_rfl) ?_)
          refine rh_q [.c 0 [U .u64 y616.1, U .u64 y616.2] 117] 0 [9] [] [2, 3, 11, 12, 13] [(2, I a3), (3, I a4), (11, B (((decide (a1 < 0)) != (decide (a2 < 0))) != (decide (a3 < 0)))), (12, .p 1 0), (13, U .u64 y620.2)] [true, true, true, true, true, true, true, true, true, true] [] rfl (by kernel_rfl) rfl [1] [cellsA b621 [.int .u64 y620.1.e0, .int .u64 y620.1.e1] 117] (by kernel_rfl) (by kernel_rfl) trivial ?_
          refine rh_end (by kernel_rfl) (fin_then ?_)
          exact fin_join b621 trivial [0, 0] [] (by kernel_rfl) (by kernel_rfl) (by kernel_rfl)
      · refine op_alloc 117 12 (.agg #[.int .u64 0, .int .u64 0]) [U .u64 0, U .u64 0] (fun b621 => [b610, b621]) (fun b621 => [.c 1 [U .u64 0, U .u64 0] 117, .c 0 [U .u64 y616.1, U .u64 y616.2] 117]) (by kernel_rfl) (by kernel_rfl) (by kernel_rfl) (by kernel_rfl) 1 (fun _ => by kernel_rfl) (fun _ => mt_bs (by kernel_rfl)) (fun _ => by kernel_rfl) (fun b621 => fin_held [.c 0 [U .u64 y616.1, U .u64 y616.2] 117] [true, true, false, false, false, false, false, true, false, false] (by kernel_rfl) rfl [1] [cellsA b621 [.int .u64 0, .int .u64 0] 117] (by kernel_rfl) ?_)
        refine rh_1 2 (by kernel_rfl) ?_
        refine op_call (f := 48) (xs := #[(.tmp 47)]) (ats := #[2]) (d := (some 48)) (args := #[.int .i64 a3]) (by kernel_rfl) (by kernel_rfl) (by kernel_rfl) (by kernel_rfl) fun w hw => (muldiv_size_ok hy618 hw).mono ?_
        rintro _ w1 ⟨rfl, hw1⟩
        refine ⟨_, [b610, b621], [.c 1 [U .u64 0, U .u64 0] 117, .c 0 [U .u64 y616.1, U .u64 y616.2] 117], _, rfl, hw1.eq (by kernel_rfl), rfl, mt_same, fin_held [.c 0 [U .u64 y616.1, U .u64 y616.2] 117] [true, true, true, false, false, false, false, true, false, false] (by kernel_rfl) rfl [1] [cellsA b621 [.int .u64 0, .int .u64 0] 117] (by kernel_rfl) ?_⟩
        refine rh_1 3 (by kernel_rfl) ?_
        refine op_call (f := 49) (xs := #[(.tmp 46), (.tmp 48)]) (ats := #[117, 115]) (d := (some 49)) (args := #[.agg #[.int .u64 y616.1, .int .u64 y616.2], .int .u64 y618]) (by kernel_rfl) (by kernel_rfl) (by kernel_rfl) (by kernel_rfl) fun w hw => (muldiv_divided_ok hy620 hw).mono ?_
        rintro _ w1 ⟨rfl, hw1⟩
        refine ⟨_, [b610, b621], [.c 1 [U .u64 0, U .u64 0] 117, .c 0 [U .u64 y616.1, U .u64 y616.2] 117], _, rfl, hw1.eq (by kernel_rfl), rfl, mt_same, fin_held [.c 0 [U .u64 y616.1, U .u64 y616.2] 117] [true, true, true, true, false, false, false, true, false, false] (by kernel_rfl) rfl [1] [cellsA b621 [.int .u64 0, .int .u64 0] 117] (by kernel_rfl) ?_⟩
        refine rh_q [.c 0 [U .u64 y616.1, U .u64 y616.2] 117] 2 [4, 5, 6] [] [2, 3, 11, 12, 50, 51] [(2, I a3), (3, I a4), (11, B (((decide (a1 < 0)) != (decide (a2 < 0))) != (decide (a3 < 0)))), (12, .p 1 0), (50, .v (.agg #[.int .u64 y620.1.e0, .int .u64 y620.1.e1])), (51, U .u64 y620.2)] [true, true, true, true, true, true, true, true, false, false] [] rfl (by kernel_rfl) rfl [1] [cellsA b621 [.int .u64 0, .int .u64 0] 117] (by kernel_rfl) (by kernel_rfl) trivial ?_
        refine rh_1 8 (by kernel_rfl) ?_
        refine op_store 117 (.tmp 12) (.tmp 50) 1 0 (.v (.agg #[.int .u64 y620.1.e0, .int .u64 y620.1.e1])) [.c 1 [U .u64 y620.1.e0, U .u64 y620.1.e1] 117, .c 0 [U .u64 y616.1, U .u64 y616.2] 117] (by kernel_rfl) (by kernel_rfl) (by kernel_rfl) (by kernel_rfl) (fin_held [.c 0 [U .u64 y616.1, U .u64 y616.2] 117] [true, true, true, true, true, true, true, true, true, false] (by kernel_rfl) rfl [1] [cellsA b621 [.int .u64 y620.1.e0, .int .u64 y620.1.e1] 117] (by kernel_rfl) ?_)
        refine rh_q [.c 0 [U .u64 y616.1, U .u64 y616.2] 117] 0 [9] [] [2, 3, 11, 12, 13] [(2, I a3), (3, I a4), (11, B (((decide (a1 < 0)) != (decide (a2 < 0))) != (decide (a3 < 0)))), (12, .p 1 0), (13, U .u64 y620.2)] [true, true, true, true, true, true, true, true, true, true] [] rfl (by kernel_rfl) rfl [1] [cellsA b621 [.int .u64 y620.1.e0, .int .u64 y620.1.e1] 117] (by kernel_rfl) (by kernel_rfl) trivial ?_
        refine rh_end (by kernel_rfl) (fin_then ?_)
        exact fin_join b621 trivial [0, 0] [] (by kernel_rfl) (by kernel_rfl) (by kernel_rfl)
    · rintro b621 -
      refine fin_id (fin_next ?_)
      refine rn_join (V := Int × Int) (J := fun v => muldiv_quotient.j1840 a1 a2 a3 v.1 v.2 = some r) (sv := fun v => ⟨[0, b621], [(11, B (((decide (a1 < 0)) != (decide (a2 < 0))) != (decide (a3 < 0)))), (12, .p 1 0)], [.c 1 [U .u64 v.1, U .u64 v.2] 117]⟩) ?_ ?_
      · refine rn_seq ?_
        refine rn_text ?_
        refine ro_q 2 [] [3, 11, 12, 52, 53] [(3, I a4), (11, B (((decide (a1 < 0)) != (decide (a2 < 0))) != (decide (a3 < 0)))), (12, .p 1 0), (52, U .u64 y620.2), (53, I a3)] [] (by kernel_rfl) trivial ?_
        refine bind_elim hres fun y623 hy623 hres => ?_
        refine ro_op (by kernel_rfl) (op_call (f := 48) (xs := #[(.tmp 53)]) (ats := #[2]) (d := (some 54)) (args := #[.int .i64 a3]) (by kernel_rfl) (by kernel_rfl) (by kernel_rfl) (by kernel_rfl) fun w hw => (muldiv_size_ok hy623 hw).mono ?_)
        rintro _ w1 ⟨rfl, hw1⟩
        refine ⟨_, [b610, b621], [.c 1 [U .u64 y620.1.e0, U .u64 y620.1.e1] 117, .c 0 [U .u64 y616.1, U .u64 y616.2] 117], _, rfl, hw1.eq (by kernel_rfl), rfl, mt_same, ro_fin ?_⟩
        refine ro_q 2 [] [11, 12, 52, 54, 55, 56] [(11, B (((decide (a1 < 0)) != (decide (a2 < 0))) != (decide (a3 < 0)))), (12, .p 1 0), (52, U .u64 y620.2), (54, U .u64 y623), (55, B (((decide (a1 < 0)) != (decide (a2 < 0))) != (decide (a3 < 0)))), (56, I a4)] [] (by kernel_rfl) trivial ?_
        refine bind_elim hres fun y625 hy625 hres => ?_
        refine ro_op (by kernel_rfl) (op_call (f := 50) (xs := #[(.tmp 52), (.tmp 54), (.tmp 55), (.tmp 56)]) (ats := #[115, 115, 4, 3]) (d := (some 57)) (args := #[.int .u64 y620.2, .int .u64 y623, .bool (((decide (a1 < 0)) != (decide (a2 < 0))) != (decide (a3 < 0))), .int .i64 a4]) (by kernel_rfl) (by kernel_rfl) (by kernel_rfl) (by kernel_rfl) fun w hw => (muldiv_up_ok hy625 hw).mono ?_)
        rintro _ w1 ⟨rfl, hw1⟩
        refine ⟨_, [b610, b621], [.c 1 [U .u64 y620.1.e0, U .u64 y620.1.e1] 117, .c 0 [U .u64 y616.1, U .u64 y616.2] 117], _, rfl, hw1.eq (by kernel_rfl), rfl, mt_same, ro_fin ?_⟩
        refine ro_end (by kernel_rfl) (fin_next ?_)
        refine rn_cond (y625) (by kernel_rfl) (fun c626 => ?_) (fun c626 => ?_)
        · rw [if_pos (c626)] at hres
          refine rn_seq ?_
          refine bind_elim hres fun y627 hy627 hres => ?_
          refine rn_q [(0, .p 1 1), (2, .v (.tuple #[.int .u64 y627.1, .int .u64 y627.2]))] [11, 12, 14, 15] [(11, B (((decide (a1 < 0)) != (decide (a2 < 0))) != (decide (a3 < 0)))), (12, .p 1 0), (14, U .u64 y627.1), (15, U .u64 y627.2)] [(smIa 117 (.pointer (some ⟨b621, 0, none⟩)) (.int .i64 1), .pointer (some ⟨b621, 1, none⟩)), (smCf 51 #[.int .u64 y620.1.e1, .int .u64 1, .int .u64 0], .tuple #[.int .u64 y627.1, .int .u64 y627.2])] (by kernel_rfl) ⟨ob_pure (by kernel_rfl), ⟨ob_add64 (fn := Try.f51) Try.func51 (by kernel_rfl) (by kernel_rfl) (by kernel_rfl) (by kernel_rfl) hy627, trivial⟩⟩ (fin_next ?_)
          refine rn_text ?_
          refine ro_q 6 [(0, .p 1 0)] [11, 12, 69] [(11, B (((decide (a1 < 0)) != (decide (a2 < 0))) != (decide (a3 < 0)))), (12, .p 1 0), (69, .v (.agg #[.int .u64 (IntKind.wrap .u64 (y620.1.e0 + y627.2)), .int .u64 y627.1]))] [(smIa 117 (.pointer (some ⟨b621, 0, none⟩)) (.int .i64 0), .pointer (some ⟨b621, 0, none⟩))] (by kernel_rfl) ⟨ob_pure (by kernel_rfl), trivial⟩ ?_
          refine ro_op (by kernel_rfl) (op_store 117 (.tmp 12) (.tmp 69) 1 0 (.v (.agg #[.int .u64 (IntKind.wrap .u64 (y620.1.e0 + y627.2)), .int .u64 y627.1])) [.c 1 [U .u64 (IntKind.wrap .u64 (y620.1.e0 + y627.2)), U .u64 y627.1] 117, .c 0 [U .u64 y616.1, U .u64 y616.2] 117] (by kernel_rfl) (by kernel_rfl) (by kernel_rfl) (by kernel_rfl) (ro_fin ?_))
          refine ro_end (by kernel_rfl) (fin_then ?_)
          refine fin_join (IntKind.wrap .u64 (y620.1.e0 + y627.2), y627.1) hres [0] [cellsA b610 [.int .u64 y616.1, .int .u64 y616.2] 117] (by kernel_rfl) (by kernel_rfl) (by kernel_rfl)
        · rw [if_neg (nt_of_f c626)] at hres
          refine rn_skip (fin_then ?_)
          refine fin_join (y620.1.e0, y620.1.e1) hres [0] [cellsA b610 [.int .u64 y616.1, .int .u64 y616.2] 117] (by kernel_rfl) (by kernel_rfl) (by kernel_rfl)
      · rintro ⟨j928, j929⟩ hres
        unfold muldiv_quotient.j1840 at hres
        refine rn_seq ?_
        refine rn_q [] [11, 12, 16] [(11, B (((decide (a1 < 0)) != (decide (a2 < 0))) != (decide (a3 < 0)))), (12, .p 1 0), (16, U .u64 9223372036854775807)] [] (by kernel_rfl) trivial (fin_next ?_)
        refine rn_join (V := Int) (J := fun v => muldiv_quotient.j1839 a1 a2 a3 j928 j929 v = some r) (sv := fun v => ⟨[0, b621], [(11, B (((decide (a1 < 0)) != (decide (a2 < 0))) != (decide (a3 < 0)))), (12, .p 1 0), (16, U .u64 v)], [.c 1 [U .u64 j928, U .u64 j929] 117]⟩) ?_ ?_
        · refine rn_seq ?_
          refine rn_q [] [11, 12, 16, 70] [(11, B (((decide (a1 < 0)) != (decide (a2 < 0))) != (decide (a3 < 0)))), (12, .p 1 0), (16, U .u64 9223372036854775807), (70, B (((decide (a1 < 0)) != (decide (a2 < 0))) != (decide (a3 < 0))))] [] (by kernel_rfl) trivial (fin_next ?_)
          refine rn_cond (((decide (a1 < 0)) != (decide (a2 < 0))) != (decide (a3 < 0))) (by kernel_rfl) (fun c930 => ?_) (fun c930 => ?_)
          · rw [if_pos (c930)] at hres
            refine rn_q [] [11, 12, 16] [(11, B (((decide (a1 < 0)) != (decide (a2 < 0))) != (decide (a3 < 0)))), (12, .p 1 0), (16, U .u64 9223372036854775808)] [] (by kernel_rfl) trivial (fin_then ?_)
            refine fin_join 9223372036854775808 hres [0] [] (by kernel_rfl) (by kernel_rfl) (by kernel_rfl)
          · rw [if_neg (nt_of_f c930)] at hres
            refine rn_skip (fin_then ?_)
            refine fin_join 9223372036854775807 hres [0] [] (by kernel_rfl) (by kernel_rfl) (by kernel_rfl)
        · rintro j1231 hres
          unfold muldiv_quotient.j1839 at hres
          refine rn_join (V := Unit) (J := fun v => muldiv_quotient.j1838 j929 = some r) (sv := fun v => ⟨[0, b621], [(12, .p 1 0)], [.c 1 [U .u64 j928, U .u64 j929] 117]⟩) ?_ ?_
          · refine rn_block ?_
            refine rn_join (V := Bool) (J := fun v => muldiv_quotient.j1537 a1 a2 a3 j929 v = some r) (sv := fun v => ⟨[0, b621], [(11, B (((decide (a1 < 0)) != (decide (a2 < 0))) != (decide (a3 < 0)))), (12, .p 1 0), (73, B v)], [.c 1 [U .u64 j928, U .u64 j929] 117]⟩) ?_ ?_
            · refine rn_text ?_
              refine ro_q 4 [(0, .p 1 0)] [11, 12, 16, 77] [(11, B (((decide (a1 < 0)) != (decide (a2 < 0))) != (decide (a3 < 0)))), (12, .p 1 0), (16, U .u64 j1231), (77, B (decide (0 < j928)))] [(smIa 117 (.pointer (some ⟨b621, 0, none⟩)) (.int .i64 0), .pointer (some ⟨b621, 0, none⟩))] (by kernel_rfl) ⟨ob_pure (by kernel_rfl), trivial⟩ ?_
              refine ro_split 77 (decide (0 < j928)) (by kernel_rfl) (fun c1232 => ?_) (fun c1232 => ?_)
              · rw [if_pos (of_decide_eq_true c1232)] at hres
                refine ro_q 6 [] [11, 12, 73] [(11, B (((decide (a1 < 0)) != (decide (a2 < 0))) != (decide (a3 < 0)))), (12, .p 1 0), (73, B true)] [] (by kernel_rfl) trivial ?_
                refine ro_end (by kernel_rfl) (fin_then ?_)
                refine fin_join true hres [0] [] (by kernel_rfl) (by kernel_rfl) (by kernel_rfl)
              · rw [if_neg (of_decide_eq_false c1232)] at hres
                refine ro_q 6 [(4, .p 1 1)] [11, 12, 73] [(11, B (((decide (a1 < 0)) != (decide (a2 < 0))) != (decide (a3 < 0)))), (12, .p 1 0), (73, B (decide (j1231 < j929)))] [(smIa 117 (.pointer (some ⟨b621, 0, none⟩)) (.int .i64 1), .pointer (some ⟨b621, 1, none⟩))] (by kernel_rfl) ⟨ob_pure (by kernel_rfl), trivial⟩ ?_
                refine ro_end (by kernel_rfl) (fin_then ?_)
                refine fin_join (decide (j1231 < j929)) hres [0] [] (by kernel_rfl) (by kernel_rfl) (by kernel_rfl)
            · rintro j1533 hres
              unfold muldiv_quotient.j1537 at hres
              refine rn_cond (j1533) (by kernel_rfl) (fun c1534 => ?_) (fun c1534 => ?_)
              · rw [if_pos (c1534)] at hres
                refine rn_seq ?_
                refine rn_seq ?_
                refine rn_q [] [83] [(83, B (((decide (a1 < 0)) != (decide (a2 < 0))) != (decide (a3 < 0))))] [] (by kernel_rfl) trivial (fin_next ?_)
                refine rn_cond (((decide (a1 < 0)) != (decide (a2 < 0))) != (decide (a3 < 0))) (by kernel_rfl) (fun c1535 => ?_) (fun c1535 => ?_)
                · rw [if_pos (c1535)] at hres
                  refine rn_seq ?_
                  refine rn_q [] [8, 9] [(8, I (-9223372036854775808)), (9, B false)] [] (by kernel_rfl) trivial (fin_next ?_)
                  refine rn_ret (fin_then_ret (fin_block_ret (fin_then_ret ?_)))
                  refine fin_ret [.int .i64 (-9223372036854775808), .bool false] (by kernel_rfl) fun w' hw' => ?_
                  have hq := Option.some.inj hres
                  subst hq
                  exact ⟨rfl, hw'.drop⟩
                · rw [if_neg (nt_of_f c1535)] at hres
                  refine rn_skip (fin_next ?_)
                  refine rn_seq ?_
                  refine rn_q [] [8, 9] [(8, I 9223372036854775807), (9, B false)] [] (by kernel_rfl) trivial (fin_next ?_)
                  refine rn_ret (fin_block_ret (fin_then_ret ?_))
                  refine fin_ret [.int .i64 9223372036854775807, .bool false] (by kernel_rfl) fun w' hw' => ?_
                  have hq := Option.some.inj hres
                  subst hq
                  exact ⟨rfl, hw'.drop⟩
              · rw [if_neg (nt_of_f c1534)] at hres
                refine rn_seq ?_
                refine rn_q [] [12, 84] [(12, .p 1 0), (84, B (((decide (a1 < 0)) != (decide (a2 < 0))) != (decide (a3 < 0))))] [] (by kernel_rfl) trivial (fin_next ?_)
                refine rn_cond (((decide (a1 < 0)) != (decide (a2 < 0))) != (decide (a3 < 0))) (by kernel_rfl) (fun c1536 => ?_) (fun c1536 => ?_)
                · rw [if_pos (c1536)] at hres
                  refine rn_seq ?_
                  refine rn_q [(0, .p 1 1)] [8, 9] [(8, I (w64 (IntKind.wrap .u64 (0 - j929)))), (9, B true)] [(smIa 117 (.pointer (some ⟨b621, 0, none⟩)) (.int .i64 1), .pointer (some ⟨b621, 1, none⟩))] (by kernel_rfl) ⟨ob_pure (by kernel_rfl), trivial⟩ (fin_next ?_)
                  refine rn_ret (fin_block_ret (fin_then_ret ?_))
                  refine fin_ret [.int .i64 (w64 (IntKind.wrap .u64 (0 - j929))), .bool true] (by kernel_rfl) fun w' hw' => ?_
                  have hq := Option.some.inj hres
                  subst hq
                  exact ⟨rfl, hw'.drop⟩
                · rw [if_neg (nt_of_f c1536)] at hres
                  refine rn_skip (fin_block (fin_then ?_))
                  refine fin_join () hres [0] [] (by kernel_rfl) (by kernel_rfl) (by kernel_rfl)
          · rintro ⟨⟩ hres
            unfold muldiv_quotient.j1838 at hres
            refine rn_seq ?_
            refine rn_q [(0, .p 1 1)] [8, 9] [(8, I (w64 (j929))), (9, B true)] [(smIa 117 (.pointer (some ⟨b621, 0, none⟩)) (.int .i64 1), .pointer (some ⟨b621, 1, none⟩))] (by kernel_rfl) ⟨ob_pure (by kernel_rfl), trivial⟩ (fin_next ?_)
            refine rn_ret ?_
            refine fin_ret [.int .i64 (w64 (j929)), .bool true] (by kernel_rfl) fun w' hw' => ?_
            have hq := Option.some.inj hres
            subst hq
            exact ⟨rfl, hw'.drop⟩
/- 30 flywheel/muldiv.Do -/
def muldiv_Do (a1 : Int) (a2 : Int) (a3 : Int) (a4 : Int) : Option Int :=
  (muldiv_quotient a1 a2 a3 a4).bind fun y6 =>
  some y6.1
theorem muldiv_Do_ok {a1 : Int} {a2 : Int} {a3 : Int} {a4 : Int} {r : Int} (hres : muldiv_Do a1 a2 a3 a4 = some r) {w0 w : World} {F : List Asn} (hw : SH w0 w (F)) :
    Calls Try.prog 30 #[.int .i64 a1, .int .i64 a2, .int .i64 a3, .int .i64 a4] w fun e w' => e = .returned (.int .i64 r) ∧ SH w0 w' (F) := by
  refine fw_enter (n := 20) (bs := []) (env := [(0, I a1), (1, I a2), (2, I a3), (3, I a4)]) (H := []) (F := F) Try.func30 rfl (by kernel_rfl) (by kernel_rfl) (by kernel_rfl) (hw.eq (by kernel_rfl)) ?_
  unfold muldiv_Do at hres
  refine rn_seq ?_
  refine rn_q [] [0, 1, 2, 3] [(0, I a1), (1, I a2), (2, I a3), (3, I a4)] [] (by kernel_rfl) trivial (fin_next ?_)
  refine rn_seq ?_
  refine rn_text ?_
  refine ro_q 4 [] [12, 13, 14, 15] [(12, I a1), (13, I a2), (14, I a3), (15, I a4)] [] (by kernel_rfl) trivial ?_
  refine bind_elim hres fun y6 hy6 hres => ?_
  refine ro_op (by kernel_rfl) (op_call (f := 44) (xs := #[(.tmp 12), (.tmp 13), (.tmp 14), (.tmp 15)]) (ats := #[2, 2, 2, 3]) (d := (some 16)) (args := #[.int .i64 a1, .int .i64 a2, .int .i64 a3, .int .i64 a4]) (by kernel_rfl) (by kernel_rfl) (by kernel_rfl) (by kernel_rfl) fun w hw => (muldiv_quotient_ok hy6 hw).mono ?_)
  rintro _ w1 ⟨rfl, hw1⟩
  refine ⟨_, [], [], _, rfl, hw1.eq (by kernel_rfl), rfl, mt_same, ro_fin ?_⟩
  refine ro_q 5 [] [9] [(9, I y6.1)] [] (by kernel_rfl) trivial ?_
  refine ro_end (by kernel_rfl) (fin_next ?_)
  refine rn_seq ?_
  refine rn_q [] [8] [(8, I y6.1)] [] (by kernel_rfl) trivial (fin_next ?_)
  refine rn_ret ?_
  refine fin_ret [.int .i64 y6.1] (by kernel_rfl) fun w' hw' => ?_
  have hq := Option.some.inj hres
  subst hq
  exact ⟨rfl, hw'.drop⟩
/- 41 flywheel/units.stamped -/
def units_stamped (a1 : Int) : Option Int :=
  (muldiv_Do a1 65536 1000000 1).bind fun y3 =>
  some y3
theorem units_stamped_ok {a1 : Int} {r : Int} (hres : units_stamped a1 = some r) {w0 w : World} {F : List Asn} (hw : SH w0 w (F)) :
    Calls Try.prog 41 #[.int .i64 a1] w fun e w' => e = .returned (.int .i64 r) ∧ SH w0 w' (F) := by
  refine fw_enter (n := 5) (bs := []) (env := [(0, I a1)]) (H := []) (F := F) Try.func41 rfl (by kernel_rfl) (by kernel_rfl) (by kernel_rfl) (hw.eq (by kernel_rfl)) ?_
  unfold units_stamped at hres
  refine rn_seq ?_
  refine rn_q [] [0] [(0, I a1)] [] (by kernel_rfl) trivial (fin_next ?_)
  refine rn_seq ?_
  refine rn_text ?_
  refine ro_q 1 [] [3] [(3, I a1)] [] (by kernel_rfl) trivial ?_
  refine bind_elim hres fun y3 hy3 hres => ?_
  refine ro_op (by kernel_rfl) (op_call (f := 30) (xs := #[(.tmp 3), (.const (.int .i64 65536)), (.const (.int .i64 1000000)), (.const (.int .i64 1))]) (ats := #[2, 2, 2, 3]) (d := (some 4)) (args := #[.int .i64 a1, .int .i64 65536, .int .i64 1000000, .int .i64 1]) (by kernel_rfl) (by kernel_rfl) (by kernel_rfl) (by kernel_rfl) fun w hw => (muldiv_Do_ok hy3 hw).mono ?_)
  rintro _ w1 ⟨rfl, hw1⟩
  refine ⟨_, [], [], _, rfl, hw1.eq (by kernel_rfl), rfl, mt_same, ro_fin ?_⟩
  refine ro_q 1 [] [2] [(2, I y3)] [] (by kernel_rfl) trivial ?_
  refine ro_end (by kernel_rfl) (fin_next ?_)
  refine rn_ret ?_
  refine fin_ret [.int .i64 y3] (by kernel_rfl) fun w' hw' => ?_
  have hq := Option.some.inj hres
  subst hq
  exact ⟨rfl, hw'.drop⟩
/- 28 flywheel/units.FromStamp -/
def units_FromStamp.j309 (y4 : Int) (j306 : Int) : Option Int :=
  (muldiv_Do (w64 (y4 + j306)) 1000000 65536 3).bind fun y308 =>
  some y308
def units_FromStamp (a1 : Int) (a2 : Int) : Option Int :=
  (units_stamped (mn (mx a2 (-1125899906842624)) 1125899906842624)).bind fun y4 =>
  (if (w64 (IntKind.wrap .i32 (IntKind.wrap .u32 (a1 - (IntKind.wrap .u32 (y4)))))) = (-2147483648) then units_FromStamp.j309 y4 2147483648 else units_FromStamp.j309 y4 (w64 (IntKind.wrap .i32 (IntKind.wrap .u32 (a1 - (IntKind.wrap .u32 (y4)))))))
theorem units_FromStamp_ok {a1 : Int} {a2 : Int} {r : Int} (hres : units_FromStamp a1 a2 = some r) {w0 w : World} {F : List Asn} (hw : SH w0 w (F)) :
    Calls Try.prog 28 #[.int .u32 a1, .int .i64 a2] w fun e w' => e = .returned (.int .i64 r) ∧ SH w0 w' (F) := by
  refine fw_enter (n := 23) (bs := []) (env := [(0, U .u32 a1), (1, I a2)]) (H := []) (F := F) Try.func28 rfl (by kernel_rfl) (by kernel_rfl) (by kernel_rfl) (hw.eq (by kernel_rfl)) ?_
  unfold units_FromStamp at hres
  refine rn_seq ?_
  refine rn_q [] [0, 1] [(0, U .u32 a1), (1, I a2)] [] (by kernel_rfl) trivial (fin_next ?_)
  refine rn_seq ?_
  refine rn_text ?_
  refine ro_q 3 [] [0, 9] [(0, U .u32 a1), (9, I (mn (mx a2 (-1125899906842624)) 1125899906842624))] [] (by kernel_rfl) trivial ?_
  refine bind_elim hres fun y4 hy4 hres => ?_
  refine ro_op (by kernel_rfl) (op_call (f := 41) (xs := #[(.tmp 9)]) (ats := #[2]) (d := (some 10)) (args := #[.int .i64 (mn (mx a2 (-1125899906842624)) 1125899906842624)]) (by kernel_rfl) (by kernel_rfl) (by kernel_rfl) (by kernel_rfl) fun w hw => (units_stamped_ok hy4 hw).mono ?_)
  rintro _ w1 ⟨rfl, hw1⟩
  refine ⟨_, [], [], _, rfl, hw1.eq (by kernel_rfl), rfl, mt_same, ro_fin ?_⟩
  refine ro_q 1 [] [0, 5] [(0, U .u32 a1), (5, I y4)] [] (by kernel_rfl) trivial ?_
  refine ro_end (by kernel_rfl) (fin_next ?_)
  refine rn_seq ?_
  refine rn_q [] [5, 6] [(5, I y4), (6, I (w64 (IntKind.wrap .i32 (IntKind.wrap .u32 (a1 - (IntKind.wrap .u32 (y4)))))))] [] (by kernel_rfl) trivial (fin_next ?_)
  refine rn_join (V := Int) (J := fun v => units_FromStamp.j309 y4 v = some r) (sv := fun v => ⟨[], [(5, I y4), (6, I v)], []⟩) ?_ ?_
  · refine rn_seq ?_
    refine rn_q [] [5, 6, 18] [(5, I y4), (6, I (w64 (IntKind.wrap .i32 (IntKind.wrap .u32 (a1 - (IntKind.wrap .u32 (y4))))))), (18, B ((w64 (IntKind.wrap .i32 (IntKind.wrap .u32 (a1 - (IntKind.wrap .u32 (y4)))))) == (-2147483648)))] [] (by kernel_rfl) trivial (fin_next ?_)
    refine rn_cond ((w64 (IntKind.wrap .i32 (IntKind.wrap .u32 (a1 - (IntKind.wrap .u32 (y4)))))) == (-2147483648)) (by kernel_rfl) (fun c5 => ?_) (fun c5 => ?_)
    · rw [if_pos (eq_t c5)] at hres
      refine rn_q [] [5, 6] [(5, I y4), (6, I 2147483648)] [] (by kernel_rfl) trivial (fin_then ?_)
      refine fin_join 2147483648 hres [] [] (by kernel_rfl) (by kernel_rfl) (by kernel_rfl)
    · rw [if_neg (eq_f c5)] at hres
      refine rn_skip (fin_then ?_)
      refine fin_join (w64 (IntKind.wrap .i32 (IntKind.wrap .u32 (a1 - (IntKind.wrap .u32 (y4)))))) hres [] [] (by kernel_rfl) (by kernel_rfl) (by kernel_rfl)
  · rintro j306 hres
    unfold units_FromStamp.j309 at hres
    refine rn_seq ?_
    refine rn_text ?_
    refine ro_q 3 [] [21] [(21, I (w64 (y4 + j306)))] [] (by kernel_rfl) trivial ?_
    refine bind_elim hres fun y308 hy308 hres => ?_
    refine ro_op (by kernel_rfl) (op_call (f := 30) (xs := #[(.tmp 21), (.const (.int .i64 1000000)), (.const (.int .i64 65536)), (.const (.int .i64 3))]) (ats := #[2, 2, 2, 3]) (d := (some 22)) (args := #[.int .i64 (w64 (y4 + j306)), .int .i64 1000000, .int .i64 65536, .int .i64 3]) (by kernel_rfl) (by kernel_rfl) (by kernel_rfl) (by kernel_rfl) fun w hw => (muldiv_Do_ok hy308 hw).mono ?_)
    rintro _ w1 ⟨rfl, hw1⟩
    refine ⟨_, [], [], _, rfl, hw1.eq (by kernel_rfl), rfl, mt_same, ro_fin ?_⟩
    refine ro_q 1 [] [4] [(4, I y308)] [] (by kernel_rfl) trivial ?_
    refine ro_end (by kernel_rfl) (fin_next ?_)
    refine rn_ret ?_
    refine fin_ret [.int .i64 y308] (by kernel_rfl) fun w' hw' => ?_
    have hq := Option.some.inj hres
    subst hq
    exact ⟨rfl, hw'.drop⟩
structure S_api_Report where
  Seq : Int
  Got : Bool
  At : Int
  Late : Bool
  Ecn : Bool
structure S_feed_Feedback where
  Reports : List S_api_Report
  Again : List Int
def e_api_Report : Enc S_api_Report := ⟨5, fun x => [.int .i64 x.Seq, .bool x.Got, .int .i64 x.At, .bool x.Late, .bool x.Ecn], fun _ => rfl, fun _ v hv => by simp at hv; rcases hv with rfl | rfl | rfl | rfl | rfl <;> rfl, by decide⟩
def R_feed_Feedback.b (b : Nat) (x : S_feed_Feedback) (A0 : Option Addr) (k0 : Nat) (A1 : Option Addr) (k1 : Nat) : List Asn := [cellsA b [.slice A0 x.Reports.length k0, .slice A1 x.Again.length k1] 33, slA 45 e_api_Report A0 k0 x.Reports, slA 3 (eI .i64) A1 k1 x.Again]
def R_feed_Feedback (b : Nat) (x : S_feed_Feedback) : Asn := exA fun (A0 : Option Addr) => exA fun (k0 : Nat) => exA fun (A1 : Option Addr) => exA fun (k1 : Nat) => starsA (R_feed_Feedback.b b x A0 k0 A1 k1)
theorem R_feed_Feedback.out {b : Nat} {x : S_feed_Feedback} {w0 w : World} {F : List Asn} (h : SH w0 w (R_feed_Feedback b x :: F)) : ∃ A0 k0 A1 k1, SH w0 w (R_feed_Feedback.b b x A0 k0 A1 k1 ++ F) := by
  obtain ⟨A0, h⟩ := SH.ex.1 h
  obtain ⟨k0, h⟩ := SH.ex.1 h
  obtain ⟨A1, h⟩ := SH.ex.1 h
  obtain ⟨k1, h⟩ := SH.ex.1 h
  exact ⟨A0, k0, A1, k1, SH.stars.1 h⟩
theorem R_feed_Feedback.ent {b : Nat} {x : S_feed_Feedback} {A0 : Option Addr} {k0 : Nat} {A1 : Option Addr} {k1 : Nat} : Ent (R_feed_Feedback.b b x A0 k0 A1 k1) [R_feed_Feedback b x] := fun _ _ _ h => SH.ex.2 ⟨_, SH.ex.2 ⟨_, SH.ex.2 ⟨_, SH.ex.2 ⟨_, (SH.stars.2 h)⟩⟩⟩⟩
end Fl
